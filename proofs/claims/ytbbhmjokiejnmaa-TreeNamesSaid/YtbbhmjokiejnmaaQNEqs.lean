/- What the printed functions of package paths come to, in plain words. -/
import Derived.Test.YtbbhmjokiejnmaaQNSpec
import Derived.Test.YtbbhmjokiejnmaaQNHy3
namespace Go.Proofs.Ytbbhmjokiejnmaa
open Go Go.RowKit Go.Proofs.Ytbbhmjokiejnmaa.Hy Go.Proofs.YtbbhmjokiejnmaaW.PrintWords
set_option linter.unusedVariables false
theorem wrap_succ {i : Int} (h0 : 0 ≤ i) (h : i < 4611686018427387904) : wrap64 (i + 1) = i + 1 := by unfold wrap64; omega
theorem cmp_some (a b : ByteArray) : cmp_Compare_string.f a b = some (cmpB a b) := by
  unfold cmp_Compare_string.f cmp_isNaN_string.f cmpB
  simp only [bne_self_eq_false, Option.bind_some, Bool.false_eq_true, if_false]
  split
  · rfl
  · split <;> rfl
theorem slicesCompare_at (x y : List ByteArray) (hx : x.length < 4611686018427387904) : ∀ (d i : Nat), i + d = x.length → i ≤ y.length →
    Ev (fun k => slices_Compare_string_string.l0 k x y x (x.length : Int) (i : Int)) (cmpL (x.drop i) (y.drop i)) := by
  intro d
  induction d with
  | zero =>
    intro i hi hy
    have e : x.drop i = [] := by rw [List.drop_eq_nil_iff]; omega
    rw [e]
    by_cases h : x.length < y.length
    · refine Ev.step (f := fun _ => some (-1)) (fun k => ?_) ?_
      · simp only [slices_Compare_string_string.l0]
        rw [if_neg (by omega), if_pos (by omega)]
      · have : cmpL [] (y.drop i) = -1 := by
          cases hd : y.drop i with
          | nil => rw [List.drop_eq_nil_iff] at hd; omega
          | cons a t => rfl
        rw [this]; exact Ev.now _
    · refine Ev.step (f := fun _ => some 0) (fun k => ?_) ?_
      · simp only [slices_Compare_string_string.l0]
        rw [if_neg (by omega), if_neg (by omega)]
      · have : y.drop i = [] := by rw [List.drop_eq_nil_iff]; omega
        rw [this]; exact Ev.now _
  | succ d ih =>
    intro i hi hy
    have hx1 : i < x.length := by omega
    have ex : x.drop i = x[i] :: x.drop (i + 1) := List.drop_eq_getElem_cons hx1
    have rx : rdOf ByteArray.empty x (i : Int) = x[i] := by unfold rdOf; simp [List.getD_eq_getElem?_getD, List.getElem?_eq_getElem hx1]
    by_cases h : i < y.length
    · have ey : y.drop i = y[i] :: y.drop (i + 1) := List.drop_eq_getElem_cons h
      have ry : rdOf ByteArray.empty y (i : Int) = y[i] := by unfold rdOf; simp [List.getD_eq_getElem?_getD, List.getElem?_eq_getElem h]
      rw [ex, ey]
      have hu : ∀ k, slices_Compare_string_string.l0 (k + 1) x y x (x.length : Int) (i : Int) = if cmpB x[i] y[i] = 0 then slices_Compare_string_string.l0 k x y x (x.length : Int) ((i + 1 : Nat) : Int) else some (cmpB x[i] y[i]) := fun k => by
        simp only [slices_Compare_string_string.l0]
        rw [if_pos (by omega), if_pos (by omega), if_pos (by omega), if_neg (by omega), if_pos (by omega), rx, ry, cmp_some]
        simp only [Option.bind_some]
        rw [wrap_succ (by omega) (by omega)]
        rfl
      refine Ev.step hu ?_
      by_cases hz : cmpB x[i] y[i] = 0
      · simp only [if_pos hz, cmpL]
        exact ih (i + 1) (by omega) (by omega)
      · simp only [if_neg hz, cmpL]
        exact Ev.now _
    · have ey : y.drop i = [] := by rw [List.drop_eq_nil_iff]; omega
      rw [ex, ey]
      refine Ev.step (f := fun _ => some 1) (fun k => ?_) (Ev.now _)
      simp only [slices_Compare_string_string.l0]
      rw [if_pos (by omega), if_pos (by omega), if_pos (by omega), if_pos (by omega)]
theorem paths_Compare_ev (a b : ByteArray) (ha : a.size ≤ 1048576) (hb : b.size ≤ 1048576) : Ev (fun k => paths_Compare.f k a b) (cmpP a b) := by
  have h1 : paths_Elems.f a = some (elemsB a) := by unfold paths_Elems.f; rw [if_pos ha]
  have h2 : paths_Elems.f b = some (elemsB b) := by unfold paths_Elems.f; rw [if_pos hb]
  have hl := elemsB_length a
  have h := slicesCompare_at (elemsB a) (elemsB b) (by omega) (elemsB a).length 0 (by omega) (Nat.zero_le _)
  simp only [List.drop_zero] at h
  refine Ev.congr (f := fun k => slices_Compare_string_string.l0 k (elemsB a) (elemsB b) (elemsB a) ((elemsB a).length : Int) ((0 : Nat) : Int)) (fun k => ?_) h
  unfold paths_Compare.f slices_Compare_string_string.f
  rw [h1, h2]
  simp
theorem paths_Compare_calls (a b : ByteArray) (ha : a.size ≤ 1048576) (hb : b.size ≤ 1048576) (w : World) :
    Calls Try.prog 46 #[.string a, .string b] w fun e w' => e = .returned (.int .i64 (cmpP a b)) ∧ Below w.heap.size w w' := by
  obtain ⟨k, hk⟩ := (paths_Compare_ev a b ha hb).rounds
  exact paths_Compare.calls k a b _ w hk
theorem extract_prefix (s p : ByteArray) (h : p.size ≤ s.size) : ((s.extract 0 p.size).toList == p.toList) = p.data.toList.isPrefixOf s.data.toList := by
  rw [Lib.toList_data, Lib.toList_data, Lib.extract_data]
  have hl : p.size = p.data.toList.length := Lib.size_eq p
  rw [Bool.eq_iff_iff, beq_iff_eq, List.isPrefixOf_iff_prefix, List.prefix_iff_eq_take, hl]
  simp
  exact ⟨fun e => e.symm, fun e => e.symm⟩
theorem hasPrefix_some (s p : ByteArray) : stringslite_HasPrefix.f s p = some (p.data.toList.isPrefixOf s.data.toList) := by
  unfold stringslite_HasPrefix.f
  by_cases h : p.size ≤ s.size
  · rw [if_pos (by omega), if_pos (by omega), if_pos (by omega)]
    rw [show ((p.size : Int)).toNat = p.size from by omega, extract_prefix s p h]
  · rw [if_neg (by omega)]
    have : p.data.toList.isPrefixOf s.data.toList = false := by
      rw [Bool.eq_false_iff]
      intro e
      have := (List.isPrefixOf_iff_prefix.1 e).length_le
      rw [← Lib.size_eq, ← Lib.size_eq] at this
      omega
    rw [this]
theorem cutPrefix_some (s p : ByteArray) : strings_CutPrefix.f s p = some (if p.data.toList.isPrefixOf s.data.toList = true then (s.extract p.size s.size, true) else (s, false)) := by
  unfold strings_CutPrefix.f stringslite_CutPrefix.f
  rw [hasPrefix_some]
  simp only [Option.bind_some]
  by_cases h : p.data.toList.isPrefixOf s.data.toList = true
  · have hl := (List.isPrefixOf_iff_prefix.1 h).length_le
    rw [← Lib.size_eq, ← Lib.size_eq] at hl
    rw [if_pos h, if_pos (by omega), if_pos (by omega), if_pos h]
    rfl
  · rw [if_neg h, if_neg h]; rfl
theorem within_some (s dir : ByteArray) (hd : dir.size < 4611686018427387904) : paths_Within.f s dir = some (withinB s dir) := by
  unfold paths_Within.f paths_here.f withinB
  rw [Lib.toList_data, Lib.toList_data]
  by_cases h1 : dir.data.toList = []
  · simp [h1]
  · by_cases h2 : dir.data.toList = [46]
    · simp [h2]
    · have h2' : (dir.data.toList == [46]) = false := by simpa using h2
      rw [if_neg h1, h2']
      simp only [Option.bind_some, Bool.false_eq_true, if_false]
      have h12 : ¬ (dir.data.toList = [] ∨ dir.data.toList = [46]) := fun h => h.elim h1 h2
      rw [if_neg h12]
      by_cases h3 : s.data.toList = dir.data.toList
      · rw [if_pos h3, if_pos h3]
      · rw [if_neg h3, if_neg h3, if_pos (by omega), cutPrefix_some]
        have e1 : (dir ++ (⟨#[47]⟩ : ByteArray)).data.toList = dir.data.toList ++ [47] := by simp
        have e2 : (dir ++ (⟨#[47]⟩ : ByteArray)).size = dir.size + 1 := by rw [Lib.size_eq, e1, Lib.size_eq]; simp
        rw [e1, e2]
        simp only [Option.bind_some]
        split
        · rfl
        · rfl
theorem inside_some (s dir : ByteArray) (hd : dir.size < 4611686018427387904) : tree_inside.f s dir = some (insideB s dir) := by
  unfold tree_inside.f insideB
  rw [within_some s dir hd]
  simp only [Option.bind_some]
  cases (withinB s dir).2 <;> simp
theorem wrong_some (p d : ByteArray) : tree_wrong.f p d = some (if validB p = true then (if 4000 < d.size then 2 else 0) else 10) := by
  unfold tree_wrong.f paths_Valid.f
  simp only [Option.bind_some]
  split
  · split <;> split <;> first | rfl | omega
  · rfl
theorem lastIx_lt (c : UInt8) (l : List UInt8) : -1 ≤ lastIx c l ∧ lastIx c l < l.length := by
  induction l with
  | nil => simp [lastIx]
  | cons x l ih =>
    unfold lastIx
    simp only [List.length_cons]
    split
    · omega
    · split <;> omega
theorem lastIx_snoc (c x : UInt8) (l : List UInt8) : lastIx c (l ++ [x]) = if x = c then (l.length : Int) else lastIx c l := by
  induction l with
  | nil => simp [lastIx]
  | cons y l ih =>
    simp only [List.cons_append, lastIx, ih]
    by_cases h : x = c
    · simp only [if_pos h, List.length_cons]
      rw [if_pos (by omega)]; omega
    · simp only [if_neg h]
theorem lastIndex_at (s : ByteArray) (c : UInt8) (hs : s.size < 4611686018427387904) : ∀ (d : Nat), d ≤ s.size → Ev (fun k => bytealg_LastIndexByteString.l0 k s (c.toNat : Int) ((d : Int) - 1)) (lastIx c (s.data.toList.take d)) := by
  intro d
  induction d with
  | zero =>
    intro _
    refine Ev.step (f := fun _ => some (-1)) (fun k => ?_) ?_
    · simp only [bytealg_LastIndexByteString.l0]; rw [if_neg (by omega)]
    · simpa [lastIx] using Ev.now (-1)
  | succ d ih =>
    intro hd
    have hlt : d < s.size := by omega
    have ht : s.data.toList.take (d + 1) = s.data.toList.take d ++ [s[d]] := by
      rw [List.take_succ_eq_append_getElem (by simpa using hlt)]; rfl
    have hb : bt s ((d : Int)) = ((s[d]).toNat : Int) := by unfold bt; simp [hlt]
    have e : ((d + 1 : Nat) : Int) - 1 = (d : Int) := by omega
    rw [e, ht, lastIx_snoc]
    have hl : (s.data.toList.take d).length = d := by rw [List.length_take, ← Lib.size_eq]; omega
    refine Ev.step (f := fun k => if s[d] = c then some (d : Int) else bytealg_LastIndexByteString.l0 k s (c.toNat : Int) ((d : Int) - 1)) (fun k => ?_) ?_
    · simp only [bytealg_LastIndexByteString.l0]
      rw [if_pos (by omega), if_pos (by omega), if_pos (by omega), hb]
      by_cases hc : s[d] = c
      · rw [if_pos hc, if_pos (by rw [hc])]
      · rw [if_neg hc, if_neg (fun h => hc (UInt8.toNat_inj.1 (by omega)))]
        rw [show wrap64 ((d : Int) - 1) = (d : Int) - 1 from by unfold wrap64; omega]
    · by_cases hc : s[d] = c
      · simp only [if_pos hc, hl]; exact Ev.now _
      · simp only [if_neg hc]; exact ih (by omega)
theorem split_ev (s : ByteArray) (hs : s.size < 4611686018427387904) : Ev (fun k => paths_Split.f k s) (dirB s, baseB s) := by
  have h := lastIndex_at s 47 hs s.size (Nat.le_refl _)
  rw [List.take_of_length_le (by rw [← Lib.size_eq]; exact Nat.le_refl _)] at h
  have hl := lastIx_lt 47 s.data.toList
  rw [← Lib.size_eq] at hl
  have h' : Ev (fun k => strings_LastIndexByte.f k s 47) (lastIx 47 s.data.toList) := by
    refine Ev.congr (fun k => ?_) h
    unfold strings_LastIndexByte.f bytealg_LastIndexByteString.f
    rw [show wrap64 ((s.size : Int) - 1) = (s.size : Int) - 1 from by unfold wrap64; omega]
    show (bytealg_LastIndexByteString.l0 k s 47 ((s.size : Int) - 1)).bind _ = bytealg_LastIndexByteString.l0 k s 47 ((s.size : Int) - 1)
    cases bytealg_LastIndexByteString.l0 k s 47 ((s.size : Int) - 1) <;> rfl
  unfold paths_Split.f dirB baseB
  refine Ev.bind h' ?_
  by_cases h0 : 0 ≤ lastIx 47 s.data.toList
  · rw [if_pos h0, if_pos h0]
    have hw : wrap64 (lastIx 47 s.data.toList + 1) = lastIx 47 s.data.toList + 1 := wrap_succ h0 (by omega)
    refine Ev.congr (fun k => ?_) (Ev.now _)
    rw [if_pos (by omega), if_pos h0, if_pos (by omega), hw, if_pos (by omega), if_pos (by omega)]
    rw [show (lastIx 47 s.data.toList + 1).toNat = (lastIx 47 s.data.toList).toNat + 1 from by omega]
  · rw [if_neg h0, if_neg h0]
    refine Ev.congr (fun k => ?_) (Ev.now _)
    rw [if_neg (by omega)]
theorem split_calls (s : ByteArray) (hs : s.size < 4611686018427387904) (w : World) :
    Calls Try.prog 67 #[.string s] w fun e w' => e = .returned (.tuple #[.string (dirB s), .string (baseB s)]) ∧ Drawn0 w w' := by
  obtain ⟨k, hk⟩ := (split_ev s hs).rounds
  exact paths_Split.calls k s _ _ w hk
end Go.Proofs.Ytbbhmjokiejnmaa

