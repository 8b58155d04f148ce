/- tree.Find. -/
import Derived.Test.YtbbhmjokiejnmaaQRStr
import Derived.Test.YtbbhmjokiejnmaaQRColl
import Derived.Test.YtbbhmjokiejnmaaQRSpec
namespace Go.Proofs.Ytbbhmjokiejnmaa
open Go Go.RowKit Go.Shelf Go.Proofs.YtbbhmjokiejnmaaW.PrintWords Go.Proofs.Ytbbhmjokiejnmaa.Hy
set_option linter.unusedVariables false
/-- The place of the first file of a path. -/
def findIx (p : ByteArray) : List File → Int
  | [] => -1
  | x :: l => if x.f0.toList = p.toList then 0 else if findIx p l < 0 then -1 else findIx p l + 1
def tree_Find.f (l0 : List File) (a1 : ByteArray) : Option (ByteArray × Bool) :=
  match l0.find? (fun x => x.f0.toList == a1.toList) with
  | none => some (⟨#[]⟩, false)
  | some x => some (x.f1, true)
set_option maxHeartbeats 400000 in
set_option maxRecDepth 100000 in
theorem find1_calls (x0 x1 p : ByteArray) (B : Nat) (w : World) (hB : Boxed w B 9 (.string p)) :
    Calls Try.prog 38 #[.agg #[.string x0, .string x1], .pointer (some ⟨B, 0, none⟩)] w fun e w' => e = .returned (.bool (x0.toList == p.toList)) ∧ w.alloc (.cells #[.string x0, .string x1] 29) = w' := by
  have hlt := hB.lt
  have hc : ∀ o, (w.alloc o).cell? ⟨B, 0, none⟩ = some (.string p) := fun o => (hB.alloc o).cell
  go_enter Try.func38, Try.ntmps38
  go_wp2
  go_ret
  exact ⟨rfl, rfl⟩
theorem findIx_ge (p : ByteArray) (l : List File) : -1 ≤ findIx p l := by
  induction l with
  | nil => simp [findIx]
  | cons x l ih =>
    unfold findIx
    split
    · omega
    · split <;> omega
def shiftIx (i r : Int) : Int := if r < 0 then -1 else r + i
theorem findIx_at (l : List File) (i : Int) (h0 : 0 ≤ i) (h : i < l.length) :
    l.drop i.toNat = rd_T29 l i :: l.drop (i + 1).toNat := by
  have e : (i + 1).toNat = i.toNat + 1 := by omega
  rw [e, List.drop_eq_getElem_cons (by omega)]
  unfold rd_T29
  rw [List.getD_eq_getElem?_getD, List.getElem?_eq_getElem (by omega)]
  rfl
theorem findIx_hit (p : ByteArray) (l : List File) (i : Int) (h0 : 0 ≤ i) (h : i < l.length) (he : (rd_T29 l i).f0.toList = p.toList) : shiftIx i (findIx p (l.drop i.toNat)) = i := by
  rw [findIx_at l i h0 h]
  unfold findIx shiftIx
  rw [if_pos he]; simp
theorem findIx_miss (p : ByteArray) (l : List File) (i : Int) (h0 : 0 ≤ i) (h : i < l.length) (he : ¬ (rd_T29 l i).f0.toList = p.toList) : shiftIx i (findIx p (l.drop i.toNat)) = shiftIx (i + 1) (findIx p (l.drop (i + 1).toNat)) := by
  rw [findIx_at l i h0 h]
  generalize l.drop (i + 1).toNat = m
  rw [show findIx p (rd_T29 l i :: m) = if (rd_T29 l i).f0.toList = p.toList then 0 else if findIx p m < 0 then -1 else findIx p m + 1 from rfl, if_neg he]
  unfold shiftIx
  split <;> split <;> omega
set_option maxHeartbeats 2000000 in
set_option maxRecDepth 100000 in
theorem indexFunc_calls (A : Option Addr) (c : Nat) (l : List File) (p : ByteArray) (B : Nat) (w : World) (hr : Kd.C k29 w A l.length l) (hB : Boxed w B 9 (.string p)) :
    Calls Try.prog 37 #[.slice A l.length c, .func (.func 38) #[] #[.pointer (some ⟨B, 0, none⟩)]] w fun e w' => e = .returned (.int .i64 (findIx p l)) ∧ Below w.heap.size w w' := by
  have hmax := hr.2.1
  have HR : Hid (Kd.C k29 w A l.length l) := Lib.hid hr
  have HB : Hid (Boxed w B 9 (.string p)) := Lib.hid hB
  clear hr hB
  go_enter Try.func37, Try.ntmps37
  go_wp2
  go_loopw [8] (fun v wr => ∃ i : Int, v = .int .i64 i ∧ 0 ≤ i ∧ i ≤ l.length ∧ Hid (findIx p l = shiftIx i (findIx p (l.drop i.toNat))) ∧ Below w.heap.size w wr) (fun v _ => l.length - (intOf v).toNat)
  case atStart => exact ⟨0, rfl, by omega, by omega, Lib.hid (by have := findIx_ge p l; simp only [shiftIx, Int.toNat_zero, List.drop_zero]; split <;> omega), Below.refl _ _⟩
  case round =>
    obtain ⟨i, rfl, h0, h1, HI, hbe⟩ := hrel
    by_cases hlt : i < l.length
    · obtain ⟨ad, rfl, hx0, hx1⟩ := at_T29 (Kd.C_below HR.out hbe) i h0 hlt
      have hBw : Boxed wr B 9 (.string p) := (hbe.block B HB.out.lt).trans HB.out
      have hq0 := eq_true h0
      have hq1 := eq_true hlt
      by_cases he : (rd_T29 l i).f0.toList = p.toList
      · have hb : ((rd_T29 l i).f0.toList == p.toList) = true := by simpa using he
        have hfin : findIx p l = i := by rw [HI.out]; exact findIx_hit p l i h0 hlt he
        have HF := Lib.hid hfin
        clear hfin he
        go_wp2_with (go_at_call 38; refine (find1_calls _ _ p B _ hBw).mono ?_; rintro e w' ⟨rfl, rfl⟩)
        go_ret
        exact ⟨by rw [HF.out]; rfl, hbe.alloc hbe.size _⟩
      · have hb : ((rd_T29 l i).f0.toList == p.toList) = false := by simpa using he
        have hfin : findIx p l = shiftIx (i + 1) (findIx p (l.drop (i + 1).toNat)) := by rw [HI.out]; exact findIx_miss p l i h0 hlt he
        have HF := Lib.hid hfin
        clear hfin he
        go_wp2_with (go_at_call 38; refine (find1_calls _ _ p B _ hBw).mono ?_; rintro e w' ⟨rfl, rfl⟩)
        go_roundw
        case rel => exact ⟨i + 1, rfl, by omega, by omega, HF, hbe.alloc hbe.size _⟩
        case measure => simp [intOf]; omega
    · obtain rfl : i = l.length := by omega
      have hfin : findIx p l = -1 := by rw [HI.out]; simp [shiftIx, findIx]
      have HF := Lib.hid hfin
      clear hfin
      go_wp2
      go_ret
      exact ⟨by rw [HF.out]; rfl, hbe⟩
theorem findIx_find (p : ByteArray) (l : List File) : match l.find? (fun x => x.f0.toList == p.toList) with
    | none => findIx p l = -1
    | some x => 0 ≤ findIx p l ∧ findIx p l < l.length ∧ rd_T29 l (findIx p l) = x := by
  induction l with
  | nil => rfl
  | cons y l ih =>
    unfold findIx
    by_cases h : y.f0.toList = p.toList
    · rw [if_pos h, List.find?_cons_of_pos (by simpa using h)]
      exact ⟨by omega, by simp only [List.length_cons]; omega, rfl⟩
    · rw [if_neg h, List.find?_cons_of_neg (by simpa using h)]
      cases hf : l.find? (fun x => x.f0.toList == p.toList) with
      | none => rw [hf] at ih; simp only at ih ⊢; rw [ih]; rfl
      | some x =>
        rw [hf] at ih
        simp only at ih ⊢
        obtain ⟨i1, i2, i3⟩ := ih
        rw [if_neg (by omega)]
        refine ⟨by omega, by simp; omega, ?_⟩
        rw [← i3]
        have e : (findIx p l + 1).toNat = (findIx p l).toNat + 1 := by omega
        unfold rd_T29
        rw [e]; simp
set_option maxHeartbeats 2000000 in
set_option maxRecDepth 100000 in
theorem tree_Find.calls (A0 : Option Addr) (c0 : Nat) (l0 : List File) (a1 : ByteArray) (r1 : ByteArray) (r2 : Bool) (w : World) (hr0 : Kd.C k29 w A0 l0.length l0) (hc0 : l0.length ≤ c0) (h : tree_Find.f l0 a1 = some (r1, r2)) :
    Calls Try.prog 13 #[.slice A0 l0.length c0, .string a1] w fun e w' => e = .returned (.tuple #[.string r1, .bool r2]) ∧ Below w.heap.size w w' := by
  have hff := findIx_find a1 l0
  unfold tree_Find.f at h
  have HR : Hid (Kd.C k29 w A0 l0.length l0) := Lib.hid hr0
  have hA : Calls Try.prog 37 #[.slice A0 l0.length c0, .func (.func 38) #[] #[.pointer (some ⟨w.heap.size, 0, none⟩)]] (w.alloc (.cells #[.string a1] 9)) fun e w' => e = .returned (.int .i64 (findIx a1 l0)) ∧ Below (w.heap.size + 1) (w.alloc (.cells #[.string a1] 9)) w' := by
    have := indexFunc_calls A0 c0 l0 a1 w.heap.size (w.alloc (.cells #[.string a1] 9)) (Kd.C_below hr0 (below_alloc (Below.refl _ _) _)) (Boxed.new w _ _)
    simpa using this
  have HA := Lib.hid hA
  clear hr0 hA
  cases hf : l0.find? (fun x => x.f0.toList == a1.toList) with
  | none =>
    rw [hf] at h hff
    injection h with h
    injection h with ha hb
    subst ha hb
    have HF : Hid (findIx a1 l0 = -1) := Lib.hid hff
    clear hff hf
    go_enter Try.func13, Try.ntmps13
    go_wp2_with (go_at_call 37; refine HA.out.mono ?_; rintro e w' ⟨rfl, hb1⟩; rw [HF.out])
    go_ret2
    exact ⟨rfl, ((Below.refl _ w).alloc (Nat.le_refl _) _).trans (hb1.mono (by simp))⟩
  | some x =>
    rw [hf] at h hff
    injection h with h
    injection h with ha hb
    subst ha hb
    obtain ⟨g0, g1, g2⟩ := hff
    generalize hg : findIx a1 l0 = i at *
    obtain ⟨ad, rfl, hx0, hx1⟩ := at_T29 HR.out i g0 g1
    rw [g2] at hx0 hx1
    clear hg g2 hf
    have hq0 := eq_true g0
    have hq1 := eq_true g1
    go_enter Try.func13, Try.ntmps13
    go_wp2_with (go_at_call 37; refine HA.out.mono ?_; rintro e w' ⟨rfl, hb1⟩; have hx1' := pw_cell_below (((Below.refl _ w).alloc (Nat.le_refl _) _).trans (hb1.mono (by simp))) hx1)
    go_ret2
    exact ⟨rfl, ((Below.refl _ w).alloc (Nat.le_refl _) _).trans (hb1.mono (by simp))⟩
end Go.Proofs.Ytbbhmjokiejnmaa

