/- What the printed functions of the references' package 01 come to, in plain words. -/
import Derived.Test.YtbbhmjokiejnmaaQNEqs
import Derived.Test.YtbbhmjokiejnmaaQNHy7
import Derived.Test.YtbbhmjokiejnmaaQNHy8
namespace Go.Proofs.Ytbbhmjokiejnmaa
open Go Go.RowKit Go.Proofs.Ytbbhmjokiejnmaa.Hy Go.Proofs.YtbbhmjokiejnmaaW.PrintWords
set_option linter.unusedVariables false
theorem wrap_i {i : Nat} (h : i < 4611686018427387904) : wrap64 ((i : Int) + 1) = ((i + 1 : Nat) : Int) := by unfold wrap64; omega
theorem extract_mkB (s : ByteArray) (a b : Nat) : s.extract a b = mkB ((s.data.toList.drop a).take (b - a)) :=
  WideShapes.bytes_inj (by rw [mkB_data, Lib.extract_data])
theorem bt_nat (s : ByteArray) (i : Nat) (h : i < s.size) : bt s (i : Int) = ((s.data.toList[i]'(by rw [← Lib.size_eq]; exact h)).toNat : Int) := by
  unfold bt; simp only [Int.toNat_natCast]; rw [dif_pos h]; rfl
def glue (p : List UInt8) : List (List UInt8) → List (List UInt8)
  | [] => [p]
  | h :: t => (p ++ h) :: t
theorem glue_nil {l : List (List UInt8)} (h : l ≠ []) : glue [] l = l := by cases l with
  | nil => exact absurd rfl h
  | cons a t => rfl
theorem glue_cons (p : List UInt8) (c x : UInt8) (l : List UInt8) : glue p (splitL c (x :: l)) = if x = c then p :: splitL c l else glue (p ++ [x]) (splitL c l) := by
  rw [splitL_cons]
  split
  · simp [glue]
  · cases h : splitL c l with
    | nil => exact absurd h (splitL_ne c l)
    | cons a t => simp [glue]
theorem elems_at (s : ByteArray) (hs : s.size < 1099511627776) : ∀ (d i from_ : Nat) (x3 : List ByteArray), i + d = s.size → from_ ≤ i → x3.length ≤ from_ →
    Ev (fun k => graftbedref01_Elems.l0 k s x3 (from_ : Int) (i : Int)) (x3 ++ (glue ((s.data.toList.drop from_).take (i - from_)) (splitL 47 (s.data.toList.drop i))).map mkB) := by
  intro d
  induction d with
  | zero =>
    intro i f x3 hi hf hx
    obtain rfl : i = s.size := by omega
    have e : s.data.toList.drop s.size = [] := by rw [List.drop_eq_nil_iff, Lib.size_eq]; exact Nat.le_refl _
    rw [e]
    refine Ev.step (f := fun k => graftbedref01_Elems.l0 k s (x3 ++ [s.extract f s.size]) ((s.size + 1 : Nat) : Int) ((s.size + 1 : Nat) : Int)) (fun k => ?_) (Ev.step (f := fun _ => some _) (fun k => ?_) (Ev.now _))
    · simp only [graftbedref01_Elems.l0]
      rw [if_pos (Int.le_refl _), if_pos trivial, if_pos (by omega), if_pos (by omega), if_pos (by omega), wrap_i (by omega)]
      rfl
    · simp only [graftbedref01_Elems.l0]
      rw [if_neg (by omega), extract_mkB]
      simp [glue, splitL]
  | succ d ih =>
    intro i f x3 hi hf hx
    have hlt : i < s.size := by omega
    have hlt' : i < s.data.toList.length := by rw [← Lib.size_eq]; exact hlt
    have ed : s.data.toList.drop i = s.data.toList[i] :: s.data.toList.drop (i + 1) := List.drop_eq_getElem_cons hlt'
    rw [ed, glue_cons]
    by_cases hc : s.data.toList[i] = 47
    · rw [if_pos hc]
      refine Ev.step (f := fun k => graftbedref01_Elems.l0 k s (x3 ++ [s.extract f i]) ((i + 1 : Nat) : Int) ((i + 1 : Nat) : Int)) (fun k => ?_) ?_
      · simp only [graftbedref01_Elems.l0]
        rw [if_pos (by omega), if_neg (by omega), if_pos (by omega), if_pos (by omega), if_pos (by rw [bt_nat s i hlt, hc]; rfl), if_pos (by omega), if_pos (by omega), if_pos (by omega), wrap_i (by omega)]
        rfl
      · have := ih (i + 1) (i + 1) (x3 ++ [s.extract f i]) (by omega) (Nat.le_refl _) (by simp only [List.length_append, List.length_cons, List.length_nil]; omega)
        rw [Nat.sub_self, List.take_zero, glue_nil (splitL_ne _ _)] at this
        rw [extract_mkB] at this
        rw [extract_mkB]
        simpa using this
    · rw [if_neg hc]
      refine Ev.step (f := fun k => graftbedref01_Elems.l0 k s x3 (f : Int) ((i + 1 : Nat) : Int)) (fun k => ?_) ?_
      · simp only [graftbedref01_Elems.l0]
        rw [if_pos (by omega), if_neg (by omega), if_pos (by omega), if_pos (by omega), if_neg (fun h => hc (by rw [bt_nat s i hlt] at h; exact UInt8.toNat_inj.1 (by rw [show (47 : UInt8).toNat = 47 from rfl]; omega))), wrap_i (by omega)]
      · have := ih (i + 1) f x3 (by omega) (by omega) hx
        have e2 : (s.data.toList.drop f).take (i + 1 - f) = (s.data.toList.drop f).take (i - f) ++ [s.data.toList[i]] := by
          rw [show i + 1 - f = (i - f) + 1 from by omega, List.take_succ_eq_append_getElem (by rw [List.length_drop]; omega)]
          congr 2
          rw [List.getElem_drop]; congr 1; omega
        rw [e2] at this
        exact this
theorem elems_ev (s : ByteArray) (hs : s.size < 1099511627776) : Ev (fun k => graftbedref01_Elems.f k s) (elemsB s) := by
  unfold graftbedref01_Elems.f elemsB
  simp only [Option.bind_some, Lib.toList_data]
  by_cases h : s.data.toList = []
  · rw [if_pos h]; simp only [if_pos h]; exact Ev.now _
  · rw [if_neg h]; simp only [if_neg h]
    have := elems_at s hs s.size 0 0 [] (by omega) (Nat.le_refl _) (Nat.le_refl _)
    simp only [Nat.sub_self, List.take_zero, List.drop_zero, glue_nil (splitL_ne _ _), List.nil_append] at this
    exact this
theorem fine_12 : ∀ n : Fin 256, graftbedref01_fine.f 12 (n.val : Int) = some (fineB (UInt8.ofNat n.val)) := by decide +kernel
theorem fine_ev (c : UInt8) : Ev (fun k => graftbedref01_fine.f k (c.toNat : Int)) (fineB c) := by
  refine Ev.of (fun k => graftbedref01_fine.mono _ k) (k := 12) ?_
  have := fine_12 ⟨c.toNat, c.toNat_lt⟩
  simpa using this
theorem rdOf_nat (x : List ByteArray) (i : Nat) (h : i < x.length) : rdOf ByteArray.empty x (i : Int) = x[i] := by
  unfold rdOf; simp [List.getD_eq_getElem?_getD, List.getElem?_eq_getElem h]
theorem valid_l1 (x3 : List ByteArray) (i : Nat) (hi : i < x3.length) (hl : x3.length ≤ 1099511627776) (hs : x3[i].size < 1099511627776) (b : Bool) (hb : Ev (fun k => graftbedref01_Valid.l0 k x3 ((i + 1 : Nat) : Int)) b) :
    ∀ (d j : Nat), j + d = x3[i].size → Ev (fun k => graftbedref01_Valid.l1 k x3 (i : Int) (j : Int)) ((x3[i].data.toList.drop j).all fineB && b) := by
  intro d
  induction d with
  | zero =>
    intro j hj
    have e : x3[i].data.toList.drop j = [] := by rw [List.drop_eq_nil_iff, ← Lib.size_eq]; omega
    rw [e]
    refine Ev.step (f := fun k => graftbedref01_Valid.l0 k x3 ((i + 1 : Nat) : Int)) (fun k => ?_) (by simpa using hb)
    simp only [graftbedref01_Valid.l1]
    rw [rdOf_nat x3 i hi, if_pos (by omega), if_pos (by omega), if_neg (by omega), wrap_i (by omega)]
  | succ d ih =>
    intro j hj
    have hlt : j < x3[i].size := by omega
    have hlt' : j < x3[i].data.toList.length := by rw [← Lib.size_eq]; exact hlt
    have ed : x3[i].data.toList.drop j = x3[i].data.toList[j] :: x3[i].data.toList.drop (j + 1) := List.drop_eq_getElem_cons hlt'
    rw [ed, List.all_cons]
    refine Ev.step (f := fun k => (graftbedref01_fine.f k ((x3[i].data.toList[j]).toNat : Int)).bind fun t => if t = true then graftbedref01_Valid.l1 k x3 (i : Int) ((j + 1 : Nat) : Int) else some false) (fun k => ?_) ?_
    · simp only [graftbedref01_Valid.l1]
      rw [rdOf_nat x3 i hi, if_pos (by omega), if_pos (by omega), if_pos (by omega), if_pos (by omega), bt_nat _ j hlt, wrap_i (by omega)]
    · refine Ev.bind (fine_ev _) ?_
      cases fineB x3[i].data.toList[j] with
      | true => simpa using ih (j + 1) (by omega)
      | false => simpa using Ev.now false
theorem valid_l0 (x3 : List ByteArray) (hl : x3.length ≤ 1099511627776) (hs : ∀ e ∈ x3, e.size < 1099511627776) : ∀ (d i : Nat), i + d = x3.length → Ev (fun k => graftbedref01_Valid.l0 k x3 (i : Int)) ((x3.drop i).all elemB) := by
  intro d
  induction d with
  | zero =>
    intro i hi
    have e : x3.drop i = [] := by rw [List.drop_eq_nil_iff]; omega
    rw [e]
    refine Ev.step (f := fun _ => some true) (fun k => ?_) (Ev.now _)
    simp only [graftbedref01_Valid.l0]
    rw [if_neg (by omega)]
  | succ d ih =>
    intro i hi
    have hlt : i < x3.length := by omega
    have ed : x3.drop i = x3[i] :: x3.drop (i + 1) := List.drop_eq_getElem_cons hlt
    have hsz := hs x3[i] (List.getElem_mem _)
    rw [ed, List.all_cons]
    have hl1 := valid_l1 x3 i hlt hl hsz _ (ih (i + 1) (by omega)) x3[i].size 0 (by omega)
    rw [List.drop_zero] at hl1
    have hj2 : ∀ b : Bool, Ev (fun k => graftbedref01_Valid.j2 k x3 (i : Int) b) (if b = true then false else (x3[i].data.toList.all fineB && (x3.drop (i + 1)).all elemB)) := fun b => by
      refine Ev.step (f := fun k => if b = true then some false else graftbedref01_Valid.l1 k x3 (i : Int) 0) (fun k => ?_) ?_
      · simp only [graftbedref01_Valid.j2]
      · cases b with
        | true => exact Ev.now _
        | false => exact hl1
    have hnil : (x3[i].toList = []) ↔ x3[i].size < 1 := by
      rw [Lib.toList_data, Lib.size_eq]
      constructor
      · intro h; rw [h]; exact Nat.zero_lt_one
      · intro h; exact List.eq_nil_of_length_eq_zero (by omega)
    have eB : elemB x3[i] = (!(x3[i].toList == []) && decide (x3[i].size ≤ 30) && !(x3[i].toList == [46]) && !(x3[i].toList == [46, 46]) && x3[i].data.toList.all fineB) := rfl
    rw [eB]
    by_cases h1 : x3[i].size < 1
    · refine Ev.step (f := fun k => graftbedref01_Valid.j2 k x3 (i : Int) true) (fun k => ?_) ?_
      · simp only [graftbedref01_Valid.l0]
        rw [rdOf_nat x3 i hlt, if_pos (by omega), if_pos (by omega), if_pos (by omega)]
      · have := hj2 true
        rw [hnil.2 h1]
        simpa using this
    · have h1' : (x3[i].toList == []) = false := by rw [Bool.eq_false_iff]; intro h; exact h1 (hnil.1 (by simpa using h))
      rw [h1']
      by_cases h2 : x3[i].size ≤ 30
      · rw [decide_eq_true h2]
        by_cases h3 : x3[i].toList = [46]
        · refine Ev.step (f := fun k => graftbedref01_Valid.j2 k x3 (i : Int) true) (fun k => ?_) ?_
          · simp only [graftbedref01_Valid.l0]
            rw [rdOf_nat x3 i hlt, if_pos (by omega), if_pos (by omega), if_neg (by omega), if_neg (by omega), if_pos h3]
          · have := hj2 true
            rw [h3]
            simpa using this
        · refine Ev.step (f := fun k => graftbedref01_Valid.j2 k x3 (i : Int) (x3[i].toList == [46, 46])) (fun k => ?_) ?_
          · simp only [graftbedref01_Valid.l0]
            rw [rdOf_nat x3 i hlt, if_pos (by omega), if_pos (by omega), if_neg (by omega), if_neg (by omega), if_neg h3]
          · have := hj2 (x3[i].toList == [46, 46])
            have h3' : (x3[i].toList == [46]) = false := by simpa using h3
            rw [h3']
            cases hq : (x3[i].toList == [46, 46]) with
            | true => rw [hq] at this; simpa using this
            | false => rw [hq] at this; simpa using this
      · rw [decide_eq_false h2]
        refine Ev.step (f := fun k => graftbedref01_Valid.j2 k x3 (i : Int) true) (fun k => ?_) ?_
        · simp only [graftbedref01_Valid.l0]
          rw [rdOf_nat x3 i hlt, if_pos (by omega), if_pos (by omega), if_neg (by omega), if_pos (by omega)]
        · simpa using hj2 true
theorem elemsB_sizes (s : ByteArray) : ∀ e ∈ elemsB s, e.size ≤ s.size := by
  have h : ∀ (l : List UInt8), ∀ e ∈ splitL 47 l, e.length ≤ l.length := by
    intro l
    induction l with
    | nil => intro e he; simp [splitL] at he; simp [he]
    | cons x l ih =>
      intro e he
      rw [splitL_cons] at he
      split at he
      · rcases List.mem_cons.1 he with rfl | he
        · simp
        · have := ih e he; simp only [List.length_cons]; omega
      · split at he
        · rename_i hq; exact absurd hq (splitL_ne _ _)
        · rename_i a t hq
          rcases List.mem_cons.1 he with rfl | he
          · have := ih a (by rw [hq]; simp); simp only [List.length_cons]; omega
          · have := ih e (by rw [hq]; simp [he]); simp only [List.length_cons]; omega
  intro e he
  unfold elemsB at he
  split at he
  · cases he
  · obtain ⟨q, hq, rfl⟩ := List.mem_map.1 he
    have := h _ q hq
    rw [Lib.size_eq, Lib.size_eq, mkB_data]
    exact this
theorem valid_ev (s : ByteArray) (hs : s.size < 1099511627776) : Ev (fun k => graftbedref01_Valid.f k s) (validB s) := by
  have hj : ∀ b : Bool, Ev (fun k => graftbedref01_Valid.j0 k s b) (if b = true then false else (elemsB s).all elemB) := fun b => by
    refine Ev.step (f := fun k => if b = true then some false else (graftbedref01_Elems.f k s).bind fun t => graftbedref01_Valid.l0 k t 0) (fun k => ?_) ?_
    · simp only [graftbedref01_Valid.j0]
    · cases b with
      | true => exact Ev.now _
      | false =>
        refine Ev.bind (elems_ev s hs) ?_
        have hl := elemsB_length s
        have := valid_l0 (elemsB s) (by omega) (fun e he => Nat.lt_of_le_of_lt (elemsB_sizes s e he) hs) (elemsB s).length 0 (by omega)
        simpa using this
  unfold graftbedref01_Valid.f validB
  by_cases h1 : s.size < 1
  · have e : s.toList = [] := by rw [Lib.toList_data]; rw [Lib.size_eq] at h1; exact List.eq_nil_of_length_eq_zero (by omega)
    rw [e]
    refine Ev.congr (fun k => ?_) (hj true)
    rw [if_pos (by omega)]
  · have e : (s.toList == []) = false := by
      rw [Bool.eq_false_iff]; intro h
      have h : s.toList = [] := by simpa using h
      rw [Lib.toList_data] at h; rw [Lib.size_eq, h] at h1; exact h1 Nat.zero_lt_one
    rw [e]
    by_cases h2 : s.size ≤ 60
    · refine Ev.congr (fun k => ?_) (by rw [decide_eq_true h2]; simpa using hj false)
      rw [if_neg (by omega), decide_eq_false (by omega)]
    · refine Ev.congr (fun k => ?_) (by rw [decide_eq_false h2]; simpa using hj true)
      rw [if_neg (by omega), decide_eq_true (by omega)]
end Go.Proofs.Ytbbhmjokiejnmaa

