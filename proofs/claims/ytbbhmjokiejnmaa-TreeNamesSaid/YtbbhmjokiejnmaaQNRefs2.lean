/- What the printed functions of the references' packages 01 and 02 come to: order, within, trees. -/
import Derived.Test.YtbbhmjokiejnmaaQNRefs
import Derived.Test.YtbbhmjokiejnmaaQNFits
namespace Go.Proofs.Ytbbhmjokiejnmaa
open Go Go.RowKit Go.Proofs.Ytbbhmjokiejnmaa.Hy Go.Proofs.YtbbhmjokiejnmaaW.PrintWords
set_option linter.unusedVariables false
theorem refWithin_ev (s dir : ByteArray) (hs : s.size < 1099511627776) (hd : dir.size < 1099511627776) : Ev (fun k => graftbedref01_Within.f k s dir) (withinB s dir) := by
  have hj : ∀ b : Bool, Ev (fun k => graftbedref01_Within.j0 k s dir b) (if b = true then (s, true) else if s.data.toList = dir.data.toList then (⟨#[]⟩, true) else if (dir.data.toList ++ [47]).isPrefixOf s.data.toList = true then (s.extract (dir.size + 1) s.size, true) else (⟨#[]⟩, false)) := fun b => by
    refine Ev.step (f := fun _ => some _) (fun k => ?_) (Ev.now _)
    simp only [graftbedref01_Within.j0, Lib.toList_data]
    rw [wrap_i (by omega)]
    cases b with
    | true => rfl
    | false =>
      simp only [Bool.false_eq_true, if_false]
      split
      · rfl
      · by_cases hl : dir.size + 1 ≤ s.size
        · rw [if_pos (by omega), if_pos (by omega), if_pos (by omega), if_pos (by omega)]
          simp only [Int.toNat_natCast]
          have e1 : (s.extract 0 (dir.size + 1)).data.toList = s.data.toList.take (dir.size + 1) := by rw [Lib.extract_data]; simp
          have e2 : (dir ++ (⟨#[47]⟩ : ByteArray)).data.toList = dir.data.toList ++ [47] := by simp
          have e3 : (dir.data.toList ++ [47]).length = dir.size + 1 := by rw [Lib.size_eq]; simp
          have e4 : (s.data.toList.take (dir.size + 1) = dir.data.toList ++ [47]) ↔ (dir.data.toList ++ [47]).isPrefixOf s.data.toList = true := by
            rw [List.isPrefixOf_iff_prefix, List.prefix_iff_eq_take, e3]
            exact eq_comm
          rw [e1, e2]
          by_cases hq : (dir.data.toList ++ [47]).isPrefixOf s.data.toList = true
          · rw [if_pos (e4.2 hq), if_pos hq]
          · rw [if_neg (fun h => hq (e4.1 h)), if_neg hq]
        · rw [if_neg (by omega)]
          have : ¬ ((dir.data.toList ++ [47]).isPrefixOf s.data.toList = true) := fun e => by
            have := (List.isPrefixOf_iff_prefix.1 e).length_le
            rw [List.length_append, ← Lib.size_eq, ← Lib.size_eq] at this
            simp at this; omega
          rw [if_neg this]
  unfold graftbedref01_Within.f withinB
  simp only [Lib.toList_data]
  by_cases h1 : dir.data.toList = []
  · rw [if_pos (Or.inl h1)]
    refine Ev.congr (fun k => if_pos h1) ?_
    exact hj true
  · by_cases h2 : dir.data.toList = [46]
    · rw [if_pos (Or.inr h2)]
      refine Ev.congr (fun k => if_neg h1) ?_
      have := hj true
      rw [h2]
      exact this
    · rw [if_neg (fun h => h.elim h1 h2)]
      refine Ev.congr (fun k => if_neg h1) ?_
      have h2' : (dir.data.toList == [46]) = false := by simpa using h2
      rw [h2']
      exact hj false
theorem refInside_ev (s dir : ByteArray) (hs : s.size < 1099511627776) (hd : dir.size < 1099511627776) : Ev (fun k => graftbedref02_inside.f k s dir) (insideB s dir) := by
  unfold graftbedref02_inside.f insideB
  refine Ev.bind (refWithin_ev s dir hs hd) ?_
  cases h : (withinB s dir).2 with
  | false => simpa using Ev.now false
  | true =>
    refine Ev.congr (fun k => if_pos rfl) ?_
    have e : ((withinB s dir).1.toList != []) = (true && !(withinB s dir).1.toList.isEmpty) := by
      cases (withinB s dir).1.toList <;> rfl
    rw [e]; exact Ev.now _
theorem refCompare_at (x y : List ByteArray) (hx : x.length < 4611686018427387904) : ∀ (d i : Nat), i + d = x.length → i ≤ y.length →
    Ev (fun k => graftbedref01_Compare.l0 k x y (i : Int)) (cmpL (x.drop i) (y.drop i)) := by
  have hend : ∀ i : Nat, Ev (fun k => graftbedref01_Compare.j1 k x y (i : Int) false) (if x.length < y.length then -1 else if x.length > y.length then 1 else 0) := fun i => by
    refine Ev.step (f := fun _ => some _) (fun k => ?_) (Ev.now _)
    simp only [graftbedref01_Compare.j1]
    simp only [Bool.false_eq_true, if_false, Int.ofNat_lt, gt_iff_lt]
    split
    · rfl
    · split <;> rfl
  intro d
  induction d with
  | zero =>
    intro i hi hy
    have e : x.drop i = [] := by rw [List.drop_eq_nil_iff]; omega
    rw [e]
    refine Ev.step (f := fun k => graftbedref01_Compare.j1 k x y (i : Int) false) (fun k => ?_) ?_
    · simp only [graftbedref01_Compare.l0]; rw [if_neg (by omega)]
    · have := hend i
      by_cases h : x.length < y.length
      · rw [if_pos h] at this
        have e2 : cmpL [] (y.drop i) = -1 := by
          cases hd : y.drop i with
          | nil => rw [List.drop_eq_nil_iff] at hd; omega
          | cons a t => rfl
        rw [e2]; exact this
      · rw [if_neg h, if_neg (by omega)] at this
        have : y.drop i = [] := by rw [List.drop_eq_nil_iff]; omega
        rw [this]; assumption
  | succ d ih =>
    intro i hi hy
    have hx1 : i < x.length := by omega
    have ex : x.drop i = x[i] :: x.drop (i + 1) := List.drop_eq_getElem_cons hx1
    have rx := rdOf_nat x i hx1
    by_cases h : i < y.length
    · have ey : y.drop i = y[i] :: y.drop (i + 1) := List.drop_eq_getElem_cons h
      have ry := rdOf_nat y i h
      rw [ex, ey]
      refine Ev.step (f := fun k => graftbedref01_Compare.j1 k x y (i : Int) true) (fun k => ?_) (Ev.step (f := fun k => if cmpB x[i] y[i] = 0 then graftbedref01_Compare.l0 k x y ((i + 1 : Nat) : Int) else some (cmpB x[i] y[i])) (fun k => ?_) ?_)
      · simp only [graftbedref01_Compare.l0]; rw [if_pos (by omega), decide_eq_true (by omega)]
      · simp only [graftbedref01_Compare.j1]
        rw [if_pos trivial, if_pos (by omega), if_pos (by omega), if_pos (by omega), rx, ry, wrap_i (by omega)]
        unfold cmpB
        split
        · rfl
        · split <;> rfl
      · show Ev _ (if cmpB x[i] y[i] = 0 then _ else _)
        by_cases hc : cmpB x[i] y[i] = 0
        · simp only [if_pos hc]; exact ih (i + 1) (by omega) (by omega)
        · simp only [if_neg hc]; exact Ev.now _
    · have ey : y.drop i = [] := by rw [List.drop_eq_nil_iff]; omega
      rw [ex, ey]
      refine Ev.step (f := fun k => graftbedref01_Compare.j1 k x y (i : Int) false) (fun k => ?_) ?_
      · simp only [graftbedref01_Compare.l0]; rw [if_pos (by omega), decide_eq_false (by omega)]
      · have := hend i
        rw [if_neg (by omega), if_pos (by omega)] at this
        exact this
theorem refCompare_ev (a b : ByteArray) (ha : a.size < 1099511627776) (hb : b.size < 1099511627776) : Ev (fun k => graftbedref01_Compare.f k a b) (cmpP a b) := by
  unfold graftbedref01_Compare.f cmpP
  refine Ev.bind (elems_ev a ha) (Ev.bind (elems_ev b hb) ?_)
  have hl := elemsB_length a
  have := refCompare_at (elemsB a) (elemsB b) (by omega) (elemsB a).length 0 (by omega) (Nat.zero_le _)
  simpa using this
theorem rdT_nat (l : List File) (i : Nat) (h : i < l.length) : rd_T29 l (i : Int) = l[i] := by
  unfold rd_T29; simp [List.getD_eq_getElem?_getD, List.getElem?_eq_getElem h]
/-- What a tree's file of a path holds. -/
def findB (l : List File) (p : ByteArray) : ByteArray × Bool := match l.find? (fun x => x.f0.toList == p.toList) with
  | none => (⟨#[]⟩, false)
  | some x => (x.f1, true)
theorem refFind_ev (l : List File) (p : ByteArray) (hl : l.length < 1099511627776) : Ev (fun k => graftbedref02_Find.f k l p) (findB l p) := by
  have h : ∀ (d i : Nat), i + d = l.length → Ev (fun k => graftbedref02_Find.l0 k l p (i : Int)) (findB (l.drop i) p) := by
    intro d
    induction d with
    | zero =>
      intro i hi
      have e : l.drop i = [] := by rw [List.drop_eq_nil_iff]; omega
      rw [e]
      refine Ev.step (f := fun _ => some _) (fun k => ?_) (Ev.now _)
      simp only [graftbedref02_Find.l0]; rw [if_neg (by omega)]; rfl
    | succ d ih =>
      intro i hi
      have hlt : i < l.length := by omega
      have ed : l.drop i = l[i] :: l.drop (i + 1) := List.drop_eq_getElem_cons hlt
      have hr := rdT_nat l i hlt
      rw [ed]
      unfold findB
      by_cases hq : l[i].f0.toList = p.toList
      · rw [List.find?_cons_of_pos (by simpa using hq)]
        refine Ev.step (f := fun _ => some _) (fun k => ?_) (Ev.now _)
        simp only [graftbedref02_Find.l0]; rw [if_pos (by omega), if_pos (by omega), hr, if_pos hq]
      · rw [List.find?_cons_of_neg (by simpa using hq)]
        refine Ev.step (f := fun k => graftbedref02_Find.l0 k l p ((i + 1 : Nat) : Int)) (fun k => ?_) (ih (i + 1) (by omega))
        simp only [graftbedref02_Find.l0]; rw [if_pos (by omega), if_pos (by omega), hr, if_neg hq, wrap_i (by omega)]
  have := h l.length 0 (by omega)
  rw [List.drop_zero] at this
  exact this
/-- The reference's Put, from a place on. -/
def putGo (x : File) : List File → List File → Bool → List File × Int
  | [], out, done => let o := if done then out else out ++ [x]
    if 60 < o.length then ([], 2) else (o, 0)
  | y :: l, out, done =>
    if insideB y.f0 x.f0 || insideB x.f0 y.f0 then ([], 4) else
    let ins := !done && decide (cmpP y.f0 x.f0 ≥ 0)
    let o1 := if ins then out ++ [x] else out
    let o2 := if y.f0.toList = x.f0.toList then o1 else o1 ++ [y]
    putGo x l o2 (done || ins)
def putR (l : List File) (x : File) : List File × Int :=
  if validB x.f0 = true then (if 4000 < x.f1.size then ([], 2) else putGo x l [] false) else ([], 10)
/-- All sizes are small. -/
def Small (l : List File) : Prop := l.length ≤ 1048576 ∧ ∀ y ∈ l, y.f0.size ≤ 1048576
theorem refPut_at (l : List File) (x : File) (hl : Small l) (hx : x.f0.size ≤ 1048576) : ∀ (d i : Nat) (out : List File) (done : Bool), i + d = l.length → out.length ≤ 2 * i →
    Ev (fun k => graftbedref02_Put.l0 k l out done (i : Int) x.f0 x.f1) (putGo x (l.drop i) out done) := by
  intro d
  induction d with
  | zero =>
    intro i out done hi ho
    have hl1 := hl.1
    have e : l.drop i = [] := by rw [List.drop_eq_nil_iff]; omega
    rw [e]
    refine Ev.step (f := fun _ => some _) (fun k => ?_) (Ev.now _)
    simp only [graftbedref02_Put.l0, putGo]
    rw [if_neg (by omega)]
    cases done with
    | true => simp only [if_true]; split <;> split <;> first | rfl | omega
    | false =>
      simp only [Bool.false_eq_true, if_false, Option.bind_some]
      rw [if_pos (by omega)]
      simp only [List.length_append, List.length_cons, List.length_nil]
      split <;> split <;> first | rfl | omega
  | succ d ih =>
    intro i out done hi ho
    have hl1 := hl.1
    have hlt : i < l.length := by omega
    have ed : l.drop i = l[i] :: l.drop (i + 1) := List.drop_eq_getElem_cons hlt
    have hr := rdT_nat l i hlt
    have hys := hl.2 l[i] (List.getElem_mem _)
    rw [ed]
    have e2 : putGo x (l[i] :: l.drop (i + 1)) out done = if (insideB l[i].f0 x.f0 || insideB x.f0 l[i].f0) = true then ([], 4) else putGo x (l.drop (i + 1)) (if l[i].f0.toList = x.f0.toList then (if (!done && decide (cmpP l[i].f0 x.f0 ≥ 0)) = true then out ++ [x] else out) else (if (!done && decide (cmpP l[i].f0 x.f0 ≥ 0)) = true then out ++ [x] else out) ++ [l[i]]) (done || (!done && decide (cmpP l[i].f0 x.f0 ≥ 0))) := rfl
    rw [e2]
    have hj2 : ∀ b : Bool, (b = true → done = false) → Ev (fun k => graftbedref02_Put.j2 k l out done (i : Int) b x.f0 x.f1) (putGo x (l.drop (i + 1)) (if l[i].f0.toList = x.f0.toList then (if b = true then out ++ [x] else out) else (if b = true then out ++ [x] else out) ++ [l[i]]) (done || b)) := fun b hb => by
      cases b with
      | true =>
        have hd := hb rfl
        subst hd
        by_cases hq : l[i].f0.toList = x.f0.toList
        · refine Ev.step (f := fun k => graftbedref02_Put.l0 k l (out ++ [x]) true ((i + 1 : Nat) : Int) x.f0 x.f1) (fun k => ?_) ?_
          · simp only [graftbedref02_Put.j2]
            rw [if_pos trivial, if_pos (by omega)]
            simp only [Option.bind_some]
            rw [if_pos (by omega), if_pos (by omega), hr, if_pos hq, wrap_i (by omega)]
          · rw [if_pos hq, if_pos rfl]
            exact ih (i + 1) (out ++ [x]) true (by omega) (by simp; omega)
        · refine Ev.step (f := fun k => graftbedref02_Put.l0 k l (out ++ [x] ++ [l[i]]) true ((i + 1 : Nat) : Int) x.f0 x.f1) (fun k => ?_) ?_
          · simp only [graftbedref02_Put.j2]
            rw [if_pos trivial, if_pos (by omega)]
            simp only [Option.bind_some]
            rw [if_pos (by omega), if_pos (by omega), hr, if_neg hq, if_pos (by simp; omega), wrap_i (by omega)]
          · rw [if_neg hq, if_pos rfl]
            exact ih (i + 1) (out ++ [x] ++ [l[i]]) true (by omega) (by simp; omega)
      | false =>
        by_cases hq : l[i].f0.toList = x.f0.toList
        · refine Ev.step (f := fun k => graftbedref02_Put.l0 k l out done ((i + 1 : Nat) : Int) x.f0 x.f1) (fun k => ?_) ?_
          · simp only [graftbedref02_Put.j2]
            rw [if_neg (by simp), if_pos (by omega), if_pos (by omega), hr, if_pos hq, wrap_i (by omega)]
          · rw [if_pos hq, if_neg (by simp), Bool.or_false]
            exact ih (i + 1) out done (by omega) (by omega)
        · refine Ev.step (f := fun k => graftbedref02_Put.l0 k l (out ++ [l[i]]) done ((i + 1 : Nat) : Int) x.f0 x.f1) (fun k => ?_) ?_
          · simp only [graftbedref02_Put.j2]
            rw [if_neg (by simp), if_pos (by omega), if_pos (by omega), hr, if_neg hq, if_pos (by omega), wrap_i (by omega)]
          · rw [if_neg hq, if_neg (by simp), Bool.or_false]
            exact ih (i + 1) (out ++ [l[i]]) done (by omega) (by simp; omega)
    have hj1 : ∀ b : Bool, Ev (fun k => graftbedref02_Put.j1 k l out done (i : Int) b x.f0 x.f1) (if b = true then ([], 4) else putGo x (l.drop (i + 1)) (if l[i].f0.toList = x.f0.toList then (if (!done && decide (cmpP l[i].f0 x.f0 ≥ 0)) = true then out ++ [x] else out) else (if (!done && decide (cmpP l[i].f0 x.f0 ≥ 0)) = true then out ++ [x] else out) ++ [l[i]]) (done || (!done && decide (cmpP l[i].f0 x.f0 ≥ 0)))) := fun b => by
      cases b with
      | true =>
        refine Ev.step (f := fun _ => some _) (fun k => ?_) (Ev.now _)
        simp only [graftbedref02_Put.j1, if_true]
      | false =>
        simp only [Bool.false_eq_true, if_false]
        cases done with
        | true =>
          refine Ev.step (f := fun k => graftbedref02_Put.j2 k l out true (i : Int) false x.f0 x.f1) (fun k => ?_) ?_
          · simp only [graftbedref02_Put.j1, if_true, Bool.false_eq_true, if_false]
          · exact hj2 false (by simp)
        | false =>
          refine Ev.step (f := fun k => (graftbedref01_Compare.f k l[i].f0 x.f0).bind fun t174 => graftbedref02_Put.j2 k l out false (i : Int) (decide (t174 ≥ 0)) x.f0 x.f1) (fun k => ?_) ?_
          · simp only [graftbedref02_Put.j1, Bool.false_eq_true, if_false]
            rw [if_pos (by omega), if_pos (by omega), hr]
          · exact Ev.bind (refCompare_ev _ _ (by omega) (by omega)) (hj2 _ (fun _ => rfl))
    refine Ev.step (f := fun k => (graftbedref02_inside.f k l[i].f0 x.f0).bind fun t170 => if t170 = true then graftbedref02_Put.j1 k l out done (i : Int) true x.f0 x.f1 else (graftbedref02_inside.f k x.f0 l[i].f0).bind fun t172 => graftbedref02_Put.j1 k l out done (i : Int) t172 x.f0 x.f1) (fun k => ?_) ?_
    · simp only [graftbedref02_Put.l0]
      rw [if_pos (by omega), if_pos (by omega), hr]
    · refine Ev.bind (refInside_ev _ _ (by omega) (by omega)) ?_
      cases insideB l[i].f0 x.f0 with
      | true => exact hj1 true
      | false =>
        simp only [Bool.false_eq_true, if_false, Bool.false_or]
        exact Ev.bind (refInside_ev _ _ (by omega) (by omega)) (hj1 _)
theorem refPut_ev (l : List File) (x : File) (hl : Small l) (hx : x.f0.size ≤ 1048576) : Ev (fun k => graftbedref02_Put.f k l x.f0 x.f1) (putR l x) := by
  unfold graftbedref02_Put.f putR
  refine Ev.bind (valid_ev _ (by omega)) ?_
  by_cases hv : validB x.f0 = true
  · simp only [if_pos hv]
    by_cases hd : 4000 < x.f1.size
    · rw [if_pos hd]
      exact Ev.congr (fun k => if_pos (by omega)) (Ev.now _)
    · rw [if_neg hd]
      refine Ev.congr (fun k => if_neg (by omega)) ?_
      have := refPut_at l x hl hx l.length 0 [] false (by omega) (Nat.zero_le _)
      rw [List.drop_zero] at this
      exact this
  · simp only [if_neg hv]
    exact Ev.now _
/-- A tree of any files. -/
def growGo : List File → List File → List File
  | t, [] => t
  | t, x :: l => if (putR t x).2 = 0 then growGo (putR t x).1 l else growGo t l
def grownB (l : List File) : List File := growGo [] l
theorem putGo_small (x : File) (hx : x.f0.size ≤ 1048576) : ∀ (l out : List File) (done : Bool), (∀ y ∈ l, y.f0.size ≤ 1048576) → (∀ y ∈ out, y.f0.size ≤ 1048576) → (putGo x l out done).2 = 0 → (putGo x l out done).1.length ≤ 60 ∧ ∀ y ∈ (putGo x l out done).1, y.f0.size ≤ 1048576 := by
  intro l
  induction l with
  | nil =>
    intro out done hl ho h
    have hox : ∀ y ∈ out ++ [x], y.f0.size ≤ 1048576 := fun y hy => by
      rcases List.mem_append.1 hy with hy | hy
      · exact ho y hy
      · rw [List.mem_singleton.1 hy]; exact hx
    unfold putGo at h ⊢
    cases done with
    | true =>
      simp only [if_true] at h ⊢
      split at h
      · cases h
      · rename_i hq; rw [if_neg hq]; exact ⟨Nat.le_of_not_lt hq, ho⟩
    | false =>
      simp only [Bool.false_eq_true, if_false] at h ⊢
      split at h
      · cases h
      · rename_i hq; rw [if_neg hq]; exact ⟨Nat.le_of_not_lt hq, hox⟩
  | cons y l ih =>
    intro out done hl ho h
    have hox : ∀ y ∈ out ++ [x], y.f0.size ≤ 1048576 := fun y hy => by
      rcases List.mem_append.1 hy with hy | hy
      · exact ho y hy
      · rw [List.mem_singleton.1 hy]; exact hx
    unfold putGo at h ⊢
    simp only at h ⊢
    split at h
    · cases h
    · rename_i hq
      rw [if_neg hq]
      refine ih _ _ (fun z hz => hl z (List.mem_cons_of_mem _ hz)) ?_ h
      have h1 : ∀ z ∈ (if (!done && decide (cmpP y.f0 x.f0 ≥ 0)) = true then out ++ [x] else out), z.f0.size ≤ 1048576 := fun z hz => by
        split at hz
        · exact hox z hz
        · exact ho z hz
      intro z hz
      split at hz
      · exact h1 z hz
      · rcases List.mem_append.1 hz with hz | hz
        · exact h1 z hz
        · rw [List.mem_singleton.1 hz]; exact hl y (List.mem_cons_self)
theorem putR_small (l : List File) (x : File) (hl : Small l) (hx : x.f0.size ≤ 1048576) (h : (putR l x).2 = 0) : Small (putR l x).1 ∧ (putR l x).1.length ≤ 60 := by
  unfold putR at h ⊢
  split at h
  · rename_i hv
    rw [if_pos hv]
    split at h
    · cases h
    · rename_i hd
      rw [if_neg hd]
      have := putGo_small x hx l [] false hl.2 (fun y hy => by cases hy) h
      exact ⟨⟨by omega, this.2⟩, this.1⟩
  · cases h
theorem grown_at (l : List File) (hl : Small l) : ∀ (d i : Nat) (t : List File), i + d = l.length → Small t → Ev (fun k => graftbedlaw02_grown.l0 k l t (i : Int)) (growGo t (l.drop i)) := by
  intro d
  induction d with
  | zero =>
    intro i t hi ht
    have hl1 := hl.1
    have e : l.drop i = [] := by rw [List.drop_eq_nil_iff]; omega
    rw [e]
    refine Ev.step (f := fun _ => some _) (fun k => ?_) (Ev.now _)
    simp only [graftbedlaw02_grown.l0, growGo]; rw [if_neg (by omega)]
  | succ d ih =>
    intro i t hi ht
    have hl1 := hl.1
    have hlt : i < l.length := by omega
    have ed : l.drop i = l[i] :: l.drop (i + 1) := List.drop_eq_getElem_cons hlt
    have hr := rdT_nat l i hlt
    have hys := hl.2 l[i] (List.getElem_mem _)
    rw [ed]
    refine Ev.step (f := fun k => (graftbedref02_Put.f k t l[i].f0 l[i].f1).bind fun bt => if bt.2 = 0 then graftbedlaw02_grown.l0 k l bt.1 ((i + 1 : Nat) : Int) else graftbedlaw02_grown.l0 k l t ((i + 1 : Nat) : Int)) (fun k => ?_) ?_
    · simp only [graftbedlaw02_grown.l0]
      rw [if_pos (by omega), if_pos (by omega), hr, wrap_i (by omega)]
    · refine Ev.bind (refPut_ev t l[i] ht hys) ?_
      unfold growGo
      by_cases hq : (putR t l[i]).2 = 0
      · simp only [if_pos hq]
        exact ih (i + 1) _ (by omega) (putR_small t l[i] ht hys hq).1
      · simp only [if_neg hq]
        exact ih (i + 1) _ (by omega) ht
theorem grown_ev (l : List File) (hl : Small l) : Ev (fun k => graftbedlaw02_grown.f k l) (grownB l) := by
  have := grown_at l hl l.length 0 [] (by omega) ⟨by simp, by simp⟩
  rw [List.drop_zero] at this
  exact this
end Go.Proofs.Ytbbhmjokiejnmaa

