/- The law TreeDiffs, put together. -/
import Derived.Test.YtbbhmjokiejnmaaQDDiffs2
namespace Go.Proofs.Ytbbhmjokiejnmaa
open Go Go.RowKit Go.Proofs.Ytbbhmjokiejnmaa.Hy Go.Proofs.YtbbhmjokiejnmaaW.PrintWords
set_option linter.unusedVariables false
def sameT : List ByteArray → List ByteArray → Bool
  | [], [] => true
  | x :: a, y :: b => x.toList == y.toList && sameT a b
  | _, _ => false
theorem sameT_self : ∀ a : List ByteArray, sameT a a = true
  | [] => rfl
  | x :: a => by simp [sameT, sameT_self a]
theorem sameT_ev (a b : List ByteArray) (hl : a.length = b.length) (ha : a.length < 1099511627776) : Ev (fun k => graftbedlaw02_same.f k a b) (sameT a b) := by
  unfold graftbedlaw02_same.f
  refine Ev.congr (fun k => if_pos (by omega)) ?_
  have h : ∀ (d i : Nat), i + d = a.length → Ev (fun k => graftbedlaw02_same.l0 k a b (i : Int)) (sameT (a.drop i) (b.drop i)) := by
    intro d
    induction d with
    | zero =>
      intro i hi
      rw [List.drop_eq_nil_of_le (by omega), List.drop_eq_nil_of_le (by omega)]
      refine Ev.step (f := fun _ => some true) (fun k => ?_) (Ev.now _)
      simp only [graftbedlaw02_same.l0]; rw [if_neg (by omega)]
    | succ d ih =>
      intro i hi
      have h1 : i < a.length := by omega
      have h2 : i < b.length := by omega
      rw [List.drop_eq_getElem_cons h1, List.drop_eq_getElem_cons h2]
      have e : sameT (a[i] :: a.drop (i + 1)) (b[i] :: b.drop (i + 1)) = (a[i].toList == b[i].toList && sameT (a.drop (i + 1)) (b.drop (i + 1))) := rfl
      rw [e]
      by_cases hq : a[i].toList = b[i].toList
      · refine Ev.step (f := fun k => graftbedlaw02_same.l0 k a b ((i + 1 : Nat) : Int)) (fun k => ?_) ?_
        · simp only [graftbedlaw02_same.l0]
          rw [if_pos (by omega), if_pos (by omega), if_pos (by omega), rdOf_nat a i h1, rdOf_nat b i h2, if_pos hq, wrap_i (by omega)]
        · have e2 : (a[i].toList == b[i].toList) = true := by simpa using hq
          rw [e2, Bool.true_and]; exact ih (i + 1) (by omega)
      · refine Ev.step (f := fun _ => some false) (fun k => ?_) ?_
        · simp only [graftbedlaw02_same.l0]
          rw [if_pos (by omega), if_pos (by omega), if_pos (by omega), rdOf_nat a i h1, rdOf_nat b i h2, if_neg hq]
        · have e2 : (a[i].toList == b[i].toList) = false := by simpa using hq
          rw [e2, Bool.false_and]; exact Ev.now _
  have := h a.length 0 (by omega)
  rw [List.drop_zero, List.drop_zero] at this
  exact this
theorem equal_ev (a b : List File) (ha : a.length < 1099511627776) : Ev (fun k => tree_Same.f k a b) (sameB a b) := by
  unfold tree_Same.f
  refine Ev.bind (f := fun _ t => some t) ?_ (Ev.now _)
  unfold api_File.f
  by_cases hl : a.length = b.length
  · refine Ev.congr (fun k => if_pos (by omega)) ?_
    have h : ∀ (d i : Nat), i + d = a.length → Ev (fun k => api_File.l0 k a b (a.length : Int) (i : Int)) (sameB (a.drop i) (b.drop i)) := by
      intro d
      induction d with
      | zero =>
        intro i hi
        rw [List.drop_eq_nil_of_le (by omega), List.drop_eq_nil_of_le (by omega)]
        refine Ev.step (f := fun _ => some _) (fun k => ?_) (Ev.now _)
        simp only [api_File.l0]; rw [if_neg (by omega)]; rfl
      | succ d ih =>
        intro i hi
        have h1 : i < a.length := by omega
        have h2 : i < b.length := by omega
        rw [List.drop_eq_getElem_cons h1, List.drop_eq_getElem_cons h2]
        refine Ev.step (f := fun k => if (!(a[i].f0.toList == b[i].f0.toList) || (!(a[i].f1.toList == b[i].f1.toList))) = true then some false else api_File.l0 k a b (a.length : Int) ((i + 1 : Nat) : Int)) (fun k => ?_) ?_
        · simp only [api_File.l0]
          rw [if_pos (by omega), if_pos (by omega), if_pos (by omega), if_pos (by omega), rdT_nat a i h1, rdT_nat b i h2, wrap_i (by omega)]
        · simp only [sameB]
          cases (a[i].f0.toList == b[i].f0.toList) <;> cases (a[i].f1.toList == b[i].f1.toList) <;> first | exact Ev.now _ | (simpa using ih (i + 1) (by omega))
    have := h a.length 0 (by omega)
    rw [List.drop_zero, List.drop_zero] at this
    exact this
  · refine Ev.congr (fun k => if_neg (by omega)) ?_
    rw [sameB_len a b hl]
    exact Ev.now _
theorem diffN_len : ∀ (n : Nat) (a b : List File), (diffN n a b).length ≤ n := by
  intro n
  induction n with
  | zero => intro a b; simp [diffN]
  | succ n ih =>
    intro a b
    cases a with
    | nil => cases b with
      | nil => simp [diffN]
      | cons y b => simp only [diffN, List.length_cons]; have := ih [] b; omega
    | cons x a => cases b with
      | nil => simp only [diffN, List.length_cons]; have := ih a []; omega
      | cons y b =>
        unfold diffN
        split
        · simp only [List.length_cons]; have := ih a (y :: b); omega
        · split
          · simp only [List.length_cons]; have := ih (x :: a) b; omega
          · split
            · have := ih a b; omega
            · simp only [List.length_cons]; have := ih a b; omega
theorem treeDiffs_ev (l m : List File) : Ev (fun k => graftbedlaw02_TreeDiffs.f k l m) true := by
  have hj : ∀ b : Bool, (b = false → Small l ∧ Small m) → Ev (fun k => graftbedlaw02_TreeDiffs.j0 k l m b) true := fun b hb => by
    cases b with
    | true =>
      refine Ev.step (f := fun _ => some true) (fun k => ?_) (Ev.now _)
      simp only [graftbedlaw02_TreeDiffs.j0, shown_some]
      rfl
    | false =>
      obtain ⟨hs, hm⟩ := hb rfl
      have ht := tree_grown l
      have hu := tree_grown m
      obtain ⟨hts, _⟩ := tree_small ht
      obtain ⟨hus, _⟩ := tree_small hu
      have h60 := ht.short
      have h61 := hu.short
      have hdl : (diffB (grownB l) (grownB m)).length ≤ 120 := by
        have := diffN_len ((grownB l).length + (grownB m).length) (grownB l) (grownB m)
        unfold diffB; omega
      refine Ev.step (f := fun k => (graftbedlaw02_grown.f k l).bind fun t458 => ((graftbedlaw02_grown.f k m).bind fun t461 => ((tree_Diff.f k t458 t461).bind fun t464 => ((graftbedref02_Diff.f k t458 t461).bind fun t467 => ((graftbedlaw02_same.f k t464 t467).bind fun t470 => (if t470 = true then ((tree_Diff.f k t461 t458).bind fun t471 => ((graftbedlaw02_same.f k t464 t471).bind fun t474 => (if t474 = true then ((tree_Same.f k t458 t461).bind fun t475 => (if (((t464.length : Int) == 0) == t475) = true then ((tree_Same.f k t458 t458).bind fun t476 => (some t476)) else (some false))) else (some false)))) else (some false))))))) (fun k => ?_) ?_
      · simp only [graftbedlaw02_TreeDiffs.j0, Bool.false_eq_true, if_false]
      · refine Ev.bind (grown_ev l hs) (Ev.bind (grown_ev m hm) (Ev.bind (treeDiff_ev hts hus) (Ev.bind (refDiff_ev ht hu) (Ev.bind (sameT_ev _ _ rfl (by omega)) ?_))))
        rw [sameT_self]
        simp only [if_true]
        refine Ev.bind (treeDiff_ev hus hts) ?_
        rw [diff_flip _ _ ht.sorted hu.sorted]
        refine Ev.bind (sameT_ev _ _ rfl (by omega)) ?_
        rw [sameT_self]
        simp only [if_true]
        refine Ev.bind (equal_ev _ _ (by omega)) ?_
        have e : (((diffB (grownB l) (grownB m)).length : Int) == 0) = sameB (grownB l) (grownB m) := by
          have h1 := diff_nil ((grownB l).length + (grownB m).length) (grownB l) (grownB m) (Nat.le_refl _)
          have h2 := sameB_iff (grownB l) (grownB m)
          by_cases hq : grownB l = grownB m
          · rw [h2.2 hq]
            have h3 : diffB (grownB l) (grownB m) = [] := h1.2 hq
            rw [h3]; rfl
          · have h3 : diffB (grownB l) (grownB m) ≠ [] := fun e => hq (h1.1 e)
            have h4 : sameB (grownB l) (grownB m) = false := by rw [Bool.eq_false_iff]; exact fun e => hq (h2.1 e)
            rw [h4]
            have := List.length_pos_iff.2 h3
            rw [beq_eq_false_iff_ne]; omega
        rw [e]
        simp only [beq_self_eq_true, if_true]
        refine Ev.bind (equal_ev _ _ (by omega)) ?_
        rw [sameB_self]
        exact Ev.now _
  unfold graftbedlaw02_TreeDiffs.f
  refine Ev.bind (heavy_ev l) ?_
  cases hh : heavyB l with
  | true => exact hj true (by simp)
  | false =>
    simp only [Bool.false_eq_true, if_false]
    refine Ev.bind (heavy_ev m) ?_
    cases hh2 : heavyB m with
    | true => exact hj true (by simp)
    | false =>
      simp only [Bool.false_eq_true, if_false, shown_some, Option.bind_some]
      exact hj false (fun _ => ⟨light_small hh, light_small hh2⟩)
end Go.Proofs.Ytbbhmjokiejnmaa

