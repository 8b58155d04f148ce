/- The law TreeDrops, in plain words. -/
import Derived.Test.YtbbhmjokiejnmaaQRPuts
import Derived.Test.YtbbhmjokiejnmaaQRHy21
namespace Go.Proofs.Ytbbhmjokiejnmaa
open Go Go.RowKit Go.Proofs.Ytbbhmjokiejnmaa.Hy Go.Proofs.YtbbhmjokiejnmaaW.PrintWords
set_option linter.unusedVariables false
theorem lt_irr (z : File) : ¬ Lt z z := fun hz => by have hz : cmpP z.f0 z.f0 < 0 := hz; rw [cmpP_self] at hz; omega
theorem ext_sorted : ∀ (u v : List File), u.Pairwise Lt → v.Pairwise Lt → (∀ p, p ∈ u ↔ p ∈ v) → u = v := by
  intro u
  induction u with
  | nil =>
    intro v _ _ h
    cases v with
    | nil => rfl
    | cons q v => exact absurd ((h q).2 List.mem_cons_self) (by simp)
  | cons p u ih =>
    intro v hu hv h
    cases v with
    | nil => exact absurd ((h p).1 List.mem_cons_self) (by simp)
    | cons q v =>
      obtain ⟨hu1, hu2⟩ := List.pairwise_cons.1 hu
      obtain ⟨hv1, hv2⟩ := List.pairwise_cons.1 hv
      have hpq : p = q := by
        rcases List.mem_cons.1 ((h p).1 List.mem_cons_self) with e | hp
        · exact e
        · rcases List.mem_cons.1 ((h q).2 List.mem_cons_self) with e | hq
          · exact e.symm
          · exact absurd (cmpP_trans (hv1 p hp) (hu1 q hq)) (lt_irr q)
      subst hpq
      congr 1
      refine ih v hu2 hv2 (fun z => ?_)
      constructor
      · intro hz
        rcases List.mem_cons.1 ((h z).1 (List.mem_cons_of_mem _ hz)) with e | h2
        · subst e; exact absurd (hu1 z hz) (lt_irr z)
        · exact h2
      · intro hz
        rcases List.mem_cons.1 ((h z).2 (List.mem_cons_of_mem _ hz)) with e | h2
        · subst e; exact absurd (hv1 z hz) (lt_irr z)
        · exact h2
/-- What is left where the files of a path are struck. -/
def dropR (t : List File) (p : ByteArray) : List File := t.filter (fun y => !(y.f0.toList == p.toList))
theorem refDrop_at (t : List File) (p : ByteArray) (ht : t.length ≤ 1048576) : ∀ (d i : Nat) (out : List File), i + d = t.length → out.length ≤ i →
    Ev (fun k => graftbedref02_Drop.l0 k t p out (i : Int)) (if (out ++ dropR (t.drop i) p).length = t.length then ([], 3) else (out ++ dropR (t.drop i) p, 0)) := by
  intro d
  induction d with
  | zero =>
    intro i out hi ho
    rw [List.drop_eq_nil_of_le (by omega)]
    have e : dropR [] p = [] := rfl
    rw [e, List.append_nil]
    refine Ev.step (f := fun _ => some (if out.length = t.length then ([], 3) else (out, 0))) (fun k => ?_) (Ev.now _)
    simp only [graftbedref02_Drop.l0]
    rw [if_neg (by omega)]
    by_cases h : out.length = t.length
    · rw [if_pos (by omega), if_pos h]
    · rw [if_neg (by omega), if_neg h]
  | succ d ih =>
    intro i out hi ho
    have hlt : i < t.length := by omega
    have hr := rdT_nat t i hlt
    rw [List.drop_eq_getElem_cons hlt]
    by_cases he : t[i].f0.toList = p.toList
    · have e : dropR (t[i] :: t.drop (i + 1)) p = dropR (t.drop (i + 1)) p := by unfold dropR; rw [List.filter_cons_of_neg (by simp [he])]
      rw [e]
      refine Ev.step (f := fun k => graftbedref02_Drop.l0 k t p out ((i + 1 : Nat) : Int)) (fun k => ?_) (ih (i + 1) out (by omega) (by omega))
      simp only [graftbedref02_Drop.l0]
      rw [if_pos (by omega), if_pos (by omega), hr, if_pos he, wrap_i (by omega)]
    · have e : dropR (t[i] :: t.drop (i + 1)) p = t[i] :: dropR (t.drop (i + 1)) p := by unfold dropR; rw [List.filter_cons_of_pos (by simp [he])]
      rw [e, show out ++ t[i] :: dropR (t.drop (i + 1)) p = (out ++ [t[i]]) ++ dropR (t.drop (i + 1)) p from by simp]
      refine Ev.step (f := fun k => graftbedref02_Drop.l0 k t p (out ++ [t[i]]) ((i + 1 : Nat) : Int)) (fun k => ?_) (ih (i + 1) (out ++ [t[i]]) (by omega) (by simp; omega))
      simp only [graftbedref02_Drop.l0]
      rw [if_pos (by omega), if_pos (by omega), hr, if_neg he, if_pos (by omega), wrap_i (by omega)]
theorem refDrop_ev (t : List File) (p : ByteArray) (ht : t.length ≤ 1048576) : Ev (fun k => graftbedref02_Drop.f k t p) (if (dropR t p).length = t.length then ([], 3) else (dropR t p, 0)) := by
  have := refDrop_at t p ht t.length 0 [] (by omega) (by simp)
  simpa [graftbedref02_Drop.f] using this
theorem dropR_mem (t : List File) (p : ByteArray) (y : File) : y ∈ dropR t p ↔ y ∈ t ∧ y.f0 ≠ p := by
  unfold dropR
  rw [List.mem_filter]
  constructor
  · rintro ⟨h1, h2⟩
    exact ⟨h1, fun e => by subst e; simp at h2⟩
  · rintro ⟨h1, h2⟩
    exact ⟨h1, by simpa using fun e => h2 (bytes_eq e)⟩
theorem dropR_sorted {t : List File} (h : t.Pairwise Lt) (p : ByteArray) : (dropR t p).Pairwise Lt := h.filter _
theorem dropR_none {t : List File} {p : ByteArray} (h : ∀ y ∈ t, y.f0 ≠ p) : dropR t p = t := by
  unfold dropR
  rw [List.filter_eq_self]
  intro y hy
  simpa using fun e => h y hy (bytes_eq e)
/-- A file struck out of a tree leaves a tree. -/
theorem dropR_tree {t : List File} (h : IsTree t) (p : ByteArray) : IsTree (dropR t p) := by
  have hm : ∀ y ∈ dropR t p, y ∈ t := fun y hy => ((dropR_mem t p y).1 hy).1
  refine ⟨⟨dropR_sorted h.sorted p, fun y hy z hz => ?_, fun y hy => h.fine y (hm y hy)⟩, ?_⟩
  · exact h.apart y (hm y hy) z (hm z hz)
  · have h1 := h.short
    have h2 : (dropR t p).length ≤ t.length := List.length_filter_le _ _
    omega
theorem dropF_eq {t : List File} (h : t.Pairwise Lt) (p : ByteArray) (ha : atF t p = true) : dropF t p = dropR t p := by
  obtain ⟨hl, he⟩ := atF_at ha
  have hs : (t.take (atI t p) ++ t.drop (atI t p + 1)).Sublist t := by
    rw [← List.eraseIdx_eq_take_drop_succ]
    exact List.eraseIdx_sublist t _
  unfold dropF
  rw [ha, if_pos rfl]
  refine ext_sorted _ _ (h.sublist hs) (dropR_sorted h p) (fun y => ?_)
  rw [dropR_mem, List.mem_append]
  have hp := List.pairwise_iff_getElem.1 h
  constructor
  · rintro (hy | hy)
    · obtain ⟨a, ha1, rfl⟩ := List.mem_iff_getElem.1 hy
      rw [List.length_take] at ha1
      rw [List.getElem_take]
      refine ⟨List.getElem_mem _, fun e => ?_⟩
      have : cmpP t[a].f0 t[atI t p].f0 < 0 := hp a (atI t p) (by omega) hl (by omega)
      rw [e, he, cmpP_self] at this; omega
    · obtain ⟨a, ha1, rfl⟩ := List.mem_iff_getElem.1 hy
      rw [List.length_drop] at ha1
      rw [List.getElem_drop]
      refine ⟨List.getElem_mem _, fun e => ?_⟩
      have : cmpP t[atI t p].f0 t[atI t p + 1 + a].f0 < 0 := hp (atI t p) (atI t p + 1 + a) hl (by omega) (by omega)
      rw [e, he, cmpP_self] at this; omega
  · rintro ⟨hy, hne⟩
    obtain ⟨a, ha1, rfl⟩ := List.mem_iff_getElem.1 hy
    rcases Nat.lt_trichotomy a (atI t p) with h1 | h1 | h1
    · left
      exact List.mem_iff_getElem.2 ⟨a, by rw [List.length_take]; omega, by rw [List.getElem_take]⟩
    · subst h1
      exact absurd he hne
    · right
      refine List.mem_iff_getElem.2 ⟨a - (atI t p + 1), by rw [List.length_drop]; omega, ?_⟩
      rw [List.getElem_drop]
      congr 1; omega
theorem at_mem {t : List File} {p : ByteArray} (ha : atF t p = true) : ∃ y ∈ t, y.f0 = p := by
  obtain ⟨hl, he⟩ := atF_at ha
  exact ⟨_, List.getElem_mem hl, he⟩
/-- What was struck out and is put again. -/
theorem put_back {t : List File} (h : IsTree t) {y : File} (hy : y ∈ t) : tree_Put.f (dropR t y.f0) y.f0 y.f1 = some (t, 0) := by
  have hd := dropR_tree h y.f0
  have hf := h.fine y hy
  have hg := good_of_valid hf.1
  rw [treePut_eq hd (tree_small hd).2 y, putR_eq hd y, if_pos hf.1, if_neg (by omega)]
  have hfit : fitsF (dropR t y.f0) y.f0 = true := (fits_iff hd.toTree0 hg).2 (fun z hz => by
    have hz := ((dropR_mem t y.f0 z).1 hz).1
    exact ⟨h.apart z hz y hy, h.apart y hy z hz⟩)
  have hput : putF (dropR t y.f0) y = t := by
    refine ext_sorted _ _ (sorted_putF hd.sorted y) h.sorted (fun z => ?_)
    rw [mem_putF hd.sorted, dropR_mem]
    constructor
    · rintro (rfl | ⟨⟨hz, _⟩, _⟩)
      · exact hy
      · exact hz
    · intro hz
      by_cases e : z.f0 = y.f0
      · left
        have h1 := find_mem h.sorted hz
        have h2 := find_mem h.sorted hy
        rw [e, h2] at h1
        simp only [Prod.mk.injEq, and_true] at h1
        cases z; cases y; simp only at e h1; rw [e, h1]
      · exact .inr ⟨⟨hz, e⟩, e⟩
  rw [if_pos hfit, hput, if_neg (by have := h.short; omega)]
theorem treeDrops_ev (l : List File) (p : ByteArray) : Ev (fun k => graftbedlaw02_TreeDrops.f k l p) true := by
  have hj : ∀ b : Bool, (b = false → Small l ∧ p.size ≤ 1024) → Ev (fun k => graftbedlaw02_TreeDrops.j0 k l p b) true := fun b hb => by
    cases b with
    | true =>
      refine Ev.step (f := fun _ => some true) (fun k => ?_) (Ev.now _)
      simp only [graftbedlaw02_TreeDrops.j0, shown_some]
      rfl
    | false =>
      obtain ⟨hs, hp⟩ := hb rfl
      have ht := tree_grown l
      have h60 := ht.short
      have hg := grown_ev l hs
      generalize grownB l = t at ht h60 hg
      have hdrop : tree_Drop.f t p = some (if atF t p = true then (dropF t p, 0) else ([], 3)) := by
        unfold tree_Drop.f
        rw [if_pos (tree_small ht).2, if_pos (by omega)]
        cases atF t p <;> rfl
      refine Ev.step (f := fun k => (graftbedlaw02_grown.f k l).bind fun t610 => ((tree_Find.f t610 p).bind fun bt613 => ((graftbedref02_Find.f k t610 p).bind fun bt615 => ((tree_Drop.f t610 p).bind fun bt617 => ((graftbedref02_Drop.f k t610 p).bind fun bt621 => (if bt613.1.toList = bt615.1.toList then (if (bt613.2 != bt615.2) = true then (graftbedlaw02_TreeDrops.j1 k p t610 bt613.1 bt617.1 bt617.2 true) else (if bt617.2 = bt621.2 then ((graftbedref02_Same.f k bt617.1 bt621.1).bind fun t625 => (if t625 = true then (graftbedlaw02_TreeDrops.j1 k p t610 bt613.1 bt617.1 bt617.2 ((bt617.2 == 0) != bt613.2)) else (graftbedlaw02_TreeDrops.j1 k p t610 bt613.1 bt617.1 bt617.2 true))) else (graftbedlaw02_TreeDrops.j1 k p t610 bt613.1 bt617.1 bt617.2 true))) else (graftbedlaw02_TreeDrops.j1 k p t610 bt613.1 bt617.1 bt617.2 true))))))) (fun k => ?_) (Ev.bind hg ?_)
      · simp only [graftbedlaw02_TreeDrops.j0, Bool.false_eq_true, if_false]
      · simp only [treeFind_some, hdrop, Option.bind_some]
        refine Ev.bind (refFind_ev t p (by omega)) (Ev.bind (refDrop_ev t p (by omega)) ?_)
        simp only [if_true, bne_self_eq_false, Bool.false_eq_true, if_false]
        cases ha : atF t p with
        | false =>
          have hno : ∀ y ∈ t, y.f0 ≠ p := fun y hy e => by
            have := (atF_iff ht.sorted p).2 ⟨y, hy, e⟩
            rw [ha] at this; cases this
          have hfi : (findB t p).2 = false := by
            rw [(findB_any t p).1, List.any_eq_false]
            intro y hy
            simpa using fun e => hno y hy (bytes_eq e)
          rw [dropR_none hno]
          simp only [Bool.false_eq_true, if_false, if_true]
          refine Ev.bind (same_ev [] [] (by simp)) ?_
          rw [sameB_self, hfi]
          refine Ev.step (f := fun _ => some true) (fun k => ?_) (Ev.now _)
          simp only [if_true, graftbedlaw02_TreeDrops.j1]
          rfl
        | true =>
          obtain ⟨y, hy, rfl⟩ := at_mem ha
          have hdr := dropF_eq ht.sorted _ ha
          have hdt := dropR_tree ht y.f0
          have hlt : (dropR t y.f0).length ≠ t.length := fun e => by
            have h1 : (dropR t y.f0) = t := List.Sublist.eq_of_length (List.filter_sublist) e
            have h2 := (dropR_mem t y.f0 y).1 (by rw [h1]; exact hy)
            exact h2.2 rfl
          rw [if_neg hlt]
          simp only [if_true, hdr]
          have h6 := hdt.short
          refine Ev.bind (same_ev _ _ (by omega)) ?_
          rw [sameB_self, find_mem ht.sorted hy]
          simp only [if_true]
          refine Ev.step (f := fun k => (tree_Put.f (dropR t y.f0) y.f0 y.f1).bind fun bt626 => (if bt626.2 = 0 then ((graftbedref02_Same.f k bt626.1 t).bind fun t630 => (if t630 = true then ((tree_Check.f k (dropR t y.f0)).bind fun bt631 => (some (bt631.1 == 0 && (bt631.2.1.toList == ([] : List UInt8) && (bt631.2.2 == 0))))) else (some false))) else (some false))) (fun k => ?_) ?_
          · simp only [graftbedlaw02_TreeDrops.j1]
            rw [if_neg (by decide)]
            rfl
          · rw [put_back ht hy]
            simp only [Option.bind_some, if_true]
            refine Ev.bind (same_ev t t (by omega)) ?_
            rw [sameB_self]
            simp only [if_true]
            refine Ev.bind (check_tree hdt) ?_
            have e : ((0 : Int) == 0 && ((⟨#[]⟩ : ByteArray).toList == ([] : List UInt8) && ((0 : Int) == 0))) = true := by rw [Lib.toList_data]; rfl
            simp only [e]
            exact Ev.now _
  unfold graftbedlaw02_TreeDrops.f
  refine Ev.bind (heavy_ev l) ?_
  cases hh : heavyB l with
  | true => exact hj true (by simp)
  | false =>
    simp only [Bool.false_eq_true, if_false]
    by_cases hp : (p.size : Int) > 1024
    · simp only [if_pos hp]
      exact hj true (by simp)
    · simp only [if_neg hp, shown_some, Option.bind_some]
      exact hj false (fun _ => ⟨light_small hh, by omega⟩)
end Go.Proofs.Ytbbhmjokiejnmaa

