/- The law TreeMerges, in plain words: both are the same; what comes of a merge. -/
import Derived.Test.YtbbhmjokiejnmaaQMMerges
namespace Go.Proofs.Ytbbhmjokiejnmaa
open Go Go.RowKit Go.Proofs.Ytbbhmjokiejnmaa.Hy Go.Proofs.YtbbhmjokiejnmaaW.PrintWords
set_option linter.unusedVariables false
def FineF (f : File) : Prop := validB f.f0 = true ∧ f.f1.size ≤ 4000
theorem path_one {l : List File} (hs : l.Pairwise Lt) {x y : File} (hx : x ∈ l) (hy : y ∈ l) (e : x.f0 = y.f0) : x = y := by
  obtain ⟨i, hi, rfl⟩ := List.mem_iff_getElem.1 hx
  obtain ⟨j, hj, rfl⟩ := List.mem_iff_getElem.1 hy
  rcases Nat.lt_trichotomy i j with h | h | h
  · have : cmpP l[i].f0 l[j].f0 < 0 := List.pairwise_iff_getElem.1 hs i j hi hj h
    rw [e, cmpP_self] at this; omega
  · subst h; rfl
  · have : cmpP l[j].f0 l[i].f0 < 0 := List.pairwise_iff_getElem.1 hs j i hj hi h
    rw [e, cmpP_self] at this; omega
theorem look_at {l : List File} (hs : l.Pairwise Lt) {y : File} (hy : y ∈ l) : lookB l y.f0 = some y.f1 := by
  have h := find_mem hs hy
  rw [findB_look] at h
  cases hk : lookB l y.f0 with
  | none => rw [hk] at h; simp at h
  | some d => rw [hk] at h; simp at h; rw [h]
theorem clash_fits {l : List File} (h : Tree0 l) {x : File} (hx : validB x.f0 = true) : clash l x = !fitsF l x.f0 := by
  have hp := good_of_valid hx
  have hf := fits_iff h hp
  unfold clash
  cases hq : fitsF l x.f0 with
  | true =>
    have := hf.1 hq
    rw [Bool.not_true, List.any_eq_false]
    intro y hy
    rw [(this y hy).1, (this y hy).2]; simp
  | false =>
    rw [Bool.not_false, ← Bool.not_eq_false]
    intro hany
    rw [List.any_eq_false] at hany
    have : fitsF l x.f0 = true := hf.2 (fun y hy => by
      have := hany y hy
      rw [Bool.not_eq_true, Bool.or_eq_false_iff] at this
      exact this)
    rw [hq] at this; cases this
theorem insA_low (x : File) : ∀ (l : List File) (i : Nat), i ≤ l.length → (∀ a (h : a < l.length), a < i → ¬ 0 < cmpP l[a].f0 x.f0) → (∀ a (h : a < l.length), i ≤ a → 0 < cmpP l[a].f0 x.f0) → insA x l = l.take i ++ x :: l.drop i := by
  intro l
  induction l with
  | nil => intro i hi _ _; simp at hi; subst hi; rfl
  | cons y l ih =>
    intro i hi h1 h2
    cases i with
    | zero =>
      have := h2 0 (by simp) (Nat.le_refl _)
      simp only [List.getElem_cons_zero] at this
      unfold insA; rw [if_pos this]; rfl
    | succ i =>
      have h0 := h1 0 (by simp) (by omega)
      simp only [List.getElem_cons_zero] at h0
      unfold insA
      rw [if_neg h0, ih i (by simpa using hi) (fun a h ha => h1 (a + 1) (Nat.succ_lt_succ h) (by omega)) (fun a h ha => h2 (a + 1) (Nat.succ_lt_succ h) (by omega))]
      rfl
theorem insA_putF {l : List File} (hs : l.Pairwise Lt) (x : File) (ha : atF l x.f0 = false) : insA x l = putF l x := by
  rw [putF_eq hs, ha]
  simp only [Bool.false_eq_true, if_false]
  obtain ⟨h1, h2⟩ := at_low hs x.f0
  refine insA_low x l _ (atI_le l x.f0) (fun a h hlt => by have := h1 a h hlt; omega) (fun a h hge => ?_)
  have := h2 a h hge
  have hz : cmpP l[a].f0 x.f0 ≠ 0 := fun e => by
    have : atF l x.f0 = true := (atF_iff hs x.f0).2 ⟨l[a], List.getElem_mem h, (cmpP_zero _ _).1 e⟩
    rw [ha] at this; cases this
  omega
theorem putF_same {l : List File} {x : File} (ha : atF l x.f0 = true) (hd : (fileAt l (atI l x.f0)).f1 = x.f1) : putF l x = l := by
  obtain ⟨hl, he⟩ := atF_at ha
  rw [fileAt_get l _ hl] at hd
  unfold putF
  rw [ha, if_pos rfl]
  have e : x = l[atI l x.f0] := by
    cases hx : l[atI l x.f0]; cases x
    rw [hx] at he hd
    simp only at he hd
    rw [he, hd]
  conv => lhs; rw [show l.set (atI l x.f0) x = l.set (atI l x.f0) l[atI l x.f0] from by rw [← e]]
  exact List.set_getElem_self hl
/-- One step of a merge. -/
theorem merge_step {l : List File} (h : Tree0 l) {f : File} (hf : FineF f) :
    (mergeBad l f = true ∧ (∀ many b, rmGo l many (f :: b) = ([], 4, f.f0, 0))) ∨
    (mergeBad l f = false ∧ Tree0 (putF l f) ∧ (∀ y, y ∈ putF l f ↔ y = f ∨ y ∈ l) ∧ l.length ≤ (putF l f).length ∧ (∀ b, rmGo l (decide (60 < l.length)) (f :: b) = rmGo (putF l f) (decide (60 < (putF l f).length)) b)) := by
  have hp := good_of_valid hf.1
  by_cases ha : atF l f.f0 = true
  · obtain ⟨hl, he⟩ := atF_at ha
    have hmem : l[atI l f.f0] ∈ l := List.getElem_mem hl
    have hlook : lookB l f.f0 = some (l[atI l f.f0]).f1 := by have := look_at h.sorted hmem; rw [he] at this; exact this
    have hfit : fitsF l f.f0 = true := (fits_iff h hp).2 (fun y hy => by
      have e1 := h.apart y hy _ hmem
      have e2 := h.apart _ hmem y hy
      rw [he] at e1 e2
      exact ⟨e1, e2⟩)
    have hfa := fileAt_get l _ hl
    by_cases hd : (l[atI l f.f0]).f1.toList = f.f1.toList
    · right
      have hsame := putF_same ha (by rw [hfa]; exact bytes_eq hd)
      refine ⟨?_, by rw [hsame]; exact h, fun y => ?_, by rw [hsame]; exact Nat.le_refl _, fun b => ?_⟩
      · unfold mergeBad; rw [ha, hfa, hfit]; simp [hd]
      · rw [hsame]
        constructor
        · exact .inr
        · rintro (rfl | hy)
          · have : y = l[atI l y.f0] := by
              have e1 := he; have e2 := bytes_eq hd
              cases hx : l[atI l y.f0]; rw [hx] at e1 e2; cases y; simp only at e1 e2; rw [e1, e2]
            rw [this]; exact hmem
          · exact hy
      · rw [hsame]
        conv => lhs; unfold rmGo
        rw [hlook]
        simp only [if_pos hd]
    · left
      refine ⟨?_, fun many b => ?_⟩
      · unfold mergeBad; rw [ha, hfa]; simp [hd]
      · unfold rmGo; rw [hlook]; simp only [if_neg hd]
  · rw [Bool.not_eq_true] at ha
    have hlook : lookB l f.f0 = none := look_none (fun y hy e => by
      have := (atF_iff h.sorted f.f0).2 ⟨y, hy, e⟩
      rw [ha] at this; cases this)
    have hcl := clash_fits h hf.1
    cases hfit : fitsF l f.f0 with
    | false =>
      left
      refine ⟨by unfold mergeBad; rw [ha, hfit]; rfl, fun many b => ?_⟩
      unfold rmGo; rw [hlook, hcl, hfit]; rfl
    | true =>
      right
      have hlen : (putF l f).length = l.length + 1 := by rw [← insA_putF h.sorted f ha, insA_len]
      refine ⟨by unfold mergeBad; rw [ha, hfit]; rfl, tree0_putF h f hf.1 hf.2 hfit, fun y => ?_, by omega, fun b => ?_⟩
      · rw [mem_putF h.sorted]
        constructor
        · rintro (e | ⟨hy, _⟩)
          · exact .inl e
          · exact .inr hy
        · rintro (e | hy)
          · exact .inl e
          · refine .inr ⟨hy, fun e => ?_⟩
            have := (atF_iff h.sorted f.f0).2 ⟨y, hy, e⟩
            rw [ha] at this; cases this
      · conv => lhs; unfold rmGo
        rw [hlook, hcl, hfit]
        simp only [Bool.not_true, Bool.false_eq_true, if_false]
        rw [insA_putF h.sorted f ha]
        congr 1
        rw [hlen]
        by_cases h1 : 60 < l.length
        · rw [decide_eq_true h1, decide_eq_true (by omega)]; rfl
        · rw [decide_eq_false h1, Bool.false_or]
theorem merge_eq : ∀ (b l : List File), Tree0 l → (∀ f ∈ b, FineF f) → mergeGo 60 l b = rmGo l (decide (60 < l.length)) b := by
  intro b
  induction b with
  | nil =>
    intro l h _
    unfold mergeGo rmGo
    by_cases h1 : 60 < l.length
    · rw [if_pos h1, decide_eq_true h1]; rfl
    · rw [if_neg h1, decide_eq_false h1]; rfl
  | cons f b ih =>
    intro l h hb
    rw [mergeGo_cons]
    rcases merge_step h (hb f List.mem_cons_self) with ⟨h1, h2⟩ | ⟨h1, h2, _, _, h3⟩
    · rw [if_pos h1, h2]
    · rw [h1]
      simp only [Bool.false_eq_true, if_false]
      rw [h3, ih _ h2 (fun g hg => hb g (List.mem_cons_of_mem _ hg))]
/-- What comes of a merge. -/
theorem merge_spec : ∀ (b l : List File), Tree0 l → (∀ f ∈ b, FineF f) →
    (∃ t, mergeGo 60 l b = (t, 0, ⟨#[]⟩, 0) ∧ IsTree t ∧ l.length ≤ t.length ∧ ∀ y, y ∈ t ↔ y ∈ l ∨ y ∈ b) ∨ (∃ c p, mergeGo 60 l b = ([], c, p, 0) ∧ c ≠ 0) := by
  intro b
  induction b with
  | nil =>
    intro l h _
    unfold mergeGo
    by_cases h1 : 60 < l.length
    · right; exact ⟨2, ⟨#[]⟩, if_pos h1, by decide⟩
    · left; exact ⟨l, if_neg h1, ⟨h, by omega⟩, Nat.le_refl _, by simp⟩
  | cons f b ih =>
    intro l h hb
    rw [mergeGo_cons]
    rcases merge_step h (hb f List.mem_cons_self) with ⟨h1, _⟩ | ⟨h1, h2, h3, h4, _⟩
    · right; exact ⟨4, f.f0, if_pos h1, by decide⟩
    · rw [h1]
      simp only [Bool.false_eq_true, if_false]
      rcases ih _ h2 (fun g hg => hb g (List.mem_cons_of_mem _ hg)) with ⟨t, e, ht, hlen, hm⟩ | hc
      · left
        refine ⟨t, e, ht, by omega, fun y => ?_⟩
        rw [hm, h3, List.mem_cons]
        constructor
        · rintro ((h | h) | h)
          · exact .inr (.inl h)
          · exact .inl h
          · exact .inr (.inr h)
        · rintro (h | h | h)
          · exact .inl (.inr h)
          · exact .inl (.inl h)
          · exact .inr h
      · exact .inr hc
theorem sorted_extF : ∀ (u v : List File), u.Pairwise Lt → v.Pairwise Lt → (∀ p, p ∈ u ↔ p ∈ v) → u = v := by
  have irr : ∀ z : File, ¬ Lt z z := fun z hz => by have hz : cmpP z.f0 z.f0 < 0 := hz; rw [cmpP_self] at hz; omega
  intro u
  induction u with
  | nil =>
    intro v _ _ h
    cases v with
    | nil => rfl
    | cons q v => exact absurd ((h q).2 List.mem_cons_self) (by simp)
  | cons p u ih =>
    intro v hu hv h
    cases v with
    | nil => exact absurd ((h p).1 List.mem_cons_self) (by simp)
    | cons q v =>
      obtain ⟨hu1, hu2⟩ := List.pairwise_cons.1 hu
      obtain ⟨hv1, hv2⟩ := List.pairwise_cons.1 hv
      have hpq : p = q := by
        rcases List.mem_cons.1 ((h p).1 List.mem_cons_self) with e | hp
        · exact e
        · rcases List.mem_cons.1 ((h q).2 List.mem_cons_self) with e | hq
          · exact e.symm
          · exact absurd (cmpP_trans (hv1 p hp) (hu1 q hq)) (irr q)
      subst hpq
      congr 1
      refine ih v hu2 hv2 (fun z => ?_)
      constructor
      · intro hz
        rcases List.mem_cons.1 ((h z).1 (List.mem_cons_of_mem _ hz)) with e | h2
        · subst e; exact absurd (hu1 z hz) (irr z)
        · exact h2
      · intro hz
        rcases List.mem_cons.1 ((h z).2 (List.mem_cons_of_mem _ hz)) with e | h2
        · subst e; exact absurd (hv1 z hz) (irr z)
        · exact h2
/-- Within a tree all may be merged. -/
theorem merge_within {t : List File} (ht : IsTree t) : ∀ (b l : List File), Tree0 l → (∀ y ∈ l, y ∈ t) → (∀ y ∈ b, y ∈ t) → (∀ y ∈ t, y ∈ l ∨ y ∈ b) → mergeGo 60 l b = (t, 0, ⟨#[]⟩, 0) := by
  intro b
  induction b with
  | nil =>
    intro l h hl _ hall
    have e : l = t := sorted_extF l t h.sorted ht.sorted (fun p => ⟨hl p, fun hp => (hall p hp).resolve_right (by simp)⟩)
    subst e
    unfold mergeGo
    exact if_neg (by have := ht.short; omega)
  | cons f b ih =>
    intro l h hl hb hall
    have hft := hb f List.mem_cons_self
    have hff : FineF f := ht.fine f hft
    rw [mergeGo_cons]
    rcases merge_step h hff with ⟨h1, _⟩ | ⟨h1, h2, h3, _, _⟩
    · exfalso
      have hfit : fitsF l f.f0 = true := (fits_iff h (good_of_valid hff.1)).2 (fun y hy => ⟨ht.apart y (hl y hy) f hft, ht.apart f hft y (hl y hy)⟩)
      unfold mergeBad at h1
      rw [hfit] at h1
      simp only [Bool.not_true, Bool.or_false, Bool.and_eq_true, Bool.not_eq_true', beq_eq_false_iff_ne] at h1
      obtain ⟨ha, hd⟩ := h1
      obtain ⟨hlt, he⟩ := atF_at ha
      rw [fileAt_get l _ hlt] at hd
      have : l[atI l f.f0] = f := path_one ht.sorted (hl _ (List.getElem_mem hlt)) hft he
      rw [this] at hd
      exact hd rfl
    · rw [h1]
      simp only [Bool.false_eq_true, if_false]
      refine ih _ h2 (fun y hy => ?_) (fun y hy => hb y (List.mem_cons_of_mem _ hy)) (fun y hy => ?_)
      · rcases (h3 y).1 hy with rfl | hy
        · exact hft
        · exact hl y hy
      · rcases hall y hy with hy | hy
        · exact .inl ((h3 y).2 (.inr hy))
        · rcases List.mem_cons.1 hy with rfl | hy
          · exact .inl ((h3 y).2 (.inl rfl))
          · exact .inr hy
end Go.Proofs.Ytbbhmjokiejnmaa

