/- The law TreeMerges, put together. -/
import Derived.Test.YtbbhmjokiejnmaaQMMerges2
namespace Go.Proofs.Ytbbhmjokiejnmaa
open Go Go.RowKit Go.Proofs.Ytbbhmjokiejnmaa.Hy Go.Proofs.YtbbhmjokiejnmaaW.PrintWords
set_option linter.unusedVariables false
theorem treeMerge_some {a b : List File} (ha : IsTree a) (hb : IsTree b) : tree_Merge.f a b = some (mergeGo 60 a b) := by
  have h1 := ha.short
  have h2 := hb.short
  unfold tree_Merge.f
  rw [if_pos ⟨(tree_small ha).2, (tree_small hb).2, by omega⟩, Nat.max_eq_right h1]
theorem find_in {t a : List File} (ht : IsTree t) (ha : a.Pairwise Lt) (hat : ∀ y ∈ a, y ∈ t) {y : File} (hy : y ∈ t) : (y ∈ a ∧ findB a y.f0 = (y.f1, true)) ∨ (y ∉ a ∧ findB a y.f0 = (⟨#[]⟩, false)) := by
  by_cases h : y ∈ a
  · exact .inl ⟨h, find_mem ha h⟩
  · right
    refine ⟨h, ?_⟩
    rw [findB_look, look_none (fun z hz e => h (by rw [← path_one ht.sorted (hat z hz) hy e]; exact hz))]
theorem merges_at (a b t : List File) (ht : IsTree t) (ha : a.Pairwise Lt) (hb : b.Pairwise Lt) (hla : a.length ≤ t.length) (hlb : b.length ≤ t.length) (hm : ∀ y, y ∈ t ↔ y ∈ a ∨ y ∈ b) : ∀ (d i : Nat), i + d = t.length → Ev (fun k => graftbedlaw02_TreeMerges.l0 k a b t t (i : Int) 0 ⟨#[]⟩ 0) true := by
  intro d
  have h60 := ht.short
  induction d with
  | zero =>
    intro i hi
    refine Ev.step (f := fun k => (graftbedref02_Same.f k t t).bind fun t301 => (if t301 = true then ((tree_Check.f k t).bind fun bt302 => (if (bt302.1 == 0 && (bt302.2.1.toList == ([] : List UInt8) && (bt302.2.2 == 0))) = true then some true else some false)) else some false)) (fun k => ?_) (Ev.bind (same_ev t t (by omega)) ?_)
    · simp only [graftbedlaw02_TreeMerges.l0]
      rw [if_neg (by omega), if_pos (by rw [Lib.toList_data]; rfl), if_pos (by omega), decide_eq_true (by omega)]
    · rw [sameB_self]
      simp only [if_true]
      refine Ev.bind (check_tree ht) ?_
      have e : ((0 : Int) == 0 && ((⟨#[]⟩ : ByteArray).toList == ([] : List UInt8) && ((0 : Int) == 0))) = true := by rw [Lib.toList_data]; rfl
      simp only [e, if_true]
      exact Ev.now _
  | succ d ih =>
    intro i hi
    have hlt : i < t.length := by omega
    have hr := rdT_nat t i hlt
    have hmem : t[i] ∈ t := List.getElem_mem _
    have hA := find_in ht ha (fun y hy => (hm y).2 (.inl hy)) hmem
    have hB := find_in ht hb (fun y hy => (hm y).2 (.inr hy)) hmem
    refine Ev.step (f := fun k => (graftbedref02_Find.f k a t[i].f0).bind fun bt306 => ((graftbedref02_Find.f k b t[i].f0).bind fun bt309 => (if bt306.2 = true then (if bt306.1.toList = t[i].f1.toList then (if bt309.2 = true then (if bt309.1.toList = t[i].f1.toList then (graftbedlaw02_TreeMerges.l0 k a b t t ((i + 1 : Nat) : Int) 0 ⟨#[]⟩ 0) else (some false)) else (graftbedlaw02_TreeMerges.l0 k a b t t ((i + 1 : Nat) : Int) 0 ⟨#[]⟩ 0)) else (some false)) else (if bt309.2 = true then (if bt309.1.toList = t[i].f1.toList then (graftbedlaw02_TreeMerges.l0 k a b t t ((i + 1 : Nat) : Int) 0 ⟨#[]⟩ 0) else (some false)) else (some false))))) (fun k => ?_) (Ev.bind (refFind_ev a _ (by omega)) (Ev.bind (refFind_ev b _ (by omega)) ?_))
    · simp only [graftbedlaw02_TreeMerges.l0]
      rw [if_pos (by omega), if_pos (by omega), hr, wrap_i (by omega)]
    · have hrec := ih (i + 1) (by omega)
      rcases hA with ⟨hA1, hA2⟩ | ⟨hA1, hA2⟩
      · rw [hA2]
        rcases hB with ⟨hB1, hB2⟩ | ⟨hB1, hB2⟩
        · rw [hB2]; simpa using hrec
        · rw [hB2]; simpa using hrec
      · rw [hA2]
        rcases hB with ⟨hB1, hB2⟩ | ⟨hB1, hB2⟩
        · rw [hB2]; simpa using hrec
        · exact absurd ((hm t[i]).1 hmem) (fun h => h.elim hA1 hB1)
theorem treeMerges_ev (l m : List File) : Ev (fun k => graftbedlaw02_TreeMerges.f k l m) true := by
  have hj : ∀ b : Bool, (b = false → Small l ∧ Small m) → Ev (fun k => graftbedlaw02_TreeMerges.j0 k l m b) true := fun b hb => by
    cases b with
    | true =>
      refine Ev.step (f := fun _ => some true) (fun k => ?_) (Ev.now _)
      simp only [graftbedlaw02_TreeMerges.j0, shown_some]
      rfl
    | false =>
      obtain ⟨hs, hm⟩ := hb rfl
      have ht := tree_grown l
      have hu := tree_grown m
      have h60 := ht.short
      have h61 := hu.short
      obtain ⟨a, ha⟩ : ∃ a, grownB l = a := ⟨_, rfl⟩
      obtain ⟨b, hb⟩ : ∃ b, grownB m = b := ⟨_, rfl⟩
      have hga := grown_ev l hs
      have hgb := grown_ev m hm
      rw [ha] at ht h60 hga
      rw [hb] at hu h61 hgb
      have href := refMerge_ev a b (tree_small ht).1 (tree_small hu).1
      have hd : decide (60 < a.length) = false := decide_eq_false (by omega)
      have hme := merge_eq b a ht.toTree0 hu.fine
      rw [hd] at hme
      rw [← hme] at href
      refine Ev.step (f := fun k => (graftbedlaw02_grown.f k l).bind fun t273 => ((graftbedlaw02_grown.f k m).bind fun t276 => ((tree_Merge.f t273 t276).bind fun bt279 => ((graftbedref02_Merge.f k t273 t276).bind fun bt286 => (if (!(bt279.2.1 == bt286.2.1) || (!(bt279.2.2.1.toList == bt286.2.2.1.toList) || (!(bt279.2.2.2 == bt286.2.2.2)))) = true then (graftbedlaw02_TreeMerges.j1 k t273 t276 bt279.1 true bt279.2.1 bt279.2.2.1 bt279.2.2.2) else ((graftbedref02_Same.f k bt279.1 bt286.1).bind fun t293 => (graftbedlaw02_TreeMerges.j1 k t273 t276 bt279.1 (!t293) bt279.2.1 bt279.2.2.1 bt279.2.2.2))))))) (fun k => ?_) (Ev.bind hga (Ev.bind hgb ?_))
      · simp only [graftbedlaw02_TreeMerges.j0, Bool.false_eq_true, if_false]
      · simp only [treeMerge_some ht hu, Option.bind_some]
        refine Ev.bind href ?_
        have e0 : (!((mergeGo 60 a b).2.1 == (mergeGo 60 a b).2.1) || (!((mergeGo 60 a b).2.2.1.toList == (mergeGo 60 a b).2.2.1.toList) || (!((mergeGo 60 a b).2.2.2 == (mergeGo 60 a b).2.2.2)))) = false := by simp
        simp only [e0, Bool.false_eq_true, if_false]
        rcases merge_spec b a ht.toTree0 hu.fine with ⟨t, e, htt, hlen, hmem⟩ | ⟨c, p, e, hc⟩
        · rw [e]
          refine Ev.bind (same_ev t t (by have := htt.short; omega)) ?_
          rw [sameB_self]
          have hba : mergeGo 60 b a = (t, 0, ⟨#[]⟩, 0) := merge_within htt a b hu.toTree0 (fun y hy => (hmem y).2 (.inr hy)) (fun y hy => (hmem y).2 (.inl hy)) (fun y hy => ((hmem y).1 hy).symm)
          have hlb : b.length ≤ t.length := by
            rcases merge_spec a b hu.toTree0 ht.fine with ⟨t2, e2, _, h2, _⟩ | ⟨c, p, e2, hc⟩
            · rw [hba] at e2; injection e2 with e2 _; rw [e2]; exact h2
            · rw [hba] at e2; simp only [Prod.mk.injEq] at e2; exact absurd e2.2.1.symm hc
          refine Ev.step (f := fun k => graftbedlaw02_TreeMerges.l0 k a b t t 0 0 ⟨#[]⟩ 0) (fun k => ?_) (merges_at a b t htt ht.sorted hu.sorted hlen hlb hmem t.length 0 (by omega))
          simp only [graftbedlaw02_TreeMerges.j1]
          rw [if_neg (by simp), if_neg (by rw [Lib.toList_data]; simp), treeMerge_some hu ht, hba]
          rfl
        · rw [e]
          refine Ev.bind (same_ev [] [] (by simp)) ?_
          rw [sameB_self]
          refine Ev.step (f := fun _ => some true) (fun k => ?_) (Ev.now _)
          simp only [graftbedlaw02_TreeMerges.j1]
          have hcb : (c == 0) = false := by simpa using hc
          rw [if_neg (by simp), if_pos (by rw [hcb]; rfl)]
          rfl
  unfold graftbedlaw02_TreeMerges.f
  refine Ev.bind (heavy_ev l) ?_
  cases hh : heavyB l with
  | true => exact hj true (by simp)
  | false =>
    simp only [Bool.false_eq_true, if_false]
    refine Ev.bind (heavy_ev m) ?_
    cases hh2 : heavyB m with
    | true => exact hj true (by simp)
    | false =>
      simp only [Bool.false_eq_true, if_false, shown_some, Option.bind_some]
      exact hj false (fun _ => ⟨light_small hh, light_small hh2⟩)
end Go.Proofs.Ytbbhmjokiejnmaa

