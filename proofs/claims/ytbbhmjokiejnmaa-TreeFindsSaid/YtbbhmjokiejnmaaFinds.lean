/- The law TreeFinds, in plain words. -/
import Derived.Test.YtbbhmjokiejnmaaRefs2
namespace Go.Proofs.Ytbbhmjokiejnmaa
open Go Go.RowKit Go.Proofs.Ytbbhmjokiejnmaa.Hy Go.Proofs.YtbbhmjokiejnmaaW.PrintWords
set_option linter.unusedVariables false

def hv : List File → Int → Bool
  | [], n => decide (n > 16384)
  | y :: l, n => if n ≤ 16384 then hv l (n + (mn (y.f0.size : Int) 1048576 + mn (y.f1.size : Int) 1048576)) else decide (n > 16384)
def heavyB (l : List File) : Bool := if 80 < l.length then true else hv l (mn (l.length : Int) 1048576)

theorem mn_le (a : Nat) : 0 ≤ mn (a : Int) 1048576 ∧ mn (a : Int) 1048576 ≤ 1048576 := by unfold mn; split <;> omega

theorem heavy_at (l : List File) (hl : l.length ≤ 80) : ∀ (d i : Nat) (n : Int), i + d = l.length → 0 ≤ n → n ≤ 8388608 → Ev (fun k => graftbedlaw02_heavy.l0 k l n (i : Int)) (hv (l.drop i) n) := by
  intro d
  induction d with
  | zero =>
    intro i n hi h0 h1
    have e : l.drop i = [] := by rw [List.drop_eq_nil_iff]; omega
    rw [e]
    refine Ev.step (f := fun _ => some _) (fun k => ?_) (Ev.now _)
    simp only [graftbedlaw02_heavy.l0, hv]; rw [if_neg (by omega)]
  | succ d ih =>
    intro i n hi h0 h1
    have hlt : i < l.length := by omega
    have ed : l.drop i = l[i] :: l.drop (i + 1) := List.drop_eq_getElem_cons hlt
    have hr := rdT_nat l i hlt
    have m0 := mn_le l[i].f0.size
    have m1 := mn_le l[i].f1.size
    rw [ed]
    unfold hv
    by_cases hq : n ≤ 16384
    · rw [if_pos hq]
      refine Ev.step (f := fun k => graftbedlaw02_heavy.l0 k l (n + (mn (l[i].f0.size : Int) 1048576 + mn (l[i].f1.size : Int) 1048576)) ((i + 1 : Nat) : Int)) (fun k => ?_) (ih (i + 1) (n + (mn (l[i].f0.size : Int) 1048576 + mn (l[i].f1.size : Int) 1048576)) (by omega) (by omega) (by omega))
      simp only [graftbedlaw02_heavy.l0]
      rw [if_pos (by omega), if_pos hq, if_pos (by omega), hr, wrap_i (by omega)]
      rw [show wrap64 (n + (mn (l[i].f0.size : Int) 1048576 + mn (l[i].f1.size : Int) 1048576)) = n + (mn (l[i].f0.size : Int) 1048576 + mn (l[i].f1.size : Int) 1048576) from by unfold wrap64; omega]
    · rw [if_neg hq]
      refine Ev.step (f := fun _ => some _) (fun k => ?_) (Ev.now _)
      simp only [graftbedlaw02_heavy.l0]
      rw [if_pos (by omega), if_neg hq]

theorem heavy_ev (l : List File) : Ev (fun k => graftbedlaw02_heavy.f k l) (heavyB l) := by
  unfold graftbedlaw02_heavy.f heavyB
  by_cases h : 80 < l.length
  · rw [if_pos h]; exact Ev.congr (fun k => if_pos (by omega)) (Ev.now _)
  · rw [if_neg h]
    refine Ev.congr (fun k => if_neg (by omega)) ?_
    have m := mn_le l.length
    have := heavy_at l (by omega) l.length 0 (mn (l.length : Int) 1048576) (by omega) (by omega) (by omega)
    rw [List.drop_zero] at this
    exact this

theorem hv_light (l : List File) : ∀ n : Int, 0 ≤ n → hv l n = false → n ≤ 16384 ∧ ∀ y ∈ l, y.f0.size ≤ 16384 ∧ y.f1.size ≤ 16384 := by
  induction l with
  | nil => intro n h0 h; unfold hv at h; simp at h; exact ⟨h, by simp⟩
  | cons y l ih =>
    intro n h0 h
    unfold hv at h
    have m0 := mn_le y.f0.size
    have m1 := mn_le y.f1.size
    split at h
    · rename_i hq
      obtain ⟨a, b⟩ := ih _ (by omega) h
      refine ⟨hq, fun z hz => ?_⟩
      rcases List.mem_cons.1 hz with rfl | hz
      · have e0 : mn (z.f0.size : Int) 1048576 ≤ 16384 := by omega
        have e1 : mn (z.f1.size : Int) 1048576 ≤ 16384 := by omega
        unfold mn at e0 e1
        split at e0 <;> split at e1 <;> omega
      · exact b z hz
    · rename_i hq
      have h : ¬ (n > 16384) := by simpa using h
      omega

theorem heavy_light (l : List File) (h : heavyB l = false) : l.length ≤ 80 ∧ ∀ y ∈ l, y.f0.size ≤ 16384 ∧ y.f1.size ≤ 16384 := by
  unfold heavyB at h
  split at h
  · cases h
  · have m := mn_le l.length
    exact ⟨by omega, (hv_light l _ m.1 h).2⟩
theorem light_small {l : List File} (h : heavyB l = false) : Small l := by
  obtain ⟨a, b⟩ := heavy_light l h
  exact ⟨by omega, fun y hy => by have := (b y hy).1; omega⟩

theorem shown_some : graftbedlaw02_shown.f = some true := by decide +kernel

/-- Different paths. -/
def Ne (a b : File) : Prop := a.f0.toList ≠ b.f0.toList

theorem putGo_ne (x : File) : ∀ (l out : List File) (done : Bool), l.Pairwise Ne → out.Pairwise Ne → (∀ y ∈ out, ∀ z ∈ l, Ne y z ∨ y.f0.toList = x.f0.toList) → (done = false → ∀ y ∈ out, Ne y x) → (putGo x l out done).2 = 0 → (putGo x l out done).1.Pairwise Ne := by
  intro l
  induction l with
  | nil =>
    intro out done hl ho hc hd h
    unfold putGo at h ⊢
    cases done with
    | true =>
      simp only [if_true] at h ⊢
      split at h
      · cases h
      · rename_i hq; rw [if_neg hq]; exact ho
    | false =>
      simp only [Bool.false_eq_true, if_false] at h ⊢
      split at h
      · cases h
      · rename_i hq
        rw [if_neg hq]
        exact List.pairwise_append.2 ⟨ho, by simp, fun a ha b hb => by rw [List.mem_singleton.1 hb]; exact hd rfl a ha⟩
  | cons y l ih =>
    intro out done hl ho hc hd h
    obtain ⟨hy, hl'⟩ := List.pairwise_cons.1 hl
    unfold putGo at h ⊢
    simp only at h ⊢
    split at h
    · cases h
    · rename_i hq
      rw [if_neg hq]
      have hyo : ∀ a ∈ out, a.f0.toList ≠ x.f0.toList → Ne a y := fun a ha hax => (hc a ha y List.mem_cons_self).resolve_right hax
      cases hins : (!done && decide (cmpP y.f0 x.f0 ≥ 0)) with
      | true =>
        rw [hins] at h
        have hdf : done = false := by cases done <;> simp_all
        subst hdf
        simp only [if_true] at h ⊢
        have hox : (out ++ [x]).Pairwise Ne := List.pairwise_append.2 ⟨ho, by simp, fun a ha b hb => by rw [List.mem_singleton.1 hb]; exact hd rfl a ha⟩
        by_cases he : y.f0.toList = x.f0.toList
        · rw [if_pos he] at h ⊢
          refine ih _ _ hl' hox ?_ (by simp) h
          intro a ha z hz
          rcases List.mem_append.1 ha with ha | ha
          · exact hc a ha z (List.mem_cons_of_mem _ hz)
          · rw [List.mem_singleton.1 ha]; exact .inr rfl
        · rw [if_neg he] at h ⊢
          refine ih _ _ hl' ?_ ?_ (by simp) h
          · refine List.pairwise_append.2 ⟨hox, by simp, fun a ha b hb => ?_⟩
            rw [List.mem_singleton.1 hb]
            rcases List.mem_append.1 ha with ha | ha
            · exact hyo a ha (hd rfl a ha)
            · rw [List.mem_singleton.1 ha]; exact fun e => he e.symm
          · intro a ha z hz
            rcases List.mem_append.1 ha with ha | ha
            · rcases List.mem_append.1 ha with ha | ha
              · exact hc a ha z (List.mem_cons_of_mem _ hz)
              · rw [List.mem_singleton.1 ha]; exact .inr rfl
            · rw [List.mem_singleton.1 ha]; exact .inl (hy z hz)
      | false =>
        rw [hins] at h
        simp only [Bool.false_eq_true, if_false, Bool.or_false] at h ⊢
        by_cases he : y.f0.toList = x.f0.toList
        · rw [if_pos he] at h ⊢
          exact ih _ _ hl' ho (fun a ha z hz => hc a ha z (List.mem_cons_of_mem _ hz)) hd h
        · rw [if_neg he] at h ⊢
          refine ih _ _ hl' ?_ ?_ ?_ h
          · refine List.pairwise_append.2 ⟨ho, by simp, fun a ha b hb => ?_⟩
            rw [List.mem_singleton.1 hb]
            rcases hc a ha y List.mem_cons_self with hn | hx
            · exact hn
            · exact fun e => he (e ▸ hx)
          · intro a ha z hz
            rcases List.mem_append.1 ha with ha | ha
            · exact hc a ha z (List.mem_cons_of_mem _ hz)
            · rw [List.mem_singleton.1 ha]; exact .inl (hy z hz)
          · intro hdf a ha
            rcases List.mem_append.1 ha with ha | ha
            · exact hd hdf a ha
            · rw [List.mem_singleton.1 ha]; exact he

theorem grown_ne (l : List File) : ∀ t : List File, t.Pairwise Ne → (growGo t l).Pairwise Ne := by
  induction l with
  | nil => intro t ht; exact ht
  | cons x l ih =>
    intro t ht
    unfold growGo
    split
    · rename_i h
      refine ih _ ?_
      unfold putR at h ⊢
      split at h
      · rename_i hv
        rw [if_pos hv]
        split at h
        · cases h
        · rename_i hd
          rw [if_neg hd]
          exact putGo_ne x t [] false ht List.Pairwise.nil (by simp) (by simp) h
      · cases h
    · exact ih t ht

theorem grown_len (l : List File) (hl : ∀ y ∈ l, y.f0.size ≤ 1048576) : ∀ t : List File, Small t → Small (growGo t l) := by
  induction l with
  | nil => intro t ht; exact ht
  | cons x l ih =>
    intro t ht
    unfold growGo
    split
    · rename_i h
      exact ih (fun y hy => hl y (List.mem_cons_of_mem _ hy)) _ (putR_small t x ht (hl x List.mem_cons_self) h).1
    · exact ih (fun y hy => hl y (List.mem_cons_of_mem _ hy)) t ht

theorem findB_at {t : List File} (h : t.Pairwise Ne) (i : Nat) (hi : i < t.length) : findB t t[i].f0 = (t[i].f1, true) := by
  unfold findB
  have : t.find? (fun x => x.f0.toList == t[i].f0.toList) = some t[i] := by
    rw [List.find?_eq_some_iff_append]
    refine ⟨by simp, t.take i, t.drop (i + 1), by rw [← List.drop_eq_getElem_cons hi, List.take_append_drop], fun a ha => ?_⟩
    obtain ⟨j, hj, rfl⟩ := List.mem_iff_getElem.1 ha
    rw [List.getElem_take]
    have hji : j < i := by rw [List.length_take] at hj; omega
    have : t[j].f0.toList ≠ t[i].f0.toList := List.pairwise_iff_getElem.1 h j i (by omega) hi hji
    simpa using this
  rw [this]

theorem findB_any (t : List File) (p : ByteArray) : (findB t p).2 = t.any (fun x => x.f0.toList == p.toList) ∧ ((findB t p).2 = false → (findB t p).1 = ⟨#[]⟩) := by
  unfold findB
  cases h : t.find? (fun x => x.f0.toList == p.toList) with
  | none =>
    refine ⟨?_, fun _ => rfl⟩
    rw [List.find?_eq_none] at h
    symm
    rw [List.any_eq_false]
    intro x hx; exact h x hx
  | some y =>
    refine ⟨?_, fun h => by cases h⟩
    symm
    rw [List.any_eq_true]
    exact ⟨y, List.mem_of_find?_eq_some h, List.find?_some (p := fun x : File => x.f0.toList == p.toList) h⟩

theorem finds_at (t : List File) (p : ByteArray) (hne : t.Pairwise Ne) (ht : Small t) : ∀ (d i : Nat) (b : Bool), i + d = t.length → b = (t.take i).any (fun x => x.f0.toList == p.toList) → Ev (fun k => graftbedlaw02_TreeFinds.l0 k p t b (i : Int)) true := by
  intro d
  induction d with
  | zero =>
    intro i b hi hb
    rw [List.take_of_length_le (by omega)] at hb
    obtain ⟨f1, f2⟩ := findB_any t p
    rw [← f1] at hb
    refine Ev.step (f := fun _ => some true) (fun k => ?_) (Ev.now _)
    simp only [graftbedlaw02_TreeFinds.l0]
    rw [if_neg (by omega), treeFind_some]
    simp only [Option.bind_some]
    rw [hb]
    rw [if_pos (by simp)]
    split
    · rfl
    · rename_i hq
      rw [f2 (by simpa using hq), Lib.toList_data]
      rfl
  | succ d ih =>
    intro i b hi hb
    have hl1 := ht.1
    have hlt : i < t.length := by omega
    have hr := rdT_nat t i hlt
    refine Ev.step (f := fun k => graftbedlaw02_TreeFinds.l0 k p t (b || (t[i].f0.toList == p.toList)) ((i + 1 : Nat) : Int)) (fun k => ?_) (ih (i + 1) _ (by omega) ?_)
    · simp only [graftbedlaw02_TreeFinds.l0]
      rw [if_pos (by omega), if_pos (by omega), treeFind_some, hr, findB_at hne i hlt, wrap_i (by omega)]
      simp only [Option.bind_some, if_true]
      cases b <;> simp
    · rw [List.take_succ_eq_append_getElem hlt, List.any_append, ← hb]
      simp

theorem treeFinds_ev (l : List File) (p : ByteArray) : Ev (fun k => graftbedlaw02_TreeFinds.f k l p) true := by
  have hj : ∀ b : Bool, (b = false → Small l) → Ev (fun k => graftbedlaw02_TreeFinds.j0 k l p b) true := fun b hb => by
    cases b with
    | true =>
      refine Ev.step (f := fun _ => some true) (fun k => ?_) (Ev.now _)
      simp only [graftbedlaw02_TreeFinds.j0, shown_some]
      rfl
    | false =>
      have hs := hb rfl
      refine Ev.step (f := fun k => (graftbedlaw02_grown.f k l).bind fun t => graftbedlaw02_TreeFinds.l0 k p t false 0) (fun k => ?_) (Ev.bind (grown_ev l hs) ?_)
      · simp only [graftbedlaw02_TreeFinds.j0, Bool.false_eq_true, if_false]
      · exact finds_at (grownB l) p (grown_ne l [] List.Pairwise.nil) (grown_len l hs.2 [] ⟨by simp, by simp⟩) (grownB l).length 0 false (by omega) (by simp)
  unfold graftbedlaw02_TreeFinds.f
  refine Ev.bind (heavy_ev l) ?_
  cases hh : heavyB l with
  | true => exact hj true (by simp)
  | false =>
    simp only [Bool.false_eq_true, if_false]
    by_cases hq : (p.size : Int) > 1024
    · simp only [if_pos hq]; exact hj true (by simp)
    · simp only [if_neg hq, shown_some, Option.bind_some]
      exact hj false (fun _ => light_small hh)

end Go.Proofs.Ytbbhmjokiejnmaa
