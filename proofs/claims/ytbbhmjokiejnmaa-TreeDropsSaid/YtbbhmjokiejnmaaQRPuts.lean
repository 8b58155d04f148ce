/- The law TreePuts, in plain words. -/
import Derived.Test.YtbbhmjokiejnmaaQRTree
import Derived.Test.YtbbhmjokiejnmaaQRHy13
namespace Go.Proofs.Ytbbhmjokiejnmaa
open Go Go.RowKit Go.Proofs.Ytbbhmjokiejnmaa.Hy Go.Proofs.YtbbhmjokiejnmaaW.PrintWords
set_option linter.unusedVariables false
theorem file_eq {x y : File} (h0 : x.f0.toList = y.f0.toList) (h1 : x.f1.toList = y.f1.toList) : x = y := by
  cases x; cases y; simp only [S29.mk.injEq]; exact ⟨bytes_eq h0, bytes_eq h1⟩
def sameB : List File → List File → Bool
  | [], [] => true
  | x :: a, y :: b => (x.f0.toList == y.f0.toList && x.f1.toList == y.f1.toList) && sameB a b
  | _, _ => false
theorem sameB_iff : ∀ a b : List File, sameB a b = true ↔ a = b
  | [], [] => by simp [sameB]
  | [], _ :: _ => by simp [sameB]
  | _ :: _, [] => by simp [sameB]
  | x :: a, y :: b => by
    simp only [sameB, Bool.and_eq_true, beq_iff_eq, sameB_iff a b, List.cons.injEq]
    constructor
    · rintro ⟨⟨h0, h1⟩, rfl⟩; exact ⟨file_eq h0 h1, rfl⟩
    · rintro ⟨rfl, rfl⟩; exact ⟨⟨rfl, rfl⟩, rfl⟩
theorem sameB_self (a : List File) : sameB a a = true := (sameB_iff a a).2 rfl
theorem sameB_len : ∀ a b : List File, a.length ≠ b.length → sameB a b = false := fun a b h => by
  rw [Bool.eq_false_iff]; intro e; exact h (by rw [(sameB_iff a b).1 e])
theorem same_ev (a b : List File) (ha : a.length < 1099511627776) : Ev (fun k => graftbedref02_Same.f k a b) (sameB a b) := by
  unfold graftbedref02_Same.f
  by_cases hl : a.length = b.length
  · refine Ev.congr (fun k => if_pos (by omega)) ?_
    have h : ∀ (d i : Nat), i + d = a.length → Ev (fun k => graftbedref02_Same.l0 k a b (i : Int)) (sameB (a.drop i) (b.drop i)) := by
      intro d
      induction d with
      | zero =>
        intro i hi
        rw [List.drop_eq_nil_of_le (by omega), List.drop_eq_nil_of_le (by omega)]
        refine Ev.step (f := fun _ => some _) (fun k => ?_) (Ev.now _)
        simp only [graftbedref02_Same.l0]; rw [if_neg (by omega)]; rfl
      | succ d ih =>
        intro i hi
        have h1 : i < a.length := by omega
        have h2 : i < b.length := by omega
        rw [List.drop_eq_getElem_cons h1, List.drop_eq_getElem_cons h2]
        refine Ev.step (f := fun k => if (!(a[i].f0.toList == b[i].f0.toList) || (!(a[i].f1.toList == b[i].f1.toList))) = true then some false else graftbedref02_Same.l0 k a b ((i + 1 : Nat) : Int)) (fun k => ?_) ?_
        · simp only [graftbedref02_Same.l0]
          rw [if_pos (by omega), if_pos (by omega), if_pos (by omega), rdT_nat a i h1, rdT_nat b i h2, wrap_i (by omega)]
        · simp only [sameB]
          cases (a[i].f0.toList == b[i].f0.toList) <;> cases (a[i].f1.toList == b[i].f1.toList) <;> first | exact Ev.now _ | (simpa using ih (i + 1) (by omega))
    have := h a.length 0 (by omega)
    rw [List.drop_zero, List.drop_zero] at this
    exact this
  · refine Ev.congr (fun k => if_neg (by omega)) ?_
    rw [sameB_len a b hl]
    exact Ev.now _
def wrongB (f : File) : Int := if validB f.f0 = true then (if 4000 < f.f1.size then 2 else 0) else 10
def checkGo (n : Nat) : Option File → List File → Int × ByteArray × Int
  | _, [] => if 60 < n then (2, ⟨#[]⟩, 0) else (0, ⟨#[]⟩, 0)
  | none, f :: l => if wrongB f = 0 then checkGo n (some f) l else (wrongB f, f.f0, 0)
  | some p, f :: l => if wrongB f = 0 then (if cmpP p.f0 f.f0 ≥ 0 ∨ insideB f.f0 p.f0 = true then (4, f.f0, 0) else checkGo n (some f) l) else (wrongB f, f.f0, 0)
theorem wrongOf (f : File) : tree_wrong.f f.f0 f.f1 = some (wrongB f) := wrong_some f.f0 f.f1
theorem check_at (t : List File) (ht : Small t) : ∀ (d i : Nat) (p : Option File), i + d = t.length → (p = if h : 0 < i ∧ i ≤ t.length then some (t[i - 1]'(by omega)) else none) →
    Ev (fun k => tree_Check.l0 k t t (t.length : Int) (i : Int)) (checkGo t.length p (t.drop i)) := by
  intro d
  induction d with
  | zero =>
    intro i p hi hp
    have hl1 := ht.1
    rw [List.drop_eq_nil_of_le (by omega)]
    refine Ev.step (f := fun _ => some _) (fun k => ?_) (Ev.now _)
    simp only [tree_Check.l0]
    rw [if_neg (by omega)]
    have e : checkGo t.length p [] = if 60 < t.length then (2, ⟨#[]⟩, 0) else (0, ⟨#[]⟩, 0) := by cases p <;> rfl
    rw [e]
    split <;> split <;> first | rfl | omega
  | succ d ih =>
    intro i p hi hp
    have hl1 := ht.1
    have hlt : i < t.length := by omega
    have hr := rdT_nat t i hlt
    have hsi := ht.2 t[i] (List.getElem_mem _)
    rw [List.drop_eq_getElem_cons hlt]
    have hnext := ih (i + 1) (some t[i]) (by omega) (by rw [dif_pos (by omega)]; rfl)
    have hj : ∀ (b : Bool) (x5 : Int), Ev (fun k => tree_Check.j1 k t x5 t (t.length : Int) (i : Int) b t[i].f0 t[i].f1) (if b = true then (4, t[i].f0, 0) else if x5 = 0 then checkGo t.length (some t[i]) (t.drop (i + 1)) else (x5, t[i].f0, 0)) := fun b x5 => by
      refine Ev.step (f := fun k => if b = true then some (4, t[i].f0, 0) else if x5 = 0 then tree_Check.l0 k t t (t.length : Int) ((i + 1 : Nat) : Int) else some (x5, t[i].f0, 0)) (fun k => ?_) ?_
      · simp only [tree_Check.j1]
        rw [wrap_i (by omega)]
        cases b with
        | true => rw [if_pos rfl, if_neg (by decide), if_pos rfl]
        | false => rfl
      · cases b with
        | true => exact Ev.now _
        | false =>
          simp only [Bool.false_eq_true, if_false]
          by_cases h5 : x5 = 0
          · simp only [if_pos h5]; exact hnext
          · simp only [if_neg h5]; exact Ev.now _
    by_cases hw : wrongB t[i] = 0
    · by_cases h0 : 0 < i
      · have hp' : p = some (t[i - 1]'(by omega)) := by rw [hp, dif_pos (by omega)]
        have hlp : i - 1 < t.length := by omega
        have hrp := rdT_nat t (i - 1) hlp
        have hsp := ht.2 t[i - 1] (List.getElem_mem _)
        subst hp'
        have e : checkGo t.length (some t[i - 1]) (t[i] :: t.drop (i + 1)) = if cmpP t[i - 1].f0 t[i].f0 ≥ 0 ∨ insideB t[i].f0 t[i - 1].f0 = true then (4, t[i].f0, 0) else checkGo t.length (some t[i]) (t.drop (i + 1)) := by
          simp only [checkGo]; rw [if_pos hw]
        rw [e]
        refine Ev.step (f := fun k => (paths_Compare.f k t[i - 1].f0 t[i].f0).bind fun t266 => if t266 ≥ 0 then tree_Check.j1 k t 0 t (t.length : Int) (i : Int) true t[i].f0 t[i].f1 else tree_Check.j1 k t 0 t (t.length : Int) (i : Int) (insideB t[i].f0 t[i - 1].f0) t[i].f0 t[i].f1) (fun k => ?_) ?_
        · simp only [tree_Check.l0]
          rw [if_pos (by omega), if_pos (by omega), if_pos (by omega), hr, wrongOf]
          simp only [Option.bind_some, hw]
          rw [if_pos trivial, if_pos (by omega), show wrap64 ((i : Int) - 1) = ((i - 1 : Nat) : Int) from by unfold wrap64; omega, if_pos (by omega), if_pos (by omega), hrp, inside_some _ _ (by omega)]
          simp only [Option.bind_some]
        · refine Ev.bind (paths_Compare_ev _ _ (by omega) (by omega)) ?_
          by_cases hc : cmpP t[i - 1].f0 t[i].f0 ≥ 0
          · simp only [if_pos hc, if_pos (Or.inl hc : cmpP t[i - 1].f0 t[i].f0 ≥ 0 ∨ insideB t[i].f0 t[i - 1].f0 = true)]
            exact hj true 0
          · simp only [if_neg hc]
            cases hin : insideB t[i].f0 t[i - 1].f0 with
            | true => simp only [or_true, if_true]; exact hj true 0
            | false => simp only [Bool.false_eq_true, or_false, if_neg hc]; exact hj false 0
      · have hp' : p = none := by rw [hp, dif_neg (by omega)]
        subst hp'
        have e : checkGo t.length none (t[i] :: t.drop (i + 1)) = checkGo t.length (some t[i]) (t.drop (i + 1)) := by
          simp only [checkGo]; rw [if_pos hw]
        rw [e]
        refine Ev.step (f := fun k => tree_Check.j1 k t 0 t (t.length : Int) (i : Int) false t[i].f0 t[i].f1) (fun k => ?_) (hj false 0)
        simp only [tree_Check.l0]
        rw [if_pos (by omega), if_pos (by omega), if_pos (by omega), hr, wrongOf]
        simp only [Option.bind_some, hw]
        rw [if_pos trivial, if_neg (by omega)]
    · have e : checkGo t.length p (t[i] :: t.drop (i + 1)) = (wrongB t[i], t[i].f0, 0) := by
        cases p <;> (simp only [checkGo]; rw [if_neg hw])
      rw [e]
      refine Ev.step (f := fun k => tree_Check.j1 k t (wrongB t[i]) t (t.length : Int) (i : Int) false t[i].f0 t[i].f1) (fun k => ?_) ?_
      · simp only [tree_Check.l0]
        rw [if_pos (by omega), if_pos (by omega), if_pos (by omega), hr, wrongOf]
        simp only [Option.bind_some]
        rw [if_neg hw]
      · have := hj false (wrongB t[i])
        simp only [Bool.false_eq_true, if_false, if_neg hw] at this
        exact this
theorem check_ev (t : List File) (ht : Small t) : Ev (fun k => tree_Check.f k t) (checkGo t.length none t) := by
  have := check_at t ht t.length 0 none (by omega) (by simp)
  rw [List.drop_zero] at this
  exact this
theorem check_ok (n : Nat) (hn : n ≤ 60) : ∀ (l : List File) (p : Option File), l.Pairwise Lt → (∀ a ∈ l, ∀ b ∈ l, insideB a.f0 b.f0 = false) → (∀ a ∈ l, validB a.f0 = true ∧ a.f1.size ≤ 4000) → (∀ q, p = some q → ∀ a ∈ l, cmpP q.f0 a.f0 < 0 ∧ insideB a.f0 q.f0 = false) → checkGo n p l = (0, ⟨#[]⟩, 0) := by
  intro l
  induction l with
  | nil => intro p _ _ _ _; cases p <;> (simp only [checkGo]; rw [if_neg (by omega)])
  | cons f l ih =>
    intro p hs ha hf hp
    obtain ⟨hs1, hs2⟩ := List.pairwise_cons.1 hs
    have hw : wrongB f = 0 := by
      obtain ⟨h1, h2⟩ := hf f List.mem_cons_self
      unfold wrongB; rw [if_pos h1, if_neg (by omega)]
    have hrec := ih (some f) hs2 (fun a h b h2 => ha a (List.mem_cons_of_mem _ h) b (List.mem_cons_of_mem _ h2)) (fun a h => hf a (List.mem_cons_of_mem _ h)) (fun q hq a h => by injection hq with hq; subst hq; exact ⟨hs1 a h, ha a (List.mem_cons_of_mem _ h) _ List.mem_cons_self⟩)
    cases p with
    | none => simp only [checkGo]; rw [if_pos hw]; exact hrec
    | some q =>
      obtain ⟨h1, h2⟩ := hp q rfl f List.mem_cons_self
      simp only [checkGo]; rw [if_pos hw, if_neg (by rw [h2]; simp; omega)]; exact hrec
theorem check_tree {t : List File} (h : IsTree t) : Ev (fun k => tree_Check.f k t) (0, ⟨#[]⟩, 0) := by
  have := check_ev t (tree_small h).1
  rwa [check_ok t.length h.short t none h.sorted h.apart h.fine (by simp)] at this
theorem find_mem {t : List File} (h : t.Pairwise Lt) {y : File} (hy : y ∈ t) : findB t y.f0 = (y.f1, true) := by
  obtain ⟨i, hi, rfl⟩ := List.mem_iff_getElem.1 hy
  exact findB_at (ne_of_sorted h) i hi
end Go.Proofs.Ytbbhmjokiejnmaa

