/- The law TreeDiffs, in plain words. -/
import Derived.Test.YtbbhmjokiejnmaaQDTree
import Derived.Test.YtbbhmjokiejnmaaQDHy17
namespace Go.Proofs.Ytbbhmjokiejnmaa
open Go Go.RowKit Go.Proofs.Ytbbhmjokiejnmaa.Hy Go.Proofs.YtbbhmjokiejnmaaW.PrintWords
set_option linter.unusedVariables false
def lookB (l : List File) (p : ByteArray) : Option ByteArray := (l.find? (fun x => x.f0.toList == p.toList)).map (fun x => x.f1)
theorem look_cons (x : File) (l : List File) (p : ByteArray) : lookB (x :: l) p = if x.f0 = p then some x.f1 else lookB l p := by
  unfold lookB
  by_cases h : x.f0 = p
  · rw [if_pos h, List.find?_cons_of_pos (by simp [h])]; rfl
  · rw [if_neg h, List.find?_cons_of_neg (by simp; exact fun e => h (bytes_eq e))]
theorem look_none {l : List File} {p : ByteArray} (h : ∀ y ∈ l, y.f0 ≠ p) : lookB l p = none := by
  unfold lookB
  rw [List.find?_eq_none.2 (fun y hy => by simp; exact fun e => h y hy (bytes_eq e))]; rfl
theorem look_mem {l : List File} {p : ByteArray} (h : lookB l p ≠ none) : ∃ y ∈ l, y.f0 = p := by
  apply Classical.byContradiction
  intro hn
  exact h (look_none (fun y hy e => hn ⟨y, hy, e⟩))
def diffN : Nat → List File → List File → List ByteArray
  | 0, _, _ => []
  | _ + 1, [], [] => []
  | n + 1, x :: a, [] => x.f0 :: diffN n a []
  | n + 1, [], y :: b => y.f0 :: diffN n [] b
  | n + 1, x :: a, y :: b => if cmpP x.f0 y.f0 < 0 then x.f0 :: diffN n a (y :: b) else if 0 < cmpP x.f0 y.f0 then y.f0 :: diffN n (x :: a) b else
      if x.f1.toList = y.f1.toList then diffN n a b else x.f0 :: diffN n a b
def diffB (a b : List File) : List ByteArray := diffN (a.length + b.length) a b
def Above (p : ByteArray) (l : List File) : Prop := ∀ y ∈ l, cmpP p y.f0 < 0
theorem above_look {p : ByteArray} {l : List File} (h : Above p l) : lookB l p = none := look_none (fun y hy e => by have := h y hy; rw [e, cmpP_self] at this; omega)
theorem above_cons {x y : File} {l : List File} (h : cmpP x.f0 y.f0 < 0) (hs : (y :: l).Pairwise Lt) : Above x.f0 (y :: l) := by
  intro z hz
  rcases List.mem_cons.1 hz with rfl | hz
  · exact h
  · exact cmpP_trans h ((List.pairwise_cons.1 hs).1 z hz)
theorem above_tail {x : File} {l : List File} (hs : (x :: l).Pairwise Lt) : Above x.f0 l := (List.pairwise_cons.1 hs).1
theorem diff_mem : ∀ (n : Nat) (a b : List File), a.length + b.length ≤ n → a.Pairwise Lt → b.Pairwise Lt → ∀ p, p ∈ diffN n a b ↔ lookB a p ≠ lookB b p := by
  intro n
  induction n with
  | zero =>
    intro a b h _ _ p
    obtain rfl : a = [] := List.eq_nil_of_length_eq_zero (by omega)
    obtain rfl : b = [] := List.eq_nil_of_length_eq_zero (by omega)
    simp [diffN]
  | succ n ih =>
    intro a b h ha hb p
    -- the first file of one side is not on the other
    have left : ∀ (x : File) (a' b' : List File), a'.length + b'.length ≤ n → (x :: a').Pairwise Lt → b'.Pairwise Lt → Above x.f0 b' → (p ∈ x.f0 :: diffN n a' b' ↔ lookB (x :: a') p ≠ lookB b' p) := by
      intro x a' b' hl hxa hb' hab
      rw [List.mem_cons, ih a' b' hl (List.pairwise_cons.1 hxa).2 hb' p, look_cons]
      by_cases e : x.f0 = p
      · subst e
        rw [if_pos rfl, above_look hab]; simp
      · rw [if_neg e]
        constructor
        · rintro (h | h)
          · exact absurd h.symm e
          · exact h
        · intro h; exact .inr h
    have right : ∀ (y : File) (a' b' : List File), a'.length + b'.length ≤ n → (y :: b').Pairwise Lt → a'.Pairwise Lt → Above y.f0 a' → (p ∈ y.f0 :: diffN n a' b' ↔ lookB a' p ≠ lookB (y :: b') p) := by
      intro y a' b' hl hyb ha' hab
      rw [List.mem_cons, ih a' b' hl ha' (List.pairwise_cons.1 hyb).2 p, look_cons]
      by_cases e : y.f0 = p
      · subst e
        rw [if_pos rfl, above_look hab]; simp
      · rw [if_neg e]
        constructor
        · rintro (h | h)
          · exact absurd h.symm e
          · exact h
        · intro h; exact .inr h
    cases a with
    | nil =>
      cases b with
      | nil => simp [diffN]
      | cons y b => exact right y [] b (by simp at h ⊢; omega) hb List.Pairwise.nil (by intro z hz; cases hz)
    | cons x a =>
      cases b with
      | nil => exact left x a [] (by simp at h ⊢; omega) ha List.Pairwise.nil (by intro z hz; cases hz)
      | cons y b =>
        simp only [List.length_cons] at h
        unfold diffN
        by_cases h1 : cmpP x.f0 y.f0 < 0
        · rw [if_pos h1]
          exact left x a (y :: b) (by simp only [List.length_cons]; omega) ha hb (above_cons h1 hb)
        · rw [if_neg h1]
          by_cases h2 : 0 < cmpP x.f0 y.f0
          · rw [if_pos h2]
            exact right y (x :: a) b (by simp only [List.length_cons]; omega) hb ha (above_cons (by rw [cmpP_flip]; omega) ha)
          · rw [if_neg h2]
            have e : x.f0 = y.f0 := (cmpP_zero _ _).1 (by omega)
            have hxa := above_tail ha
            have hyb := above_tail hb
            have hrec := ih a b (by omega) (List.pairwise_cons.1 ha).2 (List.pairwise_cons.1 hb).2 p
            rw [look_cons, look_cons, ← e]
            by_cases hp : x.f0 = p
            · subst hp
              rw [above_look hxa, above_look (by rw [e]; exact hyb)] at hrec
              simp only [if_true]
              split
              · rename_i hd
                rw [hrec, bytes_eq hd]; simp
              · rename_i hd
                constructor
                · intro _ he; injection he with he; exact hd (by rw [he])
                · intro _; exact List.mem_cons_self
            · rw [if_neg hp, if_neg hp]
              split
              · exact hrec
              · rw [List.mem_cons, hrec]
                constructor
                · rintro (h | h)
                  · exact absurd h.symm hp
                  · exact h
                · intro h; exact .inr h
def LtP (p q : ByteArray) : Prop := cmpP p q < 0
theorem diff_sorted : ∀ (n : Nat) (a b : List File), a.length + b.length ≤ n → a.Pairwise Lt → b.Pairwise Lt → (diffN n a b).Pairwise LtP := by
  intro n
  induction n with
  | zero => intro a b _ _ _; exact List.Pairwise.nil
  | succ n ih =>
    intro a b h ha hb
    have key : ∀ (q : ByteArray) (a' b' : List File), a'.length + b'.length ≤ n → a'.Pairwise Lt → b'.Pairwise Lt → Above q a' → Above q b' → (q :: diffN n a' b').Pairwise LtP := by
      intro q a' b' hl ha' hb' qa qb
      refine List.pairwise_cons.2 ⟨fun p hp => ?_, ih a' b' hl ha' hb'⟩
      have hd := (diff_mem n a' b' hl ha' hb' p).1 hp
      by_cases hn : lookB a' p = none
      · obtain ⟨y, hy, e⟩ := look_mem (l := b') (p := p) (fun e => hd (by rw [hn, e]))
        rw [← e]; exact qb y hy
      · obtain ⟨y, hy, e⟩ := look_mem hn
        rw [← e]; exact qa y hy
    have nil' : ∀ q, Above q [] := fun q z hz => by cases hz
    cases a with
    | nil =>
      cases b with
      | nil => exact List.Pairwise.nil
      | cons y b => exact key y.f0 [] b (by simp at h ⊢; omega) List.Pairwise.nil (List.pairwise_cons.1 hb).2 (nil' _) (above_tail hb)
    | cons x a =>
      cases b with
      | nil => exact key x.f0 a [] (by simp at h ⊢; omega) (List.pairwise_cons.1 ha).2 List.Pairwise.nil (above_tail ha) (nil' _)
      | cons y b =>
        simp only [List.length_cons] at h
        unfold diffN
        by_cases h1 : cmpP x.f0 y.f0 < 0
        · rw [if_pos h1]
          exact key x.f0 a (y :: b) (by simp only [List.length_cons]; omega) (List.pairwise_cons.1 ha).2 hb (above_tail ha) (above_cons h1 hb)
        · rw [if_neg h1]
          by_cases h2 : 0 < cmpP x.f0 y.f0
          · rw [if_pos h2]
            exact key y.f0 (x :: a) b (by simp only [List.length_cons]; omega) ha (List.pairwise_cons.1 hb).2 (above_cons (by rw [cmpP_flip]; omega) ha) (above_tail hb)
          · rw [if_neg h2]
            have e : x.f0 = y.f0 := (cmpP_zero _ _).1 (by omega)
            split
            · exact ih a b (by omega) (List.pairwise_cons.1 ha).2 (List.pairwise_cons.1 hb).2
            · exact key x.f0 a b (by omega) (List.pairwise_cons.1 ha).2 (List.pairwise_cons.1 hb).2 (above_tail ha) (by rw [e]; exact above_tail hb)
theorem sorted_ext : ∀ (u v : List ByteArray), u.Pairwise LtP → v.Pairwise LtP → (∀ p, p ∈ u ↔ p ∈ v) → u = v := by
  intro u
  induction u with
  | nil =>
    intro v _ _ h
    cases v with
    | nil => rfl
    | cons q v => exact absurd ((h q).2 List.mem_cons_self) (by simp)
  | cons p u ih =>
    intro v hu hv h
    cases v with
    | nil => exact absurd ((h p).1 List.mem_cons_self) (by simp)
    | cons q v =>
      obtain ⟨hu1, hu2⟩ := List.pairwise_cons.1 hu
      obtain ⟨hv1, hv2⟩ := List.pairwise_cons.1 hv
      have irr : ∀ z, ¬ cmpP z z < 0 := fun z hz => by rw [cmpP_self] at hz; omega
      have hpq : p = q := by
        rcases List.mem_cons.1 ((h p).1 List.mem_cons_self) with e | hp
        · exact e
        · rcases List.mem_cons.1 ((h q).2 List.mem_cons_self) with e | hq
          · exact e.symm
          · exact absurd (cmpP_trans (hv1 p hp) (hu1 q hq)) (irr q)
      subst hpq
      congr 1
      refine ih v hu2 hv2 (fun z => ?_)
      constructor
      · intro hz
        rcases List.mem_cons.1 ((h z).1 (List.mem_cons_of_mem _ hz)) with e | h2
        · subst e; exact absurd (hu1 z hz) (irr z)
        · exact h2
      · intro hz
        rcases List.mem_cons.1 ((h z).2 (List.mem_cons_of_mem _ hz)) with e | h2
        · subst e; exact absurd (hv1 z hz) (irr z)
        · exact h2
theorem diff_flip (a b : List File) (ha : a.Pairwise Lt) (hb : b.Pairwise Lt) : diffB b a = diffB a b :=
  sorted_ext _ _ (diff_sorted _ _ _ (Nat.le_refl _) hb ha) (diff_sorted _ _ _ (Nat.le_refl _) ha hb) (fun p => by
    unfold diffB
    rw [diff_mem _ _ _ (Nat.le_refl _) hb ha, diff_mem _ _ _ (Nat.le_refl _) ha hb]
    exact ne_comm)
theorem diff_nil : ∀ (n : Nat) (a b : List File), a.length + b.length ≤ n → (diffN n a b = [] ↔ a = b) := by
  intro n
  induction n with
  | zero =>
    intro a b h
    obtain rfl : a = [] := List.eq_nil_of_length_eq_zero (by omega)
    obtain rfl : b = [] := List.eq_nil_of_length_eq_zero (by omega)
    simp [diffN]
  | succ n ih =>
    intro a b h
    cases a with
    | nil => cases b <;> simp [diffN]
    | cons x a =>
      cases b with
      | nil => simp [diffN]
      | cons y b =>
        simp only [List.length_cons] at h
        unfold diffN
        by_cases h1 : cmpP x.f0 y.f0 < 0
        · rw [if_pos h1]
          constructor
          · intro h; cases h
          · intro h; injection h with h _; rw [h, cmpP_self] at h1; omega
        · rw [if_neg h1]
          by_cases h2 : 0 < cmpP x.f0 y.f0
          · rw [if_pos h2]
            constructor
            · intro h; cases h
            · intro h; injection h with h _; rw [h, cmpP_self] at h2; omega
          · rw [if_neg h2]
            have e : x.f0 = y.f0 := (cmpP_zero _ _).1 (by omega)
            split
            · rename_i hd
              rw [ih a b (by omega)]
              have : x = y := by cases x; cases y; simp only at e hd; rw [e, bytes_eq hd]
              subst this; simp
            · rename_i hd
              constructor
              · intro h; cases h
              · intro h; injection h with h _; rw [h] at hd; exact absurd rfl hd
end Go.Proofs.Ytbbhmjokiejnmaa

