/- The order of paths; elements of a path; what lies within a path. No program in sight. -/
import Derived.Test.YtbbhmjokiejnmaaQNFits
namespace Go.Proofs.Ytbbhmjokiejnmaa
open Go
set_option linter.unusedVariables false
theorem bl_irrefl : ∀ a : List UInt8, Op.bytesLess a a = false
  | [] => rfl
  | x :: a => by simp [Op.bytesLess, bl_irrefl a]
theorem bl_trans : ∀ a b c : List UInt8, Op.bytesLess a b = true → Op.bytesLess b c = true → Op.bytesLess a c = true
  | _, [], _, h, _ => by cases ‹List UInt8› <;> simp [Op.bytesLess] at h
  | _, _ :: _, [], _, h => by simp [Op.bytesLess] at h
  | [], _ :: _, _ :: _, _, _ => rfl
  | x :: a, y :: b, z :: c, h1, h2 => by
    simp only [Op.bytesLess, Bool.or_eq_true, Bool.and_eq_true, decide_eq_true_eq, beq_iff_eq, UInt8.lt_iff_toNat_lt] at h1 h2 ⊢
    rcases h1 with h1 | ⟨rfl, h1⟩
    · rcases h2 with h2 | ⟨rfl, h2⟩
      · left; omega
      · left; exact h1
    · rcases h2 with h2 | ⟨rfl, h2⟩
      · left; exact h2
      · right; exact ⟨rfl, bl_trans a b c h1 h2⟩
theorem bl_tri : ∀ a b : List UInt8, Op.bytesLess a b = true ∨ a = b ∨ Op.bytesLess b a = true
  | [], [] => .inr (.inl rfl)
  | [], _ :: _ => .inl rfl
  | _ :: _, [] => .inr (.inr rfl)
  | x :: a, y :: b => by
    simp only [Op.bytesLess, Bool.or_eq_true, Bool.and_eq_true, decide_eq_true_eq, beq_iff_eq, UInt8.lt_iff_toNat_lt]
    rcases Nat.lt_trichotomy x.toNat y.toNat with h | h | h
    · left; left; exact h
    · obtain rfl := UInt8.toNat_inj.1 h
      rcases bl_tri a b with h | rfl | h
      · left; right; exact ⟨rfl, h⟩
      · right; left; rfl
      · right; right; right; exact ⟨rfl, h⟩
    · right; right; left; exact h
theorem bl_asymm {a b : List UInt8} (h : Op.bytesLess a b = true) : Op.bytesLess b a = false := by
  rw [Bool.eq_false_iff]; intro h2
  have := bl_trans a b a h h2
  rw [bl_irrefl] at this; cases this
theorem bytes_eq {a b : ByteArray} (h : a.toList = b.toList) : a = b := WideShapes.bytes_inj (by rwa [Lib.toList_data, Lib.toList_data] at h)
theorem cmpB_zero (a b : ByteArray) : cmpB a b = 0 ↔ a = b := by
  unfold cmpB
  constructor
  · intro h
    split at h
    · cases h
    · split at h
      · cases h
      · rcases bl_tri a.toList b.toList with h1 | h1 | h1
        · contradiction
        · exact bytes_eq h1
        · contradiction
  · rintro rfl; simp [bl_irrefl]
theorem cmpB_neg (a b : ByteArray) : cmpB a b < 0 ↔ Op.bytesLess a.toList b.toList = true := by
  unfold cmpB; split
  · simp_all
  · split <;> simp_all
theorem cmpB_flip (a b : ByteArray) : cmpB b a = - cmpB a b := by
  unfold cmpB
  by_cases h : Op.bytesLess a.toList b.toList = true
  · rw [if_pos h, if_neg (by rw [bl_asymm h]; simp)]; simp [h]
  · by_cases h2 : Op.bytesLess b.toList a.toList = true
    · simp [h, h2]
    · simp [h, h2]
theorem cmpB_trans {a b c : ByteArray} (h1 : cmpB a b < 0) (h2 : cmpB b c < 0) : cmpB a c < 0 := by
  rw [cmpB_neg] at *; exact bl_trans _ _ _ h1 h2
theorem cmpL_zero : ∀ x y : List ByteArray, cmpL x y = 0 ↔ x = y
  | [], [] => by simp [cmpL]
  | [], _ :: _ => by simp [cmpL]
  | _ :: _, [] => by simp [cmpL]
  | a :: x, b :: y => by
    unfold cmpL
    by_cases h : cmpB a b = 0
    · rw [if_pos h, cmpL_zero x y]
      rw [cmpB_zero] at h; subst h; simp
    · rw [if_neg h]
      constructor
      · intro h2; exact absurd h2 h
      · intro h2; injection h2 with h2 _; exact absurd ((cmpB_zero a b).2 h2) h
theorem cmpL_flip : ∀ x y : List ByteArray, cmpL y x = - cmpL x y
  | [], [] => rfl
  | [], _ :: _ => rfl
  | _ :: _, [] => rfl
  | a :: x, b :: y => by
    unfold cmpL
    have hf := cmpB_flip a b
    by_cases h : cmpB a b = 0
    · rw [if_pos h, if_pos (by omega), cmpL_flip x y]
    · rw [if_neg h, if_neg (by omega), hf]
theorem cmpL_trans : ∀ x y z : List ByteArray, cmpL x y < 0 → cmpL y z < 0 → cmpL x z < 0
  | _, [], [], _, h => by simp [cmpL] at h
  | [], [], _ :: _, h, _ => by simp [cmpL] at h
  | _ :: _, [], _ :: _, h, _ => by simp [cmpL] at h
  | _, _ :: _, [], _, h => by simp [cmpL] at h
  | [], _ :: _, _ :: _, _, _ => by simp [cmpL]
  | a :: x, b :: y, c :: z, h1, h2 => by
    unfold cmpL at h1 h2 ⊢
    by_cases e1 : cmpB a b = 0
    · rw [if_pos e1] at h1
      rw [cmpB_zero] at e1; subst e1
      by_cases e2 : cmpB a c = 0
      · rw [if_pos e2] at h2 ⊢; exact cmpL_trans x y z h1 h2
      · rw [if_neg e2] at h2 ⊢; exact h2
    · rw [if_neg e1] at h1
      by_cases e2 : cmpB b c = 0
      · rw [cmpB_zero] at e2; subst e2
        rw [if_neg e1]; exact h1
      · rw [if_neg e2] at h2
        have := cmpB_trans h1 h2
        rw [if_neg (by omega)]; exact this
theorem cmpL_prefix_lt : ∀ p y : List ByteArray, p <+: y → p ≠ y → cmpL p y < 0
  | [], [], _, h => absurd rfl h
  | [], _ :: _, _, _ => by simp [cmpL]
  | a :: p, [], h, _ => by simp at h
  | a :: p, b :: y, h, hn => by
    rw [List.cons_prefix_cons] at h
    obtain ⟨rfl, h⟩ := h
    unfold cmpL
    rw [if_pos ((cmpB_zero a a).2 rfl)]
    exact cmpL_prefix_lt p y h (fun e => hn (by rw [e]))
theorem cmpL_prefix : ∀ p z y : List ByteArray, p <+: y → cmpL p z ≤ 0 → cmpL z y ≤ 0 → p <+: z
  | [], _, _, _, _, _ => List.nil_prefix
  | a :: p, z, [], h, _, _ => by simp at h
  | a :: p, [], b :: y, h, h1, _ => by simp [cmpL] at h1
  | a :: p, c :: z, b :: y, h, h1, h2 => by
    rw [List.cons_prefix_cons] at h
    obtain ⟨rfl, h⟩ := h
    unfold cmpL at h1 h2
    have hf := cmpB_flip a c
    by_cases e : cmpB a c = 0
    · rw [if_pos e] at h1
      rw [if_pos (by omega)] at h2
      rw [cmpB_zero] at e; subst e
      rw [List.cons_prefix_cons]
      exact ⟨rfl, cmpL_prefix p z y h h1 h2⟩
    · rw [if_neg e] at h1
      rw [if_neg (by omega)] at h2
      omega
def joinE : List (List UInt8) → List UInt8
  | [] => []
  | [a] => a
  | a :: b :: t => a ++ 47 :: joinE (b :: t)
theorem joinE_cons (a : List UInt8) {t : List (List UInt8)} (h : t ≠ []) : joinE (a :: t) = a ++ 47 :: joinE t := by
  cases t with
  | nil => exact absurd rfl h
  | cons b t => rfl
theorem joinE_append {s t : List (List UInt8)} (hs : s ≠ []) (ht : t ≠ []) : joinE (s ++ t) = joinE s ++ 47 :: joinE t := by
  induction s with
  | nil => exact absurd rfl hs
  | cons a s ih =>
    cases s with
    | nil => exact joinE_cons a ht
    | cons b s =>
      rw [List.cons_append, joinE_cons a (by simp), ih (by simp), joinE_cons a (by simp)]
      simp
theorem joinE_split (l : List UInt8) : joinE (splitL 47 l) = l := by
  induction l with
  | nil => rfl
  | cons x l ih =>
    rw [splitL_cons]
    split
    · rename_i h; subst h
      rw [joinE_cons _ (splitL_ne _ _), ih]; rfl
    · cases h : splitL 47 l with
      | nil => exact absurd h (splitL_ne _ _)
      | cons a t =>
        rw [h] at ih
        cases t with
        | nil => simp only [joinE] at ih ⊢; rw [ih]
        | cons b t => simp only [joinE, List.cons_append] at ih ⊢; rw [ih]
theorem splitL_append (a b : List UInt8) : splitL 47 (a ++ 47 :: b) = splitL 47 a ++ splitL 47 b := by
  induction a with
  | nil => rw [List.nil_append, splitL_cons, if_pos rfl]; rfl
  | cons x a ih =>
    rw [List.cons_append, splitL_cons, ih, splitL_cons]
    split
    · rfl
    · cases h : splitL 47 a with
      | nil => exact absurd h (splitL_ne _ _)
      | cons c t => rfl
theorem splitL_none (l : List UInt8) (h : (47 : UInt8) ∉ l) : splitL 47 l = [l] := by
  induction l with
  | nil => rfl
  | cons x l ih =>
    rw [splitL_cons, if_neg (fun e => h (by rw [e]; simp)), ih (fun e => h (List.mem_cons_of_mem _ e))]
theorem elemsB_of {s : ByteArray} (h : s.data.toList ≠ []) : elemsB s = (splitL 47 s.data.toList).map mkB := by unfold elemsB; rw [if_neg h]; rfl
theorem elemsB_nil {s : ByteArray} : elemsB s = [] ↔ s.data.toList = [] := by
  unfold elemsB
  split
  · simp_all
  · simp [splitB_ne, *]
theorem elemsB_join (s : ByteArray) : joinE ((elemsB s).map (fun e => e.data.toList)) = s.data.toList := by
  by_cases h : s.data.toList = []
  · rw [elemsB_nil.2 h, h]; rfl
  · rw [elemsB_of h, List.map_map]
    have : ((fun e : ByteArray => e.data.toList) ∘ mkB) = id := by funext x; simp [mkB_data]
    rw [this, List.map_id, joinE_split]
theorem elemsB_inj {a b : ByteArray} (h : elemsB a = elemsB b) : a = b := by
  refine WideShapes.bytes_inj ?_
  rw [← elemsB_join a, ← elemsB_join b, h]
theorem cmpP_zero (a b : ByteArray) : cmpP a b = 0 ↔ a = b := by
  unfold cmpP; rw [cmpL_zero]; exact ⟨elemsB_inj, fun h => by rw [h]⟩
theorem cmpP_flip (a b : ByteArray) : cmpP b a = - cmpP a b := cmpL_flip _ _
theorem cmpP_trans {a b c : ByteArray} (h1 : cmpP a b < 0) (h2 : cmpP b c < 0) : cmpP a c < 0 := cmpL_trans _ _ _ h1 h2
theorem cmpP_self (a : ByteArray) : cmpP a a = 0 := (cmpP_zero a a).2 rfl
/-- A path with an element, and none that is empty. -/
def Good (p : ByteArray) : Prop := p.data.toList ≠ [] ∧ p.data.toList ≠ [46] ∧ ∀ e ∈ elemsB p, e.data.toList ≠ []
theorem good_of_valid {p : ByteArray} (h : validB p = true) : Good p := by
  unfold validB at h
  simp only [Bool.and_eq_true, List.all_eq_true] at h
  obtain ⟨⟨h1, h2⟩, h3⟩ := h
  have hne : p.data.toList ≠ [] := by
    intro e; rw [← Lib.toList_data] at e; rw [e] at h1; simp at h1
  refine ⟨hne, fun e => ?_, fun e he => ?_⟩
  · have hel : elemsB p = [mkB [46]] := by rw [elemsB_of hne, e]; rfl
    have := h3 (mkB [46]) (by rw [hel]; simp)
    unfold elemB at this
    rw [Lib.toList_data, mkB_data] at this
    simp at this
  · have := h3 e he
    unfold elemB at this
    simp only [Bool.and_eq_true] at this
    intro e2
    rw [← Lib.toList_data] at e2
    rw [e2] at this; simp at this
theorem inside_iff {p d : ByteArray} (hp : Good p) (hd : Good d) : insideB p d = true ↔ elemsB d <+: elemsB p ∧ elemsB d ≠ elemsB p := by
  obtain ⟨hp1, _, hp3⟩ := hp
  obtain ⟨hd1, hd2, hd3⟩ := hd
  unfold insideB withinB
  rw [if_neg (fun h => h.elim hd1 hd2)]
  by_cases he : p.data.toList = d.data.toList
  · rw [if_pos he]
    have : p = d := WideShapes.bytes_inj he
    subst this
    simp [Lib.toList_data]
  · rw [if_neg he]
    by_cases hq : (d.data.toList ++ [47]).isPrefixOf p.data.toList = true
    · rw [if_pos hq]
      obtain ⟨r, hr⟩ := List.isPrefixOf_iff_prefix.1 hq
      have hr' : p.data.toList = d.data.toList ++ 47 :: r := by rw [← hr]; simp
      have hel : elemsB p = elemsB d ++ (splitL 47 r).map mkB := by
        rw [elemsB_of hp1, elemsB_of hd1, hr', splitL_append, List.map_append]
      have hrest : (p.extract (d.size + 1) p.size).toList = r := by
        rw [Lib.toList_data, Lib.extract_to_end, hr', Lib.size_eq, List.drop_append]
        simp
      constructor
      · intro _
        refine ⟨⟨_, hel.symm⟩, fun e => ?_⟩
        rw [hel] at e
        have := congrArg List.length e
        rw [List.length_append, List.length_map] at this
        have := List.length_pos_iff.2 (splitL_ne 47 r)
        omega
      · intro _
        simp only [Bool.true_and, Bool.not_eq_true', List.isEmpty_eq_false_iff]
        rw [hrest]
        intro e
        have := hp3 (mkB r) (by rw [hel, e]; simp [splitL])
        rw [mkB_data] at this
        exact this e
    · rw [if_neg hq]
      constructor
      · intro h; simp at h
      · rintro ⟨⟨t, ht⟩, hne⟩
        exfalso
        have htn : t ≠ [] := fun e => hne (by rw [e, List.append_nil] at ht; exact ht)
        apply hq
        rw [List.isPrefixOf_iff_prefix]
        have hj := elemsB_join p
        have hdn : elemsB d ≠ [] := fun e => hd1 (elemsB_nil.1 e)
        rw [← ht, List.map_append, joinE_append (by simpa using hdn) (by simpa using htn), elemsB_join] at hj
        exact ⟨joinE (t.map (fun e => e.data.toList)), by rw [← hj]; simp⟩
end Go.Proofs.Ytbbhmjokiejnmaa

