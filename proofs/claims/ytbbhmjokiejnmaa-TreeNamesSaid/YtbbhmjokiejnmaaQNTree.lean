/- Trees: sorted files, none within another; a search, a fit, a put. No program in sight. -/
import Derived.Test.YtbbhmjokiejnmaaQNOrd
import Derived.Test.YtbbhmjokiejnmaaQNFinds
namespace Go.Proofs.Ytbbhmjokiejnmaa
open Go Go.Proofs.Ytbbhmjokiejnmaa.Hy
set_option linter.unusedVariables false
def Lt (a b : File) : Prop := cmpP a.f0 b.f0 < 0
/-- A tree, but for the number of its files. -/
structure Tree0 (l : List File) : Prop where
  sorted : l.Pairwise Lt
  apart : ∀ a ∈ l, ∀ b ∈ l, insideB a.f0 b.f0 = false
  fine : ∀ a ∈ l, validB a.f0 = true ∧ a.f1.size ≤ 4000
structure IsTree (l : List File) : Prop extends Tree0 l where
  short : l.length ≤ 60
theorem fileAt_get (l : List File) (i : Nat) (h : i < l.length) : fileAt l i = l[i] := by
  unfold fileAt; rw [List.getD_eq_getElem?_getD, List.getElem?_eq_getElem h]; rfl
theorem bs_low {l : List File} (hs : l.Pairwise Lt) (k : ByteArray) : ∀ (n i j : Nat), i ≤ j → j ≤ l.length → j - i ≤ n → (∀ a (h : a < l.length), a < i → cmpP l[a].f0 k < 0) → (∀ a (h : a < l.length), j ≤ a → ¬ cmpP l[a].f0 k < 0) →
    (∀ a (h : a < l.length), a < bsL l k n i j → cmpP l[a].f0 k < 0) ∧ (∀ a (h : a < l.length), bsL l k n i j ≤ a → ¬ cmpP l[a].f0 k < 0) := by
  intro n
  induction n with
  | zero =>
    intro i j hij hj hn h1 h2
    obtain rfl : i = j := by omega
    exact ⟨h1, h2⟩
  | succ n ih =>
    intro i j hij hj hn h1 h2
    unfold bsL
    by_cases hlt : i < j
    · rw [if_pos hlt]
      have hm : (i + j) / 2 < l.length := by omega
      rw [fileAt_get l _ hm]
      split
      · rename_i hc
        refine ih _ _ (by omega) hj (by omega) (fun a h ha => ?_) h2
        rcases Nat.lt_or_ge a ((i + j) / 2) with h3 | h3
        · exact cmpP_trans (List.pairwise_iff_getElem.1 hs a _ h hm h3) hc
        · obtain rfl : a = (i + j) / 2 := by omega
          exact hc
      · rename_i hc
        refine ih _ _ (by omega) (by omega) (by omega) h1 (fun a h ha hlt2 => ?_)
        rcases Nat.lt_or_ge ((i + j) / 2) a with h3 | h3
        · exact hc (cmpP_trans (List.pairwise_iff_getElem.1 hs _ a hm h h3) hlt2)
        · obtain rfl : a = (i + j) / 2 := by omega
          exact hc hlt2
    · rw [if_neg hlt]
      obtain rfl : i = j := by omega
      exact ⟨h1, h2⟩
theorem at_low {l : List File} (hs : l.Pairwise Lt) (k : ByteArray) : (∀ a (h : a < l.length), a < atI l k → cmpP l[a].f0 k < 0) ∧ (∀ a (h : a < l.length), atI l k ≤ a → ¬ cmpP l[a].f0 k < 0) :=
  bs_low hs k l.length 0 l.length (Nat.zero_le _) (Nat.le_refl _) (by omega) (fun a _ h => by omega) (fun a h h2 => by omega)
theorem atF_at {l : List File} {k : ByteArray} (h : atF l k = true) : ∃ hl : atI l k < l.length, l[atI l k].f0 = k := by
  unfold atF at h
  simp only [Bool.and_eq_true, decide_eq_true_eq, beq_iff_eq] at h
  refine ⟨h.1, ?_⟩
  have := h.2
  rw [fileAt_get l _ h.1] at this
  exact (cmpP_zero _ _).1 this
theorem atF_iff {l : List File} (hs : l.Pairwise Lt) (k : ByteArray) : atF l k = true ↔ ∃ y ∈ l, y.f0 = k := by
  constructor
  · intro h
    obtain ⟨hl, he⟩ := atF_at h
    exact ⟨_, List.getElem_mem hl, he⟩
  · rintro ⟨y, hy, rfl⟩
    obtain ⟨a, ha, rfl⟩ := List.mem_iff_getElem.1 hy
    obtain ⟨h1, h2⟩ := at_low hs l[a].f0
    have hle : atI l l[a].f0 ≤ a := by
      rcases Nat.lt_or_ge a (atI l l[a].f0) with h | h
      · have := h1 a ha h; rw [cmpP_self] at this; omega
      · exact h
    have heq : atI l l[a].f0 = a := by
      rcases Nat.lt_or_ge (atI l l[a].f0) a with h | h
      · exact absurd (List.pairwise_iff_getElem.1 hs _ a (by omega) ha h) (h2 _ (by omega) (Nat.le_refl _))
      · omega
    unfold atF
    rw [heq, decide_eq_true ha, fileAt_get l a ha, cmpP_self]
    rfl
theorem lastIx_spec : ∀ l : List UInt8, (lastIx 47 l = -1 ∧ (47 : UInt8) ∉ l) ∨ ∃ a b, l = a ++ 47 :: b ∧ (47 : UInt8) ∉ b ∧ lastIx 47 l = (a.length : Int)
  | [] => .inl ⟨rfl, by simp⟩
  | x :: l => by
    rcases lastIx_spec l with ⟨h1, h2⟩ | ⟨a, b, rfl, h2, h3⟩
    · unfold lastIx
      rw [if_neg (by omega)]
      by_cases hx : x = 47
      · subst hx
        right
        exact ⟨[], l, rfl, h2, by simp⟩
      · left
        refine ⟨if_neg hx, fun h => ?_⟩
        rcases List.mem_cons.1 h with h | h
        · exact hx h.symm
        · exact h2 h
    · right
      refine ⟨x :: a, b, rfl, h2, ?_⟩
      unfold lastIx
      rw [h3, if_pos (by omega)]
      simp
theorem dirB_elems {d : ByteArray} (hd : d.data.toList ≠ []) (h : ∀ e ∈ elemsB d, e.data.toList ≠ []) : elemsB (dirB d) = (elemsB d).dropLast := by
  rcases lastIx_spec d.data.toList with ⟨h1, h2⟩ | ⟨a, b, he, h2, h3⟩
  · unfold dirB
    rw [if_neg (by omega), elemsB_of hd, splitL_none _ h2]
    rfl
  · have hel : elemsB d = (splitL 47 a).map mkB ++ [mkB b] := by
      rw [elemsB_of hd, he, splitL_append, splitL_none b h2, List.map_append]; rfl
    have ha : a ≠ [] := by
      intro e
      have := h (mkB []) (by rw [hel, e]; simp [splitL])
      rw [mkB_data] at this
      exact this rfl
    have hdir : dirB d = mkB a := by
      unfold dirB
      rw [if_pos (by omega), h3, Int.toNat_natCast, extract_mkB, he]
      simp
    rw [hdir, hel, List.dropLast_concat, elemsB_of (by rw [mkB_data]; exact ha), mkB_data]
theorem prefix_dropLast {α : Type} {q e : List α} (hq : q <+: e) (hne : q ≠ e) : q <+: e.dropLast := by
  obtain ⟨t, rfl⟩ := hq
  have ht : t ≠ [] := fun h => hne (by rw [h, List.append_nil])
  rw [List.dropLast_append_of_ne_nil ht]
  exact List.prefix_append _ _
theorem above_iff {l : List File} (hs : l.Pairwise Lt) : ∀ (n : Nat) (d : ByteArray), d.size < n → (∀ e ∈ elemsB d, e.data.toList ≠ []) → (aboveF l n d = true ↔ ∃ y ∈ l, elemsB y.f0 ≠ [] ∧ elemsB y.f0 <+: elemsB d) := by
  intro n
  induction n with
  | zero => intro d h; omega
  | succ n ih =>
    intro d hn hg
    unfold aboveF
    by_cases he : d.data.toList = []
    · rw [if_pos he]
      constructor
      · intro h; cases h
      · rintro ⟨y, _, h1, h2⟩
        rw [elemsB_nil.2 he, List.prefix_nil] at h2
        exact absurd h2 h1
    · rw [if_neg he]
      by_cases ha : atF l d = true
      · rw [if_pos ha]
        obtain ⟨y, hy, e⟩ := (atF_iff hs d).1 ha
        refine ⟨fun _ => ⟨y, hy, ?_, ?_⟩, fun _ => rfl⟩
        · rw [e]; exact fun h => he (elemsB_nil.1 h)
        · rw [e]; exact List.prefix_refl _
      · rw [if_neg ha]
        have hde := dirB_elems he hg
        have hsz := (dirB_size d).2 he
        rw [ih (dirB d) (by omega) (fun e hm => hg e (by rw [hde] at hm; exact List.dropLast_subset _ hm)), hde]
        constructor
        · rintro ⟨y, hy, h1, h2⟩
          exact ⟨y, hy, h1, h2.trans (List.dropLast_prefix _)⟩
        · rintro ⟨y, hy, h1, h2⟩
          refine ⟨y, hy, h1, prefix_dropLast h2 (fun e => ha ((atF_iff hs d).2 ⟨y, hy, elemsB_inj e⟩))⟩
theorem tree_good {l : List File} (h : Tree0 l) {y : File} (hy : y ∈ l) : Good y.f0 := good_of_valid (h.fine y hy).1
theorem inside_lt {p y : ByteArray} (hy : Good y) (hp : Good p) (h : insideB y p = true) : cmpP p y < 0 := by
  obtain ⟨h1, h2⟩ := (inside_iff hy hp).1 h
  exact cmpL_prefix_lt _ _ h1 h2
theorem fits_iff {l : List File} (h : Tree0 l) {p : ByteArray} (hp : Good p) : fitsF l p = true ↔ ∀ y ∈ l, insideB y.f0 p = false ∧ insideB p y.f0 = false := by
  obtain ⟨low1, low2⟩ := at_low h.sorted p
  obtain ⟨i, hi⟩ : ∃ i, i = (if atF l p then atI l p + 1 else atI l p) := ⟨_, rfl⟩
  have hup : ∀ a (ha : a < l.length), i ≤ a → 0 < cmpP l[a].f0 p := by
    intro a ha hia
    have hn := low2 a ha (by rw [hi] at hia; split at hia <;> omega)
    have hz : cmpP l[a].f0 p ≠ 0 := by
      intro hz
      have he := (cmpP_zero _ _).1 hz
      have hat : atF l p = true := (atF_iff h.sorted p).2 ⟨l[a], List.getElem_mem ha, he⟩
      rw [hat, if_pos rfl] at hi
      obtain ⟨hl, e2⟩ := atF_at hat
      have := List.pairwise_iff_getElem.1 h.sorted (atI l p) a hl ha (by omega)
      have h3 : cmpP l[atI l p].f0 l[a].f0 < 0 := this
      rw [e2, he, cmpP_self] at h3
      omega
    omega
  have hdn : ∀ a (ha : a < l.length), a < i → cmpP l[a].f0 p ≤ 0 := by
    intro a ha hia
    rw [hi] at hia
    split at hia
    · rename_i hat
      obtain ⟨hl, e2⟩ := atF_at hat
      rcases Nat.lt_or_ge a (atI l p) with h3 | h3
      · have := low1 a ha h3; omega
      · obtain rfl : a = atI l p := by omega
        rw [e2, cmpP_self]; omega
    · have := low1 a ha hia; omega
  have hin : (∃ y ∈ l, insideB y.f0 p = true) ↔ (decide (i < l.length) && insideB (fileAt l i).f0 p) = true := by
    constructor
    · rintro ⟨y, hy, hyp⟩
      obtain ⟨a, ha, rfl⟩ := List.mem_iff_getElem.1 hy
      have hlt := inside_lt (tree_good h hy) hp hyp
      have hai : i ≤ a := by
        rcases Nat.lt_or_ge a i with h3 | h3
        · have := hdn a ha h3; rw [cmpP_flip] at this; omega
        · exact h3
      have hil : i < l.length := by omega
      have hgi : Good l[i].f0 := tree_good h (List.getElem_mem hil)
      have h1 : cmpP p l[i].f0 < 0 := by have := hup i hil (Nat.le_refl _); rw [cmpP_flip] at this; omega
      have h2 : cmpP l[i].f0 l[a].f0 ≤ 0 := by
        rcases Nat.lt_or_ge i a with h3 | h3
        · have h4 : cmpP l[i].f0 l[a].f0 < 0 := List.pairwise_iff_getElem.1 h.sorted i a hil ha h3
          omega
        · obtain rfl : i = a := by omega
          rw [cmpP_self]; omega
      rw [decide_eq_true hil, fileAt_get l i hil, Bool.true_and]
      refine (inside_iff hgi hp).2 ⟨cmpL_prefix _ _ _ ((inside_iff (tree_good h hy) hp).1 hyp).1 (by show cmpP p l[i].f0 ≤ 0; omega) h2, fun e => ?_⟩
      have := elemsB_inj e
      rw [← this, cmpP_self] at h1; omega
    · intro hq
      simp only [Bool.and_eq_true, decide_eq_true_eq] at hq
      obtain ⟨hil, hq⟩ := hq
      rw [fileAt_get l i hil] at hq
      exact ⟨_, List.getElem_mem hil, hq⟩
  have hde := dirB_elems hp.1 hp.2.2
  have hab := above_iff h.sorted (p.size + 1) (dirB p) (by have := (dirB_size p).1; omega) (fun e hm => hp.2.2 e (by rw [hde] at hm; exact List.dropLast_subset _ hm))
  have hou : (∃ y ∈ l, insideB p y.f0 = true) ↔ aboveF l (p.size + 1) (dirB p) = true := by
    rw [hab, hde]
    constructor
    · rintro ⟨y, hy, hyp⟩
      obtain ⟨h1, h2⟩ := (inside_iff hp (tree_good h hy)).1 hyp
      exact ⟨y, hy, fun e => (tree_good h hy).1 (elemsB_nil.1 e), prefix_dropLast h1 h2⟩
    · rintro ⟨y, hy, h1, h2⟩
      refine ⟨y, hy, (inside_iff hp (tree_good h hy)).2 ⟨h2.trans (List.dropLast_prefix _), fun e => ?_⟩⟩
      rw [e] at h2
      have := h2.length_le
      rw [List.length_dropLast] at this
      have hne : elemsB p ≠ [] := fun e => hp.1 (elemsB_nil.1 e)
      have := List.length_pos_iff.2 hne
      omega
  unfold fitsF
  rw [← hi]
  simp only [Bool.and_eq_true, Bool.not_eq_true']
  constructor
  · rintro ⟨h1, h2⟩ y hy
    constructor
    · rw [Bool.eq_false_iff]; intro e
      have := hin.1 ⟨y, hy, e⟩
      rw [h1] at this; cases this
    · rw [Bool.eq_false_iff]; intro e
      have := hou.1 ⟨y, hy, e⟩
      rw [h2] at this; cases this
  · intro hall
    constructor
    · rw [Bool.eq_false_iff]; intro e
      obtain ⟨y, hy, e2⟩ := hin.2 e
      rw [(hall y hy).1] at e2; cases e2
    · rw [Bool.eq_false_iff]; intro e
      obtain ⟨y, hy, e2⟩ := hou.2 e
      rw [(hall y hy).2] at e2; cases e2
theorem putGo_done (x : File) : ∀ (l out : List File), putGo x l out true = if l.any (fun y => insideB y.f0 x.f0 || insideB x.f0 y.f0) then ([], 4) else (if 60 < (out ++ l.filter (fun y => !(y.f0.toList == x.f0.toList))).length then ([], 2) else (out ++ l.filter (fun y => !(y.f0.toList == x.f0.toList)), 0)) := by
  intro l
  induction l with
  | nil => intro out; simp [putGo]
  | cons y l ih =>
    intro out
    unfold putGo
    by_cases hq : (insideB y.f0 x.f0 || insideB x.f0 y.f0) = true
    · simp only [hq, if_true, List.any_cons, Bool.true_or]
    · rw [Bool.not_eq_true] at hq
      simp only [hq, Bool.false_eq_true, if_false, List.any_cons, Bool.false_or, Bool.not_true, Bool.false_and, Bool.or_false]
      rw [ih]
      by_cases he : y.f0.toList = x.f0.toList
      · simp [he]
      · simp [he]
theorem putGo_new (x : File) : ∀ (l out : List File), (∀ y ∈ l, cmpP y.f0 x.f0 < 0 → y.f0.toList ≠ x.f0.toList) → putGo x l out false = if l.any (fun y => insideB y.f0 x.f0 || insideB x.f0 y.f0) then ([], 4) else
    (if 60 < (out ++ (l.takeWhile (fun y => decide (cmpP y.f0 x.f0 < 0)) ++ x :: (l.dropWhile (fun y => decide (cmpP y.f0 x.f0 < 0))).filter (fun y => !(y.f0.toList == x.f0.toList)))).length then ([], 2) else (out ++ (l.takeWhile (fun y => decide (cmpP y.f0 x.f0 < 0)) ++ x :: (l.dropWhile (fun y => decide (cmpP y.f0 x.f0 < 0))).filter (fun y => !(y.f0.toList == x.f0.toList))), 0)) := by
  intro l
  induction l with
  | nil => intro out _; simp [putGo]
  | cons y l ih =>
    intro out hne
    unfold putGo
    by_cases hq : (insideB y.f0 x.f0 || insideB x.f0 y.f0) = true
    · simp only [hq, if_true, List.any_cons, Bool.true_or]
    · rw [Bool.not_eq_true] at hq
      simp only [hq, Bool.false_eq_true, if_false, List.any_cons, Bool.false_or, Bool.not_false, Bool.true_and]
      by_cases hc : cmpP y.f0 x.f0 < 0
      · have hd : decide (cmpP y.f0 x.f0 ≥ 0) = false := decide_eq_false (by omega)
        have hn := hne y List.mem_cons_self hc
        rw [hd]
        simp only [Bool.false_eq_true, if_false, if_neg hn]
        rw [ih _ (fun z hz => hne z (List.mem_cons_of_mem _ hz))]
        rw [List.takeWhile_cons_of_pos (by simpa using hc), List.dropWhile_cons_of_pos (by simpa using hc)]
        simp
      · have hd : decide (cmpP y.f0 x.f0 ≥ 0) = true := decide_eq_true (by omega)
        rw [hd]
        simp only [if_true]
        rw [putGo_done, List.takeWhile_cons_of_neg (by simpa using hc), List.dropWhile_cons_of_neg (by simpa using hc)]
        by_cases he : y.f0.toList = x.f0.toList
        · simp [he]
        · simp [he]
theorem takeWhile_low {α : Type} (P : α → Bool) : ∀ (l : List α) (i : Nat), i ≤ l.length → (∀ a (h : a < l.length), a < i → P l[a] = true) → (∀ a (h : a < l.length), i ≤ a → P l[a] = false) → l.takeWhile P = l.take i ∧ l.dropWhile P = l.drop i := by
  intro l
  induction l with
  | nil => intro i _ _ _; simp
  | cons y l ih =>
    intro i hi h1 h2
    cases i with
    | zero =>
      have := h2 0 (by simp) (Nat.le_refl _)
      simp only [List.getElem_cons_zero] at this
      rw [List.takeWhile_cons_of_neg (by simpa using this), List.dropWhile_cons_of_neg (by simpa using this)]
      simp
    | succ i =>
      have h0 := h1 0 (by simp) (by omega)
      simp only [List.getElem_cons_zero] at h0
      rw [List.takeWhile_cons_of_pos h0, List.dropWhile_cons_of_pos h0]
      obtain ⟨e1, e2⟩ := ih i (by simpa using hi) (fun a h ha => h1 (a + 1) (Nat.succ_lt_succ h) (by omega)) (fun a h ha => h2 (a + 1) (Nat.succ_lt_succ h) (by omega))
      rw [e1, e2]; simp
theorem low_split {l : List File} (hs : l.Pairwise Lt) (k : ByteArray) : l.takeWhile (fun y => decide (cmpP y.f0 k < 0)) = l.take (atI l k) ∧ l.dropWhile (fun y => decide (cmpP y.f0 k < 0)) = l.drop (atI l k) := by
  obtain ⟨h1, h2⟩ := at_low hs k
  exact takeWhile_low _ l _ (atI_le l k) (fun a h ha => decide_eq_true (h1 a h ha)) (fun a h ha => decide_eq_false (h2 a h ha))
theorem filter_eq {l : List File} (hs : l.Pairwise Lt) (x : File) : (l.drop (atI l x.f0)).filter (fun y => !(y.f0.toList == x.f0.toList)) = if atF l x.f0 then l.drop (atI l x.f0 + 1) else l.drop (atI l x.f0) := by
  have key : ∀ m : List File, (∀ y ∈ m, y.f0 ≠ x.f0) → m.filter (fun y => !(y.f0.toList == x.f0.toList)) = m := by
    intro m hm
    rw [List.filter_eq_self]
    intro y hy
    simp only [Bool.not_eq_true', beq_eq_false_iff_ne]
    exact fun e => hm y hy (bytes_eq e)
  by_cases ha : atF l x.f0 = true
  · rw [if_pos ha]
    obtain ⟨hl, he⟩ := atF_at ha
    rw [List.drop_eq_getElem_cons hl, List.filter_cons_of_neg (by simp [he])]
    refine key _ (fun y hy e => ?_)
    obtain ⟨j, hj, rfl⟩ := List.mem_iff_getElem.1 hy
    rw [List.getElem_drop] at e
    have hjl : atI l x.f0 + 1 + j < l.length := by rw [List.length_drop] at hj; omega
    have hlt : cmpP l[atI l x.f0].f0 l[atI l x.f0 + 1 + j].f0 < 0 := List.pairwise_iff_getElem.1 hs _ _ hl hjl (by omega)
    rw [he, e, cmpP_self] at hlt
    omega
  · rw [if_neg ha]
    refine key _ (fun y hy e => ha ((atF_iff hs x.f0).2 ⟨y, List.mem_of_mem_drop hy, e⟩))
theorem putF_eq {l : List File} (hs : l.Pairwise Lt) (x : File) : putF l x = l.take (atI l x.f0) ++ x :: (if atF l x.f0 then l.drop (atI l x.f0 + 1) else l.drop (atI l x.f0)) := by
  unfold putF
  split
  · rename_i ha
    obtain ⟨hl, he⟩ := atF_at ha
    rw [List.set_eq_take_append_cons_drop, if_pos hl]
  · rfl
theorem putR_eq {l : List File} (h : IsTree l) (x : File) : putR l x = if validB x.f0 = true then (if 4000 < x.f1.size then ([], 2) else if fitsF l x.f0 = true then (if 60 < (putF l x).length then ([], 2) else (putF l x, 0)) else ([], 4)) else ([], 10) := by
  unfold putR
  split
  · rename_i hv
    have hp := good_of_valid hv
    split
    · rfl
    · rw [putGo_new x l [] (fun y hy hc e => by rw [bytes_eq e, cmpP_self] at hc; omega)]
      obtain ⟨e1, e2⟩ := low_split h.sorted x.f0
      rw [e1, e2, filter_eq h.sorted x, List.nil_append, ← putF_eq h.sorted x]
      by_cases hf : fitsF l x.f0 = true
      · have := (fits_iff h.toTree0 hp).1 hf
        have hany : l.any (fun y => insideB y.f0 x.f0 || insideB x.f0 y.f0) = false := by
          rw [List.any_eq_false]
          intro y hy
          rw [(this y hy).1, (this y hy).2]; simp
        rw [hany, if_pos hf]; rfl
      · have hany : l.any (fun y => insideB y.f0 x.f0 || insideB x.f0 y.f0) = true := by
          rw [← Bool.not_eq_false]
          intro hany
          rw [List.any_eq_false] at hany
          refine hf ((fits_iff h.toTree0 hp).2 (fun y hy => ?_))
          have := hany y hy
          rw [Bool.not_eq_true, Bool.or_eq_false_iff] at this
          exact this
        rw [hany, if_neg hf]; rfl
  · rfl
theorem mem_putF {l : List File} (hs : l.Pairwise Lt) (x y : File) : y ∈ putF l x ↔ y = x ∨ (y ∈ l ∧ y.f0 ≠ x.f0) := by
  rw [putF_eq hs, ← filter_eq hs]
  simp only [List.mem_append, List.mem_cons, List.mem_filter, Bool.not_eq_true', beq_eq_false_iff_ne]
  have hsplit : y ∈ l ↔ y ∈ l.take (atI l x.f0) ∨ y ∈ l.drop (atI l x.f0) := by
    conv => lhs; rw [← List.take_append_drop (atI l x.f0) l]
    exact List.mem_append
  have hlow : y ∈ l.take (atI l x.f0) → y.f0 ≠ x.f0 := by
    intro hy e
    obtain ⟨a, ha, rfl⟩ := List.mem_iff_getElem.1 hy
    rw [List.getElem_take] at e
    have hal : a < l.length := by rw [List.length_take] at ha; omega
    have := (at_low hs x.f0).1 a hal (by rw [List.length_take] at ha; omega)
    rw [e, cmpP_self] at this; omega
  constructor
  · rintro (h | rfl | ⟨h, hn⟩)
    · exact .inr ⟨hsplit.2 (.inl h), hlow h⟩
    · exact .inl rfl
    · exact .inr ⟨hsplit.2 (.inr h), fun e => hn (by rw [e])⟩
  · rintro (rfl | ⟨h, hn⟩)
    · exact .inr (.inl rfl)
    · rcases hsplit.1 h with h | h
      · exact .inl h
      · exact .inr (.inr ⟨h, fun e => hn (bytes_eq e)⟩)
theorem sorted_putF {l : List File} (hs : l.Pairwise Lt) (x : File) : (putF l x).Pairwise Lt := by
  rw [putF_eq hs, ← filter_eq hs]
  obtain ⟨h1, h2⟩ := at_low hs x.f0
  refine List.pairwise_append.2 ⟨hs.sublist (List.take_sublist _ _), List.pairwise_cons.2 ⟨fun y hy => ?_, (hs.sublist (List.drop_sublist _ _)).filter _⟩, fun a ha b hb => ?_⟩
  · obtain ⟨hy, hn⟩ := List.mem_filter.1 hy
    simp only [Bool.not_eq_true', beq_eq_false_iff_ne] at hn
    obtain ⟨j, hj, rfl⟩ := List.mem_iff_getElem.1 hy
    have hjl : atI l x.f0 + j < l.length := by rw [List.length_drop] at hj; omega
    have hnl := h2 _ hjl (by omega)
    rw [List.getElem_drop] at hn ⊢
    have hz : cmpP l[atI l x.f0 + j].f0 x.f0 ≠ 0 := fun e => hn (by rw [(cmpP_zero _ _).1 e])
    show cmpP x.f0 _ < 0
    rw [cmpP_flip]; omega
  · obtain ⟨i, hi, rfl⟩ := List.mem_iff_getElem.1 ha
    have hil : i < l.length ∧ i < atI l x.f0 := by rw [List.length_take] at hi; omega
    rw [List.getElem_take]
    rcases List.mem_cons.1 hb with rfl | hb
    · exact h1 i hil.1 hil.2
    · obtain ⟨hb, _⟩ := List.mem_filter.1 hb
      obtain ⟨j, hj, rfl⟩ := List.mem_iff_getElem.1 hb
      rw [List.getElem_drop]
      exact List.pairwise_iff_getElem.1 hs _ _ hil.1 (by rw [List.length_drop] at hj; omega) (by omega)
theorem inside_self {p : ByteArray} (hp : Good p) : insideB p p = false := by
  rw [Bool.eq_false_iff]; intro h
  exact ((inside_iff hp hp).1 h).2 rfl
theorem tree0_putF {l : List File} (h : Tree0 l) (x : File) (hv : validB x.f0 = true) (hd : x.f1.size ≤ 4000) (hf : fitsF l x.f0 = true) : Tree0 (putF l x) := by
  have hp := good_of_valid hv
  have hall := (fits_iff h hp).1 hf
  refine ⟨sorted_putF h.sorted x, fun a ha b hb => ?_, fun a ha => ?_⟩
  · rcases (mem_putF h.sorted x a).1 ha with rfl | ⟨ha, _⟩
    · rcases (mem_putF h.sorted _ b).1 hb with rfl | ⟨hb, _⟩
      · exact inside_self hp
      · exact (hall b hb).2
    · rcases (mem_putF h.sorted x b).1 hb with hbx | ⟨hb, _⟩
      · rw [hbx]; exact (hall a ha).1
      · exact h.apart a ha b hb
  · rcases (mem_putF h.sorted x a).1 ha with rfl | ⟨ha, _⟩
    · exact ⟨hv, hd⟩
    · exact h.fine a ha
theorem tree_putF {l : List File} (h : IsTree l) (x : File) (hv : validB x.f0 = true) (hd : x.f1.size ≤ 4000) (hf : fitsF l x.f0 = true) (hn : (putF l x).length ≤ 60) : IsTree (putF l x) := ⟨tree0_putF h.toTree0 x hv hd hf, hn⟩
theorem tree_putR {l : List File} (h : IsTree l) (x : File) (h0 : (putR l x).2 = 0) : IsTree (putR l x).1 ∧ (putR l x).1 = putF l x ∧ validB x.f0 = true ∧ x.f1.size ≤ 4000 ∧ fitsF l x.f0 = true := by
  rw [putR_eq h] at h0 ⊢
  by_cases hv : validB x.f0 = true
  · rw [if_pos hv] at h0 ⊢
    by_cases hd : 4000 < x.f1.size
    · rw [if_pos hd] at h0; cases h0
    · rw [if_neg hd] at h0 ⊢
      by_cases hf : fitsF l x.f0 = true
      · rw [if_pos hf] at h0 ⊢
        by_cases hn : 60 < (putF l x).length
        · rw [if_pos hn] at h0; cases h0
        · rw [if_neg hn]
          exact ⟨tree_putF h x hv (by omega) hf (by omega), rfl, hv, by omega, hf⟩
      · rw [if_neg hf] at h0; cases h0
  · rw [if_neg hv] at h0; cases h0
theorem tree_nil : IsTree [] := ⟨⟨List.Pairwise.nil, by simp, by simp⟩, by simp⟩
theorem tree_grow (l : List File) : ∀ t : List File, IsTree t → IsTree (growGo t l) := by
  induction l with
  | nil => intro t h; exact h
  | cons x l ih =>
    intro t h
    unfold growGo
    split
    · rename_i h0
      exact ih _ (tree_putR h x h0).1
    · exact ih t h
theorem tree_grown (l : List File) : IsTree (grownB l) := tree_grow l [] tree_nil
theorem tree_small {t : List File} (h : IsTree t) : Small t ∧ shortAll t = true := by
  have h1 : t.length ≤ 1048576 := by have := h.short; omega
  have h2 : ∀ y ∈ t, y.f0.size ≤ 1048576 := fun y hy => by
    have := (h.fine y hy).1
    unfold validB at this
    simp only [Bool.and_eq_true, decide_eq_true_eq] at this
    omega
  refine ⟨⟨h1, h2⟩, ?_⟩
  unfold shortAll
  simp only [Bool.and_eq_true, decide_eq_true_eq, List.all_eq_true]
  exact ⟨h1, h2⟩
end Go.Proofs.Ytbbhmjokiejnmaa

