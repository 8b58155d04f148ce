/- The law TreeNames, in plain words. -/
import Derived.Test.YtbbhmjokiejnmaaQNDiffs3
import Derived.Test.YtbbhmjokiejnmaaQNHy20
namespace Go.Proofs.Ytbbhmjokiejnmaa
open Go Go.RowKit Go.Proofs.Ytbbhmjokiejnmaa.Hy Go.Proofs.YtbbhmjokiejnmaaW.PrintWords
set_option linter.unusedVariables false
def LtB (a b : ByteArray) : Prop := cmpB a b < 0
theorem fileAtT_get (l : List ByteArray) (i : Nat) (h : i < l.length) : fileAtT l i = l[i] := rdOf_nat l i h
theorem bsT_low {l : List ByteArray} (hs : l.Pairwise LtB) (k : ByteArray) : ∀ (n i j : Nat), i ≤ j → j ≤ l.length → j - i ≤ n → (∀ a (h : a < l.length), a < i → cmpB l[a] k < 0) → (∀ a (h : a < l.length), j ≤ a → ¬ cmpB l[a] k < 0) →
    (∀ a (h : a < l.length), a < bsLT l k n i j → cmpB l[a] k < 0) ∧ (∀ a (h : a < l.length), bsLT l k n i j ≤ a → ¬ cmpB l[a] k < 0) := by
  intro n
  induction n with
  | zero =>
    intro i j hij hj hn h1 h2
    obtain rfl : i = j := by omega
    exact ⟨h1, h2⟩
  | succ n ih =>
    intro i j hij hj hn h1 h2
    unfold bsLT
    by_cases hlt : i < j
    · rw [if_pos hlt]
      have hm : (i + j) / 2 < l.length := by omega
      rw [rdOf_nat l _ hm]
      split
      · rename_i hc
        refine ih _ _ (by omega) hj (by omega) (fun a h ha => ?_) h2
        rcases Nat.lt_or_ge a ((i + j) / 2) with h3 | h3
        · exact cmpB_trans (List.pairwise_iff_getElem.1 hs a _ h hm h3) hc
        · obtain rfl : a = (i + j) / 2 := by omega
          exact hc
      · rename_i hc
        refine ih _ _ (by omega) (by omega) (by omega) h1 (fun a h ha hlt2 => ?_)
        rcases Nat.lt_or_ge ((i + j) / 2) a with h3 | h3
        · exact hc (cmpB_trans (List.pairwise_iff_getElem.1 hs _ a hm h h3) hlt2)
        · obtain rfl : a = (i + j) / 2 := by omega
          exact hc hlt2
    · rw [if_neg hlt]
      obtain rfl : i = j := by omega
      exact ⟨h1, h2⟩
theorem atT_low {l : List ByteArray} (hs : l.Pairwise LtB) (k : ByteArray) : (∀ a (h : a < l.length), a < atIT l k → cmpB l[a] k < 0) ∧ (∀ a (h : a < l.length), atIT l k ≤ a → ¬ cmpB l[a] k < 0) :=
  bsT_low hs k l.length 0 l.length (Nat.zero_le _) (Nat.le_refl _) (by omega) (fun a _ h => by omega) (fun a h h2 => by omega)
theorem atFT_at {l : List ByteArray} {k : ByteArray} (h : atFT l k = true) : ∃ hl : atIT l k < l.length, l[atIT l k] = k := by
  unfold atFT at h
  simp only [Bool.and_eq_true, decide_eq_true_eq, beq_iff_eq] at h
  refine ⟨h.1, ?_⟩
  have := h.2
  rw [fileAtT_get l _ h.1] at this
  exact (cmpB_zero _ _).1 this
theorem atFT_mem {l : List ByteArray} (hs : l.Pairwise LtB) (k : ByteArray) (hk : k ∈ l) : atFT l k = true := by
  obtain ⟨i, hi, rfl⟩ := List.mem_iff_getElem.1 hk
  obtain ⟨h1, h2⟩ := atT_low hs l[i]
  have e0 : cmpB l[i] l[i] = 0 := (cmpB_zero _ _).2 rfl
  have h3 : atIT l l[i] ≤ i := by
    rcases Nat.lt_or_ge i (atIT l l[i]) with h | h
    · have := h1 i hi h; omega
    · exact h
  have h4 : atIT l l[i] = i := by
    rcases Nat.lt_or_ge (atIT l l[i]) i with h | h
    · have hlt : cmpB l[atIT l l[i]] l[i] < 0 := List.pairwise_iff_getElem.1 hs _ i (by omega) hi h
      exact absurd hlt (h2 _ (by omega) (Nat.le_refl _))
    · omega
  unfold atFT
  rw [h4, fileAtT_get l i hi, e0, decide_eq_true hi]; rfl
/-- A name set ahead of the first that is greater. -/
def insLT (x : ByteArray) : List ByteArray → List ByteArray
  | [] => [x]
  | y :: l => if Op.bytesLess x.toList y.toList = true then x :: y :: l else y :: insLT x l
def putRT (l : List ByteArray) (x : ByteArray) : List ByteArray := if hasB l x = true then l else insLT x l
theorem insLT_low (x : ByteArray) : ∀ (l : List ByteArray) (i : Nat), i ≤ l.length → (∀ a (h : a < l.length), a < i → ¬ Op.bytesLess x.toList l[a].toList = true) → (∀ a (h : a < l.length), i ≤ a → Op.bytesLess x.toList l[a].toList = true) → insLT x l = l.take i ++ x :: l.drop i := by
  intro l
  induction l with
  | nil => intro i hi _ _; simp at hi; subst hi; rfl
  | cons y l ih =>
    intro i hi h1 h2
    cases i with
    | zero =>
      have := h2 0 (by simp) (Nat.le_refl _)
      simp only [List.getElem_cons_zero] at this
      unfold insLT; rw [if_pos this]; rfl
    | succ i =>
      have h0 := h1 0 (by simp) (by omega)
      simp only [List.getElem_cons_zero] at h0
      unfold insLT
      rw [if_neg h0, ih i (by simpa using hi) (fun a h ha => h1 (a + 1) (Nat.succ_lt_succ h) (by omega)) (fun a h ha => h2 (a + 1) (Nat.succ_lt_succ h) (by omega))]
      rfl
theorem insLT_mem (x z : ByteArray) : ∀ l, z ∈ insLT x l ↔ z = x ∨ z ∈ l
  | [] => by simp [insLT]
  | y :: l => by
    unfold insLT; split
    · simp
    · rw [List.mem_cons, insLT_mem x z l, List.mem_cons]; constructor
      · rintro (h | h | h)
        · exact .inr (.inl h)
        · exact .inl h
        · exact .inr (.inr h)
      · rintro (h | h | h)
        · exact .inr (.inl h)
        · exact .inl h
        · exact .inr (.inr h)
theorem insLT_len (x : ByteArray) : ∀ l, (insLT x l).length = l.length + 1
  | [] => rfl
  | y :: l => by unfold insLT; split <;> simp [insLT_len x l]
theorem insLT_sorted (x : ByteArray) : ∀ l : List ByteArray, x ∉ l → l.Pairwise LtB → (insLT x l).Pairwise LtB
  | [], _, _ => by simp [insLT]
  | y :: l, hx, hs => by
    obtain ⟨h1, h2⟩ := List.pairwise_cons.1 hs
    unfold insLT
    by_cases hl : Op.bytesLess x.toList y.toList = true
    · rw [if_pos hl]
      have hxy : cmpB x y < 0 := (cmpB_neg _ _).2 hl
      refine List.pairwise_cons.2 ⟨fun z hz => ?_, hs⟩
      rcases List.mem_cons.1 hz with rfl | hz
      · exact hxy
      · exact cmpB_trans hxy (h1 z hz)
    · rw [if_neg hl]
      refine List.pairwise_cons.2 ⟨fun z hz => ?_, insLT_sorted x l (fun h => hx (List.mem_cons_of_mem _ h)) h2⟩
      rcases (insLT_mem x z l).1 hz with rfl | hz
      · rcases bl_tri z.toList y.toList with h | h | h
        · exact absurd h hl
        · exact absurd (bytes_eq h) (fun e => hx (by rw [e]; exact List.mem_cons_self))
        · exact (cmpB_neg _ _).2 h
      · exact h1 z hz
theorem putRT_sorted {l : List ByteArray} (hs : l.Pairwise LtB) (x : ByteArray) : (putRT l x).Pairwise LtB := by
  unfold putRT
  split
  · exact hs
  · rename_i h
    exact insLT_sorted x l (fun hx => h ((hasB_iff l x).2 hx)) hs
theorem putRT_len (l : List ByteArray) (x : ByteArray) : (putRT l x).length ≤ l.length + 1 := by
  unfold putRT
  split
  · omega
  · rw [insLT_len]; omega
theorem putFT_eq {l : List ByteArray} (hs : l.Pairwise LtB) (x : ByteArray) : putFT l x = putRT l x := by
  unfold putFT putRT
  cases ha : atFT l x with
  | true =>
    obtain ⟨hl, he⟩ := atFT_at ha
    have hm : x ∈ l := by rw [← he]; exact List.getElem_mem _
    rw [if_pos rfl, if_pos ((hasB_iff l x).2 hm)]
    conv => lhs; rw [show l.set (atIT l x) x = l.set (atIT l x) l[atIT l x] from by rw [he]]
    exact List.set_getElem_self hl
  | false =>
    have hm : x ∉ l := fun h => by rw [atFT_mem hs x h] at ha; cases ha
    have hh : ¬ hasB l x = true := fun h => hm ((hasB_iff l x).1 h)
    simp only [Bool.false_eq_true, if_false]
    rw [if_neg hh]
    obtain ⟨h1, h2⟩ := atT_low hs x
    refine (insLT_low x l _ (atIT_le l x) (fun a h hlt hb => ?_) (fun a h hge => ?_)).symm
    · have := (cmpB_neg _ _).1 (h1 a h hlt)
      rw [bl_asymm hb] at this; cases this
    · rcases bl_tri x.toList l[a].toList with h3 | h3 | h3
      · exact h3
      · exact absurd (bytes_eq h3) (fun e => hm (by rw [e]; exact List.getElem_mem _))
      · exact absurd ((cmpB_neg _ _).2 h3) (h2 a h hge)
theorem refPutT_at (l : List ByteArray) (x : ByteArray) (hl : l.length ≤ 1048576) : ∀ (d i : Nat) (out : List ByteArray) (done : Bool), i + d = l.length → out.length ≤ 2 * i →
    Ev (fun k => graftbedref02_put.l0 k l x out done (i : Int)) (out ++ if done = true then l.drop i else insLT x (l.drop i)) := by
  intro d
  induction d with
  | zero =>
    intro i out done hi ho
    rw [List.drop_eq_nil_of_le (by omega)]
    cases done with
    | true =>
      refine Ev.step (f := fun _ => some out) (fun k => ?_) (by simpa using Ev.now _)
      simp only [graftbedref02_put.l0]
      rw [if_neg (by omega), if_pos trivial]
    | false =>
      refine Ev.step (f := fun _ => some (out ++ [x])) (fun k => ?_) (by simpa [insLT] using Ev.now _)
      simp only [graftbedref02_put.l0]
      rw [if_neg (by omega), if_neg (by simp), if_pos (by omega)]
  | succ d ih =>
    intro i out done hi ho
    have hlt : i < l.length := by omega
    have hr := rdOf_nat l i hlt
    rw [List.drop_eq_getElem_cons hlt]
    cases done with
    | true =>
      have h := ih (i + 1) (out ++ [l[i]]) true (by omega) (by simp; omega)
      refine Ev.step (f := fun k => graftbedref02_put.l0 k l x (out ++ [l[i]]) true ((i + 1 : Nat) : Int)) (fun k => ?_) (by simpa using h)
      simp only [graftbedref02_put.l0]
      rw [if_pos (by omega), if_pos trivial, if_pos (by omega), if_pos (by omega), hr, wrap_i (by omega)]
    | false =>
      by_cases hb : Op.bytesLess x.toList l[i].toList = true
      · have h := ih (i + 1) (out ++ [x] ++ [l[i]]) true (by omega) (by simp; omega)
        refine Ev.step (f := fun k => graftbedref02_put.l0 k l x (out ++ [x] ++ [l[i]]) true ((i + 1 : Nat) : Int)) (fun k => ?_) (by simpa [insLT, hb] using h)
        simp only [graftbedref02_put.l0]
        rw [if_pos (by omega), if_neg (by simp), if_pos (by omega), hr, if_pos hb, if_pos (by omega), wrap_i (by omega)]
        simp only [Option.bind_some]
        rw [if_pos (by simp; omega)]
      · have h := ih (i + 1) (out ++ [l[i]]) false (by omega) (by simp; omega)
        refine Ev.step (f := fun k => graftbedref02_put.l0 k l x (out ++ [l[i]]) false ((i + 1 : Nat) : Int)) (fun k => ?_) (by simpa [insLT, hb] using h)
        simp only [graftbedref02_put.l0]
        rw [if_pos (by omega), if_neg (by simp), if_pos (by omega), hr, if_neg hb, if_pos (by omega), wrap_i (by omega)]
theorem refPutT_ev (l : List ByteArray) (x : ByteArray) (hl : l.length ≤ 1048576) : Ev (fun k => graftbedref02_put.f k l x) (putRT l x) := by
  unfold graftbedref02_put.f putRT
  refine Ev.bind (has_ev l x (by omega)) ?_
  cases hh : hasB l x with
  | true => simpa using Ev.now l
  | false =>
    simp only [Bool.false_eq_true, if_false]
    have := refPutT_at l x hl l.length 0 [] false (by omega) (by simp)
    simpa using this
/-- What of a file stands in a directory. -/
def subStep (dir : ByteArray) (f : File) : Option File := if (withinB f.f0 dir).2 = true ∧ (withinB f.f0 dir).1.toList ≠ [] then some ⟨(withinB f.f0 dir).1, f.f1⟩ else none
def subB (l : List File) (dir : ByteArray) : List File := l.filterMap (subStep dir)
theorem treeSub_at (l : List File) (dir : ByteArray) (hl : l.length ≤ 1048576) (hd : dir.size < 4611686018427387904) : ∀ (d i : Nat) (out : List File), i + d = l.length → out.length ≤ i →
    Ev (fun k => tree_Sub.l0 k dir out l (l.length : Int) (i : Int)) (out ++ subB (l.drop i) dir) := by
  intro d
  induction d with
  | zero =>
    intro i out hi ho
    rw [List.drop_eq_nil_of_le (by omega)]
    refine Ev.step (f := fun _ => some out) (fun k => ?_) (by simpa [subB] using Ev.now _)
    simp only [tree_Sub.l0]
    rw [if_neg (by omega)]
  | succ d ih =>
    intro i out hi ho
    have hlt : i < l.length := by omega
    have hr := rdT_nat l i hlt
    rw [List.drop_eq_getElem_cons hlt]
    have hw := within_some l[i].f0 dir hd
    by_cases h : (withinB l[i].f0 dir).2 = true ∧ (withinB l[i].f0 dir).1.toList ≠ []
    · have e : subB (l[i] :: l.drop (i + 1)) dir = ⟨(withinB l[i].f0 dir).1, l[i].f1⟩ :: subB (l.drop (i + 1)) dir := by
        unfold subB; rw [List.filterMap_cons]; simp only [subStep, if_pos h]
      rw [e]
      have hh := ih (i + 1) (out ++ [⟨(withinB l[i].f0 dir).1, l[i].f1⟩]) (by omega) (by simp; omega)
      refine Ev.step (f := fun k => tree_Sub.l0 k dir (out ++ [(⟨(withinB l[i].f0 dir).1, l[i].f1⟩ : File)]) l (l.length : Int) ((i + 1 : Nat) : Int)) (fun k => ?_) (by simpa using hh)
      simp only [tree_Sub.l0]
      rw [if_pos (by omega), if_pos (by omega), if_pos (by omega), hr, hw]
      simp only [Option.bind_some]
      rw [if_pos h.1, if_neg h.2, if_pos (by omega), wrap_i (by omega)]
    · have e : subB (l[i] :: l.drop (i + 1)) dir = subB (l.drop (i + 1)) dir := by
        unfold subB; rw [List.filterMap_cons]; simp only [subStep, if_neg h]
      rw [e]
      refine Ev.step (f := fun k => tree_Sub.l0 k dir out l (l.length : Int) ((i + 1 : Nat) : Int)) (fun k => ?_) (ih (i + 1) out (by omega) (by omega))
      simp only [tree_Sub.l0]
      rw [if_pos (by omega), if_pos (by omega), if_pos (by omega), hr, hw]
      simp only [Option.bind_some]
      rw [wrap_i (by omega)]
      by_cases h1 : (withinB l[i].f0 dir).2 = true
      · rw [if_pos h1, if_pos (Decidable.not_not.1 (fun h2 => h ⟨h1, h2⟩))]
      · rw [if_neg h1]
theorem treeSub_ev (l : List File) (dir : ByteArray) (hl : l.length ≤ 1048576) (hd : dir.size < 4611686018427387904) : Ev (fun k => tree_Sub.f k l dir) (subB l dir) := by
  have := treeSub_at l dir hl hd l.length 0 [] (by omega) (by simp)
  simpa [tree_Sub.f] using this
theorem refSub_at (l : List File) (dir : ByteArray) (hl : l.length ≤ 1048576) (hd : dir.size < 1099511627776) (hls : ∀ y ∈ l, y.f0.size ≤ 1048576) : ∀ (d i : Nat) (out : List File), i + d = l.length → out.length ≤ i →
    Ev (fun k => graftbedref02_Sub.l0 k l dir out (i : Int)) (out ++ subB (l.drop i) dir) := by
  intro d
  induction d with
  | zero =>
    intro i out hi ho
    rw [List.drop_eq_nil_of_le (by omega)]
    refine Ev.step (f := fun _ => some out) (fun k => ?_) (by simpa [subB] using Ev.now _)
    simp only [graftbedref02_Sub.l0]
    rw [if_neg (by omega)]
  | succ d ih =>
    intro i out hi ho
    have hlt : i < l.length := by omega
    have hr := rdT_nat l i hlt
    rw [List.drop_eq_getElem_cons hlt]
    have hsz := hls l[i] (List.getElem_mem _)
    refine Ev.step (f := fun k => (graftbedref01_Within.f k l[i].f0 dir).bind fun bt481 => (if bt481.2 = true then (if bt481.1.toList = ([] : List UInt8) then (graftbedref02_Sub.l0 k l dir out ((i + 1 : Nat) : Int)) else (graftbedref02_Sub.l0 k l dir (out ++ [(⟨bt481.1, l[i].f1⟩ : File)]) ((i + 1 : Nat) : Int))) else (graftbedref02_Sub.l0 k l dir out ((i + 1 : Nat) : Int)))) (fun k => ?_) (Ev.bind (refWithin_ev l[i].f0 dir (by omega) hd) ?_)
    · simp only [graftbedref02_Sub.l0]
      rw [if_pos (by omega), if_pos (by omega), hr, wrap_i (by omega)]
      simp only [show out.length < 4398046511104 from by omega, if_true]
    · by_cases h : (withinB l[i].f0 dir).2 = true ∧ (withinB l[i].f0 dir).1.toList ≠ []
      · have e : subB (l[i] :: l.drop (i + 1)) dir = ⟨(withinB l[i].f0 dir).1, l[i].f1⟩ :: subB (l.drop (i + 1)) dir := by
          unfold subB; rw [List.filterMap_cons]; simp only [subStep, if_pos h]
        rw [e]
        have hh := ih (i + 1) (out ++ [⟨(withinB l[i].f0 dir).1, l[i].f1⟩]) (by omega) (by simp; omega)
        simp only [if_pos h.1, if_neg h.2]
        simpa using hh
      · have e : subB (l[i] :: l.drop (i + 1)) dir = subB (l.drop (i + 1)) dir := by
          unfold subB; rw [List.filterMap_cons]; simp only [subStep, if_neg h]
        rw [e]
        have hh := ih (i + 1) out (by omega) (by omega)
        by_cases h1 : (withinB l[i].f0 dir).2 = true
        · have h2 : (withinB l[i].f0 dir).1.toList = [] := Decidable.not_not.1 (fun h2 => h ⟨h1, h2⟩)
          simp only [if_pos h1, if_pos h2]
          exact hh
        · simp only [if_neg h1]
          exact hh
theorem refSub_ev (l : List File) (dir : ByteArray) (hl : l.length ≤ 1048576) (hd : dir.size < 1099511627776) (hls : ∀ y ∈ l, y.f0.size ≤ 1048576) : Ev (fun k => graftbedref02_Sub.f k l dir) (subB l dir) := by
  have := refSub_at l dir hl hd hls l.length 0 [] (by omega) (by simp)
  simpa [graftbedref02_Sub.f] using this
theorem subB_len (l : List File) (dir : ByteArray) : (subB l dir).length ≤ l.length := List.length_filterMap_le _ _
theorem subB_sizes (l : List File) (dir : ByteArray) (h : ∀ y ∈ l, y.f0.size ≤ 1048576) : ∀ y ∈ subB l dir, y.f0.size ≤ 1048576 := by
  intro y hy
  obtain ⟨f, hf, he⟩ := List.mem_filterMap.1 hy
  unfold subStep at he
  split at he
  · injection he with he
    subst he
    have h1 := h f hf
    have h2 := within_size f.f0 dir
    simp only
    omega
  · cases he
/-- The reference's names. -/
def nGo : List File → List ByteArray → List ByteArray → List ByteArray × List ByteArray
  | [], own, dirs => (own, dirs)
  | f :: l, own, dirs =>
    if (elemsB f.f0).length = 1 then nGo l (putRT own (rdOf ByteArray.empty (elemsB f.f0) 0)) dirs
    else if 1 < (elemsB f.f0).length then nGo l own (putRT dirs (rdOf ByteArray.empty (elemsB f.f0) 0)) else nGo l own dirs
theorem refNames_at (l : List File) (hl : l.length ≤ 1048576) (hls : ∀ y ∈ l, y.f0.size ≤ 1048576) : ∀ (d i : Nat) (own dirs : List ByteArray), i + d = l.length → own.length ≤ i → dirs.length ≤ i →
    Ev (fun k => graftbedref02_Names.l0 k own dirs l (i : Int)) (nGo (l.drop i) own dirs) := by
  intro d
  induction d with
  | zero =>
    intro i own dirs hi ho hd
    rw [List.drop_eq_nil_of_le (by omega)]
    refine Ev.step (f := fun _ => some (own, dirs)) (fun k => ?_) (Ev.now _)
    simp only [graftbedref02_Names.l0]
    rw [if_neg (by omega)]
  | succ d ih =>
    intro i own dirs hi ho hd
    have hlt : i < l.length := by omega
    have hr := rdT_nat l i hlt
    rw [List.drop_eq_getElem_cons hlt]
    have hsz := hls l[i] (List.getElem_mem _)
    have hel := elems_ev l[i].f0 (by omega)
    unfold nGo
    generalize elemsB l[i].f0 = e at hel ⊢
    have p1 := putRT_len own (rdOf ByteArray.empty e 0)
    have p2 := putRT_len dirs (rdOf ByteArray.empty e 0)
    by_cases h1 : e.length = 1
    · rw [if_pos h1]
      refine Ev.step (f := fun k => (graftbedref01_Elems.f k l[i].f0).bind fun t520 => (if (t520.length : Int) = 1 then (if 0 < (t520.length : Int) then ((graftbedref02_put.f k own (rdOf ByteArray.empty t520 0)).bind fun t524 => (if (t520.length : Int) > 1 then ((graftbedref02_put.f k dirs (rdOf ByteArray.empty t520 0)).bind fun t528 => (graftbedref02_Names.l0 k t524 t528 l ((i + 1 : Nat) : Int))) else (graftbedref02_Names.l0 k t524 dirs l ((i + 1 : Nat) : Int)))) else (none)) else (if (t520.length : Int) > 1 then (if 0 < (t520.length : Int) then ((graftbedref02_put.f k dirs (rdOf ByteArray.empty t520 0)).bind fun t532 => (graftbedref02_Names.l0 k own t532 l ((i + 1 : Nat) : Int))) else (none)) else (graftbedref02_Names.l0 k own dirs l ((i + 1 : Nat) : Int))))) (fun k => ?_) (Ev.bind hel ?_)
      · simp only [graftbedref02_Names.l0]
        rw [if_pos (by omega), if_pos (by omega), hr, wrap_i (by omega)]
      · simp only [if_pos (show (e.length : Int) = 1 from by omega), if_pos (show 0 < (e.length : Int) from by omega), if_neg (show ¬ (e.length : Int) > 1 from by omega)]
        refine Ev.bind (refPutT_ev own _ (by omega)) ?_
        exact ih (i + 1) _ dirs (by omega) (by omega) (by omega)
    · rw [if_neg h1]
      refine Ev.step (f := fun k => (graftbedref01_Elems.f k l[i].f0).bind fun t520 => (if (t520.length : Int) = 1 then (if 0 < (t520.length : Int) then ((graftbedref02_put.f k own (rdOf ByteArray.empty t520 0)).bind fun t524 => (if (t520.length : Int) > 1 then ((graftbedref02_put.f k dirs (rdOf ByteArray.empty t520 0)).bind fun t528 => (graftbedref02_Names.l0 k t524 t528 l ((i + 1 : Nat) : Int))) else (graftbedref02_Names.l0 k t524 dirs l ((i + 1 : Nat) : Int)))) else (none)) else (if (t520.length : Int) > 1 then (if 0 < (t520.length : Int) then ((graftbedref02_put.f k dirs (rdOf ByteArray.empty t520 0)).bind fun t532 => (graftbedref02_Names.l0 k own t532 l ((i + 1 : Nat) : Int))) else (none)) else (graftbedref02_Names.l0 k own dirs l ((i + 1 : Nat) : Int))))) (fun k => ?_) (Ev.bind hel ?_)
      · simp only [graftbedref02_Names.l0]
        rw [if_pos (by omega), if_pos (by omega), hr, wrap_i (by omega)]
      · simp only [if_neg (show ¬ (e.length : Int) = 1 from by omega)]
        by_cases h2 : 1 < e.length
        · rw [if_pos h2]
          simp only [if_pos (show (e.length : Int) > 1 from by omega), if_pos (show 0 < (e.length : Int) from by omega)]
          refine Ev.bind (refPutT_ev dirs _ (by omega)) ?_
          exact ih (i + 1) own _ (by omega) (by omega) (by omega)
        · rw [if_neg h2]
          simp only [if_neg (show ¬ (e.length : Int) > 1 from by omega)]
          exact ih (i + 1) own dirs (by omega) (by omega) (by omega)
theorem refNames_ev (l : List File) (dir : ByteArray) (hl : l.length ≤ 1048576) (hd : dir.size < 1099511627776) (hls : ∀ y ∈ l, y.f0.size ≤ 1048576) : Ev (fun k => graftbedref02_Names.f k l dir) (nGo (subB l dir) [] []) := by
  unfold graftbedref02_Names.f
  refine Ev.bind (refSub_ev l dir hl hd hls) ?_
  have h1 := subB_len l dir
  have := refNames_at (subB l dir) (by omega) (subB_sizes l dir hls) (subB l dir).length 0 [] [] (by omega) (by simp) (by simp)
  simpa using this
theorem names_eq (dir : ByteArray) : ∀ (l : List File) (own dirs : List ByteArray), own.Pairwise LtB → dirs.Pairwise LtB → namesGo dir l own dirs = nGo (subB l dir) own dirs := by
  intro l
  induction l with
  | nil => intro own dirs _ _; rfl
  | cons f l ih =>
    intro own dirs ho hd
    unfold namesGo
    by_cases h : (withinB f.f0 dir).2 = true ∧ (withinB f.f0 dir).1.toList ≠ []
    · rw [if_pos h]
      have e : subB (f :: l) dir = ⟨(withinB f.f0 dir).1, f.f1⟩ :: subB l dir := by
        unfold subB; rw [List.filterMap_cons]; simp only [subStep, if_pos h]
      rw [e]
      unfold nGo
      generalize (withinB f.f0 dir).1 = p at h
      have hel : elemsB p = (cutB 47 p).1 :: (if (cutB 47 p).2.2 then splitB 47 (cutB 47 p).2.1 else []) := by
        rw [← splitB_cut]
        unfold elemsB
        rw [if_neg (fun e => h.2 (by rw [Lib.toList_data]; exact e))]
      simp only [hel]
      have h0 : rdOf ByteArray.empty ((cutB 47 p).1 :: (if (cutB 47 p).2.2 = true then splitB 47 (cutB 47 p).2.1 else [])) 0 = (cutB 47 p).1 := rfl
      rw [h0]
      cases hm : (cutB 47 p).2.2 with
      | true =>
        have hne := splitB_ne 47 (cutB 47 p).2.1
        have hpos : 0 < (splitB 47 (cutB 47 p).2.1).length := List.length_pos_iff.2 hne
        simp only [if_true]
        rw [if_neg (by simp only [List.length_cons]; omega), if_pos (by simp only [List.length_cons]; omega), putFT_eq hd]
        exact ih _ _ ho (putRT_sorted hd _)
      | false =>
        simp only [Bool.false_eq_true, if_false]
        rw [if_pos (show [(cutB 47 p).1].length = 1 from rfl), putFT_eq ho]
        exact ih _ _ (putRT_sorted ho _) hd
    · rw [if_neg h]
      have e : subB (f :: l) dir = subB l dir := by
        unfold subB; rw [List.filterMap_cons]; simp only [subStep, if_neg h]
      rw [e]
      exact ih own dirs ho hd
theorem nGo_len : ∀ (l : List File) (own dirs : List ByteArray), (nGo l own dirs).1.length ≤ own.length + l.length := by
  intro l
  induction l with
  | nil => intro own dirs; simp [nGo]
  | cons f l ih =>
    intro own dirs
    unfold nGo
    split
    · have := ih (putRT own (rdOf ByteArray.empty (elemsB f.f0) 0)) dirs
      have := putRT_len own (rdOf ByteArray.empty (elemsB f.f0) 0)
      simp only [List.length_cons]; omega
    · split
      · have := ih own (putRT dirs (rdOf ByteArray.empty (elemsB f.f0) 0))
        simp only [List.length_cons]; omega
      · have := ih own dirs
        simp only [List.length_cons]; omega
theorem nGo_len2 : ∀ (l : List File) (own dirs : List ByteArray), (nGo l own dirs).2.length ≤ dirs.length + l.length := by
  intro l
  induction l with
  | nil => intro own dirs; simp [nGo]
  | cons f l ih =>
    intro own dirs
    unfold nGo
    split
    · have := ih (putRT own (rdOf ByteArray.empty (elemsB f.f0) 0)) dirs
      simp only [List.length_cons]; omega
    · split
      · have := ih own (putRT dirs (rdOf ByteArray.empty (elemsB f.f0) 0))
        have := putRT_len dirs (rdOf ByteArray.empty (elemsB f.f0) 0)
        simp only [List.length_cons]; omega
      · have := ih own dirs
        simp only [List.length_cons]; omega
end Go.Proofs.Ytbbhmjokiejnmaa

