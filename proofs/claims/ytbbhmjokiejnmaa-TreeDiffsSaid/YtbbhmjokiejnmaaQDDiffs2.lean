/- The law TreeDiffs: what the printed functions come to. -/
import Derived.Test.YtbbhmjokiejnmaaQDDiffs
import Derived.Test.YtbbhmjokiejnmaaQDPuts
namespace Go.Proofs.Ytbbhmjokiejnmaa
open Go Go.RowKit Go.Proofs.Ytbbhmjokiejnmaa.Hy Go.Proofs.YtbbhmjokiejnmaaW.PrintWords
set_option linter.unusedVariables false
theorem treeDiff_at : ∀ (n : Nat) (a b : List File) (out : List ByteArray), a.length + b.length ≤ n → (∀ y ∈ a, y.f0.size ≤ 1048576) → (∀ y ∈ b, y.f0.size ≤ 1048576) → out.length + a.length + b.length < 8796093022208 →
    Ev (fun k => tree_Diff.l0 k a b out) (out ++ diffN n a b) := by
  intro n
  induction n with
  | zero =>
    intro a b out h _ _ _
    obtain rfl : a = [] := List.eq_nil_of_length_eq_zero (by omega)
    obtain rfl : b = [] := List.eq_nil_of_length_eq_zero (by omega)
    refine Ev.step (f := fun k => tree_Diff.j1 k [] [] out false) (fun k => ?_) (Ev.step (f := fun _ => some out) (fun k => ?_) (by simpa [diffN] using Ev.now out))
    · simp only [tree_Diff.l0]; rfl
    · simp only [tree_Diff.j1]; rfl
  | succ n ih =>
    intro a b out h ha hb hl
    have hj1 : ∀ q, (a ≠ [] ∨ b ≠ []) → Ev (fun k => tree_Diff.j1 k a b out true) q → Ev (fun k => tree_Diff.l0 k a b out) q := fun q hne hq => by
      refine Ev.step (f := fun k => tree_Diff.j1 k a b out true) (fun k => ?_) hq
      simp only [tree_Diff.l0]
      cases a with
      | cons x a => rw [if_pos (by simp)]
      | nil =>
        cases b with
        | cons y b => rw [if_neg (by simp), decide_eq_true (by simp)]
        | nil => simp at hne
    cases a with
    | nil =>
      cases b with
      | nil =>
        refine Ev.step (f := fun k => tree_Diff.j1 k [] [] out false) (fun k => ?_) (Ev.step (f := fun _ => some out) (fun k => ?_) (by simpa [diffN] using Ev.now out))
        · simp only [tree_Diff.l0]; rfl
        · simp only [tree_Diff.j1]; rfl
      | cons y b =>
        refine hj1 _ (.inr (by simp)) (Ev.step (f := fun k => tree_Diff.j2 k [] (y :: b) out 1) (fun k => ?_) (Ev.step (f := fun k => tree_Diff.l0 k [] b (out ++ [y.f0])) (fun k => ?_) ?_))
        · simp only [tree_Diff.j1]; rfl
        · simp only [tree_Diff.j2]
          rw [if_neg (by decide), if_pos (by decide), if_pos (by simp only [List.length_cons]; omega), if_pos (by omega), if_pos (by simp only [List.length_cons]; omega)]
          rfl
        · have := ih [] b (out ++ [y.f0]) (by simp at h ⊢; omega) (by simp) (fun z hz => hb z (List.mem_cons_of_mem _ hz)) (by simp at hl ⊢; omega)
          simpa [diffN] using this
    | cons x a =>
      cases b with
      | nil =>
        refine hj1 _ (.inl (by simp)) (Ev.step (f := fun k => tree_Diff.j2 k (x :: a) [] out (-1)) (fun k => ?_) (Ev.step (f := fun k => tree_Diff.l0 k a [] (out ++ [x.f0])) (fun k => ?_) ?_))
        · simp only [tree_Diff.j1]; rw [if_pos trivial, if_neg (by simp; omega), if_pos (by simp)]
        · simp only [tree_Diff.j2]
          rw [if_pos (by decide), if_pos (by simp only [List.length_cons]; omega), if_pos (by omega), if_pos (by simp only [List.length_cons]; omega)]
          rfl
        · have := ih a [] (out ++ [x.f0]) (by simp at h ⊢; omega) (fun z hz => ha z (List.mem_cons_of_mem _ hz)) (by simp) (by simp at hl ⊢; omega)
          simpa [diffN] using this
      | cons y b =>
        simp only [List.length_cons] at h hl
        have e0 : rd_T29 (x :: a) 0 = x := rfl
        have e1 : rd_T29 (y :: b) 0 = y := rfl
        refine hj1 _ (.inl (by simp)) (Ev.step (f := fun k => (paths_Compare.f k x.f0 y.f0).bind fun t346 => tree_Diff.j2 k (x :: a) (y :: b) out t346) (fun k => ?_) (Ev.bind (paths_Compare_ev _ _ (ha x List.mem_cons_self) (hb y List.mem_cons_self)) ?_))
        · simp only [tree_Diff.j1]
          rw [if_pos trivial, if_neg (by simp; omega), if_neg (by simp; omega), if_pos (by simp), if_pos (by simp), e0, e1]
        · unfold diffN
          by_cases h1 : cmpP x.f0 y.f0 < 0
          · rw [if_pos h1]
            refine Ev.step (f := fun k => tree_Diff.l0 k a (y :: b) (out ++ [x.f0])) (fun k => ?_) ?_
            · simp only [tree_Diff.j2]
              rw [if_pos h1, if_pos (by simp only [List.length_cons]; omega), if_pos (by omega), if_pos (by simp only [List.length_cons]; omega), e0]
              rfl
            · have := ih a (y :: b) (out ++ [x.f0]) (by simp only [List.length_cons]; omega) (fun z hz => ha z (List.mem_cons_of_mem _ hz)) hb (by simp only [List.length_append, List.length_cons, List.length_nil]; omega)
              simpa using this
          · rw [if_neg h1]
            by_cases h2 : 0 < cmpP x.f0 y.f0
            · rw [if_pos h2]
              refine Ev.step (f := fun k => tree_Diff.l0 k (x :: a) b (out ++ [y.f0])) (fun k => ?_) ?_
              · simp only [tree_Diff.j2]
                rw [if_neg h1, if_pos h2, if_pos (by simp only [List.length_cons]; omega), if_pos (by omega), if_pos (by simp only [List.length_cons]; omega), e1]
                rfl
              · have := ih (x :: a) b (out ++ [y.f0]) (by simp only [List.length_cons]; omega) ha (fun z hz => hb z (List.mem_cons_of_mem _ hz)) (by simp only [List.length_append, List.length_cons, List.length_nil]; omega)
                simpa using this
            · rw [if_neg h2]
              by_cases hd : x.f1.toList = y.f1.toList
              · rw [if_pos hd]
                refine Ev.step (f := fun k => tree_Diff.l0 k a b out) (fun k => ?_) (ih a b out (by omega) (fun z hz => ha z (List.mem_cons_of_mem _ hz)) (fun z hz => hb z (List.mem_cons_of_mem _ hz)) (by omega))
                simp only [tree_Diff.j2]
                rw [if_neg h1, if_neg (by omega), if_pos (by simp only [List.length_cons]; omega), if_pos (by simp only [List.length_cons]; omega), e0, e1, if_pos hd, if_pos (by simp only [List.length_cons]; omega), if_pos (by simp only [List.length_cons]; omega)]
                rfl
              · rw [if_neg hd]
                refine Ev.step (f := fun k => tree_Diff.l0 k a b (out ++ [x.f0])) (fun k => ?_) ?_
                · simp only [tree_Diff.j2]
                  rw [if_neg h1, if_neg (by omega), if_pos (by simp only [List.length_cons]; omega), if_pos (by simp only [List.length_cons]; omega), e0, e1, if_neg hd, if_pos (by omega), if_pos (by simp only [List.length_cons]; omega), if_pos (by simp only [List.length_cons]; omega)]
                  rfl
                · have := ih a b (out ++ [x.f0]) (by omega) (fun z hz => ha z (List.mem_cons_of_mem _ hz)) (fun z hz => hb z (List.mem_cons_of_mem _ hz)) (by simp only [List.length_append, List.length_cons, List.length_nil]; omega)
                  simpa using this
theorem treeDiff_ev {a b : List File} (ha : Small a) (hb : Small b) : Ev (fun k => tree_Diff.f k a b) (diffB a b) := by
  have h1 := ha.1
  have h2 := hb.1
  have := treeDiff_at (a.length + b.length) a b [] (Nat.le_refl _) ha.2 hb.2 (by simp; omega)
  rw [List.nil_append] at this
  exact this
def insR (x : File) : List File → List File
  | [] => [x]
  | y :: l => if cmpP x.f0 y.f0 < 0 then x :: y :: l else y :: insR x l
def sortGo : List File → List File → List File
  | s, [] => s
  | s, x :: l => sortGo (insR x s) l
theorem insR_len (x : File) : ∀ l, (insR x l).length = l.length + 1
  | [] => rfl
  | y :: l => by unfold insR; split <;> simp [insR_len x l]
theorem insR_mem (x z : File) : ∀ l, z ∈ insR x l ↔ z = x ∨ z ∈ l
  | [] => by simp [insR]
  | y :: l => by
    unfold insR; split
    · simp
    · rw [List.mem_cons, insR_mem x z l, List.mem_cons]; constructor
      · rintro (h | h | h)
        · exact .inr (.inl h)
        · exact .inl h
        · exact .inr (.inr h)
      · rintro (h | h | h)
        · exact .inr (.inl h)
        · exact .inl h
        · exact .inr (.inr h)
def Le (a b : File) : Prop := cmpP a.f0 b.f0 ≤ 0
theorem cmpP_le_trans {a b c : ByteArray} (h1 : cmpP a b ≤ 0) (h2 : cmpP b c ≤ 0) : cmpP a c ≤ 0 := by
  by_cases e1 : cmpP a b = 0
  · rw [(cmpP_zero _ _).1 e1]; exact h2
  · by_cases e2 : cmpP b c = 0
    · rw [← (cmpP_zero _ _).1 e2]; exact h1
    · have := cmpP_trans (a := a) (b := b) (c := c) (by omega) (by omega); omega
theorem insR_sorted (x : File) : ∀ l, l.Pairwise Le → (insR x l).Pairwise Le
  | [], _ => by simp [insR]
  | y :: l, h => by
    obtain ⟨h1, h2⟩ := List.pairwise_cons.1 h
    unfold insR; split
    · rename_i hlt
      refine List.pairwise_cons.2 ⟨fun z hz => ?_, h⟩
      rcases List.mem_cons.1 hz with rfl | hz
      · show cmpP _ _ ≤ 0; omega
      · exact cmpP_le_trans (by omega : cmpP x.f0 y.f0 ≤ 0) (h1 z hz)
    · rename_i hlt
      refine List.pairwise_cons.2 ⟨fun z hz => ?_, insR_sorted x l h2⟩
      rcases (insR_mem x z l).1 hz with rfl | hz
      · show cmpP _ _ ≤ 0; rw [cmpP_flip]; omega
      · exact h1 z hz
theorem sortGo_mem (z : File) : ∀ l s, z ∈ sortGo s l ↔ z ∈ s ∨ z ∈ l
  | [], s => by simp [sortGo]
  | x :: l, s => by
    unfold sortGo
    rw [sortGo_mem z l, insR_mem, List.mem_cons]; constructor
    · rintro ((h | h) | h)
      · exact .inr (.inl h)
      · exact .inl h
      · exact .inr (.inr h)
    · rintro (h | h | h)
      · exact .inl (.inr h)
      · exact .inl (.inl h)
      · exact .inr h
theorem sortGo_sorted : ∀ l s : List File, s.Pairwise Le → (sortGo s l).Pairwise Le
  | [], s, h => h
  | x :: l, s, h => sortGo_sorted l _ (insR_sorted x s h)
theorem sort_l1 (l s : List File) (i : Nat) (hi : i < l.length) (hl : l.length ≤ 1099511627776) (hs : s.length ≤ 1099511627776) (hsz : ∀ y ∈ l, y.f0.size ≤ 1048576) (hss : ∀ y ∈ s, y.f0.size ≤ 1048576) (r : List File) :
    ∀ (d j : Nat) (now : List File) (done : Bool), j + d = s.length → now.length ≤ 2 * j → Ev (fun k => graftbedref02_Sort.l0 k l (now ++ if done = true then s.drop j else insR l[i] (s.drop j)) ((i + 1 : Nat) : Int)) r → Ev (fun k => graftbedref02_Sort.l1 k l s (i : Int) now done (j : Int)) r := by
  intro d
  induction d with
  | zero =>
    intro j now done hj hn hR
    rw [List.drop_eq_nil_of_le (by omega)] at hR
    have hr := rdT_nat l i hi
    cases done with
    | true =>
      refine Ev.step (f := fun k => graftbedref02_Sort.l0 k l now ((i + 1 : Nat) : Int)) (fun k => ?_) (by simpa using hR)
      simp only [graftbedref02_Sort.l1]
      rw [if_neg (by omega), if_pos trivial, wrap_i (by omega)]
    | false =>
      refine Ev.step (f := fun k => graftbedref02_Sort.l0 k l (now ++ [l[i]]) ((i + 1 : Nat) : Int)) (fun k => ?_) (by simpa [insR] using hR)
      simp only [graftbedref02_Sort.l1]
      rw [if_neg (by omega), if_neg (by simp), if_pos (by omega), if_pos (by omega), if_pos (by omega), hr, wrap_i (by omega)]
  | succ d ih =>
    intro j now done hj hn hR
    have hlt : j < s.length := by omega
    have hr := rdT_nat l i hi
    have hq := rdT_nat s j hlt
    rw [List.drop_eq_getElem_cons hlt] at hR
    cases done with
    | true =>
      refine Ev.step (f := fun k => graftbedref02_Sort.l1 k l s (i : Int) (now ++ [s[j]]) true ((j + 1 : Nat) : Int)) (fun k => ?_) (ih (j + 1) (now ++ [s[j]]) true (by omega) (by simp; omega) (by simpa using hR))
      simp only [graftbedref02_Sort.l1]
      rw [if_pos (by omega), if_pos trivial, if_pos (by omega), if_pos (by omega), hq, wrap_i (by omega)]
    | false =>
      refine Ev.step (f := fun k => (graftbedref01_Compare.f k l[i].f0 s[j].f0).bind fun t405 => if t405 < 0 then graftbedref02_Sort.l1 k l s (i : Int) (now ++ [l[i]] ++ [s[j]]) true ((j + 1 : Nat) : Int) else graftbedref02_Sort.l1 k l s (i : Int) (now ++ [s[j]]) false ((j + 1 : Nat) : Int)) (fun k => ?_) ?_
      · simp only [graftbedref02_Sort.l1]
        rw [if_pos (by omega), if_neg (by simp), if_pos (by omega), if_pos (by omega), if_pos (by omega), hr, hq, wrap_i (by omega)]
        have hn1 : now.length < 4398046511104 := by omega
        have hn2 : (now ++ [(⟨l[i].f0, l[i].f1⟩ : File)]).length < 4398046511104 := by simp; omega
        simp only [Option.bind_some]
        simp only [hn1, hn2, if_true]
      · have z1 := hsz l[i] (List.getElem_mem _)
        have z2 := hss s[j] (List.getElem_mem _)
        refine Ev.bind (refCompare_ev _ _ (by omega) (by omega)) ?_
        unfold insR at hR
        by_cases hc : cmpP l[i].f0 s[j].f0 < 0
        · simp only [if_pos hc]
          exact ih (j + 1) (now ++ [l[i]] ++ [s[j]]) true (by omega) (by simp; omega) (by simpa [hc] using hR)
        · simp only [if_neg hc]
          exact ih (j + 1) (now ++ [s[j]]) false (by omega) (by simp; omega) (by simpa [hc] using hR)
theorem sort_at (l : List File) (hl : l.length ≤ 1048576) (hsz : ∀ y ∈ l, y.f0.size ≤ 1048576) : ∀ (d i : Nat) (s : List File), i + d = l.length → s.length = i → (∀ y ∈ s, y.f0.size ≤ 1048576) → Ev (fun k => graftbedref02_Sort.l0 k l s (i : Int)) (sortGo s (l.drop i)) := by
  intro d
  induction d with
  | zero =>
    intro i s hi hs hss
    rw [List.drop_eq_nil_of_le (by omega)]
    refine Ev.step (f := fun _ => some s) (fun k => ?_) (Ev.now _)
    simp only [graftbedref02_Sort.l0]; rw [if_neg (by omega)]
  | succ d ih =>
    intro i s hi hs hss
    have hlt : i < l.length := by omega
    rw [List.drop_eq_getElem_cons hlt]
    refine Ev.step (f := fun k => graftbedref02_Sort.l1 k l s (i : Int) [] false 0) (fun k => ?_) ?_
    · simp only [graftbedref02_Sort.l0]; rw [if_pos (by omega)]
    · have h2 := ih (i + 1) (insR l[i] s) (by omega) (by rw [insR_len, hs]) (fun y hy => by
        rcases (insR_mem _ _ _).1 hy with rfl | hy
        · exact hsz _ (List.getElem_mem _)
        · exact hss y hy)
      exact sort_l1 l s i hlt (by omega) (by omega) hsz hss (sortGo (insR l[i] s) (l.drop (i + 1))) s.length 0 [] false (by omega) (by simp) (by simpa only [List.nil_append, List.drop_zero, Bool.false_eq_true, if_false] using h2)
def sortB (l : List File) : List File := sortGo [] l
theorem sort_ev (l : List File) (hl : l.length ≤ 1048576) (hsz : ∀ y ∈ l, y.f0.size ≤ 1048576) : Ev (fun k => graftbedref02_Sort.f k l) (sortB l) := by
  have := sort_at l hl hsz l.length 0 [] (by omega) rfl (by simp)
  rw [List.drop_zero] at this
  exact this
def hasB (l : List ByteArray) (p : ByteArray) : Bool := l.any (fun q => q.toList == p.toList)
theorem hasB_iff (l : List ByteArray) (p : ByteArray) : hasB l p = true ↔ p ∈ l := by
  unfold hasB
  rw [List.any_eq_true]
  constructor
  · rintro ⟨q, hq, e⟩
    have e' : q = p := bytes_eq (by simpa using e)
    rw [← e']; exact hq
  · intro h; exact ⟨p, h, by simp⟩
theorem has_ev (l : List ByteArray) (p : ByteArray) (hl : l.length < 1099511627776) : Ev (fun k => graftbedref02_has.f k l p) (hasB l p) := by
  have h : ∀ (d i : Nat), i + d = l.length → Ev (fun k => graftbedref02_has.l0 k l p (i : Int)) (hasB (l.drop i) p) := by
    intro d
    induction d with
    | zero =>
      intro i hi
      rw [List.drop_eq_nil_of_le (by omega)]
      refine Ev.step (f := fun _ => some false) (fun k => ?_) (Ev.now _)
      simp only [graftbedref02_has.l0]; rw [if_neg (by omega)]
    | succ d ih =>
      intro i hi
      have hlt : i < l.length := by omega
      have hr := rdOf_nat l i hlt
      rw [List.drop_eq_getElem_cons hlt]
      have e : hasB (l[i] :: l.drop (i + 1)) p = (l[i].toList == p.toList || hasB (l.drop (i + 1)) p) := rfl
      rw [e]
      by_cases hq : l[i].toList = p.toList
      · refine Ev.step (f := fun _ => some true) (fun k => ?_) (by simpa [hq] using Ev.now true)
        simp only [graftbedref02_has.l0]; rw [if_pos (by omega), if_pos (by omega), hr, if_pos hq]
      · refine Ev.step (f := fun k => graftbedref02_has.l0 k l p ((i + 1 : Nat) : Int)) (fun k => ?_) ?_
        · simp only [graftbedref02_has.l0]; rw [if_pos (by omega), if_pos (by omega), hr, if_neg hq, wrap_i (by omega)]
        · have e2 : (l[i].toList == p.toList) = false := by simpa using hq
          rw [e2, Bool.false_or]; exact ih (i + 1) (by omega)
  have := h l.length 0 (by omega)
  rw [List.drop_zero] at this
  exact this
theorem findB_look (l : List File) (p : ByteArray) : findB l p = match lookB l p with | none => (⟨#[]⟩, false) | some d => (d, true) := by
  unfold findB lookB
  cases l.find? (fun x => x.f0.toList == p.toList) <;> rfl
def rdGo (a b : List File) : List ByteArray → List File → List ByteArray
  | out, [] => out
  | out, x :: s => if lookB a x.f0 ≠ lookB b x.f0 ∧ hasB out x.f0 = false then rdGo a b (out ++ [x.f0]) s else rdGo a b out s
theorem refDiff_at (a b S : List File) (ha : a.length ≤ 1048576) (hb : b.length ≤ 1048576) (hS : S.length ≤ 2097152) : ∀ (d i : Nat) (out : List ByteArray), i + d = S.length → out.length ≤ i → Ev (fun k => graftbedref02_Diff.l0 k a b S out (i : Int)) (rdGo a b out (S.drop i)) := by
  intro d
  induction d with
  | zero =>
    intro i out hi ho
    rw [List.drop_eq_nil_of_le (by omega)]
    refine Ev.step (f := fun _ => some out) (fun k => ?_) (Ev.now _)
    simp only [graftbedref02_Diff.l0]; rw [if_neg (by omega)]
  | succ d ih =>
    intro i out hi ho
    have hlt : i < S.length := by omega
    have hr := rdT_nat S i hlt
    rw [List.drop_eq_getElem_cons hlt]
    obtain ⟨p, hp⟩ : ∃ p, S[i].f0 = p := ⟨_, rfl⟩
    have hpush : ∀ h : Bool, Ev (fun k => if h = true then graftbedref02_Diff.l0 k a b S out ((i + 1 : Nat) : Int) else graftbedref02_Diff.l0 k a b S (out ++ [p]) ((i + 1 : Nat) : Int)) (if h = true then rdGo a b out (S.drop (i + 1)) else rdGo a b (out ++ [p]) (S.drop (i + 1))) := fun h => by
      cases h with
      | true => exact ih (i + 1) out (by omega) (by omega)
      | false => exact ih (i + 1) (out ++ [p]) (by omega) (by simp; omega)
    refine Ev.step (f := fun k => (graftbedref02_Find.f k a p).bind fun bt439 => (graftbedref02_Find.f k b p).bind fun bt441 => if (bt439.2 != bt441.2) = true then (graftbedref02_has.f k out p).bind fun t443 => (if t443 = true then graftbedref02_Diff.l0 k a b S out ((i + 1 : Nat) : Int) else graftbedref02_Diff.l0 k a b S (out ++ [p]) ((i + 1 : Nat) : Int)) else if bt439.1.toList = bt441.1.toList then graftbedref02_Diff.l0 k a b S out ((i + 1 : Nat) : Int) else (graftbedref02_has.f k out p).bind fun t447 => (if t447 = true then graftbedref02_Diff.l0 k a b S out ((i + 1 : Nat) : Int) else graftbedref02_Diff.l0 k a b S (out ++ [p]) ((i + 1 : Nat) : Int))) (fun k => ?_) ?_
    · simp only [graftbedref02_Diff.l0]
      rw [if_pos (by omega), if_pos (by omega), hr, hp, wrap_i (by omega), if_pos (by omega)]
    · refine Ev.bind (refFind_ev a p (by omega)) (Ev.bind (refFind_ev b p (by omega)) ?_)
      have e1 : rdGo a b out (S[i] :: S.drop (i + 1)) = if lookB a p ≠ lookB b p ∧ hasB out p = false then rdGo a b (out ++ [p]) (S.drop (i + 1)) else rdGo a b out (S.drop (i + 1)) := by
        simp only [rdGo, hp]
      rw [e1, findB_look, findB_look]
      have hin := has_ev out p (by omega)
      have hgo : lookB a p ≠ lookB b p → Ev (fun k => (graftbedref02_has.f k out p).bind fun t443 => (if t443 = true then graftbedref02_Diff.l0 k a b S out ((i + 1 : Nat) : Int) else graftbedref02_Diff.l0 k a b S (out ++ [p]) ((i + 1 : Nat) : Int))) (if lookB a p ≠ lookB b p ∧ hasB out p = false then rdGo a b (out ++ [p]) (S.drop (i + 1)) else rdGo a b out (S.drop (i + 1))) := fun hne => by
        refine Ev.bind hin ?_
        have := hpush (hasB out p)
        cases hh : hasB out p with
        | true => rw [hh] at this; rw [if_neg (by simp)]; simpa using this
        | false => rw [hh] at this; rw [if_pos ⟨hne, rfl⟩]; simpa using this
      have hstay : lookB a p = lookB b p → Ev (fun k => graftbedref02_Diff.l0 k a b S out ((i + 1 : Nat) : Int)) (if lookB a p ≠ lookB b p ∧ hasB out p = false then rdGo a b (out ++ [p]) (S.drop (i + 1)) else rdGo a b out (S.drop (i + 1))) := fun he => by
        rw [if_neg (fun h => h.1 he)]
        exact ih (i + 1) out (by omega) (by omega)
      cases h1 : lookB a p with
      | none =>
        cases h2 : lookB b p with
        | none =>
          rw [h1, h2] at hstay
          simpa using hstay rfl
        | some y =>
          rw [h1, h2] at hgo
          simpa using hgo (by simp)
      | some x =>
        cases h2 : lookB b p with
        | none =>
          rw [h1, h2] at hgo
          simpa using hgo (by simp)
        | some y =>
          by_cases hxy : x.toList = y.toList
          · rw [h1, h2] at hstay
            have e : x = y := bytes_eq hxy
            subst e
            simpa using hstay rfl
          · rw [h1, h2] at hgo
            have hn : (some x : Option ByteArray) ≠ some y := fun e => hxy (by injection e with e; rw [e])
            have := hgo hn
            simp only [bne_self_eq_false, Bool.false_eq_true, if_false, if_neg hxy]
            exact this
theorem rdGo_spec (a b : List File) : ∀ (S : List File) (out : List ByteArray), S.Pairwise Le → out.Pairwise LtP → (∀ p ∈ out, ∀ x ∈ S, cmpP p x.f0 ≤ 0) → (rdGo a b out S).Pairwise LtP ∧ ∀ p, p ∈ rdGo a b out S ↔ p ∈ out ∨ (lookB a p ≠ lookB b p ∧ ∃ x ∈ S, x.f0 = p) := by
  intro S
  induction S with
  | nil => intro out _ ho _; exact ⟨ho, by simp [rdGo]⟩
  | cons x S ih =>
    intro out hs ho hle
    obtain ⟨hs1, hs2⟩ := List.pairwise_cons.1 hs
    unfold rdGo
    by_cases hc : lookB a x.f0 ≠ lookB b x.f0 ∧ hasB out x.f0 = false
    · rw [if_pos hc]
      have hno : x.f0 ∉ out := fun h => by have := (hasB_iff out x.f0).2 h; rw [hc.2] at this; cases this
      obtain ⟨r1, r2⟩ := ih (out ++ [x.f0]) hs2 (List.pairwise_append.2 ⟨ho, by simp, fun p hp q hq => by
          rw [List.mem_singleton.1 hq]
          have h1 := hle p hp x List.mem_cons_self
          have h2 : cmpP p x.f0 ≠ 0 := fun e => hno (by rw [← (cmpP_zero _ _).1 e]; exact hp)
          show cmpP p x.f0 < 0; omega⟩) (fun p hp y hy => by
          rcases List.mem_append.1 hp with hp | hp
          · exact hle p hp y (List.mem_cons_of_mem _ hy)
          · rw [List.mem_singleton.1 hp]; exact hs1 y hy)
      refine ⟨r1, fun p => ?_⟩
      rw [r2 p, List.mem_append, List.mem_singleton]
      constructor
      · rintro ((h | h) | ⟨h, y, hy, e⟩)
        · exact .inl h
        · exact .inr ⟨by rw [h]; exact hc.1, x, List.mem_cons_self, h.symm⟩
        · exact .inr ⟨h, y, List.mem_cons_of_mem _ hy, e⟩
      · rintro (h | ⟨h, y, hy, e⟩)
        · exact .inl (.inl h)
        · rcases List.mem_cons.1 hy with rfl | hy
          · exact .inl (.inr e.symm)
          · exact .inr ⟨h, y, hy, e⟩
    · rw [if_neg hc]
      obtain ⟨r1, r2⟩ := ih out hs2 ho (fun p hp y hy => hle p hp y (List.mem_cons_of_mem _ hy))
      refine ⟨r1, fun p => ?_⟩
      rw [r2 p]
      constructor
      · rintro (h | ⟨h, y, hy, e⟩)
        · exact .inl h
        · exact .inr ⟨h, y, List.mem_cons_of_mem _ hy, e⟩
      · rintro (h | ⟨h, y, hy, e⟩)
        · exact .inl h
        · rcases List.mem_cons.1 hy with rfl | hy
          · left
            rw [← e] at h ⊢
            rw [← hasB_iff]
            cases hh : hasB out y.f0 with
            | true => rfl
            | false => exact absurd ⟨h, hh⟩ hc
          · exact .inr ⟨h, y, hy, e⟩
theorem refDiff_ev {a b : List File} (ha : IsTree a) (hb : IsTree b) : Ev (fun k => graftbedref02_Diff.f k a b) (diffB a b) := by
  have h1 := ha.short
  have h2 := hb.short
  have hsa := (tree_small ha).1
  have hsb := (tree_small hb).1
  have hall : ∀ y ∈ a ++ b, y.f0.size ≤ 1048576 := fun y hy => (List.mem_append.1 hy).elim (hsa.2 y) (hsb.2 y)
  unfold graftbedref02_Diff.f
  simp only [Option.bind_some, List.nil_append]
  refine Ev.congr (fun k => by rw [if_pos (by simp; omega), if_pos (by omega)]) ?_
  refine Ev.bind (sort_ev (a ++ b) (by simp; omega) hall) ?_
  have hmem : ∀ z, z ∈ sortB (a ++ b) ↔ z ∈ a ++ b := fun z => by unfold sortB; rw [sortGo_mem]; simp
  have hlen : (sortB (a ++ b)).length ≤ 2097152 := by
    have : ∀ (l s : List File), (sortGo s l).length = s.length + l.length := by
      intro l
      induction l with
      | nil => intro s; rfl
      | cons x l ih => intro s; unfold sortGo; rw [ih, insR_len, List.length_cons]; omega
    unfold sortB; rw [this]; simp; omega
  have := refDiff_at a b (sortB (a ++ b)) (by omega) (by omega) hlen (sortB (a ++ b)).length 0 [] (by omega) (by simp)
  rw [List.drop_zero] at this
  obtain ⟨r1, r2⟩ := rdGo_spec a b (sortB (a ++ b)) [] (sortGo_sorted _ _ List.Pairwise.nil) List.Pairwise.nil (by simp)
  have e : rdGo a b [] (sortB (a ++ b)) = diffB a b := sorted_ext _ _ r1 (diff_sorted _ _ _ (Nat.le_refl _) ha.sorted hb.sorted) (fun p => by
    rw [r2 p]
    unfold diffB
    rw [diff_mem _ _ _ (Nat.le_refl _) ha.sorted hb.sorted]
    constructor
    · rintro (h | ⟨h, _⟩)
      · cases h
      · exact h
    · intro h
      refine .inr ⟨h, ?_⟩
      by_cases hn : lookB a p = none
      · obtain ⟨y, hy, e⟩ := look_mem (l := b) (p := p) (fun e => h (by rw [hn, e]))
        exact ⟨y, (hmem y).2 (List.mem_append_right _ hy), e⟩
      · obtain ⟨y, hy, e⟩ := look_mem hn
        exact ⟨y, (hmem y).2 (List.mem_append_left _ hy), e⟩)
  rw [e] at this
  exact this
end Go.Proofs.Ytbbhmjokiejnmaa

