/- The law TreeNames, put together. -/
import Derived.Test.YtbbhmjokiejnmaaQNNamesP
namespace Go.Proofs.Ytbbhmjokiejnmaa
open Go Go.RowKit Go.Proofs.Ytbbhmjokiejnmaa.Hy Go.Proofs.YtbbhmjokiejnmaaW.PrintWords
set_option linter.unusedVariables false
/-- Two paths as one. -/
def joinB (a b : ByteArray) : ByteArray :=
  if a.data.toList = [] ∨ a.data.toList = [46] then b else if b.data.toList = [] ∨ b.data.toList = [46] then a else a ++ (⟨#[47]⟩ : ByteArray) ++ b
def underB (l : List File) (dir : ByteArray) : List File := l.map (fun f => ⟨joinB dir f.f0, f.f1⟩)
theorem slash_size : (⟨#[47]⟩ : ByteArray).size = 1 := rfl
theorem here_some (s : ByteArray) : paths_here.f s = some (decide (s.data.toList = [] ∨ s.data.toList = [46])) := by
  unfold paths_here.f
  simp only [Lib.toList_data]
  by_cases h1 : s.data.toList = []
  · rw [if_pos h1, decide_eq_true (Or.inl h1)]
  · rw [if_neg h1]
    by_cases h2 : s.data.toList = [46]
    · rw [decide_eq_true (Or.inr h2), h2]; rfl
    · rw [decide_eq_false (fun h => h.elim h1 h2)]
      have : (s.data.toList == [46]) = false := by simpa using h2
      rw [this]
theorem join_some (a b : ByteArray) (ha : a.size ≤ 1048576) (hb : b.size ≤ 1048576) : paths_Join.f a b = some (joinB a b) := by
  unfold paths_Join.f joinB
  rw [here_some, here_some]
  simp only [Option.bind_some]
  by_cases h1 : a.data.toList = [] ∨ a.data.toList = [46]
  · rw [if_pos h1, decide_eq_true h1, if_pos rfl]
  · rw [if_neg h1, decide_eq_false h1, if_neg (by simp)]
    by_cases h2 : b.data.toList = [] ∨ b.data.toList = [46]
    · rw [if_pos h2, decide_eq_true h2, if_pos rfl]
    · rw [if_neg h2, decide_eq_false h2, if_neg (by simp), if_pos (by omega), if_pos (by simp only [ByteArray.size_append, slash_size]; omega)]
theorem refJoin_ev (a b : ByteArray) (ha : a.size ≤ 1048576) (hb : b.size ≤ 1048576) : Ev (fun k => graftbedref01_Join.f k a b) (joinB a b) := by
  have hj : ∀ c : Bool, Ev (fun k => graftbedref01_Join.j0 k a b c) (if c = true then b else if b.data.toList = [] ∨ b.data.toList = [46] then a else a ++ (⟨#[47]⟩ : ByteArray) ++ b) := fun c => by
    refine Ev.step (f := fun _ => some _) (fun k => ?_) (Ev.now _)
    simp only [graftbedref01_Join.j0, Lib.toList_data]
    cases c with
    | true => rfl
    | false =>
      simp only [Bool.false_eq_true, if_false]
      by_cases h1 : b.data.toList = []
      · rw [if_pos h1, if_pos (Or.inl h1)]
      · rw [if_neg h1]
        by_cases h2 : b.data.toList = [46]
        · rw [if_pos h2, if_pos (Or.inr h2)]
        · rw [if_neg h2, if_pos (by omega), if_pos (by simp only [ByteArray.size_append, slash_size]; omega), if_neg (fun h => h.elim h1 h2)]
  unfold graftbedref01_Join.f joinB
  simp only [Lib.toList_data]
  by_cases h1 : a.data.toList = []
  · rw [if_pos (Or.inl h1)]
    exact Ev.congr (fun k => if_pos h1) (hj true)
  · by_cases h2 : a.data.toList = [46]
    · rw [if_pos (Or.inr h2)]
      refine Ev.congr (fun k => if_neg h1) ?_
      have h3 : (a.data.toList == [46]) = true := by simpa using h2
      rw [h3]
      exact hj true
    · rw [if_neg (fun h => h.elim h1 h2)]
      refine Ev.congr (fun k => if_neg h1) ?_
      have h3 : (a.data.toList == [46]) = false := by simpa using h2
      rw [h3]
      exact hj false
theorem treeUnder_at (l : List File) (dir : ByteArray) (hl : l.length ≤ 1048576) (hd : dir.size ≤ 1048576) (hls : ∀ y ∈ l, y.f0.size ≤ 1048576) : ∀ (d i : Nat) (out : List File), i + d = l.length → out.length ≤ i →
    Ev (fun k => tree_Under.l0 k dir out l (l.length : Int) (i : Int)) (out ++ underB (l.drop i) dir) := by
  intro d
  induction d with
  | zero =>
    intro i out hi ho
    rw [List.drop_eq_nil_of_le (by omega)]
    refine Ev.step (f := fun _ => some out) (fun k => ?_) (by simpa [underB] using Ev.now _)
    simp only [tree_Under.l0]
    rw [if_neg (by omega)]
  | succ d ih =>
    intro i out hi ho
    have hlt : i < l.length := by omega
    have hr := rdT_nat l i hlt
    rw [List.drop_eq_getElem_cons hlt]
    have hj := join_some dir l[i].f0 hd (hls _ (List.getElem_mem _))
    have hh := ih (i + 1) (out ++ [⟨joinB dir l[i].f0, l[i].f1⟩]) (by omega) (by simp; omega)
    have eu : underB (l[i] :: l.drop (i + 1)) dir = ⟨joinB dir l[i].f0, l[i].f1⟩ :: underB (l.drop (i + 1)) dir := rfl
    rw [eu, show out ++ (⟨joinB dir l[i].f0, l[i].f1⟩ : File) :: underB (l.drop (i + 1)) dir = (out ++ [⟨joinB dir l[i].f0, l[i].f1⟩]) ++ underB (l.drop (i + 1)) dir from by simp]
    refine Ev.step (f := fun k => tree_Under.l0 k dir (out ++ [(⟨joinB dir l[i].f0, l[i].f1⟩ : File)]) l (l.length : Int) ((i + 1 : Nat) : Int)) (fun k => ?_) hh
    simp only [tree_Under.l0]
    rw [if_pos (by omega), if_pos (by omega), if_pos (by omega), hr, hj]
    simp only [Option.bind_some]
    rw [if_pos (by omega), wrap_i (by omega)]
theorem treeUnder_ev (l : List File) (dir : ByteArray) (hl : l.length ≤ 1048576) (hd : dir.size ≤ 1048576) (hls : ∀ y ∈ l, y.f0.size ≤ 1048576) : Ev (fun k => tree_Under.f k l dir) (underB l dir) := by
  have := treeUnder_at l dir hl hd hls l.length 0 [] (by omega) (by simp)
  simpa [tree_Under.f] using this
theorem refUnder_at (l : List File) (dir : ByteArray) (hl : l.length ≤ 1048576) (hd : dir.size ≤ 1048576) (hls : ∀ y ∈ l, y.f0.size ≤ 1048576) : ∀ (d i : Nat) (out : List File), i + d = l.length → out.length ≤ i →
    Ev (fun k => graftbedref02_Under.l0 k l dir out (i : Int)) (out ++ underB (l.drop i) dir) := by
  intro d
  induction d with
  | zero =>
    intro i out hi ho
    rw [List.drop_eq_nil_of_le (by omega)]
    refine Ev.step (f := fun _ => some out) (fun k => ?_) (by simpa [underB] using Ev.now _)
    simp only [graftbedref02_Under.l0]
    rw [if_neg (by omega)]
  | succ d ih =>
    intro i out hi ho
    have hlt : i < l.length := by omega
    have hr := rdT_nat l i hlt
    rw [List.drop_eq_getElem_cons hlt]
    have hh := ih (i + 1) (out ++ [⟨joinB dir l[i].f0, l[i].f1⟩]) (by omega) (by simp; omega)
    have eu : underB (l[i] :: l.drop (i + 1)) dir = ⟨joinB dir l[i].f0, l[i].f1⟩ :: underB (l.drop (i + 1)) dir := rfl
    rw [eu, show out ++ (⟨joinB dir l[i].f0, l[i].f1⟩ : File) :: underB (l.drop (i + 1)) dir = (out ++ [⟨joinB dir l[i].f0, l[i].f1⟩]) ++ underB (l.drop (i + 1)) dir from by simp]
    refine Ev.step (f := fun k => (graftbedref01_Join.f k dir l[i].f0).bind fun t554 => graftbedref02_Under.l0 k l dir (out ++ [(⟨t554, l[i].f1⟩ : File)]) ((i + 1 : Nat) : Int)) (fun k => ?_) (Ev.bind (refJoin_ev dir _ hd (hls _ (List.getElem_mem _))) hh)
    simp only [graftbedref02_Under.l0]
    rw [if_pos (by omega), if_pos (by omega), hr, wrap_i (by omega)]
    simp only [show out.length < 4398046511104 from by omega, if_true]
theorem refUnder_ev (l : List File) (dir : ByteArray) (hl : l.length ≤ 1048576) (hd : dir.size ≤ 1048576) (hls : ∀ y ∈ l, y.f0.size ≤ 1048576) : Ev (fun k => graftbedref02_Under.f k l dir) (underB l dir) := by
  have := refUnder_at l dir hl hd hls l.length 0 [] (by omega) (by simp)
  simpa [graftbedref02_Under.f] using this
/-- What is set under a directory is within it. -/
theorem back_one (dir : ByteArray) (hd : dir.data.toList = [] ∨ Good dir) (f : File) (hf : Good f.f0) : subStep dir ⟨joinB dir f.f0, f.f1⟩ = some f := by
  have hne : f.f0.toList ≠ [] := by rw [Lib.toList_data]; exact hf.1
  have key : withinB (joinB dir f.f0) dir = (f.f0, true) := by
    rcases hd with h | h
    · unfold withinB joinB
      rw [if_pos (Or.inl h), if_pos (Or.inl h)]
    · have hn : ¬ (dir.data.toList = [] ∨ dir.data.toList = [46]) := fun e => e.elim h.1 h.2.1
      have hn2 : ¬ (f.f0.data.toList = [] ∨ f.f0.data.toList = [46]) := fun e => e.elim hf.1 hf.2.1
      unfold withinB joinB
      rw [if_neg hn, if_neg hn, if_neg hn2]
      have e1 : (dir ++ (⟨#[47]⟩ : ByteArray) ++ f.f0).data.toList = dir.data.toList ++ [47] ++ f.f0.data.toList := by simp
      rw [e1]
      rw [if_neg (fun e => by have := congrArg List.length e; simp at this), if_pos (by rw [List.isPrefixOf_iff_prefix]; exact List.prefix_append _ _)]
      congr 1
      refine WideShapes.bytes_inj ?_
      rw [Lib.extract_data, e1]
      have hl : (dir.data.toList ++ [47]).length = dir.size + 1 := by rw [Lib.size_eq]; simp
      rw [← hl, List.drop_left]
      refine List.take_of_length_le ?_
      simp only [ByteArray.size_append, slash_size]
      rw [← Lib.size_eq f.f0]
      omega
  unfold subStep
  simp only [key]
  rw [if_pos ⟨trivial, hne⟩]
theorem back_all (dir : ByteArray) (hd : dir.data.toList = [] ∨ Good dir) : ∀ (t : List File), (∀ f ∈ t, Good f.f0) → subB (underB t dir) dir = t := by
  intro t
  induction t with
  | nil => intro _; rfl
  | cons f t ih =>
    intro h
    unfold subB underB
    rw [List.map_cons, List.filterMap_cons, back_one dir hd f (h f List.mem_cons_self)]
    simp only
    congr 1
    exact ih (fun g hg => h g (List.mem_cons_of_mem _ hg))
theorem treeNames_ev (l : List File) (dir : ByteArray) : Ev (fun k => graftbedlaw02_TreeNames.f k l dir) true := by
  have hj1 : ∀ (t : List File), IsTree t → dir.size ≤ 1024 → ∀ b : Bool, (b = false → dir.data.toList = [] ∨ Good dir) → Ev (fun k => graftbedlaw02_TreeNames.j1 k dir t b) true := fun t ht hs b hb => by
    cases b with
    | true =>
      refine Ev.step (f := fun _ => some true) (fun k => ?_) (Ev.now _)
      simp only [graftbedlaw02_TreeNames.j1, shown_some]
      rfl
    | false =>
      have hd := hb rfl
      have h60 := ht.short
      obtain ⟨hsm, hsh⟩ := tree_small ht
      have hnm : tree_Names.f t dir = some (nGo (subB t dir) [] []) := by
        unfold tree_Names.f
        rw [if_pos hsh, if_pos (by omega), names_eq dir t [] [] List.Pairwise.nil List.Pairwise.nil]
      have hn1 := nGo_len (subB t dir) [] []
      have hn2 := nGo_len2 (subB t dir) [] []
      have hsl := subB_len t dir
      simp only [List.length_nil, Nat.zero_add] at hn1 hn2
      have hul : (underB t dir).length = t.length := by simp [underB]
      have hback := back_all dir hd t (fun f hf => tree_good ht.toTree0 hf)
      refine Ev.step (f := fun k => (graftbedref02_Names.f k t dir).bind fun bt573 => ((tree_Sub.f k t dir).bind fun t579 => ((tree_Under.f k t dir).bind fun t582 => ((graftbedlaw02_same.f k (nGo (subB t dir) [] []).1 bt573.1).bind fun t585 => (if t585 = true then ((graftbedlaw02_same.f k (nGo (subB t dir) [] []).2 bt573.2).bind fun t586 => (if t586 = true then ((graftbedref02_Sub.f k t dir).bind fun t587 => ((graftbedref02_Same.f k t579 t587).bind fun t590 => (if t590 = true then ((graftbedref02_Under.f k t dir).bind fun t591 => ((graftbedref02_Same.f k t582 t591).bind fun t594 => (graftbedlaw02_TreeNames.j2 k dir t (nGo (subB t dir) [] []).1 t579 t582 (!t594)))) else (graftbedlaw02_TreeNames.j2 k dir t (nGo (subB t dir) [] []).1 t579 t582 true)))) else (graftbedlaw02_TreeNames.j2 k dir t (nGo (subB t dir) [] []).1 t579 t582 true))) else (graftbedlaw02_TreeNames.j2 k dir t (nGo (subB t dir) [] []).1 t579 t582 true)))))) (fun k => ?_) ?_
      · simp only [graftbedlaw02_TreeNames.j1, Bool.false_eq_true, if_false, hnm, Option.bind_some]
      · refine Ev.bind (refNames_ev t dir (by omega) (by omega) hsm.2) ?_
        refine Ev.bind (treeSub_ev t dir (by omega) (by omega)) ?_
        refine Ev.bind (treeUnder_ev t dir (by omega) (by omega) hsm.2) ?_
        refine Ev.bind (sameT_ev _ _ rfl (by omega)) ?_
        rw [sameT_self]
        simp only [if_true]
        refine Ev.bind (sameT_ev _ _ rfl (by omega)) ?_
        rw [sameT_self]
        simp only [if_true]
        refine Ev.bind (refSub_ev t dir (by omega) (by omega) hsm.2) ?_
        refine Ev.bind (same_ev _ _ (by omega)) ?_
        rw [sameB_self]
        simp only [if_true]
        refine Ev.bind (refUnder_ev t dir (by omega) (by omega) hsm.2) ?_
        refine Ev.bind (same_ev _ _ (by omega)) ?_
        rw [sameB_self]
        refine Ev.step (f := fun k => (tree_Sub.f k (underB t dir) dir).bind fun t595 => ((graftbedref02_Same.f k t595 t).bind fun t598 => (if t598 = true then (some (decide (((nGo (subB t dir) [] []).1.length : Int) ≤ ((subB t dir).length : Int)))) else (some false)))) (fun k => ?_) ?_
        · simp only [graftbedlaw02_TreeNames.j2]
          rw [if_neg (by simp)]
        · refine Ev.bind (treeSub_ev _ dir (by omega) (by omega)) ?_
          rw [hback]
          refine Ev.bind (same_ev _ _ (by omega)) ?_
          rw [sameB_self]
          simp only [if_true]
          rw [decide_eq_true (by omega)]
          exact Ev.now _
  have hj : ∀ b : Bool, (b = false → Small l ∧ dir.size ≤ 1024) → Ev (fun k => graftbedlaw02_TreeNames.j0 k l dir b) true := fun b hb => by
    cases b with
    | true =>
      refine Ev.step (f := fun _ => some true) (fun k => ?_) (Ev.now _)
      simp only [graftbedlaw02_TreeNames.j0, shown_some]
      rfl
    | false =>
      obtain ⟨hs, hp⟩ := hb rfl
      have ht := tree_grown l
      have hg := grown_ev l hs
      generalize grownB l = t at ht hg
      refine Ev.step (f := fun k => (graftbedlaw02_grown.f k l).bind fun t562 => (if dir.toList = ([] : List UInt8) then (graftbedlaw02_TreeNames.j1 k dir t562 false) else ((graftbedref01_Valid.f k dir).bind fun t565 => (graftbedlaw02_TreeNames.j1 k dir t562 (!t565))))) (fun k => ?_) (Ev.bind hg ?_)
      · simp only [graftbedlaw02_TreeNames.j0, Bool.false_eq_true, if_false]
      · by_cases hd : dir.toList = []
        · simp only [if_pos hd]
          exact hj1 t ht hp false (fun _ => .inl (by rw [← Lib.toList_data]; exact hd))
        · simp only [if_neg hd]
          refine Ev.bind (valid_ev dir (by omega)) ?_
          refine hj1 t ht hp _ (fun h => .inr (good_of_valid ?_))
          simpa using h
  unfold graftbedlaw02_TreeNames.f
  refine Ev.bind (heavy_ev l) ?_
  cases hh : heavyB l with
  | true => exact hj true (by simp)
  | false =>
    simp only [Bool.false_eq_true, if_false]
    by_cases hp : (dir.size : Int) > 1024
    · simp only [if_pos hp]
      exact hj true (by simp)
    · simp only [if_neg hp, shown_some, Option.bind_some]
      exact hj false (fun _ => ⟨light_small hh, by omega⟩)
end Go.Proofs.Ytbbhmjokiejnmaa

