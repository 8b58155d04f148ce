/- Rows of files of the call's own, as cells; a copy of elements of any size. -/
import Derived.Test.YtbbhmjokiejnmaaQNFiles
import Derived.Laws.IdiomCopy
namespace Go.Proofs.Ytbbhmjokiejnmaa
open Go Go.RowKit Go.Proofs.Ytbbhmjokiejnmaa.Hy Go.Proofs.YtbbhmjokiejnmaaW.PrintWords
set_option linter.unusedVariables false
/-- The cells of files. -/
def cellsF : List File → List Value
  | [] => []
  | x :: l => .string x.f0 :: .string x.f1 :: cellsF l
theorem cellsF_length (l : List File) : (cellsF l).length = l.length * 2 := by
  induction l with
  | nil => rfl
  | cons x l ih => simp only [cellsF, List.length_cons, ih]; omega
theorem cellsF_append (l m : List File) : cellsF (l ++ m) = cellsF l ++ cellsF m := by
  induction l with
  | nil => rfl
  | cons x l ih => simp [cellsF, ih]
theorem cellsF_drop (l : List File) (i : Nat) : (cellsF l).drop (i * 2) = cellsF (l.drop i) := by
  induction l generalizing i with
  | nil => simp [cellsF]
  | cons x l ih =>
    cases i with
    | zero => rfl
    | succ i => rw [show (i + 1) * 2 = i * 2 + 2 from by omega]; simpa [cellsF] using ih i
theorem cellsF_take (l : List File) (i : Nat) : (cellsF l).take (i * 2) = cellsF (l.take i) := by
  induction l generalizing i with
  | nil => simp [cellsF]
  | cons x l ih =>
    cases i with
    | zero => rfl
    | succ i => rw [show (i + 1) * 2 = i * 2 + 2 from by omega]; simpa [cellsF] using ih i
theorem cellsF_one (l : List File) : ∀ u ∈ cellsF l, u.oneCell' = true := by
  induction l with
  | nil => simp [cellsF]
  | cons x l ih =>
    intro u hu
    simp only [cellsF, List.mem_cons] at hu
    rcases hu with rfl | rfl | hu
    · rfl
    · rfl
    · exact ih u hu
theorem reps_cellsF {R : File → List Value → Prop} (hR : ∀ x cs, R x cs → cs = [.string x.f0, .string x.f1]) : ∀ (l : List File) (cs : List Value), Reps R 2 l cs → cs = cellsF l := by
  intro l
  induction l with
  | nil => intro cs h; have := h.1; simp at this; subst this; rfl
  | cons x l ih =>
    intro cs h
    have hl := h.1
    have h0 := h.2 0 x rfl
    have h0 := hR _ _ h0
    simp only [Nat.zero_mul, List.drop_zero] at h0
    have ht : cs.drop 2 = cellsF l := by
      refine ih _ ⟨by rw [List.length_drop, hl]; simp only [List.length_cons]; omega, fun j p hj => ?_⟩
      have := h.2 (j + 1) p (by simpa using hj)
      rw [List.drop_drop, show 2 + j * 2 = (j + 1) * 2 from by omega]
      exact this
    rw [← List.take_append_drop 2 cs, ht, h0]
    rfl
theorem cellsF_reps {R : File → List Value → Prop} (hR : ∀ x : File, R x [.string x.f0, .string x.f1]) (l : List File) : Reps R 2 l (cellsF l) := by
  refine ⟨cellsF_length l, fun j p hj => ?_⟩
  rw [cellsF_drop]
  obtain ⟨hlt, rfl⟩ := List.getElem?_eq_some_iff.1 hj
  rw [List.drop_eq_getElem_cons hlt]
  exact hR _
abbrev OwnF (w : World) (base : Nat) (v : Value) (l : List File) : Prop := w.ownsRow base 29 2 v l.length (cellsF l)
theorem own_of_R {w : World} {base : Nat} {ok : Nat → Prop} {v : Value} {l : List File} (h : Kd.R k29 29 w base ok v l) : OwnF w base v l := by
  obtain ⟨_, inner, ho, hr⟩ := h
  have := reps_cellsF (fun x cs hx => k29_openM hx) l inner hr
  subst this
  exact ho
theorem R_of_ownF {w : World} {base : Nat} {ok : Nat → Prop} {v : Value} {l : List File} (h : OwnF w base v l) (hok : ∀ k, v.ownBlock = some k → ok k) : Kd.R k29 29 w base ok v l :=
  ⟨hok, cellsF l, h, cellsF_reps (fun x => k29_mkM w base _ x) l⟩
section
variable {P : Program}
theorem run_copyN (w : World) (dT sT ty elem : TypeId) (size : Nat) (b o dLen dCap : Nat) (a : Addr) (sLen sCap : Nat) (cs : List Value) (m : Nat)
    (hu : P.underlying dT = some (.slice elem)) (hs : (P.info? elem).map (·.size) = some size) (hm : m = Nat.min sLen dLen) (hn : cs.length = m * size)
    (hsrc : ∀ j v, cs[j]? = some v → w.cell? (a.add j) = some v) (hc : ∀ j, j < cs.length → (w.cell? ⟨b, o + j, none⟩).isSome = true) (hf : ∀ j, j < cs.length → w.frozen? ⟨b, o + j, none⟩ = false) (h1 : ∀ v ∈ cs, v.oneCell' = true) :
    (Builtin.copy_ #[dT, sT] ty #[.slice (some ⟨b, o, none⟩) dLen dCap, .slice (some a) sLen sCap]).run P w = .ok (goInt m) (w.setCells b o cs) := by
  have hl := run_loadCells_list (P := P) w a cs hsrc
  have hst := run_storeCells_cells (P := P) b o cs 0 w (by simpa using hc) (by simpa using hf) h1
  cases hq : P.info? elem with
  | none => simp [hq] at hs
  | some i =>
    have hi : i.size = size := by simpa [hq] using hs
    have hmn : m * size = Nat.min sLen dLen * size := by rw [hm]
    simp [Builtin.copy_, run_underlying hu, Builtin.lenOf, Builtin.firstCells, sizeOf, typeInfo, hq, hi, ← hm, ← hn, hl, hst]
end
end Go.Proofs.Ytbbhmjokiejnmaa

