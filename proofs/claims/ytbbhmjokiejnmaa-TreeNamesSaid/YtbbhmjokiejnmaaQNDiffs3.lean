/- The law TreeDiffs, put together. -/
import Derived.Test.YtbbhmjokiejnmaaQNDiffs2
namespace Go.Proofs.Ytbbhmjokiejnmaa
open Go Go.RowKit Go.Proofs.Ytbbhmjokiejnmaa.Hy Go.Proofs.YtbbhmjokiejnmaaW.PrintWords
set_option linter.unusedVariables false
def sameT : List ByteArray → List ByteArray → Bool
  | [], [] => true
  | x :: a, y :: b => x.toList == y.toList && sameT a b
  | _, _ => false
theorem sameT_self : ∀ a : List ByteArray, sameT a a = true
  | [] => rfl
  | x :: a => by simp [sameT, sameT_self a]
theorem sameT_ev (a b : List ByteArray) (hl : a.length = b.length) (ha : a.length < 1099511627776) : Ev (fun k => graftbedlaw02_same.f k a b) (sameT a b) := by
  unfold graftbedlaw02_same.f
  refine Ev.congr (fun k => if_pos (by omega)) ?_
  have h : ∀ (d i : Nat), i + d = a.length → Ev (fun k => graftbedlaw02_same.l0 k a b (i : Int)) (sameT (a.drop i) (b.drop i)) := by
    intro d
    induction d with
    | zero =>
      intro i hi
      rw [List.drop_eq_nil_of_le (by omega), List.drop_eq_nil_of_le (by omega)]
      refine Ev.step (f := fun _ => some true) (fun k => ?_) (Ev.now _)
      simp only [graftbedlaw02_same.l0]; rw [if_neg (by omega)]
    | succ d ih =>
      intro i hi
      have h1 : i < a.length := by omega
      have h2 : i < b.length := by omega
      rw [List.drop_eq_getElem_cons h1, List.drop_eq_getElem_cons h2]
      have e : sameT (a[i] :: a.drop (i + 1)) (b[i] :: b.drop (i + 1)) = (a[i].toList == b[i].toList && sameT (a.drop (i + 1)) (b.drop (i + 1))) := rfl
      rw [e]
      by_cases hq : a[i].toList = b[i].toList
      · refine Ev.step (f := fun k => graftbedlaw02_same.l0 k a b ((i + 1 : Nat) : Int)) (fun k => ?_) ?_
        · simp only [graftbedlaw02_same.l0]
          rw [if_pos (by omega), if_pos (by omega), if_pos (by omega), rdOf_nat a i h1, rdOf_nat b i h2, if_pos hq, wrap_i (by omega)]
        · have e2 : (a[i].toList == b[i].toList) = true := by simpa using hq
          rw [e2, Bool.true_and]; exact ih (i + 1) (by omega)
      · refine Ev.step (f := fun _ => some false) (fun k => ?_) ?_
        · simp only [graftbedlaw02_same.l0]
          rw [if_pos (by omega), if_pos (by omega), if_pos (by omega), rdOf_nat a i h1, rdOf_nat b i h2, if_neg hq]
        · have e2 : (a[i].toList == b[i].toList) = false := by simpa using hq
          rw [e2, Bool.false_and]; exact Ev.now _
  have := h a.length 0 (by omega)
  rw [List.drop_zero, List.drop_zero] at this
  exact this
end Go.Proofs.Ytbbhmjokiejnmaa

