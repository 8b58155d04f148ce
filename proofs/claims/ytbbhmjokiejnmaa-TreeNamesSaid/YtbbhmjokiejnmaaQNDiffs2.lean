/- The law TreeDiffs: what the printed functions come to. -/
import Derived.Test.YtbbhmjokiejnmaaQNDiffs
import Derived.Test.YtbbhmjokiejnmaaQNPuts
namespace Go.Proofs.Ytbbhmjokiejnmaa
open Go Go.RowKit Go.Proofs.Ytbbhmjokiejnmaa.Hy Go.Proofs.YtbbhmjokiejnmaaW.PrintWords
set_option linter.unusedVariables false
def hasB (l : List ByteArray) (p : ByteArray) : Bool := l.any (fun q => q.toList == p.toList)
theorem hasB_iff (l : List ByteArray) (p : ByteArray) : hasB l p = true ↔ p ∈ l := by
  unfold hasB
  rw [List.any_eq_true]
  constructor
  · rintro ⟨q, hq, e⟩
    have e' : q = p := bytes_eq (by simpa using e)
    rw [← e']; exact hq
  · intro h; exact ⟨p, h, by simp⟩
theorem has_ev (l : List ByteArray) (p : ByteArray) (hl : l.length < 1099511627776) : Ev (fun k => graftbedref02_has.f k l p) (hasB l p) := by
  have h : ∀ (d i : Nat), i + d = l.length → Ev (fun k => graftbedref02_has.l0 k l p (i : Int)) (hasB (l.drop i) p) := by
    intro d
    induction d with
    | zero =>
      intro i hi
      rw [List.drop_eq_nil_of_le (by omega)]
      refine Ev.step (f := fun _ => some false) (fun k => ?_) (Ev.now _)
      simp only [graftbedref02_has.l0]; rw [if_neg (by omega)]
    | succ d ih =>
      intro i hi
      have hlt : i < l.length := by omega
      have hr := rdOf_nat l i hlt
      rw [List.drop_eq_getElem_cons hlt]
      have e : hasB (l[i] :: l.drop (i + 1)) p = (l[i].toList == p.toList || hasB (l.drop (i + 1)) p) := rfl
      rw [e]
      by_cases hq : l[i].toList = p.toList
      · refine Ev.step (f := fun _ => some true) (fun k => ?_) (by simpa [hq] using Ev.now true)
        simp only [graftbedref02_has.l0]; rw [if_pos (by omega), if_pos (by omega), hr, if_pos hq]
      · refine Ev.step (f := fun k => graftbedref02_has.l0 k l p ((i + 1 : Nat) : Int)) (fun k => ?_) ?_
        · simp only [graftbedref02_has.l0]; rw [if_pos (by omega), if_pos (by omega), hr, if_neg hq, wrap_i (by omega)]
        · have e2 : (l[i].toList == p.toList) = false := by simpa using hq
          rw [e2, Bool.false_or]; exact ih (i + 1) (by omega)
  have := h l.length 0 (by omega)
  rw [List.drop_zero] at this
  exact this
end Go.Proofs.Ytbbhmjokiejnmaa

