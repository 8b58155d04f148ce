/- The law TreePuts, in plain words. -/
import Derived.Test.YtbbhmjokiejnmaaQNTree
import Derived.Test.YtbbhmjokiejnmaaQNHy13
namespace Go.Proofs.Ytbbhmjokiejnmaa
open Go Go.RowKit Go.Proofs.Ytbbhmjokiejnmaa.Hy Go.Proofs.YtbbhmjokiejnmaaW.PrintWords
set_option linter.unusedVariables false
theorem file_eq {x y : File} (h0 : x.f0.toList = y.f0.toList) (h1 : x.f1.toList = y.f1.toList) : x = y := by
  cases x; cases y; simp only [S29.mk.injEq]; exact ⟨bytes_eq h0, bytes_eq h1⟩
def sameB : List File → List File → Bool
  | [], [] => true
  | x :: a, y :: b => (x.f0.toList == y.f0.toList && x.f1.toList == y.f1.toList) && sameB a b
  | _, _ => false
theorem sameB_iff : ∀ a b : List File, sameB a b = true ↔ a = b
  | [], [] => by simp [sameB]
  | [], _ :: _ => by simp [sameB]
  | _ :: _, [] => by simp [sameB]
  | x :: a, y :: b => by
    simp only [sameB, Bool.and_eq_true, beq_iff_eq, sameB_iff a b, List.cons.injEq]
    constructor
    · rintro ⟨⟨h0, h1⟩, rfl⟩; exact ⟨file_eq h0 h1, rfl⟩
    · rintro ⟨rfl, rfl⟩; exact ⟨⟨rfl, rfl⟩, rfl⟩
theorem sameB_self (a : List File) : sameB a a = true := (sameB_iff a a).2 rfl
theorem sameB_len : ∀ a b : List File, a.length ≠ b.length → sameB a b = false := fun a b h => by
  rw [Bool.eq_false_iff]; intro e; exact h (by rw [(sameB_iff a b).1 e])
theorem same_ev (a b : List File) (ha : a.length < 1099511627776) : Ev (fun k => graftbedref02_Same.f k a b) (sameB a b) := by
  unfold graftbedref02_Same.f
  by_cases hl : a.length = b.length
  · refine Ev.congr (fun k => if_pos (by omega)) ?_
    have h : ∀ (d i : Nat), i + d = a.length → Ev (fun k => graftbedref02_Same.l0 k a b (i : Int)) (sameB (a.drop i) (b.drop i)) := by
      intro d
      induction d with
      | zero =>
        intro i hi
        rw [List.drop_eq_nil_of_le (by omega), List.drop_eq_nil_of_le (by omega)]
        refine Ev.step (f := fun _ => some _) (fun k => ?_) (Ev.now _)
        simp only [graftbedref02_Same.l0]; rw [if_neg (by omega)]; rfl
      | succ d ih =>
        intro i hi
        have h1 : i < a.length := by omega
        have h2 : i < b.length := by omega
        rw [List.drop_eq_getElem_cons h1, List.drop_eq_getElem_cons h2]
        refine Ev.step (f := fun k => if (!(a[i].f0.toList == b[i].f0.toList) || (!(a[i].f1.toList == b[i].f1.toList))) = true then some false else graftbedref02_Same.l0 k a b ((i + 1 : Nat) : Int)) (fun k => ?_) ?_
        · simp only [graftbedref02_Same.l0]
          rw [if_pos (by omega), if_pos (by omega), if_pos (by omega), rdT_nat a i h1, rdT_nat b i h2, wrap_i (by omega)]
        · simp only [sameB]
          cases (a[i].f0.toList == b[i].f0.toList) <;> cases (a[i].f1.toList == b[i].f1.toList) <;> first | exact Ev.now _ | (simpa using ih (i + 1) (by omega))
    have := h a.length 0 (by omega)
    rw [List.drop_zero, List.drop_zero] at this
    exact this
  · refine Ev.congr (fun k => if_neg (by omega)) ?_
    rw [sameB_len a b hl]
    exact Ev.now _
end Go.Proofs.Ytbbhmjokiejnmaa

