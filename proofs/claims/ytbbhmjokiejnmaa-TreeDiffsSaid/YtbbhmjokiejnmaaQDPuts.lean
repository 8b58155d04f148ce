/- The law TreePuts, in plain words. -/
import Derived.Test.YtbbhmjokiejnmaaQDTree
import Derived.Test.YtbbhmjokiejnmaaQDHy13
namespace Go.Proofs.Ytbbhmjokiejnmaa
open Go Go.RowKit Go.Proofs.Ytbbhmjokiejnmaa.Hy Go.Proofs.YtbbhmjokiejnmaaW.PrintWords
set_option linter.unusedVariables false
theorem file_eq {x y : File} (h0 : x.f0.toList = y.f0.toList) (h1 : x.f1.toList = y.f1.toList) : x = y := by
  cases x; cases y; simp only [S29.mk.injEq]; exact ⟨bytes_eq h0, bytes_eq h1⟩
def sameB : List File → List File → Bool
  | [], [] => true
  | x :: a, y :: b => (x.f0.toList == y.f0.toList && x.f1.toList == y.f1.toList) && sameB a b
  | _, _ => false
theorem sameB_iff : ∀ a b : List File, sameB a b = true ↔ a = b
  | [], [] => by simp [sameB]
  | [], _ :: _ => by simp [sameB]
  | _ :: _, [] => by simp [sameB]
  | x :: a, y :: b => by
    simp only [sameB, Bool.and_eq_true, beq_iff_eq, sameB_iff a b, List.cons.injEq]
    constructor
    · rintro ⟨⟨h0, h1⟩, rfl⟩; exact ⟨file_eq h0 h1, rfl⟩
    · rintro ⟨rfl, rfl⟩; exact ⟨⟨rfl, rfl⟩, rfl⟩
theorem sameB_self (a : List File) : sameB a a = true := (sameB_iff a a).2 rfl
theorem sameB_len : ∀ a b : List File, a.length ≠ b.length → sameB a b = false := fun a b h => by
  rw [Bool.eq_false_iff]; intro e; exact h (by rw [(sameB_iff a b).1 e])
end Go.Proofs.Ytbbhmjokiejnmaa

