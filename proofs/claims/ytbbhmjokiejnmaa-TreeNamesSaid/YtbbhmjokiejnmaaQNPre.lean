/- Small laws that the printed texts want: '>', '<=', '>=' on strings by '<' alone; a text held against the empty one. -/
import Derived.Laws.Strings
import Derived.WalkKit
namespace Go.Proofs.Ytbbhmjokiejnmaa
open Go
theorem bytesLess_flip (a b : List UInt8) : (!(Op.bytesLess a b || (a == b))) = Op.bytesLess b a := by
  induction a generalizing b with
  | nil => cases b <;> simp [Op.bytesLess]
  | cons x a ih =>
    cases b with
    | nil => simp [Op.bytesLess]
    | cons y b =>
      have h := ih b
      simp only [Op.bytesLess]
      by_cases e : x = y
      · subst e
        have h1 : decide (x < x) = false := by simp
        rw [h1, ← h]; simp
      · have e1 : (x == y) = false := by simpa using e
        have e2 : (y == x) = false := by simpa using fun h => e h.symm
        have e3 : (x :: a == y :: b) = false := by simp [e]
        rw [e1, e2, e3]
        simp only [Bool.false_and, Bool.or_false]
        rcases UInt8.lt_or_lt_of_ne e with h' | h'
        · have : ¬ y < x := UInt8.not_lt.2 (UInt8.le_of_lt h')
          simp [h', this]
        · have : ¬ x < y := UInt8.not_lt.2 (UInt8.le_of_lt h')
          simp [h', this]
@[go_sem] theorem binOp_gtr_flip (t : TypeId) (a b : ByteArray) : binOp .gtr t (.string a) (.string b) = pure (.bool (Op.bytesLess b.toList a.toList)) := by
  rw [← bytesLess_flip]; simp [binOp, Op.stringOp]
@[simp] theorem bne_nil_isEmpty (l : List UInt8) : (l != []) = !l.isEmpty := by cases l <;> rfl
end Go.Proofs.Ytbbhmjokiejnmaa

