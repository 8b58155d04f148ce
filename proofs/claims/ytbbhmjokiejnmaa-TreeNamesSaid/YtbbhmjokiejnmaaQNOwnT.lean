/- Rows of names of the call's own, as cells. -/
import Derived.Test.YtbbhmjokiejnmaaQNOwn
import Derived.Test.YtbbhmjokiejnmaaQNAtT
import Derived.Laws.IdiomCopy
namespace Go.Proofs.Ytbbhmjokiejnmaa
open Go Go.RowKit Go.Proofs.Ytbbhmjokiejnmaa.Hy Go.Proofs.YtbbhmjokiejnmaaW.PrintWords
set_option linter.unusedVariables false
/-- The cells of names. -/
def cellsFT (l : List ByteArray) : List Value := l.map Value.string
theorem cellsFT_length (l : List ByteArray) : (cellsFT l).length = l.length := by simp [cellsFT]
theorem cellsFT_append (l m : List ByteArray) : cellsFT (l ++ m) = cellsFT l ++ cellsFT m := by simp [cellsFT]
theorem cellsFT_drop (l : List ByteArray) (i : Nat) : (cellsFT l).drop (i) = cellsFT (l.drop i) := by simp [cellsFT]
theorem cellsFT_take (l : List ByteArray) (i : Nat) : (cellsFT l).take (i) = cellsFT (l.take i) := by simp [cellsFT]
theorem cellsFT_one (l : List ByteArray) : ∀ u ∈ cellsFT l, u.oneCell' = true := by
  intro u hu
  obtain ⟨x, _, rfl⟩ := List.mem_map.1 hu
  rfl
abbrev OwnFT (w : World) (base : Nat) (v : Value) (l : List ByteArray) : Prop := w.ownsRow base 9 1 v l.length (cellsFT l)
theorem own_of_RT {w : World} {base : Nat} {ok : Nat → Prop} {v : Value} {l : List ByteArray} (h : Kd.R Kd.string 9 w base ok v l) : OwnFT w base v l := Kd.own_of_R h
theorem R_of_ownFT {w : World} {base : Nat} {ok : Nat → Prop} {v : Value} {l : List ByteArray} (h : OwnFT w base v l) (hok : ∀ k, v.ownBlock = some k → ok k) : Kd.R Kd.string 9 w base ok v l := Kd.R_of_own h hok
end Go.Proofs.Ytbbhmjokiejnmaa

