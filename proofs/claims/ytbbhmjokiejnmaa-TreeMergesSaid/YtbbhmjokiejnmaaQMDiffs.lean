/- The law TreeDiffs, in plain words. -/
import Derived.Test.YtbbhmjokiejnmaaQMTree
import Derived.Test.YtbbhmjokiejnmaaQMHy17
namespace Go.Proofs.Ytbbhmjokiejnmaa
open Go Go.RowKit Go.Proofs.Ytbbhmjokiejnmaa.Hy Go.Proofs.YtbbhmjokiejnmaaW.PrintWords
set_option linter.unusedVariables false
def lookB (l : List File) (p : ByteArray) : Option ByteArray := (l.find? (fun x => x.f0.toList == p.toList)).map (fun x => x.f1)
theorem look_none {l : List File} {p : ByteArray} (h : ∀ y ∈ l, y.f0 ≠ p) : lookB l p = none := by
  unfold lookB
  rw [List.find?_eq_none.2 (fun y hy => by simp; exact fun e => h y hy (bytes_eq e))]; rfl
end Go.Proofs.Ytbbhmjokiejnmaa

