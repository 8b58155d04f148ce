/- The law TreeDiffs: what the printed functions come to. -/
import Derived.Test.YtbbhmjokiejnmaaQMDiffs
import Derived.Test.YtbbhmjokiejnmaaQMPuts
namespace Go.Proofs.Ytbbhmjokiejnmaa
open Go Go.RowKit Go.Proofs.Ytbbhmjokiejnmaa.Hy Go.Proofs.YtbbhmjokiejnmaaW.PrintWords
set_option linter.unusedVariables false
theorem findB_look (l : List File) (p : ByteArray) : findB l p = match lookB l p with | none => (⟨#[]⟩, false) | some d => (d, true) := by
  unfold findB lookB
  cases l.find? (fun x => x.f0.toList == p.toList) <;> rfl
end Go.Proofs.Ytbbhmjokiejnmaa

