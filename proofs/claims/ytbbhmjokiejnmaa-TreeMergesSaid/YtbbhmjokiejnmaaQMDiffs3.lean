/- The law TreeDiffs, put together. -/
import Derived.Test.YtbbhmjokiejnmaaQMDiffs2
namespace Go.Proofs.Ytbbhmjokiejnmaa
open Go Go.RowKit Go.Proofs.Ytbbhmjokiejnmaa.Hy Go.Proofs.YtbbhmjokiejnmaaW.PrintWords
set_option linter.unusedVariables false
end Go.Proofs.Ytbbhmjokiejnmaa

