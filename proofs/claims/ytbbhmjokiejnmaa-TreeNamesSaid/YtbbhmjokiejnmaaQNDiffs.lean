/- The law TreeDiffs, in plain words. -/
import Derived.Test.YtbbhmjokiejnmaaQNTree
import Derived.Test.YtbbhmjokiejnmaaQNHy17
namespace Go.Proofs.Ytbbhmjokiejnmaa
open Go Go.RowKit Go.Proofs.Ytbbhmjokiejnmaa.Hy Go.Proofs.YtbbhmjokiejnmaaW.PrintWords
set_option linter.unusedVariables false
end Go.Proofs.Ytbbhmjokiejnmaa

