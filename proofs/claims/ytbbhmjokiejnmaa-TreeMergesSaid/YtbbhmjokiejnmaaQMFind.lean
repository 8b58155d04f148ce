/- tree.Find. -/
import Derived.Test.YtbbhmjokiejnmaaQMStr
import Derived.Test.YtbbhmjokiejnmaaQMColl
import Derived.Test.YtbbhmjokiejnmaaQMSpec
namespace Go.Proofs.Ytbbhmjokiejnmaa
open Go Go.RowKit Go.Shelf Go.Proofs.YtbbhmjokiejnmaaW.PrintWords Go.Proofs.Ytbbhmjokiejnmaa.Hy
set_option linter.unusedVariables false
end Go.Proofs.Ytbbhmjokiejnmaa

