/- tree.Find. -/
import Derived.Test.YtbbhmjokiejnmaaQDStr
import Derived.Test.YtbbhmjokiejnmaaQDColl
import Derived.Test.YtbbhmjokiejnmaaQDSpec
namespace Go.Proofs.Ytbbhmjokiejnmaa
open Go Go.RowKit Go.Shelf Go.Proofs.YtbbhmjokiejnmaaW.PrintWords Go.Proofs.Ytbbhmjokiejnmaa.Hy
set_option linter.unusedVariables false
end Go.Proofs.Ytbbhmjokiejnmaa

