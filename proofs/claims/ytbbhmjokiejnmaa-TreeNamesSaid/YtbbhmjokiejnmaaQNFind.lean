/- tree.Find. -/
import Derived.Test.YtbbhmjokiejnmaaQNStr
import Derived.Test.YtbbhmjokiejnmaaQNColl
import Derived.Test.YtbbhmjokiejnmaaQNSpec
namespace Go.Proofs.Ytbbhmjokiejnmaa
open Go Go.RowKit Go.Shelf Go.Proofs.YtbbhmjokiejnmaaW.PrintWords Go.Proofs.Ytbbhmjokiejnmaa.Hy
set_option linter.unusedVariables false
end Go.Proofs.Ytbbhmjokiejnmaa

