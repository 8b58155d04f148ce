import Derived.Test.YtbbhmjokiejnmaaQRHy0
import Derived.Test.YtbbhmjokiejnmaaQRHy2
import Derived.Test.YtbbhmjokiejnmaaQRHy4
import Derived.Test.YtbbhmjokiejnmaaQRHy7
import Derived.Test.YtbbhmjokiejnmaaQRHy8
import Derived.Test.YtbbhmjokiejnmaaQRHy10
import Derived.Test.YtbbhmjokiejnmaaQRHy11
import Derived.Test.YtbbhmjokiejnmaaQRFind
import Derived.Test.YtbbhmjokiejnmaaQRPut
-- Printed by a program of this session (wip/hybrid.py) that runs the kit's print over given contracts. Lean checks it.
namespace Go.Proofs.Ytbbhmjokiejnmaa.Hy
open Go.RowKit Go.Proofs.YtbbhmjokiejnmaaW.PrintWords Go.Proofs.YtbbhmjokiejnmaaW.PrintLast Go.Proofs.YtbbhmjokiejnmaaW.PrintMore
attribute [local go_sem] min2_int min_two -- for this text's walks alone
set_option linter.unusedVariables false
set_option linter.unusedSimpArgs false
attribute [local go_sem high] eqA33
end Go.Proofs.Ytbbhmjokiejnmaa.Hy

