import Derived.Test.YtbbhmjokiejnmaaQNHy0
import Derived.Test.YtbbhmjokiejnmaaQNHy2
import Derived.Test.YtbbhmjokiejnmaaQNHy4
import Derived.Test.YtbbhmjokiejnmaaQNHy7
import Derived.Test.YtbbhmjokiejnmaaQNHy8
import Derived.Test.YtbbhmjokiejnmaaQNHy10
import Derived.Test.YtbbhmjokiejnmaaQNHy11
import Derived.Test.YtbbhmjokiejnmaaQNFind
import Derived.Test.YtbbhmjokiejnmaaQNPut
-- Printed by a program of this session (wip/hybrid.py) that runs the kit's print over given contracts. Lean checks it.
namespace Go.Proofs.Ytbbhmjokiejnmaa.Hy
open Go.RowKit Go.Proofs.YtbbhmjokiejnmaaW.PrintWords Go.Proofs.YtbbhmjokiejnmaaW.PrintLast Go.Proofs.YtbbhmjokiejnmaaW.PrintMore
attribute [local go_sem] min2_int min_two -- for this text's walks alone
set_option linter.unusedVariables false
set_option linter.unusedSimpArgs false
end Go.Proofs.Ytbbhmjokiejnmaa.Hy

