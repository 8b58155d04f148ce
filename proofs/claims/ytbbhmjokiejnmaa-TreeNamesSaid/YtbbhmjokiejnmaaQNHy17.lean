import Derived.Test.YtbbhmjokiejnmaaQNHy0
import Derived.Test.YtbbhmjokiejnmaaQNHy1
import Derived.Test.YtbbhmjokiejnmaaQNHy4
import Derived.Test.YtbbhmjokiejnmaaQNHy8
import Derived.Test.YtbbhmjokiejnmaaQNHy14
import Derived.Test.YtbbhmjokiejnmaaQNHy15
import Derived.Test.YtbbhmjokiejnmaaQNHy16
-- Printed by a program of this session (wip/hybrid.py) that runs the kit's print over given contracts. Lean checks it.
namespace Go.Proofs.Ytbbhmjokiejnmaa.Hy
open Go.RowKit Go.Proofs.YtbbhmjokiejnmaaW.PrintWords Go.Proofs.YtbbhmjokiejnmaaW.PrintLast Go.Proofs.YtbbhmjokiejnmaaW.PrintMore
attribute [local go_sem] min2_int min_two -- for this text's walks alone
set_option linter.unusedVariables false
set_option linter.unusedSimpArgs false
attribute [local go_sem high] eqA29
end Go.Proofs.Ytbbhmjokiejnmaa.Hy

