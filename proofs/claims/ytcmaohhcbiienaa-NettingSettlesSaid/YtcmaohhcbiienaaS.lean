-- Printed by pp.py (wip/pp), a program of this session's, over the kit's print; Lean checks it.
import Derived.Test.YtcmaohhcbiienaaS0
import Derived.Test.YtcmaohhcbiienaaS1
import Derived.Test.YtcmaohhcbiienaaS2
import Derived.Test.YtcmaohhcbiienaaS3
import Derived.Test.YtcmaohhcbiienaaS4
import Derived.Test.YtcmaohhcbiienaaS5
import Derived.Test.YtcmaohhcbiienaaS6
import Derived.Test.YtcmaohhcbiienaaS7
import Derived.Test.YtcmaohhcbiienaaS8
import Derived.Test.YtcmaohhcbiienaaS9
import Derived.Test.YtcmaohhcbiienaaS10
import Derived.Test.YtcmaohhcbiienaaS11
namespace Go.Proofs.Ytcmaohhcbiienaa.S
open Go.RowKit Go.Proofs.YtcmaohhcbiienaaW.PrintWords Go.Proofs.YtcmaohhcbiienaaW.PrintLast Go.Proofs.YtcmaohhcbiienaaW.PrintMore
attribute [local go_sem] max2_int min2_int max_two min_two max_three min_three max_four min_four   -- for this text's walks alone
set_option linter.unusedVariables false
set_option linter.unusedSimpArgs false

end Go.Proofs.Ytcmaohhcbiienaa.S
