-- Written by a program of this session, which is the kit's print with hand-given functions (wip/tools/mkprint.py).
import Derived.Test.YtmlgklklikgafaaPPredsUnionx0
import Derived.Test.YtmlgklklikgafaaPPredsUnionx1
import Derived.Test.YtmlgklklikgafaaPPredsUnionx2
import Derived.Test.YtmlgklklikgafaaPPredsUnionx3
import Derived.Test.YtmlgklklikgafaaPPredsUnionx4
import Derived.Test.YtmlgklklikgafaaPPredsUnionx5
import Derived.Test.YtmlgklklikgafaaPPredsUnionx6
import Derived.Test.YtmlgklklikgafaaPPredsUnionx7
import Derived.Test.YtmlgklklikgafaaPPredsUnionx8
import Derived.Test.YtmlgklklikgafaaPPredsUnionx9
namespace Go.Proofs.Ytmlgklklikgafaa.PPredsUnion
open Go.RowKit Go.Proofs.YtmlgklklikgafaaW.PrintWords Go.Proofs.YtmlgklklikgafaaW.PrintLast Go.Proofs.YtmlgklklikgafaaW.PrintMore
attribute [local go_sem] max2_int min2_int max_two min_two max_three min_three max_four min_four   -- for this text's walks alone
set_option linter.unusedVariables false
set_option linter.unusedSimpArgs false

end Go.Proofs.Ytmlgklklikgafaa.PPredsUnion
