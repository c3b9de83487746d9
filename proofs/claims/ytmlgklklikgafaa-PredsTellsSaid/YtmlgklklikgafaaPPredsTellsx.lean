-- Written by a program of this session, which is the kit's print with hand-given functions (wip/tools/mkprint.py).
import Derived.Test.YtmlgklklikgafaaPPredsTellsx0
import Derived.Test.YtmlgklklikgafaaPPredsTellsx1
import Derived.Test.YtmlgklklikgafaaPPredsTellsx2
import Derived.Test.YtmlgklklikgafaaPPredsTellsx3
import Derived.Test.YtmlgklklikgafaaPPredsTellsx4
import Derived.Test.YtmlgklklikgafaaPPredsTellsx5
import Derived.Test.YtmlgklklikgafaaPPredsTellsx6
import Derived.Test.YtmlgklklikgafaaPPredsTellsx7
import Derived.Test.YtmlgklklikgafaaPPredsTellsx8
import Derived.Test.YtmlgklklikgafaaPPredsTellsx9
import Derived.Test.YtmlgklklikgafaaPPredsTellsx10
import Derived.Test.YtmlgklklikgafaaPPredsTellsx11
import Derived.Test.YtmlgklklikgafaaPPredsTellsx12
namespace Go.Proofs.Ytmlgklklikgafaa.PPredsTells
open Go.RowKit Go.Proofs.YtmlgklklikgafaaW.PrintWords Go.Proofs.YtmlgklklikgafaaW.PrintLast Go.Proofs.YtmlgklklikgafaaW.PrintMore
attribute [local go_sem] max2_int min2_int max_two min_two max_three min_three max_four min_four   -- for this text's walks alone
set_option linter.unusedVariables false
set_option linter.unusedSimpArgs false

end Go.Proofs.Ytmlgklklikgafaa.PPredsTells
