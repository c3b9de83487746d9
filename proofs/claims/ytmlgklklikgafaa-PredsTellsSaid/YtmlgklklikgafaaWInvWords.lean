-- Written by a program of this session: the kit's words, without what this claim does not use (wip/tools/prune_words.py).
import Derived.Test.YtmlgklklikgafaaWInv
import Derived.Test.YtmlgklklikgafaaWFootNe
namespace Go.Proofs.YtmlgklklikgafaaW.PrintWords
open Go.RowKit
end Go.Proofs.YtmlgklklikgafaaW.PrintWords
namespace Go.Proofs.YtmlgklklikgafaaW.PrintLast
section
variable {ops : Array Oper} {a : Act} {o og : Oper} {g : Nat} {t : Tmp} {u : Bool}
end
end Go.Proofs.YtmlgklklikgafaaW.PrintLast
