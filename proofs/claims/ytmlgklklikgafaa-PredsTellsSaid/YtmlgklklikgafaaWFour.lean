-- Written by a program of this session: the kit's words, without what this claim does not use (wip/tools/prune_words.py).
import Derived.Test.YtmlgklklikgafaaWTab
/-! ### 56. Four, five, six operations that may come up next, in any order -/
namespace Go.Proofs.YtmlgklklikgafaaW.PrintLast
section
variable {P : Program} {ops : Array Oper} {Q : Exit → Act → World → Prop} {md : Region.Mode} {S : World → Prop} {ds : List Nat} {T : Bool × List (List Nat × List Nat)}
end
end Go.Proofs.YtmlgklklikgafaaW.PrintLast
