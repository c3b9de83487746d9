/-
  No cell of these rows narrows 'for every input' (looked for: loops, veiled, ifaces, maps, wideKeys, modest, calm, conditions, laid).
  DERIVED. THE GIVEN ROWS OF THIS SEAT. 2 by the template 'for every input the law returns true; each argument reads behind the call as it read before'; 0 by the template 'total and deterministic' (their statements: YtmlgklklikgafaaTotals.lean).
  GIVEN WITH THE SEED: the statements are not yours to turn. If you find one false, say at which input.
  Laid BY PROGRAM, IN A SANDBOX (cutbox-rows.mjs): the forced cells as the released guide's own fill.sh prints them over the translation 06f275cbd03e0556… (all of the seat's roots in one cut). By AI agents, Wed Nov 11 2026. No macro, syntax, notation, axiom, sorry.
-/
import Derived.Test.YtmlgklklikgafaaChecked
import GoSem.Claim
import GoSem.ClaimJoined
import GoSem.ClaimMapViews
import Derived.JoinedTies
import Derived.KernelRfl
namespace Go.Proofs.Ytmlgklklikgafaa
/- THE CELL 'sum', in the pinned program and in every row, IS THE sha256 OF THE DUMP (.gsa) THAT YtmlgklklikgafaaProg.lean LOADS. Nothing in Lean hashes anything: it is a label: what it is worth is what the hold of that sum in a sandbox is worth. -/
noncomputable def Try.pinned : Pinned := { name := "ytmlgklklikgafaa", sum := "06f275cbd03e05567990dbf79e6c50a7dd8e05160e7651524202b6ebee3a05aa", checked := Try.checked }
namespace Rows
def none {H : Type} : Left H := { results := [], args := [] }

/-- 'lictorlaw03.PredsUnion': WHATEVER THE INPUT: true; the input reads as it did. -/
def predsUnionSpec : ChangeSpec := { name := "predsUnion", fn := fun _ => fun
  | [d1, d2] => { results := [.lit (.bool true)], args := [d1, d2] }
  | _ => none }
def predsUnionRow : OpenClaim := { program := "ytmlgklklikgafaa", sum := "06f275cbd03e05567990dbf79e6c50a7dd8e05160e7651524202b6ebee3a05aa", func := "lictor/lictorlaw03.PredsUnion", spec := "predsUnion", unfollowed := true, recurses := true, apart := false }
def PredsUnionSaid : Prop := predsUnionRow.holds Try.pinned (OpenSpec.ofChange predsUnionSpec)

/-- ITS FALSE NEIGHBOUR: 'it returns false'. Refute it at one input. -/
def predsUnionWrong : ChangeSpec := { name := "predsUnion", fn := fun _ => fun
  | [d1, d2] => { results := [.lit (.bool false)], args := [d1, d2] }
  | _ => none }
def PredsUnionWrongFalsely : Prop := predsUnionRow.holds Try.pinned (OpenSpec.ofChange predsUnionWrong)

/-- 'lictorlaw03.PredsTells': WHATEVER THE INPUT: true; the input reads as it did. -/
def predsTellsSpec : ChangeSpec := { name := "predsTells", fn := fun _ => fun
  | [d1, d2, d3] => { results := [.lit (.bool true)], args := [d1, d2, d3] }
  | _ => none }
def predsTellsRow : OpenClaim := { program := "ytmlgklklikgafaa", sum := "06f275cbd03e05567990dbf79e6c50a7dd8e05160e7651524202b6ebee3a05aa", func := "lictor/lictorlaw03.PredsTells", spec := "predsTells", unfollowed := true, recurses := true, apart := false }
def PredsTellsSaid : Prop := predsTellsRow.holds Try.pinned (OpenSpec.ofChange predsTellsSpec)

/-- ITS FALSE NEIGHBOUR: 'it returns false'. Refute it at one input. -/
def predsTellsWrong : ChangeSpec := { name := "predsTells", fn := fun _ => fun
  | [d1, d2, d3] => { results := [.lit (.bool false)], args := [d1, d2, d3] }
  | _ => none }
def PredsTellsWrongFalsely : Prop := predsTellsRow.holds Try.pinned (OpenSpec.ofChange predsTellsWrong)

/- THE SECOND FORM. 'bulk': how many values and letters a reading holds, each counted each time it is reached (what is shared counts as often as it is met; a slice's spare places count too). A statement '..UptoSaid' is the law's where the arguments, and the package variables that the reading takes, are together of bulk at most 1048576: NARROWER than '..Said'. Prove '..Said' where nothing that the law and all that it calls make is longer than what came in: it says more and counts as full. Else prove '..UptoSaid'. A law counts once. -/
mutual
def uptoBulk {H : Type} : DataW H → Nat
  | .lit (.string bytes) => bytes.length + 1
  | .lit _ => 1
  | .nil => 1
  | .ptr d => uptoBulk d + 1
  | .slice elems spare => uptoBulkAll elems + uptoBulkAll spare + 1
  | .agg parts => uptoBulkAll parts + 1
  | .iface _ d => uptoBulk d + 1
  | .map entries => uptoBulkEntries entries + 1
  | .held _ => 1
def uptoBulkAll {H : Type} : List (DataW H) → Nat
  | [] => 0
  | d :: r => uptoBulk d + uptoBulkAll r
def uptoBulkEntries {H : Type} : List (Lit × DataW H) → Nat
  | [] => 0
  | x :: r => uptoBulkEntry x + uptoBulkEntries r
def uptoBulkEntry {H : Type} : Lit × DataW H → Nat
  | (.string bytes, d) => bytes.length + uptoBulk d + 1
  | (_, d) => uptoBulk d + 1
 end
def uptoSmall : (H : Type) → List (DataW H) → Bool := fun _ ds => decide (uptoBulkAll ds ≤ 1048576)
def OpenSpec.upto (s : _root_.Go.ChangeSpec) : _root_.Go.OpenSpec := { _root_.Go.OpenSpec.ofChange s with cond := some uptoSmall }

/-- 'lictorlaw03.PredsUnion', WHERE WHAT IT READS IS OF BULK AT MOST 1048576: true; the input reads as it did. -/
def predsUnionUptoRow : OpenClaim := { program := "ytmlgklklikgafaa", sum := "06f275cbd03e05567990dbf79e6c50a7dd8e05160e7651524202b6ebee3a05aa", func := "lictor/lictorlaw03.PredsUnion", spec := "predsUnion", unfollowed := true, recurses := true, apart := false, narrowed := true }
def PredsUnionUptoSaid : Prop := predsUnionUptoRow.holds Try.pinned (OpenSpec.upto predsUnionSpec)

/-- 'lictorlaw03.PredsTells', WHERE WHAT IT READS IS OF BULK AT MOST 1048576: true; the input reads as it did. -/
def predsTellsUptoRow : OpenClaim := { program := "ytmlgklklikgafaa", sum := "06f275cbd03e05567990dbf79e6c50a7dd8e05160e7651524202b6ebee3a05aa", func := "lictor/lictorlaw03.PredsTells", spec := "predsTells", unfollowed := true, recurses := true, apart := false, narrowed := true }
def PredsTellsUptoSaid : Prop := predsTellsUptoRow.holds Try.pinned (OpenSpec.upto predsTellsSpec)

end Rows
end Go.Proofs.Ytmlgklklikgafaa
