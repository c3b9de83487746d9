-- Written by a program of this session: the kit's words, without what this claim does not use (wip/tools/prune_words.py).
-- PRINTED WORDS (module Derived/Print/Sized.lean): go-gate-2's, for the rows of laws over slices: an AI agent of Go's test side, Tue Nov 17 2026; no person has read it. Lean checks it.
import Derived.SizedLaws
import Derived.ChangeSlices
namespace Go.Proofs.YtmlgklklikgafaaW.PrintWords
open Go.ChangeShapes Go.WideShapes
end Go.Proofs.YtmlgklklikgafaaW.PrintWords
