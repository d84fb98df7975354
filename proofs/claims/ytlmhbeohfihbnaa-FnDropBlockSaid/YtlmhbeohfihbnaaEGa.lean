/- Part of the proofs about the heaps and memories: a law is joined in the text whose name ends in W and the law. -/
import Derived.Test.YtlmhbeohfihbnaaEG
namespace Go.Vc
open Go Go.Proofs
set_option linter.all false
end Go.Vc
