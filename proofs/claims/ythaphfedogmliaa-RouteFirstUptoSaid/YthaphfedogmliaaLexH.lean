/- The walks over LexTexts and LexCase, for all texts. -/
import Derived.Test.YthaphfedogmliaaLexG
set_option linter.unusedVariables false
set_option linter.unusedSimpArgs false
namespace Go.Proofs.Ythaphfedogmliaa
open Go.RowKit Lex

theorem below_then {W w1 w2 : World} (h : Below W.heap.size W w1) (k : Below w1.heap.size w1 w2) : Below W.heap.size W w2 := h.trans (k.mono h.size)
theorem bs_sz (l : List UInt8) : (bs l).size = l.length := rfl

end Go.Proofs.Ythaphfedogmliaa
