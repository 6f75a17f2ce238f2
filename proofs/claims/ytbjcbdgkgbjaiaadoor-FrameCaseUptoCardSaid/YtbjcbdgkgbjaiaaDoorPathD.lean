/- The contracts of path.Decode and the document's At, Decode: the plain walks over escapes, for every text. -/
import Derived.Test.YtbjcbdgkgbjaiaaDoorPathC
set_option linter.unusedVariables false
set_option linter.unusedSimpArgs false
namespace Go.Proofs.YtbjcbdgkgbjaiaaDoor
open Go.RowKit Lex

/-! ### the document's -/
def atI (p : UInt8 × Bool) : Int := if p.2 then p.1.toNat else -1

end Go.Proofs.YtbjcbdgkgbjaiaaDoor
