/- The texts HdH in one. -/
import Derived.Test.YtgmjkkiahanekaaDoorM14
/- The contract of head.Request; the laws' anchor. -/
set_option linter.unusedVariables false
set_option linter.unusedSimpArgs false
namespace Go.Proofs.YtgmjkkiahanekaaDoor
open Go.RowKit Lex

end Go.Proofs.YtgmjkkiahanekaaDoor

