/- The walks over PathNormals and PathMeans. -/
import Derived.Test.YtjbmipbjlhcooaaDoorPathK
set_option linter.unusedVariables false
set_option linter.unusedSimpArgs false
namespace Go.Proofs.YtjbmipbjlhcooaaDoor
open Go.RowKit Lex

theorem cell_after {w w' : World} {m : Int} (hb : Below w.heap.size w w') (hm : w.cell? ⟨0, 0, none⟩ = some (.int .i64 m)) : w'.cell? ⟨0, 0, none⟩ = some (.int .i64 m) := cell_below hb hm

end Go.Proofs.YtjbmipbjlhcooaaDoor
