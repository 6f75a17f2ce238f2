/- The texts OutIw in one. -/
import Derived.Test.YtgmjkkiahanekaaDoorM26
/- The walk over OutflowHead in the form that its row asks. -/
set_option linter.unusedVariables false
namespace Go.Proofs.YtgmjkkiahanekaaDoor
open Go.RowKit Lex
theorem heads_walk {W : World} (i : Int) (wi : (Lit.int .i64 i).wf = true) (j : Int) (wj : (Lit.int .i64 j).wf = true) (tl : ByteArray) (htl : tl.size ≤ 1048576) (M : Int) (W2 : World) (hW : W2 = W) (hm : W2.cell? ⟨0, 0, none⟩ = some (.int .i64 M)) :
    Calls Tryd.prog 6 #[.int .i64 i, .int .i64 j, .string tl] W2 fun e w' => e = .returned (.bool true) ∧ Below W2.heap.size W2 w' := head_walk i j tl htl M W2 hW hm
end Go.Proofs.YtgmjkkiahanekaaDoor

