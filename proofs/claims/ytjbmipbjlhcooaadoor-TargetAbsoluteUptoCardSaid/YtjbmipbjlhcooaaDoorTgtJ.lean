/- The contract of like. -/
import Derived.Test.YtjbmipbjlhcooaaDoorTgtI
set_option linter.unusedVariables false
set_option linter.unusedSimpArgs false
namespace Go.Proofs.YtjbmipbjlhcooaaDoor
open Go.RowKit Lex

set_option maxRecDepth 100000 in
set_option maxHeartbeats 4000000 in
theorem like_c (t : Tg) (w : World) : Calls Tryd.prog 22 #[tgVal t, tgVal t] w fun e w' => e = .returned (.bool true) ∧ Below w.heap.size w w' := by
  obtain ⟨f, h, p, pa, qu, b⟩ := t
  unfold tgVal
  simp only
  go_enter Tryd.func22, Tryd.ntmps22
  go_wp2
  go_ret
  exact ⟨rfl, ((Below.refl _ w).alloc (Nat.le_refl _) _).alloc (by simp) _⟩
end Go.Proofs.YtjbmipbjlhcooaaDoor
