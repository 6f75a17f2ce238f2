/- BucketWaits: the walk over the law. -/
import Derived.Test.YtmibjlcmphfbgaaBc
set_option linter.unusedVariables false
namespace Go.Proofs.Ytmibjlcmphfbgaa
open Go.RowKit

def WGood (m f e t l : Int) : Prop := (1 ≤ m ∧ m ≤ 1000) ∧ (1 ≤ f ∧ f ≤ 1000) ∧ (1 ≤ e ∧ e ≤ 1000) ∧ (0 ≤ l ∧ l ≤ 100000) ∧ (1 ≤ t ∧ t ≤ m)

set_option maxRecDepth 100000 in
set_option maxHeartbeats 4000000 in
theorem waits_bad (m f e t n l : Int) (w : World) (h : ¬ WGood m f e t l) :
    Calls Try.prog 5 #[.int .i64 m, .int .i64 f, .int .i64 e, .int .i64 t, .int .i64 n, .int .i64 l] w fun en w' => en = .returned (.bool true) ∧ Below w.heap.size w w' := by
  have A := Lib.hid (anchor_any w)
  have HG := Lib.hid h
  clear h
  go_enter Try.func5, Try.ntmps5
  go_wp2_with (go_at_call 8; refine A.out.mono ?_; rintro e w1 ⟨rfl, hb⟩)
  all_goals first | (exfalso; have h := HG.out; unfold WGood at h; omega) | (go_ret; exact ⟨rfl, hb⟩)

end Go.Proofs.Ytmibjlcmphfbgaa
