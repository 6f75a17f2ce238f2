/- The laws' anchor of layer 8. -/
import Derived.Test.YtjbmipbjlhcooaaDoorHdH
set_option linter.unusedVariables false
set_option linter.unusedSimpArgs false
namespace Go.Proofs.YtjbmipbjlhcooaaDoor
open Go.RowKit Lex

deriving instance DecidableEq for Hd
def ancL : List UInt8 := [13, 10, 71, 69, 84, 32, 47, 97, 32, 72, 84, 84, 80, 47, 49, 46, 49, 13, 10, 72, 111, 115, 116, 58, 32, 32, 104, 32, 13, 10, 13, 10, 114, 101, 115, 116]
theorem anc_read : readL true startL ancL = ({ method := [71, 69, 84], target := [47, 97], minor := 1, fields := [([72, 111, 115, 116], [104])] }, 32, 0) := by decide +kernel
set_option maxRecDepth 100000 in
set_option maxHeartbeats 4000000 in
theorem anchor8_c (M : Int) (w : World) (hm : w.cell? ⟨0, 0, none⟩ = some (.int .i64 M)) :
    Calls Tryd.prog 25 #[] w fun e w' => e = .returned (.bool true) ∧ Below w.heap.size w w' := by
  have RQ := Lib.hid (request_h ⟨ancL.toArray⟩ M w (by decide) hm)
  rw [show (ByteArray.mk ancL.toArray).data.toList = ancL from rfl, anc_read] at RQ
  unfold ReadPost hdv at RQ
  simp only [ancL] at RQ
  go_enter Tryd.func25, Tryd.ntmps25
  go_wp2_with fail
  refine RQ.out.mono ?_
  rintro e w1 ⟨A, c, rfl, hA, ho, hb⟩
  obtain ⟨g, o, rfl, k0, k1⟩ := (flds_own ho) 0 (by simp)
  have hlt := World.block_lt_of_cell? w1 _ k0
  have B1 := Lib.hid hb
  have k0' : w1.cell? ⟨g, o, none⟩ = some (.string (bs [72, 111, 115, 116])) := k0
  have k1' : w1.cell? ⟨g, o + 1, none⟩ = some (.string (bs [104])) := k1
  clear RQ ho hA hb hm k0 k1
  go_wp2
  go_ret
  exact ⟨rfl, B1.out.alloc B1.out.size _⟩
end Go.Proofs.YtjbmipbjlhcooaaDoor
