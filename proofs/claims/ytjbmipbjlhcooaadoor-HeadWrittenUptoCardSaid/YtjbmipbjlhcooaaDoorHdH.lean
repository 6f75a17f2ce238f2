/- The contract of head.Request; the laws' anchor. -/
import Derived.Test.YtjbmipbjlhcooaaDoorHdG
set_option linter.unusedVariables false
set_option linter.unusedSimpArgs false
namespace Go.Proofs.YtjbmipbjlhcooaaDoor
open Go.RowKit Lex

theorem ret_request {w : World} {B : Nat} {v0 v1 v2 v3 v4 v5 n e : Value} (h : Box6 w B v0 v1 v2 v3 v4 v5) {tmps : Array Value} (h4 : tmps[2]?.getD undef = .pointer (some ⟨B, 0, none⟩)) (h5 : tmps[3]?.getD undef = n) (h6 : tmps[4]?.getD undef = e) :
    (results Tryd.f26 tmps).run Tryd.prog w = .ok (.tuple #[.agg #[v0, v1, v2, v3, v4, v5], n, e]) w := by
  simp [results, Tryd.results26, go_sem, h4, h5, h6, h.c0, h.c1, h.c2, h.c3, h.c4, h.c5]
set_option maxRecDepth 100000 in
set_option maxHeartbeats 4000000 in
theorem request_h (d : ByteArray) (M : Int) (w : World) (hs : d.size ≤ 4194304) (hm : w.cell? ⟨0, 0, none⟩ = some (.int .i64 M)) :
    Calls Tryd.prog 26 #[.string d] w (ReadPost (readL true startL d.data.toList) w) := by
  have B0 := Lib.hid ((Below.refl _ w).alloc (Nat.le_refl _) (.cells #[.string ⟨#[]⟩, .string ⟨#[]⟩, .int .i64 0, .string ⟨#[]⟩, .int .i64 0, .slice none 0 0] 43))
  have X0 := Lib.hid (box6_new w (.string ⟨#[]⟩) (.string ⟨#[]⟩) (.int .i64 0) (.string ⟨#[]⟩) (.int .i64 0) (.slice none 0 0) 43)
  have hV : w.heap.size < (w.alloc (.cells #[.string ⟨#[]⟩, .string ⟨#[]⟩, .int .i64 0, .string ⟨#[]⟩, .int .i64 0, .slice none 0 0] 43)).heap.size := by simp
  have RD := Lib.hid (readq_c d M (w.alloc (.cells #[.string ⟨#[]⟩, .string ⟨#[]⟩, .int .i64 0, .string ⟨#[]⟩, .int .i64 0, .slice none 0 0] 43)) hs (cell_below B0.out hm))
  unfold ReadPost hdv at RD
  generalize readL true startL d.data.toList = x at *
  obtain ⟨h, n, e⟩ := x
  go_enter Tryd.func26, Tryd.ntmps26
  go_wp2_with fail
  refine RD.out.mono ?_
  rintro e w1 ⟨A, c, rfl, hA, ho, hb⟩
  generalize w.alloc (.cells #[.string ⟨#[]⟩, .string ⟨#[]⟩, .int .i64 0, .string ⟨#[]⟩, .int .i64 0, .slice none 0 0] 43) = V at *
  have B1 := Lib.hid (below_then B0.out hb)
  have X1 := Lib.hid (X0.out.below hb)
  have O1 := Lib.hid ho
  have HA := Lib.hid hA
  obtain ⟨c0, c1, c2, c3, c4, c5, fz⟩ := X1.out
  have f0 := fz 0; have f1 := fz 1; have f2 := fz 2; have f3 := fz 3; have f4 := fz 4; have f5 := fz 5
  clear fz ho hA hb RD hm
  go_wp2
  refine bodyPost_ret (ret_request (Box6.stored X1.out _ _ _ _ _ _) rfl rfl rfl) rfl ?_
  exact ⟨A, c, rfl, HA.out, own_from (own_set6 O1.out hV _ _ _ _ _ _) (Nat.le_of_lt hV), below_set6 B1.out (Nat.le_refl _) _ _ _ _ _ _⟩
end Go.Proofs.YtjbmipbjlhcooaaDoor
