/- The texts HdH, TgtF in one. -/
import Derived.Test.YtgmjkkiahanekaaGreatDoorM21
import Derived.Test.YtgmjkkiahanekaaGreatDoorM10
/- The contract of head.Request; the laws' anchor. -/
set_option linter.unusedVariables false
set_option linter.unusedSimpArgs false
namespace Go.Proofs.YtgmjkkiahanekaaGreatDoor
open Go.RowKit Lex

theorem ret_request {w : World} {B : Nat} {v0 v1 v2 v3 v4 v5 n e : Value} (h : Box6 w B v0 v1 v2 v3 v4 v5) {tmps : Array Value} (h4 : tmps[2]?.getD undef = .pointer (some ⟨B, 0, none⟩)) (h5 : tmps[3]?.getD undef = n) (h6 : tmps[4]?.getD undef = e) :
    (results Tryz.f80 tmps).run Tryz.prog w = .ok (.tuple #[.agg #[v0, v1, v2, v3, v4, v5], n, e]) w := by
  simp [results, Tryz.results80, go_sem, h4, h5, h6, h.c0, h.c1, h.c2, h.c3, h.c4, h.c5]
set_option maxRecDepth 100000 in
set_option maxHeartbeats 4000000 in
theorem request_h (d : ByteArray) (M : Int) (w : World) (hs : d.size ≤ 4194304) (hm : w.cell? ⟨0, 0, none⟩ = some (.int .i64 M)) :
    Calls Tryz.prog 80 #[.string d] w (ReadPost (readL true startL d.data.toList) w) := by
  have B0 := Lib.hid ((Below.refl _ w).alloc (Nat.le_refl _) (.cells #[.string ⟨#[]⟩, .string ⟨#[]⟩, .int .i64 0, .string ⟨#[]⟩, .int .i64 0, .slice none 0 0] 42))
  have X0 := Lib.hid (box6_new w (.string ⟨#[]⟩) (.string ⟨#[]⟩) (.int .i64 0) (.string ⟨#[]⟩) (.int .i64 0) (.slice none 0 0) 42)
  have hV : w.heap.size < (w.alloc (.cells #[.string ⟨#[]⟩, .string ⟨#[]⟩, .int .i64 0, .string ⟨#[]⟩, .int .i64 0, .slice none 0 0] 42)).heap.size := by simp
  have RD := Lib.hid (readq_c d M (w.alloc (.cells #[.string ⟨#[]⟩, .string ⟨#[]⟩, .int .i64 0, .string ⟨#[]⟩, .int .i64 0, .slice none 0 0] 42)) hs (cell_below B0.out hm))
  unfold ReadPost hdv at RD
  generalize readL true startL d.data.toList = x at *
  obtain ⟨h, n, e⟩ := x
  go_enter Tryz.func80, Tryz.ntmps80
  go_wp2_with fail
  refine RD.out.mono ?_
  rintro e w1 ⟨A, c, rfl, hA, ho, hb⟩
  generalize w.alloc (.cells #[.string ⟨#[]⟩, .string ⟨#[]⟩, .int .i64 0, .string ⟨#[]⟩, .int .i64 0, .slice none 0 0] 42) = V at *
  have B1 := Lib.hid (below_then B0.out hb)
  have X1 := Lib.hid (X0.out.below hb)
  have O1 := Lib.hid ho
  have HA := Lib.hid hA
  obtain ⟨c0, c1, c2, c3, c4, c5, fz⟩ := X1.out
  have f0 := fz 0; have f1 := fz 1; have f2 := fz 2; have f3 := fz 3; have f4 := fz 4; have f5 := fz 5
  clear fz ho hA hb RD hm
  go_wp2
  refine bodyPost_ret (ret_request (Box6.stored X1.out _ _ _ _ _ _) rfl rfl rfl) rfl ?_
  exact ⟨A, c, rfl, HA.out, own_from (own_set6 O1.out hV _ _ _ _ _ _) (Nat.le_of_lt hV), below_set6 B1.out (Nat.le_refl _) _ _ _ _ _ _⟩
end Go.Proofs.YtgmjkkiahanekaaGreatDoor

/- Parse at the anchor's arguments, the anchor, the walks over TargetHosts and TargetCase. -/
set_option linter.unusedVariables false
set_option linter.unusedSimpArgs false
namespace Go.Proofs.YtgmjkkiahanekaaGreatDoor
open Go.RowKit Lex

theorem ret_parse {w : World} {B : Nat} {v0 v1 v2 v3 v4 v5 e : Value} (h : Box6 w B v0 v1 v2 v3 v4 v5) {tmps : Array Value} (h4 : tmps[4]?.getD undef = .pointer (some ⟨B, 0, none⟩)) (h5 : tmps[5]?.getD undef = e) :
    (results Tryz.f82 tmps).run Tryz.prog w = .ok (.tuple #[.agg #[v0, v1, v2, v3, v4, v5], e]) w := by
  simp [results, Tryz.results82, go_sem, h4, h5, h.c0, h.c1, h.c2, h.c3, h.c4, h.c5]
theorem local_anchor : localT { form := 1 } [47, 97, 47, 46, 46, 47, 98, 63, 120, 61, 49] = ({ form := 1, path := [47, 98], query := [120, 61, 49], has := true }, 0) := by rfl

set_option maxRecDepth 100000 in
set_option maxHeartbeats 4000000 in
theorem parse_anchor (m : Int) (w : World) (hm : w.cell? ⟨0, 0, none⟩ = some (.int .i64 m)) :
    Calls Tryz.prog 82 #[.string ⟨#[71, 69, 84]⟩, .string ⟨#[47, 97, 47, 46, 46, 47, 98, 63, 120, 61, 49]⟩] w fun e w' => e = .returned (.tuple #[.agg #[.int .i64 1, .string ⟨#[]⟩, .int .i64 0, .string ⟨#[47, 98]⟩, .string ⟨#[120, 61, 49]⟩, .bool true], .int .i64 0]) ∧ Below w.heap.size w w' := by
  have LC : ∀ w, w.cell? ⟨0, 0, none⟩ = some (.int .i64 m) → Hid (Calls Tryz.prog 109 #[.agg #[.int .i64 1, .string ⟨#[]⟩, .int .i64 0, .string ⟨#[]⟩, .string ⟨#[]⟩, .bool false], .string ⟨#[47, 97, 47, 46, 46, 47, 98, 63, 120, 61, 49]⟩] w fun e w' => e = .returned (.tuple #[.agg #[.int .i64 1, .string ⟨#[]⟩, .int .i64 0, .string ⟨#[47, 98]⟩, .string ⟨#[120, 61, 49]⟩, .bool true], .int .i64 0]) ∧ Below w.heap.size w w') := fun w h => by
    have := local_c 1 0 ⟨#[]⟩ ⟨#[47, 97, 47, 46, 46, 47, 98, 63, 120, 61, 49]⟩ m w (by decide) h
    rw [show localT { form := 1, host := (ByteArray.mk #[]).data.toList, port := 0 } (ByteArray.mk #[47, 97, 47, 46, 46, 47, 98, 63, 120, 61, 49]).data.toList = _ from local_anchor] at this
    exact this
  have HP := fun w => Lib.hid (Tryz.strings_HasPrefix ⟨#[47, 97, 47, 46, 46, 47, 98, 63, 120, 61, 49]⟩ ⟨#[47]⟩ w)
  rw [show Lib.hasPrefix (ByteArray.mk #[47, 97, 47, 46, 46, 47, 98, 63, 120, 61, 49]).data.toList (ByteArray.mk #[47]).data.toList = true from by decide] at HP
  have HM := Lib.hid hm
  clear hm
  go_enter Tryz.func82, Tryz.ntmps82
  go_wp2_with (go_at_call 62; refine (HP _).out.mono ?_; rintro e w' ⟨rfl, rfl⟩)
  refine (LC _ (cell_below ((Below.refl _ w).alloc (Nat.le_refl _) _) HM.out)).out.mono ?_
  rintro e w1 ⟨rfl, hb1⟩
  have B1 : Below w.heap.size w w1 := ((Below.refl _ w).alloc (Nat.le_refl _) _).trans (hb1.mono (by simp))
  have BX := Lib.hid ((box6_new w _ _ _ _ _ _ _).below hb1)
  obtain ⟨c0, c1, c2, c3, c4, c5, fz⟩ := BX.out
  have f0 := fz 0
  have f1 := fz 1
  have f2 := fz 2
  have f3 := fz 3
  have f4 := fz 4
  have f5 := fz 5
  clear fz
  go_wp2
  (try simp only [Exit.inBlock, Exit.then]); refine bodyPost_ret (ret_parse (Box6.stored BX.out _ _ _ _ _ _) rfl rfl) rfl ?_
  refine ⟨rfl, ?_⟩
  repeat refine Below.setCell ?_ (by simp) _
  exact B1

end Go.Proofs.YtgmjkkiahanekaaGreatDoor

