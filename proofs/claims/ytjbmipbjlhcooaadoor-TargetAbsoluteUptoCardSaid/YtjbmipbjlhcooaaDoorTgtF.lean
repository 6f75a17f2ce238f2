/- Parse at the anchor's arguments, the anchor, the walks over TargetHosts and TargetCase. -/
import Derived.Test.YtjbmipbjlhcooaaDoorTgtE
set_option linter.unusedVariables false
set_option linter.unusedSimpArgs false
namespace Go.Proofs.YtjbmipbjlhcooaaDoor
open Go.RowKit Lex

theorem ret_parse {w : World} {B : Nat} {v0 v1 v2 v3 v4 v5 e : Value} (h : Box6 w B v0 v1 v2 v3 v4 v5) {tmps : Array Value} (h4 : tmps[4]?.getD undef = .pointer (some ⟨B, 0, none⟩)) (h5 : tmps[5]?.getD undef = e) :
    (results Tryd.f19 tmps).run Tryd.prog w = .ok (.tuple #[.agg #[v0, v1, v2, v3, v4, v5], e]) w := by
  simp [results, Tryd.results19, go_sem, h4, h5, h.c0, h.c1, h.c2, h.c3, h.c4, h.c5]
theorem local_anchor : localT { form := 1 } [47, 97, 47, 46, 46, 47, 98, 63, 120, 61, 49] = ({ form := 1, path := [47, 98], query := [120, 61, 49], has := true }, 0) := by rfl

set_option maxRecDepth 100000 in
set_option maxHeartbeats 4000000 in
theorem parse_anchor (m : Int) (w : World) (hm : w.cell? ⟨0, 0, none⟩ = some (.int .i64 m)) :
    Calls Tryd.prog 19 #[.string ⟨#[71, 69, 84]⟩, .string ⟨#[47, 97, 47, 46, 46, 47, 98, 63, 120, 61, 49]⟩] w fun e w' => e = .returned (.tuple #[.agg #[.int .i64 1, .string ⟨#[]⟩, .int .i64 0, .string ⟨#[47, 98]⟩, .string ⟨#[120, 61, 49]⟩, .bool true], .int .i64 0]) ∧ Below w.heap.size w w' := by
  have LC : ∀ w, w.cell? ⟨0, 0, none⟩ = some (.int .i64 m) → Hid (Calls Tryd.prog 42 #[.agg #[.int .i64 1, .string ⟨#[]⟩, .int .i64 0, .string ⟨#[]⟩, .string ⟨#[]⟩, .bool false], .string ⟨#[47, 97, 47, 46, 46, 47, 98, 63, 120, 61, 49]⟩] w fun e w' => e = .returned (.tuple #[.agg #[.int .i64 1, .string ⟨#[]⟩, .int .i64 0, .string ⟨#[47, 98]⟩, .string ⟨#[120, 61, 49]⟩, .bool true], .int .i64 0]) ∧ Below w.heap.size w w') := fun w h => by
    have := local_c 1 0 ⟨#[]⟩ ⟨#[47, 97, 47, 46, 46, 47, 98, 63, 120, 61, 49]⟩ m w (by decide) h
    rw [show localT { form := 1, host := (ByteArray.mk #[]).data.toList, port := 0 } (ByteArray.mk #[47, 97, 47, 46, 46, 47, 98, 63, 120, 61, 49]).data.toList = _ from local_anchor] at this
    exact this
  have HP := fun w => Lib.hid (Tryd.strings_HasPrefix ⟨#[47, 97, 47, 46, 46, 47, 98, 63, 120, 61, 49]⟩ ⟨#[47]⟩ w)
  rw [show Lib.hasPrefix (ByteArray.mk #[47, 97, 47, 46, 46, 47, 98, 63, 120, 61, 49]).data.toList (ByteArray.mk #[47]).data.toList = true from by decide] at HP
  have HM := Lib.hid hm
  clear hm
  go_enter Tryd.func19, Tryd.ntmps19
  go_wp2_with (go_at_call 41; refine (HP _).out.mono ?_; rintro e w' ⟨rfl, rfl⟩)
  refine (LC _ (cell_below ((Below.refl _ w).alloc (Nat.le_refl _) _) HM.out)).out.mono ?_
  rintro e w1 ⟨rfl, hb1⟩
  have B1 : Below w.heap.size w w1 := ((Below.refl _ w).alloc (Nat.le_refl _) _).trans (hb1.mono (by simp))
  have BX := Lib.hid ((box6_new w _ _ _ _ _ _ _).below hb1)
  obtain ⟨c0, c1, c2, c3, c4, c5, fz⟩ := BX.out
  have f0 := fz 0
  have f1 := fz 1
  have f2 := fz 2
  have f3 := fz 3
  have f4 := fz 4
  have f5 := fz 5
  clear fz
  go_wp2
  (try simp only [Exit.inBlock, Exit.then]); refine bodyPost_ret (ret_parse (Box6.stored BX.out _ _ _ _ _ _) rfl rfl) rfl ?_
  refine ⟨rfl, ?_⟩
  repeat refine Below.setCell ?_ (by simp) _
  exact B1

set_option maxRecDepth 100000 in
set_option maxHeartbeats 4000000 in
theorem anchor6_c (m : Int) (w : World) (hm : w.cell? ⟨0, 0, none⟩ = some (.int .i64 m)) :
    Calls Tryd.prog 16 #[] w fun e w' => e = .returned (.bool true) ∧ Below w.heap.size w w' := by
  have PA := fun w h => Lib.hid (parse_anchor m w h)
  have AU : ∀ w, w.cell? ⟨0, 0, none⟩ = some (.int .i64 m) → Hid (Calls Tryd.prog 17 #[.string ⟨#[69, 120, 46, 99, 111, 109, 58, 56, 48]⟩] w fun e w' => e = .returned (.tuple #[.string ⟨#[101, 120, 46, 99, 111, 109]⟩, .int .i64 80, .int .i64 0]) ∧ Below w.heap.size w w') := fun w h => by
    have := auth_c ⟨#[69, 120, 46, 99, 111, 109, 58, 56, 48]⟩ m w (by decide) h
    rw [show authB (ByteArray.mk #[69, 120, 46, 99, 111, 109, 58, 56, 48]).data.toList = some ([101, 120, 46, 99, 111, 109], 80) from by decide] at this
    exact this
  have HM := Lib.hid hm
  clear hm
  go_enter Tryd.func16, Tryd.ntmps16
  go_wp2_with fail
  refine (PA _ HM.out).out.mono ?_
  rintro e w1 ⟨rfl, hb1⟩
  have hz := hb1.size
  go_wp2_with fail
  have B1 : Below w.heap.size w (w1.alloc (.cells #[.int .i64 1, .string ⟨#[]⟩, .int .i64 0, .string ⟨#[47, 98]⟩, .string ⟨#[120, 61, 49]⟩, .bool true] 30)) := hb1.alloc hz _
  refine (AU _ (cell_below B1 HM.out)).out.mono ?_
  rintro e w2 ⟨rfl, hb2⟩
  obtain ⟨c0, c1, c2, c3, c4, c5, fz⟩ := (box6_new w1 _ _ _ _ _ _ _).below hb2
  have B2 := Lib.hid (B1.trans (hb2.mono (by simp; omega)))
  clear fz hb1 hb2 B1
  go_wp2
  go_ret
  exact ⟨rfl, B2.out⟩

set_option maxRecDepth 100000 in
set_option maxHeartbeats 4000000 in
theorem hosts_walk (s : ByteArray) (hs : s.size ≤ 140737488351232) (m : Int) (W : World) {w : World} (hW : W = w) (hm : W.cell? ⟨0, 0, none⟩ = some (.int .i64 m)) :
    Calls Tryd.prog 3 #[.string s] W fun e w' => e = .returned (.bool true) ∧ Below W.heap.size W w' := by
  subst hW
  have AN := Lib.hid (anchor6_c m W hm)
  have A1 := fun w h => Lib.hid (auth_c s m w hs h)
  have A2 := fun w => Lib.hid (rauth_c s w hs)
  have HM := Lib.hid hm
  clear hm
  generalize authB s.data.toList = o at *
  cases o with
  | none =>
    simp only [authVal] at A1 A2
    go_enter Tryd.func3, Tryd.ntmps3
    go_wp2_with fail
    refine AN.out.mono ?_
    rintro e w1 ⟨rfl, hb1⟩
    have M1 := Lib.hid (cell_below hb1 HM.out)
    go_wp2_with fail
    refine (A1 _ M1.out).out.mono ?_
    rintro e w2 ⟨rfl, hb2⟩
    go_wp2_with fail
    refine (A2 _).out.mono ?_
    rintro e w3 ⟨rfl, hb3⟩
    go_wp2
    go_ret
    exact ⟨rfl, below_then (below_then hb1 hb2) hb3⟩
  | some x =>
    obtain ⟨h, p⟩ := x
    simp only [authVal] at A1 A2
    go_enter Tryd.func3, Tryd.ntmps3
    go_wp2_with fail
    refine AN.out.mono ?_
    rintro e w1 ⟨rfl, hb1⟩
    have M1 := Lib.hid (cell_below hb1 HM.out)
    go_wp2_with fail
    refine (A1 _ M1.out).out.mono ?_
    rintro e w2 ⟨rfl, hb2⟩
    go_wp2_with fail
    refine (A2 _).out.mono ?_
    rintro e w3 ⟨rfl, hb3⟩
    go_wp2
    go_ret
    exact ⟨rfl, below_then (below_then hb1 hb2) hb3⟩
end Go.Proofs.YtjbmipbjlhcooaaDoor
