/- The texts FrmE in one. -/
import Derived.Test.YtgmjkkiahanekaaGreatDoorM18
import Derived.Test.YtgmjkkiahanekaaGreatDoorM7
import Derived.Test.YtgmjkkiahanekaaGreatDoorM8
import Derived.Outline
/- The contract of frame.Response over every head. -/
set_option linter.unusedVariables false
set_option linter.unusedSimpArgs false
namespace Go.Proofs.YtgmjkkiahanekaaGreatDoor
open Go.RowKit Lex

theorem ret_resp {w : World} {B : Nat} {v0 v1 e : Value} (h : Box2 w B v0 v1) {tmps : Array Value} (h4 : tmps[4]?.getD undef = .pointer (some ⟨B, 0, none⟩)) (h5 : tmps[5]?.getD undef = e) :
    (results Tryz.f64 tmps).run Tryz.prog w = .ok (.tuple #[.agg #[v0, v1], e]) w := by
  simp [results, Tryz.results64, go_sem, h4, h5, h.c0, h.c1]
set_option maxRecDepth 100000 in
set_option maxHeartbeats 4000000 in
theorem response_tunnel (me : ByteArray) (m t : ByteArray) (s : Int) (r : ByteArray) (mi : Int) (A : Option Addr) (cap : Nat) (fs : List Fd) (M : Int) (w : World) (hB : FB fs) (hF : Flds w A fs) (hm : w.cell? ⟨0, 0, none⟩ = some (.int .i64 M))
    (hs : s = 101 ∨ (200 ≤ s ∧ s ≤ 299 ∧ s ≠ 204 ∧ me.data.toList = connectM)) :
    Calls Tryz.prog 64 #[.string me, hv m t s r mi A fs.length cap] w fun e w' => e = .returned (frVal (5, 0, 0)) ∧ Below w.heap.size w w' := by
  have H1 := fun w h => Lib.hid (has_c m t s r mi A cap fs ⟨#[67, 111, 110, 116, 101, 110, 116, 45, 76, 101, 110, 103, 116, 104]⟩ w (by decide) hB h)
  rw [show (ByteArray.mk #[67, 111, 110, 116, 101, 110, 116, 45, 76, 101, 110, 103, 116, 104]).data.toList = clenU from rfl, show decide (0 < (getF fs clenU).2) = sizedF fs from by unfold sizedF getF; rw [valuesF_low clen_low]] at H1
  unfold hv at H1 ⊢
  have HF := Lib.hid hF
  have HM := Lib.hid hm
  clear hF hB hm
  generalize sizedF fs = sz at *
  generalize hout : frVal (5, 0, 0) = out
  have HV := Lib.hid hout
  clear hout
  rcases hs with hs | ⟨h1, h2, h3, h4⟩
  · have g1 : (s == 101) = true := by rw [hs]; rfl
    clear hs
    have W0 : Below w.heap.size w ((w.alloc (.cells #[.string m, .string t, .int .i64 s, .string r, .int .i64 mi, .slice A fs.length cap] 42)).alloc (.cells #[.int .i64 0, .int .i64 0] 96)) := ((Below.refl _ w).alloc (Nat.le_refl _) _).alloc (by simp) _
    have B0 := Lib.hid W0
    have X0 := Lib.hid ((box6_new w (.string m) (.string t) (.int .i64 s) (.string r) (.int .i64 mi) (.slice A fs.length cap) 42).alloc (.cells #[.int .i64 0, .int .i64 0] 96))
    have R00 := box2_new (w.alloc (.cells #[.string m, .string t, .int .i64 s, .string r, .int .i64 mi, .slice A fs.length cap] 42)) (.int .i64 0) (.int .i64 0) 96
    rw [show (w.alloc (.cells #[.string m, .string t, .int .i64 s, .string r, .int .i64 mi, .slice A fs.length cap] 42)).heap.size = w.heap.size + 1 from by simp] at R00
    have R0 := Lib.hid R00
    have F0 := Lib.hid (HF.out.below B0.out)
    have M0 := Lib.hid (cell_below B0.out HM.out)
    clear W0 R00
    go_enter Tryz.func64, Tryz.ntmps64
    go_wp2_with fail
    refine (H1 _ F0.out).out.mono ?_
    rintro e w1 ⟨rfl, hb1⟩
    have B1 := Lib.hid (below_then B0.out hb1)
    have X1 := Lib.hid (X0.out.below hb1)
    have R1 := Lib.hid (R0.out.below hb1)
    have F1 := Lib.hid (F0.out.below hb1)
    have M1 := Lib.hid (cell_below hb1 M0.out)
    obtain ⟨c0_1, c1_1, c2_1, c3_1, c4_1, c5_1, fz1⟩ := X1.out
    clear fz1 hb1
    have rz0 := R1.out.fz 0
    have rz1 := R1.out.fz 1
    have r0 := R1.out.c0
    have r1 := R1.out.c1
    go_wp2
    (try simp only [Exit.inBlock, Exit.then]); refine bodyPost_ret (ret_resp (Box2.stored R1.out _ _) rfl rfl) rfl ?_
    refine ⟨HV.out.symm ▸ rfl, ?_⟩
    repeat refine Below.setCell ?_ (by simp) _
    exact B1.out
  · have g1 : (s == 101) = false := by rw [beq_eq_false_iff_ne]; omega
    have g2 : (s != 204) = true := by rw [bne_iff_ne]; exact h3
    have g3 : (me.toList == [67, 79, 78, 78, 69, 67, 84]) = true := by rw [Lib.toList_data, h4]; rfl
    have g4 : me.toList = [67, 79, 78, 78, 69, 67, 84] := by rw [Lib.toList_data, h4]; rfl
    clear h3 h4
    have W0 : Below w.heap.size w ((w.alloc (.cells #[.string m, .string t, .int .i64 s, .string r, .int .i64 mi, .slice A fs.length cap] 42)).alloc (.cells #[.int .i64 0, .int .i64 0] 96)) := ((Below.refl _ w).alloc (Nat.le_refl _) _).alloc (by simp) _
    have B0 := Lib.hid W0
    have X0 := Lib.hid ((box6_new w (.string m) (.string t) (.int .i64 s) (.string r) (.int .i64 mi) (.slice A fs.length cap) 42).alloc (.cells #[.int .i64 0, .int .i64 0] 96))
    have R00 := box2_new (w.alloc (.cells #[.string m, .string t, .int .i64 s, .string r, .int .i64 mi, .slice A fs.length cap] 42)) (.int .i64 0) (.int .i64 0) 96
    rw [show (w.alloc (.cells #[.string m, .string t, .int .i64 s, .string r, .int .i64 mi, .slice A fs.length cap] 42)).heap.size = w.heap.size + 1 from by simp] at R00
    have R0 := Lib.hid R00
    have F0 := Lib.hid (HF.out.below B0.out)
    have M0 := Lib.hid (cell_below B0.out HM.out)
    clear W0 R00
    go_enter Tryz.func64, Tryz.ntmps64
    go_wp2_with fail
    refine (H1 _ F0.out).out.mono ?_
    rintro e w1 ⟨rfl, hb1⟩
    have B1 := Lib.hid (below_then B0.out hb1)
    have X1 := Lib.hid (X0.out.below hb1)
    have R1 := Lib.hid (R0.out.below hb1)
    have F1 := Lib.hid (F0.out.below hb1)
    have M1 := Lib.hid (cell_below hb1 M0.out)
    obtain ⟨c0_1, c1_1, c2_1, c3_1, c4_1, c5_1, fz1⟩ := X1.out
    clear fz1 hb1
    have rz0 := R1.out.fz 0
    have rz1 := R1.out.fz 1
    have r0 := R1.out.c0
    have r1 := R1.out.c1
    go_wp2
    (try simp only [Exit.inBlock, Exit.then]); refine bodyPost_ret (ret_resp (Box2.stored R1.out _ _) rfl rfl) rfl ?_
    refine ⟨HV.out.symm ▸ rfl, ?_⟩
    repeat refine Below.setCell ?_ (by simp) _
    exact B1.out

set_option maxRecDepth 100000 in
set_option maxHeartbeats 4000000 in
theorem response_none (me : ByteArray) (m t : ByteArray) (s : Int) (r : ByteArray) (mi : Int) (A : Option Addr) (cap : Nat) (fs : List Fd) (M : Int) (w : World) (hB : FB fs) (hF : Flds w A fs) (hm : w.cell? ⟨0, 0, none⟩ = some (.int .i64 M))
    (hs : (100 ≤ s ∧ s ≤ 199 ∧ s ≠ 101) ∨ s = 204 ∨ s = 304 ∨ (me.data.toList = headM ∧ s ≠ 101 ∧ (s < 100 ∨ (200 ≤ s ∧ s ≤ 299 ∧ s ≠ 204) ∨ (299 < s ∧ s ≠ 304)))) :
    Calls Tryz.prog 64 #[.string me, hv m t s r mi A fs.length cap] w fun e w' => e = .returned (frVal (1, 0, 0)) ∧ Below w.heap.size w w' := by
  have H1 := fun w h => Lib.hid (has_c m t s r mi A cap fs ⟨#[67, 111, 110, 116, 101, 110, 116, 45, 76, 101, 110, 103, 116, 104]⟩ w (by decide) hB h)
  rw [show (ByteArray.mk #[67, 111, 110, 116, 101, 110, 116, 45, 76, 101, 110, 103, 116, 104]).data.toList = clenU from rfl, show decide (0 < (getF fs clenU).2) = sizedF fs from by unfold sizedF getF; rw [valuesF_low clen_low]] at H1
  unfold hv at H1 ⊢
  have HF := Lib.hid hF
  have HM := Lib.hid hm
  clear hF hB hm
  generalize sizedF fs = sz at *
  generalize hout : frVal (1, 0, 0) = out
  have HV := Lib.hid hout
  clear hout
  rcases hs with ⟨h1, h2, h3⟩ | h1 | h1 | ⟨h4, h3, h1⟩
  · have g1 : (s == 101) = false := by rw [beq_eq_false_iff_ne]; exact h3
    have g2 : s < 200 := by omega
    clear h3
    have W0 : Below w.heap.size w ((w.alloc (.cells #[.string m, .string t, .int .i64 s, .string r, .int .i64 mi, .slice A fs.length cap] 42)).alloc (.cells #[.int .i64 0, .int .i64 0] 96)) := ((Below.refl _ w).alloc (Nat.le_refl _) _).alloc (by simp) _
    have B0 := Lib.hid W0
    have X0 := Lib.hid ((box6_new w (.string m) (.string t) (.int .i64 s) (.string r) (.int .i64 mi) (.slice A fs.length cap) 42).alloc (.cells #[.int .i64 0, .int .i64 0] 96))
    have R00 := box2_new (w.alloc (.cells #[.string m, .string t, .int .i64 s, .string r, .int .i64 mi, .slice A fs.length cap] 42)) (.int .i64 0) (.int .i64 0) 96
    rw [show (w.alloc (.cells #[.string m, .string t, .int .i64 s, .string r, .int .i64 mi, .slice A fs.length cap] 42)).heap.size = w.heap.size + 1 from by simp] at R00
    have R0 := Lib.hid R00
    have F0 := Lib.hid (HF.out.below B0.out)
    have M0 := Lib.hid (cell_below B0.out HM.out)
    clear W0 R00
    go_enter Tryz.func64, Tryz.ntmps64
    go_wp2_with fail
    refine (H1 _ F0.out).out.mono ?_
    rintro e w1 ⟨rfl, hb1⟩
    have B1 := Lib.hid (below_then B0.out hb1)
    have X1 := Lib.hid (X0.out.below hb1)
    have R1 := Lib.hid (R0.out.below hb1)
    have F1 := Lib.hid (F0.out.below hb1)
    have M1 := Lib.hid (cell_below hb1 M0.out)
    obtain ⟨c0_1, c1_1, c2_1, c3_1, c4_1, c5_1, fz1⟩ := X1.out
    clear fz1 hb1
    have rz0 := R1.out.fz 0
    have rz1 := R1.out.fz 1
    have r0 := R1.out.c0
    have r1 := R1.out.c1
    go_wp2
    (try simp only [Exit.inBlock, Exit.then]); refine bodyPost_ret (ret_resp (Box2.stored R1.out _ _) rfl rfl) rfl ?_
    refine ⟨HV.out.symm ▸ rfl, ?_⟩
    repeat refine Below.setCell ?_ (by simp) _
    exact B1.out
  · subst h1
    have W0 : Below w.heap.size w ((w.alloc (.cells #[.string m, .string t, .int .i64 204, .string r, .int .i64 mi, .slice A fs.length cap] 42)).alloc (.cells #[.int .i64 0, .int .i64 0] 96)) := ((Below.refl _ w).alloc (Nat.le_refl _) _).alloc (by simp) _
    have B0 := Lib.hid W0
    have X0 := Lib.hid ((box6_new w (.string m) (.string t) (.int .i64 204) (.string r) (.int .i64 mi) (.slice A fs.length cap) 42).alloc (.cells #[.int .i64 0, .int .i64 0] 96))
    have R00 := box2_new (w.alloc (.cells #[.string m, .string t, .int .i64 204, .string r, .int .i64 mi, .slice A fs.length cap] 42)) (.int .i64 0) (.int .i64 0) 96
    rw [show (w.alloc (.cells #[.string m, .string t, .int .i64 204, .string r, .int .i64 mi, .slice A fs.length cap] 42)).heap.size = w.heap.size + 1 from by simp] at R00
    have R0 := Lib.hid R00
    have F0 := Lib.hid (HF.out.below B0.out)
    have M0 := Lib.hid (cell_below B0.out HM.out)
    clear W0 R00
    go_enter Tryz.func64, Tryz.ntmps64
    go_wp2_with fail
    refine (H1 _ F0.out).out.mono ?_
    rintro e w1 ⟨rfl, hb1⟩
    have B1 := Lib.hid (below_then B0.out hb1)
    have X1 := Lib.hid (X0.out.below hb1)
    have R1 := Lib.hid (R0.out.below hb1)
    have F1 := Lib.hid (F0.out.below hb1)
    have M1 := Lib.hid (cell_below hb1 M0.out)
    obtain ⟨c0_1, c1_1, c2_1, c3_1, c4_1, c5_1, fz1⟩ := X1.out
    clear fz1 hb1
    have rz0 := R1.out.fz 0
    have rz1 := R1.out.fz 1
    have r0 := R1.out.c0
    have r1 := R1.out.c1
    go_wp2
    (try simp only [Exit.inBlock, Exit.then]); refine bodyPost_ret (ret_resp (Box2.stored R1.out _ _) rfl rfl) rfl ?_
    refine ⟨HV.out.symm ▸ rfl, ?_⟩
    repeat refine Below.setCell ?_ (by simp) _
    exact B1.out
  · subst h1
    have W0 : Below w.heap.size w ((w.alloc (.cells #[.string m, .string t, .int .i64 304, .string r, .int .i64 mi, .slice A fs.length cap] 42)).alloc (.cells #[.int .i64 0, .int .i64 0] 96)) := ((Below.refl _ w).alloc (Nat.le_refl _) _).alloc (by simp) _
    have B0 := Lib.hid W0
    have X0 := Lib.hid ((box6_new w (.string m) (.string t) (.int .i64 304) (.string r) (.int .i64 mi) (.slice A fs.length cap) 42).alloc (.cells #[.int .i64 0, .int .i64 0] 96))
    have R00 := box2_new (w.alloc (.cells #[.string m, .string t, .int .i64 304, .string r, .int .i64 mi, .slice A fs.length cap] 42)) (.int .i64 0) (.int .i64 0) 96
    rw [show (w.alloc (.cells #[.string m, .string t, .int .i64 304, .string r, .int .i64 mi, .slice A fs.length cap] 42)).heap.size = w.heap.size + 1 from by simp] at R00
    have R0 := Lib.hid R00
    have F0 := Lib.hid (HF.out.below B0.out)
    have M0 := Lib.hid (cell_below B0.out HM.out)
    clear W0 R00
    go_enter Tryz.func64, Tryz.ntmps64
    go_wp2_with fail
    refine (H1 _ F0.out).out.mono ?_
    rintro e w1 ⟨rfl, hb1⟩
    have B1 := Lib.hid (below_then B0.out hb1)
    have X1 := Lib.hid (X0.out.below hb1)
    have R1 := Lib.hid (R0.out.below hb1)
    have F1 := Lib.hid (F0.out.below hb1)
    have M1 := Lib.hid (cell_below hb1 M0.out)
    obtain ⟨c0_1, c1_1, c2_1, c3_1, c4_1, c5_1, fz1⟩ := X1.out
    clear fz1 hb1
    have rz0 := R1.out.fz 0
    have rz1 := R1.out.fz 1
    have r0 := R1.out.c0
    have r1 := R1.out.c1
    go_wp2
    (try simp only [Exit.inBlock, Exit.then]); refine bodyPost_ret (ret_resp (Box2.stored R1.out _ _) rfl rfl) rfl ?_
    refine ⟨HV.out.symm ▸ rfl, ?_⟩
    repeat refine Below.setCell ?_ (by simp) _
    exact B1.out
  · have g1 : (s == 101) = false := by rw [beq_eq_false_iff_ne]; exact h3
    have k1 : (me.toList == [67, 79, 78, 78, 69, 67, 84]) = false := by rw [Lib.toList_data, h4]; rfl
    have k2 : (me.toList == [72, 69, 65, 68]) = true := by rw [Lib.toList_data, h4]; rfl
    have k3 : ¬ me.toList = [67, 79, 78, 78, 69, 67, 84] := by rw [Lib.toList_data, h4]; decide
    have k4 : me.toList = [72, 69, 65, 68] := by rw [Lib.toList_data, h4]; rfl
    clear h3 h4
    rcases h1 with h1 | ⟨h1, h2, h3⟩ | ⟨h1, h3⟩
    · have g2 : s < 200 := by omega
      have g3 : (s == 204) = false := by rw [beq_eq_false_iff_ne]; omega
      have g4 : (s == 304) = false := by rw [beq_eq_false_iff_ne]; omega
      have W0 : Below w.heap.size w ((w.alloc (.cells #[.string m, .string t, .int .i64 s, .string r, .int .i64 mi, .slice A fs.length cap] 42)).alloc (.cells #[.int .i64 0, .int .i64 0] 96)) := ((Below.refl _ w).alloc (Nat.le_refl _) _).alloc (by simp) _
      have B0 := Lib.hid W0
      have X0 := Lib.hid ((box6_new w (.string m) (.string t) (.int .i64 s) (.string r) (.int .i64 mi) (.slice A fs.length cap) 42).alloc (.cells #[.int .i64 0, .int .i64 0] 96))
      have R00 := box2_new (w.alloc (.cells #[.string m, .string t, .int .i64 s, .string r, .int .i64 mi, .slice A fs.length cap] 42)) (.int .i64 0) (.int .i64 0) 96
      rw [show (w.alloc (.cells #[.string m, .string t, .int .i64 s, .string r, .int .i64 mi, .slice A fs.length cap] 42)).heap.size = w.heap.size + 1 from by simp] at R00
      have R0 := Lib.hid R00
      have F0 := Lib.hid (HF.out.below B0.out)
      have M0 := Lib.hid (cell_below B0.out HM.out)
      clear W0 R00
      go_enter Tryz.func64, Tryz.ntmps64
      go_wp2_with fail
      refine (H1 _ F0.out).out.mono ?_
      rintro e w1 ⟨rfl, hb1⟩
      have B1 := Lib.hid (below_then B0.out hb1)
      have X1 := Lib.hid (X0.out.below hb1)
      have R1 := Lib.hid (R0.out.below hb1)
      have F1 := Lib.hid (F0.out.below hb1)
      have M1 := Lib.hid (cell_below hb1 M0.out)
      obtain ⟨c0_1, c1_1, c2_1, c3_1, c4_1, c5_1, fz1⟩ := X1.out
      clear fz1 hb1
      have rz0 := R1.out.fz 0
      have rz1 := R1.out.fz 1
      have r0 := R1.out.c0
      have r1 := R1.out.c1
      go_wp2
      (try simp only [Exit.inBlock, Exit.then]); refine bodyPost_ret (ret_resp (Box2.stored R1.out _ _) rfl rfl) rfl ?_
      refine ⟨HV.out.symm ▸ rfl, ?_⟩
      repeat refine Below.setCell ?_ (by simp) _
      exact B1.out
    · have g2 : (s != 204) = true := by rw [bne_iff_ne]; exact h3
      have g3 : (s == 204) = false := by rw [beq_eq_false_iff_ne]; exact h3
      have g4 : (s == 304) = false := by rw [beq_eq_false_iff_ne]; omega
      have g5 : 199 < s := by omega
      have g6 : 100 ≤ s := by omega
      clear h3
      have W0 : Below w.heap.size w ((w.alloc (.cells #[.string m, .string t, .int .i64 s, .string r, .int .i64 mi, .slice A fs.length cap] 42)).alloc (.cells #[.int .i64 0, .int .i64 0] 96)) := ((Below.refl _ w).alloc (Nat.le_refl _) _).alloc (by simp) _
      have B0 := Lib.hid W0
      have X0 := Lib.hid ((box6_new w (.string m) (.string t) (.int .i64 s) (.string r) (.int .i64 mi) (.slice A fs.length cap) 42).alloc (.cells #[.int .i64 0, .int .i64 0] 96))
      have R00 := box2_new (w.alloc (.cells #[.string m, .string t, .int .i64 s, .string r, .int .i64 mi, .slice A fs.length cap] 42)) (.int .i64 0) (.int .i64 0) 96
      rw [show (w.alloc (.cells #[.string m, .string t, .int .i64 s, .string r, .int .i64 mi, .slice A fs.length cap] 42)).heap.size = w.heap.size + 1 from by simp] at R00
      have R0 := Lib.hid R00
      have F0 := Lib.hid (HF.out.below B0.out)
      have M0 := Lib.hid (cell_below B0.out HM.out)
      clear W0 R00
      go_enter Tryz.func64, Tryz.ntmps64
      go_wp2_with fail
      refine (H1 _ F0.out).out.mono ?_
      rintro e w1 ⟨rfl, hb1⟩
      have B1 := Lib.hid (below_then B0.out hb1)
      have X1 := Lib.hid (X0.out.below hb1)
      have R1 := Lib.hid (R0.out.below hb1)
      have F1 := Lib.hid (F0.out.below hb1)
      have M1 := Lib.hid (cell_below hb1 M0.out)
      obtain ⟨c0_1, c1_1, c2_1, c3_1, c4_1, c5_1, fz1⟩ := X1.out
      clear fz1 hb1
      have rz0 := R1.out.fz 0
      have rz1 := R1.out.fz 1
      have r0 := R1.out.c0
      have r1 := R1.out.c1
      go_wp2
      (try simp only [Exit.inBlock, Exit.then]); refine bodyPost_ret (ret_resp (Box2.stored R1.out _ _) rfl rfl) rfl ?_
      refine ⟨HV.out.symm ▸ rfl, ?_⟩
      repeat refine Below.setCell ?_ (by simp) _
      exact B1.out
    · have g2 : 200 ≤ s := by omega
      have g3 : (s == 204) = false := by rw [beq_eq_false_iff_ne]; omega
      have g4 : (s == 304) = false := by rw [beq_eq_false_iff_ne]; exact h3
      have g5 : 199 < s := by omega
      have g6 : 100 ≤ s := by omega
      clear h3
      have W0 : Below w.heap.size w ((w.alloc (.cells #[.string m, .string t, .int .i64 s, .string r, .int .i64 mi, .slice A fs.length cap] 42)).alloc (.cells #[.int .i64 0, .int .i64 0] 96)) := ((Below.refl _ w).alloc (Nat.le_refl _) _).alloc (by simp) _
      have B0 := Lib.hid W0
      have X0 := Lib.hid ((box6_new w (.string m) (.string t) (.int .i64 s) (.string r) (.int .i64 mi) (.slice A fs.length cap) 42).alloc (.cells #[.int .i64 0, .int .i64 0] 96))
      have R00 := box2_new (w.alloc (.cells #[.string m, .string t, .int .i64 s, .string r, .int .i64 mi, .slice A fs.length cap] 42)) (.int .i64 0) (.int .i64 0) 96
      rw [show (w.alloc (.cells #[.string m, .string t, .int .i64 s, .string r, .int .i64 mi, .slice A fs.length cap] 42)).heap.size = w.heap.size + 1 from by simp] at R00
      have R0 := Lib.hid R00
      have F0 := Lib.hid (HF.out.below B0.out)
      have M0 := Lib.hid (cell_below B0.out HM.out)
      clear W0 R00
      go_enter Tryz.func64, Tryz.ntmps64
      go_wp2_with fail
      refine (H1 _ F0.out).out.mono ?_
      rintro e w1 ⟨rfl, hb1⟩
      have B1 := Lib.hid (below_then B0.out hb1)
      have X1 := Lib.hid (X0.out.below hb1)
      have R1 := Lib.hid (R0.out.below hb1)
      have F1 := Lib.hid (F0.out.below hb1)
      have M1 := Lib.hid (cell_below hb1 M0.out)
      obtain ⟨c0_1, c1_1, c2_1, c3_1, c4_1, c5_1, fz1⟩ := X1.out
      clear fz1 hb1
      have rz0 := R1.out.fz 0
      have rz1 := R1.out.fz 1
      have r0 := R1.out.c0
      have r1 := R1.out.c1
      go_wp2
      (try simp only [Exit.inBlock, Exit.then]); refine bodyPost_ret (ret_resp (Box2.stored R1.out _ _) rfl rfl) rfl ?_
      refine ⟨HV.out.symm ▸ rfl, ?_⟩
      repeat refine Below.setCell ?_ (by simp) _
      exact B1.out

set_option maxRecDepth 100000 in
set_option maxHeartbeats 16000000 in
theorem response_body (me : ByteArray) (m t : ByteArray) (s : Int) (r : ByteArray) (mi : Int) (A : Option Addr) (cap : Nat) (fs : List Fd) (M : Int) (w : World) (hB : FB fs) (hF : Flds w A fs) (hm : w.cell? ⟨0, 0, none⟩ = some (.int .i64 M))
    (hh : me.data.toList ≠ headM) (hs : s < 100 ∨ (200 ≤ s ∧ s ≤ 299 ∧ s ≠ 204 ∧ me.data.toList ≠ connectM) ∨ (299 < s ∧ s ≠ 304)) (out : Value)
    (hout : frVal (if codedF fs = true then (if mi = 0 ∨ sizedF fs = true then ((0, 0, 90) : Int × Int × Int) else if codeF fs = 1 then (3, 0, 0) else (0, 0, 91))
      else if sizedF fs = false then (4, 0, 0)
      else match lengthF fs with
        | some (some n) => (2, n, 0)
        | _ => (0, 0, 90)) = out) :
    Calls Tryz.prog 64 #[.string me, hv m t s r mi A fs.length cap] w fun e w' => e = .returned out ∧ Below w.heap.size w w' := by
  have H1 := fun w h => Lib.hid (has_c m t s r mi A cap fs ⟨#[67, 111, 110, 116, 101, 110, 116, 45, 76, 101, 110, 103, 116, 104]⟩ w (by decide) hB h)
  rw [show (ByteArray.mk #[67, 111, 110, 116, 101, 110, 116, 45, 76, 101, 110, 103, 116, 104]).data.toList = clenU from rfl, show decide (0 < (getF fs clenU).2) = sizedF fs from by unfold sizedF getF; rw [valuesF_low clen_low]] at H1
  have H2 := fun w h => Lib.hid (has_c m t s r mi A cap fs ⟨#[84, 114, 97, 110, 115, 102, 101, 114, 45, 69, 110, 99, 111, 100, 105, 110, 103]⟩ w (by decide) hB h)
  rw [show (ByteArray.mk #[84, 114, 97, 110, 115, 102, 101, 114, 45, 69, 110, 99, 111, 100, 105, 110, 103]).data.toList = tencU from rfl, show decide (0 < (getF fs tencU).2) = codedF fs from by unfold codedF getF; rw [valuesF_low tenc_low]] at H2
  have C := fun w h hm => Lib.hid (coding_c m t s r mi A cap fs M w hB h hm)
  have L := fun w h hm => Lib.hid (length_c m t s r mi A cap fs M w hB h hm)
  unfold hv at H1 H2 C L ⊢
  have HF := Lib.hid hF
  have HM := Lib.hid hm
  have hcc := codeL_cases (elementsF fs tencL)
  rw [show codeL (elementsF fs tencL) = codeF fs from rfl] at hcc
  have hls := length_sized (fs := fs)
  clear hF hB hm
  generalize codeF fs = c at *
  generalize lengthF fs = lf at *
  generalize sizedF fs = sz at *
  have k2 : (me.toList == [72, 69, 65, 68]) = false := by rw [Lib.toList_data, beq_eq_false_iff_ne]; exact hh
  have k4 : ¬ me.toList = [72, 69, 65, 68] := by rw [Lib.toList_data]; exact hh
  have hr : (s < 100 ∧ s < 200 ∧ (s == 101) = false ∧ (s == 204) = false ∧ (s == 304) = false) ∨
      (200 ≤ s ∧ s ≤ 299 ∧ 199 < s ∧ 100 ≤ s ∧ (s == 101) = false ∧ (s != 204) = true ∧ (s == 204) = false ∧ (s == 304) = false ∧ (me.toList == [67, 79, 78, 78, 69, 67, 84]) = false ∧ ¬ me.toList = [67, 79, 78, 78, 69, 67, 84]) ∨
      (299 < s ∧ 200 ≤ s ∧ 199 < s ∧ 100 ≤ s ∧ (s == 101) = false ∧ (s == 204) = false ∧ (s == 304) = false) := by
    simp only [beq_eq_false_iff_ne, bne_iff_ne, Lib.toList_data]
    rcases hs with h | ⟨h1, h2, h3, h4⟩ | ⟨h1, h2⟩
    · exact .inl ⟨h, by omega, by omega, by omega, by omega⟩
    · exact .inr (.inl ⟨h1, h2, by omega, by omega, by omega, h3, h3, by omega, h4, h4⟩)
    · exact .inr (.inr ⟨h1, by omega, by omega, by omega, by omega, by omega, h2⟩)
  clear hh hs
  cases hcd : codedF fs with
  | true =>
    rw [hcd] at H2 hout
    rw [if_pos rfl] at hout
    simp only [codeVal] at C
    clear hcd L hls
    by_cases h0 : mi = 0
    · have b0 : (mi == 0) = true := by rw [h0]; rfl
      have HV := Lib.hid (show frVal (0, 0, 90) = out by rw [← hout, if_pos (.inl h0)])
      clear hout h0
      rcases hr with ⟨h1, h2, g1, g3, g4⟩ | ⟨h1, h2, h5, h6, g1, g2, g3, g4, k1, k3⟩ | ⟨h1, h2, h5, h6, g1, g3, g4⟩
      all_goals
        have W0 : Below w.heap.size w ((w.alloc (.cells #[.string m, .string t, .int .i64 s, .string r, .int .i64 mi, .slice A fs.length cap] 42)).alloc (.cells #[.int .i64 0, .int .i64 0] 96)) := ((Below.refl _ w).alloc (Nat.le_refl _) _).alloc (by simp) _
        have B0 := Lib.hid W0
        have X0 := Lib.hid ((box6_new w (.string m) (.string t) (.int .i64 s) (.string r) (.int .i64 mi) (.slice A fs.length cap) 42).alloc (.cells #[.int .i64 0, .int .i64 0] 96))
        have R00 := box2_new (w.alloc (.cells #[.string m, .string t, .int .i64 s, .string r, .int .i64 mi, .slice A fs.length cap] 42)) (.int .i64 0) (.int .i64 0) 96
        rw [show (w.alloc (.cells #[.string m, .string t, .int .i64 s, .string r, .int .i64 mi, .slice A fs.length cap] 42)).heap.size = w.heap.size + 1 from by simp] at R00
        have R0 := Lib.hid R00
        have F0 := Lib.hid (HF.out.below B0.out)
        have M0 := Lib.hid (cell_below B0.out HM.out)
        clear W0 R00
        go_enter Tryz.func64, Tryz.ntmps64
        go_wp2_with fail
        refine (H1 _ F0.out).out.mono ?_
        rintro e w1 ⟨rfl, hb1⟩
        have B1 := Lib.hid (below_then B0.out hb1)
        have X1 := Lib.hid (X0.out.below hb1)
        have R1 := Lib.hid (R0.out.below hb1)
        have F1 := Lib.hid (F0.out.below hb1)
        have M1 := Lib.hid (cell_below hb1 M0.out)
        obtain ⟨c0_1, c1_1, c2_1, c3_1, c4_1, c5_1, fz1⟩ := X1.out
        clear fz1 hb1
        go_wp2_with fail
        refine (H2 _ F1.out).out.mono ?_
        rintro e w2 ⟨rfl, hb2⟩
        have B2 := Lib.hid (below_then B1.out hb2)
        have X2 := Lib.hid (X1.out.below hb2)
        have R2 := Lib.hid (R1.out.below hb2)
        have F2 := Lib.hid (F1.out.below hb2)
        have M2 := Lib.hid (cell_below hb2 M1.out)
        obtain ⟨c0_2, c1_2, c2_2, c3_2, c4_2, c5_2, fz2⟩ := X2.out
        clear fz2 hb2
        go_wp2_with fail
        refine (C _ F2.out M2.out).out.mono ?_
        rintro e w3 ⟨rfl, hb3⟩
        have B3 := Lib.hid (below_then B2.out hb3)
        have X3 := Lib.hid (X2.out.below hb3)
        have R3 := Lib.hid (R2.out.below hb3)
        have F3 := Lib.hid (F2.out.below hb3)
        have M3 := Lib.hid (cell_below hb3 M2.out)
        obtain ⟨c0_3, c1_3, c2_3, c3_3, c4_3, c5_3, fz3⟩ := X3.out
        clear fz3 hb3
        have rz0 := R3.out.fz 0
        have rz1 := R3.out.fz 1
        have r0 := R3.out.c0
        have r1 := R3.out.c1
        go_wp2
        (try simp only [Exit.inBlock, Exit.then]); refine bodyPost_ret (ret_resp (Box2.stored R3.out _ _) rfl rfl) rfl ?_
        refine ⟨HV.out.symm ▸ rfl, ?_⟩
        repeat refine Below.setCell ?_ (by simp) _
        exact B3.out
    · have b0 : (mi == 0) = false := by rw [beq_eq_false_iff_ne]; exact h0
      cases sz with
      | true =>
        have HV := Lib.hid (show frVal (0, 0, 90) = out by rw [← hout, if_pos (.inr rfl)])
        clear hout h0
        rcases hr with ⟨h1, h2, g1, g3, g4⟩ | ⟨h1, h2, h5, h6, g1, g2, g3, g4, k1, k3⟩ | ⟨h1, h2, h5, h6, g1, g3, g4⟩
        all_goals
          have W0 : Below w.heap.size w ((w.alloc (.cells #[.string m, .string t, .int .i64 s, .string r, .int .i64 mi, .slice A fs.length cap] 42)).alloc (.cells #[.int .i64 0, .int .i64 0] 96)) := ((Below.refl _ w).alloc (Nat.le_refl _) _).alloc (by simp) _
          have B0 := Lib.hid W0
          have X0 := Lib.hid ((box6_new w (.string m) (.string t) (.int .i64 s) (.string r) (.int .i64 mi) (.slice A fs.length cap) 42).alloc (.cells #[.int .i64 0, .int .i64 0] 96))
          have R00 := box2_new (w.alloc (.cells #[.string m, .string t, .int .i64 s, .string r, .int .i64 mi, .slice A fs.length cap] 42)) (.int .i64 0) (.int .i64 0) 96
          rw [show (w.alloc (.cells #[.string m, .string t, .int .i64 s, .string r, .int .i64 mi, .slice A fs.length cap] 42)).heap.size = w.heap.size + 1 from by simp] at R00
          have R0 := Lib.hid R00
          have F0 := Lib.hid (HF.out.below B0.out)
          have M0 := Lib.hid (cell_below B0.out HM.out)
          clear W0 R00
          go_enter Tryz.func64, Tryz.ntmps64
          go_wp2_with fail
          refine (H1 _ F0.out).out.mono ?_
          rintro e w1 ⟨rfl, hb1⟩
          have B1 := Lib.hid (below_then B0.out hb1)
          have X1 := Lib.hid (X0.out.below hb1)
          have R1 := Lib.hid (R0.out.below hb1)
          have F1 := Lib.hid (F0.out.below hb1)
          have M1 := Lib.hid (cell_below hb1 M0.out)
          obtain ⟨c0_1, c1_1, c2_1, c3_1, c4_1, c5_1, fz1⟩ := X1.out
          clear fz1 hb1
          go_wp2_with fail
          refine (H2 _ F1.out).out.mono ?_
          rintro e w2 ⟨rfl, hb2⟩
          have B2 := Lib.hid (below_then B1.out hb2)
          have X2 := Lib.hid (X1.out.below hb2)
          have R2 := Lib.hid (R1.out.below hb2)
          have F2 := Lib.hid (F1.out.below hb2)
          have M2 := Lib.hid (cell_below hb2 M1.out)
          obtain ⟨c0_2, c1_2, c2_2, c3_2, c4_2, c5_2, fz2⟩ := X2.out
          clear fz2 hb2
          go_wp2_with fail
          refine (C _ F2.out M2.out).out.mono ?_
          rintro e w3 ⟨rfl, hb3⟩
          have B3 := Lib.hid (below_then B2.out hb3)
          have X3 := Lib.hid (X2.out.below hb3)
          have R3 := Lib.hid (R2.out.below hb3)
          have F3 := Lib.hid (F2.out.below hb3)
          have M3 := Lib.hid (cell_below hb3 M2.out)
          obtain ⟨c0_3, c1_3, c2_3, c3_3, c4_3, c5_3, fz3⟩ := X3.out
          clear fz3 hb3
          have rz0 := R3.out.fz 0
          have rz1 := R3.out.fz 1
          have r0 := R3.out.c0
          have r1 := R3.out.c1
          go_wp2
          (try simp only [Exit.inBlock, Exit.then]); refine bodyPost_ret (ret_resp (Box2.stored R3.out _ _) rfl rfl) rfl ?_
          refine ⟨HV.out.symm ▸ rfl, ?_⟩
          repeat refine Below.setCell ?_ (by simp) _
          exact B3.out
      | false =>
        by_cases hc1 : c = 1
        · subst hc1
          have HV := Lib.hid (show frVal (3, 0, 0) = out by rw [← hout, if_neg (by simp [h0]), if_pos rfl])
          rw [decide_eq_true rfl] at C
          clear hout h0
          rcases hr with ⟨h1, h2, g1, g3, g4⟩ | ⟨h1, h2, h5, h6, g1, g2, g3, g4, k1, k3⟩ | ⟨h1, h2, h5, h6, g1, g3, g4⟩
          all_goals
            have W0 : Below w.heap.size w ((w.alloc (.cells #[.string m, .string t, .int .i64 s, .string r, .int .i64 mi, .slice A fs.length cap] 42)).alloc (.cells #[.int .i64 0, .int .i64 0] 96)) := ((Below.refl _ w).alloc (Nat.le_refl _) _).alloc (by simp) _
            have B0 := Lib.hid W0
            have X0 := Lib.hid ((box6_new w (.string m) (.string t) (.int .i64 s) (.string r) (.int .i64 mi) (.slice A fs.length cap) 42).alloc (.cells #[.int .i64 0, .int .i64 0] 96))
            have R00 := box2_new (w.alloc (.cells #[.string m, .string t, .int .i64 s, .string r, .int .i64 mi, .slice A fs.length cap] 42)) (.int .i64 0) (.int .i64 0) 96
            rw [show (w.alloc (.cells #[.string m, .string t, .int .i64 s, .string r, .int .i64 mi, .slice A fs.length cap] 42)).heap.size = w.heap.size + 1 from by simp] at R00
            have R0 := Lib.hid R00
            have F0 := Lib.hid (HF.out.below B0.out)
            have M0 := Lib.hid (cell_below B0.out HM.out)
            clear W0 R00
            go_enter Tryz.func64, Tryz.ntmps64
            go_wp2_with fail
            refine (H1 _ F0.out).out.mono ?_
            rintro e w1 ⟨rfl, hb1⟩
            have B1 := Lib.hid (below_then B0.out hb1)
            have X1 := Lib.hid (X0.out.below hb1)
            have R1 := Lib.hid (R0.out.below hb1)
            have F1 := Lib.hid (F0.out.below hb1)
            have M1 := Lib.hid (cell_below hb1 M0.out)
            obtain ⟨c0_1, c1_1, c2_1, c3_1, c4_1, c5_1, fz1⟩ := X1.out
            clear fz1 hb1
            go_wp2_with fail
            refine (H2 _ F1.out).out.mono ?_
            rintro e w2 ⟨rfl, hb2⟩
            have B2 := Lib.hid (below_then B1.out hb2)
            have X2 := Lib.hid (X1.out.below hb2)
            have R2 := Lib.hid (R1.out.below hb2)
            have F2 := Lib.hid (F1.out.below hb2)
            have M2 := Lib.hid (cell_below hb2 M1.out)
            obtain ⟨c0_2, c1_2, c2_2, c3_2, c4_2, c5_2, fz2⟩ := X2.out
            clear fz2 hb2
            go_wp2_with fail
            refine (C _ F2.out M2.out).out.mono ?_
            rintro e w3 ⟨rfl, hb3⟩
            have B3 := Lib.hid (below_then B2.out hb3)
            have X3 := Lib.hid (X2.out.below hb3)
            have R3 := Lib.hid (R2.out.below hb3)
            have F3 := Lib.hid (F2.out.below hb3)
            have M3 := Lib.hid (cell_below hb3 M2.out)
            obtain ⟨c0_3, c1_3, c2_3, c3_3, c4_3, c5_3, fz3⟩ := X3.out
            clear fz3 hb3
            have rz0 := R3.out.fz 0
            have rz1 := R3.out.fz 1
            have r0 := R3.out.c0
            have r1 := R3.out.c1
            go_wp2
            (try simp only [Exit.inBlock, Exit.then]); refine bodyPost_ret (ret_resp (Box2.stored R3.out _ _) rfl rfl) rfl ?_
            refine ⟨HV.out.symm ▸ rfl, ?_⟩
            repeat refine Below.setCell ?_ (by simp) _
            exact B3.out
        · have HV := Lib.hid (show frVal (0, 0, 91) = out by rw [← hout, if_neg (by simp [h0]), if_neg hc1])
          rw [decide_eq_false hc1] at C
          clear hout h0 hc1 hcc
          rcases hr with ⟨h1, h2, g1, g3, g4⟩ | ⟨h1, h2, h5, h6, g1, g2, g3, g4, k1, k3⟩ | ⟨h1, h2, h5, h6, g1, g3, g4⟩
          all_goals
            have W0 : Below w.heap.size w ((w.alloc (.cells #[.string m, .string t, .int .i64 s, .string r, .int .i64 mi, .slice A fs.length cap] 42)).alloc (.cells #[.int .i64 0, .int .i64 0] 96)) := ((Below.refl _ w).alloc (Nat.le_refl _) _).alloc (by simp) _
            have B0 := Lib.hid W0
            have X0 := Lib.hid ((box6_new w (.string m) (.string t) (.int .i64 s) (.string r) (.int .i64 mi) (.slice A fs.length cap) 42).alloc (.cells #[.int .i64 0, .int .i64 0] 96))
            have R00 := box2_new (w.alloc (.cells #[.string m, .string t, .int .i64 s, .string r, .int .i64 mi, .slice A fs.length cap] 42)) (.int .i64 0) (.int .i64 0) 96
            rw [show (w.alloc (.cells #[.string m, .string t, .int .i64 s, .string r, .int .i64 mi, .slice A fs.length cap] 42)).heap.size = w.heap.size + 1 from by simp] at R00
            have R0 := Lib.hid R00
            have F0 := Lib.hid (HF.out.below B0.out)
            have M0 := Lib.hid (cell_below B0.out HM.out)
            clear W0 R00
            go_enter Tryz.func64, Tryz.ntmps64
            go_wp2_with fail
            refine (H1 _ F0.out).out.mono ?_
            rintro e w1 ⟨rfl, hb1⟩
            have B1 := Lib.hid (below_then B0.out hb1)
            have X1 := Lib.hid (X0.out.below hb1)
            have R1 := Lib.hid (R0.out.below hb1)
            have F1 := Lib.hid (F0.out.below hb1)
            have M1 := Lib.hid (cell_below hb1 M0.out)
            obtain ⟨c0_1, c1_1, c2_1, c3_1, c4_1, c5_1, fz1⟩ := X1.out
            clear fz1 hb1
            go_wp2_with fail
            refine (H2 _ F1.out).out.mono ?_
            rintro e w2 ⟨rfl, hb2⟩
            have B2 := Lib.hid (below_then B1.out hb2)
            have X2 := Lib.hid (X1.out.below hb2)
            have R2 := Lib.hid (R1.out.below hb2)
            have F2 := Lib.hid (F1.out.below hb2)
            have M2 := Lib.hid (cell_below hb2 M1.out)
            obtain ⟨c0_2, c1_2, c2_2, c3_2, c4_2, c5_2, fz2⟩ := X2.out
            clear fz2 hb2
            go_wp2_with fail
            refine (C _ F2.out M2.out).out.mono ?_
            rintro e w3 ⟨rfl, hb3⟩
            have B3 := Lib.hid (below_then B2.out hb3)
            have X3 := Lib.hid (X2.out.below hb3)
            have R3 := Lib.hid (R2.out.below hb3)
            have F3 := Lib.hid (F2.out.below hb3)
            have M3 := Lib.hid (cell_below hb3 M2.out)
            obtain ⟨c0_3, c1_3, c2_3, c3_3, c4_3, c5_3, fz3⟩ := X3.out
            clear fz3 hb3
            have rz0 := R3.out.fz 0
            have rz1 := R3.out.fz 1
            have r0 := R3.out.c0
            have r1 := R3.out.c1
            go_wp2
            (try simp only [Exit.inBlock, Exit.then]); refine bodyPost_ret (ret_resp (Box2.stored R3.out _ _) rfl rfl) rfl ?_
            refine ⟨HV.out.symm ▸ rfl, ?_⟩
            repeat refine Below.setCell ?_ (by simp) _
            exact B3.out
  | false =>
    rw [hcd] at H2 hout
    rw [if_neg (by simp)] at hout
    clear hcd C hcc
    cases sz with
    | false =>
      have HV := Lib.hid (show frVal (4, 0, 0) = out by rw [← hout, if_pos rfl])
      clear hout L hls
      rcases hr with ⟨h1, h2, g1, g3, g4⟩ | ⟨h1, h2, h5, h6, g1, g2, g3, g4, k1, k3⟩ | ⟨h1, h2, h5, h6, g1, g3, g4⟩
      all_goals
        have W0 : Below w.heap.size w ((w.alloc (.cells #[.string m, .string t, .int .i64 s, .string r, .int .i64 mi, .slice A fs.length cap] 42)).alloc (.cells #[.int .i64 0, .int .i64 0] 96)) := ((Below.refl _ w).alloc (Nat.le_refl _) _).alloc (by simp) _
        have B0 := Lib.hid W0
        have X0 := Lib.hid ((box6_new w (.string m) (.string t) (.int .i64 s) (.string r) (.int .i64 mi) (.slice A fs.length cap) 42).alloc (.cells #[.int .i64 0, .int .i64 0] 96))
        have R00 := box2_new (w.alloc (.cells #[.string m, .string t, .int .i64 s, .string r, .int .i64 mi, .slice A fs.length cap] 42)) (.int .i64 0) (.int .i64 0) 96
        rw [show (w.alloc (.cells #[.string m, .string t, .int .i64 s, .string r, .int .i64 mi, .slice A fs.length cap] 42)).heap.size = w.heap.size + 1 from by simp] at R00
        have R0 := Lib.hid R00
        have F0 := Lib.hid (HF.out.below B0.out)
        have M0 := Lib.hid (cell_below B0.out HM.out)
        clear W0 R00
        go_enter Tryz.func64, Tryz.ntmps64
        go_wp2_with fail
        refine (H1 _ F0.out).out.mono ?_
        rintro e w1 ⟨rfl, hb1⟩
        have B1 := Lib.hid (below_then B0.out hb1)
        have X1 := Lib.hid (X0.out.below hb1)
        have R1 := Lib.hid (R0.out.below hb1)
        have F1 := Lib.hid (F0.out.below hb1)
        have M1 := Lib.hid (cell_below hb1 M0.out)
        obtain ⟨c0_1, c1_1, c2_1, c3_1, c4_1, c5_1, fz1⟩ := X1.out
        clear fz1 hb1
        go_wp2_with fail
        refine (H2 _ F1.out).out.mono ?_
        rintro e w2 ⟨rfl, hb2⟩
        have B2 := Lib.hid (below_then B1.out hb2)
        have X2 := Lib.hid (X1.out.below hb2)
        have R2 := Lib.hid (R1.out.below hb2)
        have F2 := Lib.hid (F1.out.below hb2)
        have M2 := Lib.hid (cell_below hb2 M1.out)
        obtain ⟨c0_2, c1_2, c2_2, c3_2, c4_2, c5_2, fz2⟩ := X2.out
        clear fz2 hb2
        have rz0 := R2.out.fz 0
        have rz1 := R2.out.fz 1
        have r0 := R2.out.c0
        have r1 := R2.out.c1
        go_wp2
        (try simp only [Exit.inBlock, Exit.then]); refine bodyPost_ret (ret_resp (Box2.stored R2.out _ _) rfl rfl) rfl ?_
        refine ⟨HV.out.symm ▸ rfl, ?_⟩
        repeat refine Below.setCell ?_ (by simp) _
        exact B2.out
    | true =>
      rw [if_neg (by simp)] at hout
      cases lf with
      | none =>
        simp only [lenVal] at L
        have HV := Lib.hid (show frVal (0, 0, 90) = out by rw [← hout])
        clear hout hls
        rcases hr with ⟨h1, h2, g1, g3, g4⟩ | ⟨h1, h2, h5, h6, g1, g2, g3, g4, k1, k3⟩ | ⟨h1, h2, h5, h6, g1, g3, g4⟩
        all_goals
          have W0 : Below w.heap.size w ((w.alloc (.cells #[.string m, .string t, .int .i64 s, .string r, .int .i64 mi, .slice A fs.length cap] 42)).alloc (.cells #[.int .i64 0, .int .i64 0] 96)) := ((Below.refl _ w).alloc (Nat.le_refl _) _).alloc (by simp) _
          have B0 := Lib.hid W0
          have X0 := Lib.hid ((box6_new w (.string m) (.string t) (.int .i64 s) (.string r) (.int .i64 mi) (.slice A fs.length cap) 42).alloc (.cells #[.int .i64 0, .int .i64 0] 96))
          have R00 := box2_new (w.alloc (.cells #[.string m, .string t, .int .i64 s, .string r, .int .i64 mi, .slice A fs.length cap] 42)) (.int .i64 0) (.int .i64 0) 96
          rw [show (w.alloc (.cells #[.string m, .string t, .int .i64 s, .string r, .int .i64 mi, .slice A fs.length cap] 42)).heap.size = w.heap.size + 1 from by simp] at R00
          have R0 := Lib.hid R00
          have F0 := Lib.hid (HF.out.below B0.out)
          have M0 := Lib.hid (cell_below B0.out HM.out)
          clear W0 R00
          go_enter Tryz.func64, Tryz.ntmps64
          go_wp2_with fail
          refine (H1 _ F0.out).out.mono ?_
          rintro e w1 ⟨rfl, hb1⟩
          have B1 := Lib.hid (below_then B0.out hb1)
          have X1 := Lib.hid (X0.out.below hb1)
          have R1 := Lib.hid (R0.out.below hb1)
          have F1 := Lib.hid (F0.out.below hb1)
          have M1 := Lib.hid (cell_below hb1 M0.out)
          obtain ⟨c0_1, c1_1, c2_1, c3_1, c4_1, c5_1, fz1⟩ := X1.out
          clear fz1 hb1
          go_wp2_with fail
          refine (H2 _ F1.out).out.mono ?_
          rintro e w2 ⟨rfl, hb2⟩
          have B2 := Lib.hid (below_then B1.out hb2)
          have X2 := Lib.hid (X1.out.below hb2)
          have R2 := Lib.hid (R1.out.below hb2)
          have F2 := Lib.hid (F1.out.below hb2)
          have M2 := Lib.hid (cell_below hb2 M1.out)
          obtain ⟨c0_2, c1_2, c2_2, c3_2, c4_2, c5_2, fz2⟩ := X2.out
          clear fz2 hb2
          go_wp2_with fail
          refine (L _ F2.out M2.out).out.mono ?_
          rintro e w3 ⟨rfl, hb3⟩
          have B3 := Lib.hid (below_then B2.out hb3)
          have X3 := Lib.hid (X2.out.below hb3)
          have R3 := Lib.hid (R2.out.below hb3)
          have F3 := Lib.hid (F2.out.below hb3)
          have M3 := Lib.hid (cell_below hb3 M2.out)
          obtain ⟨c0_3, c1_3, c2_3, c3_3, c4_3, c5_3, fz3⟩ := X3.out
          clear fz3 hb3
          have rz0 := R3.out.fz 0
          have rz1 := R3.out.fz 1
          have r0 := R3.out.c0
          have r1 := R3.out.c1
          go_wp2
          (try simp only [Exit.inBlock, Exit.then]); refine bodyPost_ret (ret_resp (Box2.stored R3.out _ _) rfl rfl) rfl ?_
          refine ⟨HV.out.symm ▸ rfl, ?_⟩
          repeat refine Below.setCell ?_ (by simp) _
          exact B3.out
      | some x =>
        cases x with
        | none => exact absurd rfl (hls rfl)
        | some n =>
          simp only [lenVal, Option.getD_some] at L
          simp only at hout
          have HV := Lib.hid (show frVal (2, n, 0) = out by rw [← hout])
          clear hout hls
          rcases hr with ⟨h1, h2, g1, g3, g4⟩ | ⟨h1, h2, h5, h6, g1, g2, g3, g4, k1, k3⟩ | ⟨h1, h2, h5, h6, g1, g3, g4⟩
          all_goals
            have W0 : Below w.heap.size w ((w.alloc (.cells #[.string m, .string t, .int .i64 s, .string r, .int .i64 mi, .slice A fs.length cap] 42)).alloc (.cells #[.int .i64 0, .int .i64 0] 96)) := ((Below.refl _ w).alloc (Nat.le_refl _) _).alloc (by simp) _
            have B0 := Lib.hid W0
            have X0 := Lib.hid ((box6_new w (.string m) (.string t) (.int .i64 s) (.string r) (.int .i64 mi) (.slice A fs.length cap) 42).alloc (.cells #[.int .i64 0, .int .i64 0] 96))
            have R00 := box2_new (w.alloc (.cells #[.string m, .string t, .int .i64 s, .string r, .int .i64 mi, .slice A fs.length cap] 42)) (.int .i64 0) (.int .i64 0) 96
            rw [show (w.alloc (.cells #[.string m, .string t, .int .i64 s, .string r, .int .i64 mi, .slice A fs.length cap] 42)).heap.size = w.heap.size + 1 from by simp] at R00
            have R0 := Lib.hid R00
            have F0 := Lib.hid (HF.out.below B0.out)
            have M0 := Lib.hid (cell_below B0.out HM.out)
            clear W0 R00
            go_enter Tryz.func64, Tryz.ntmps64
            go_wp2_with fail
            refine (H1 _ F0.out).out.mono ?_
            rintro e w1 ⟨rfl, hb1⟩
            have B1 := Lib.hid (below_then B0.out hb1)
            have X1 := Lib.hid (X0.out.below hb1)
            have R1 := Lib.hid (R0.out.below hb1)
            have F1 := Lib.hid (F0.out.below hb1)
            have M1 := Lib.hid (cell_below hb1 M0.out)
            obtain ⟨c0_1, c1_1, c2_1, c3_1, c4_1, c5_1, fz1⟩ := X1.out
            clear fz1 hb1
            go_wp2_with fail
            refine (H2 _ F1.out).out.mono ?_
            rintro e w2 ⟨rfl, hb2⟩
            have B2 := Lib.hid (below_then B1.out hb2)
            have X2 := Lib.hid (X1.out.below hb2)
            have R2 := Lib.hid (R1.out.below hb2)
            have F2 := Lib.hid (F1.out.below hb2)
            have M2 := Lib.hid (cell_below hb2 M1.out)
            obtain ⟨c0_2, c1_2, c2_2, c3_2, c4_2, c5_2, fz2⟩ := X2.out
            clear fz2 hb2
            go_wp2_with fail
            refine (L _ F2.out M2.out).out.mono ?_
            rintro e w3 ⟨rfl, hb3⟩
            have B3 := Lib.hid (below_then B2.out hb3)
            have X3 := Lib.hid (X2.out.below hb3)
            have R3 := Lib.hid (R2.out.below hb3)
            have F3 := Lib.hid (F2.out.below hb3)
            have M3 := Lib.hid (cell_below hb3 M2.out)
            obtain ⟨c0_3, c1_3, c2_3, c3_3, c4_3, c5_3, fz3⟩ := X3.out
            clear fz3 hb3
            have rz0 := R3.out.fz 0
            have rz1 := R3.out.fz 1
            have r0 := R3.out.c0
            have r1 := R3.out.c1
            go_wp2
            (try simp only [Exit.inBlock, Exit.then]); refine bodyPost_ret (ret_resp (Box2.stored R3.out _ _) rfl rfl) rfl ?_
            refine ⟨HV.out.symm ▸ rfl, ?_⟩
            repeat refine Below.setCell ?_ (by simp) _
            exact B3.out

theorem response_c (me : ByteArray) (m t : ByteArray) (s : Int) (r : ByteArray) (mi : Int) (A : Option Addr) (cap : Nat) (fs : List Fd) (M : Int) (w : World) (hB : FB fs) (hF : Flds w A fs) (hm : w.cell? ⟨0, 0, none⟩ = some (.int .i64 M)) :
    Calls Tryz.prog 64 #[.string me, hv m t s r mi A fs.length cap] w fun e w' => e = .returned (frVal (respF me.data.toList s mi fs)) ∧ Below w.heap.size w w' := by
  by_cases h1 : s = 101
  · rw [show respF me.data.toList s mi fs = (5, 0, 0) from by unfold respF; rw [if_pos h1]]
    exact response_tunnel me m t s r mi A cap fs M w hB hF hm (.inl h1)
  · by_cases h2 : noBody s = true
    · rw [show respF me.data.toList s mi fs = (1, 0, 0) from by unfold respF; rw [if_neg h1, if_pos h2]]
      refine response_none me m t s r mi A cap fs M w hB hF hm ?_
      simp only [noBody, Bool.or_eq_true, Bool.and_eq_true, decide_eq_true_eq] at h2
      rcases h2 with (h2 | h2) | h2
      · exact .inl ⟨h2.1, h2.2, h1⟩
      · exact .inr (.inl h2)
      · exact .inr (.inr (.inl h2))
    · have h3 := h2
      simp only [noBody, Bool.or_eq_true, Bool.and_eq_true, decide_eq_true_eq, not_or] at h3
      have hr : s < 100 ∨ (200 ≤ s ∧ s ≤ 299 ∧ s ≠ 204) ∨ (299 < s ∧ s ≠ 304) := by omega
      by_cases h4 : me.data.toList = connectM ∧ 200 ≤ s ∧ s ≤ 299
      · rw [show respF me.data.toList s mi fs = (5, 0, 0) from by unfold respF; rw [if_neg h1, if_neg h2, if_pos h4]]
        exact response_tunnel me m t s r mi A cap fs M w hB hF hm (.inr ⟨h4.2.1, h4.2.2, by omega, h4.1⟩)
      · by_cases h5 : me.data.toList = headM
        · rw [show respF me.data.toList s mi fs = (1, 0, 0) from by unfold respF; rw [if_neg h1, if_neg h2, if_neg h4, if_pos h5]]
          exact response_none me m t s r mi A cap fs M w hB hF hm (.inr (.inr (.inr ⟨h5, h1, hr⟩)))
        · refine response_body me m t s r mi A cap fs M w hB hF hm h5 ?_ _ ?_
          · rcases hr with h | ⟨ha, hb, hc⟩ | h
            · exact .inl h
            · exact .inr (.inl ⟨ha, hb, hc, fun e => h4 ⟨e, ha, hb⟩⟩)
            · exact .inr (.inr h)
          · unfold respF; rw [if_neg h1, if_neg h2, if_neg h4, if_neg h5]
            rfl
end Go.Proofs.YtgmjkkiahanekaaGreatDoor

