/- The texts FrmD in one. -/
import Derived.Test.YtgmjkkiahanekaaGreatDoorM17
import Derived.Test.YtgmjkkiahanekaaGreatDoorM7
import Derived.Test.YtgmjkkiahanekaaGreatDoorM8
import Derived.Outline
/- The contracts of frame.Request and frame.Keep over every head. -/
set_option linter.unusedVariables false
set_option linter.unusedSimpArgs false
namespace Go.Proofs.YtgmjkkiahanekaaGreatDoor
open Go.RowKit Lex

theorem ret_req {w : World} {B : Nat} {v0 v1 e : Value} (h : Box2 w B v0 v1) {tmps : Array Value} (h4 : tmps[4]?.getD undef = .pointer (some ⟨B, 0, none⟩)) (h5 : tmps[5]?.getD undef = e) :
    (results Tryz.f85 tmps).run Tryz.prog w = .ok (.tuple #[.agg #[v0, v1], e]) w := by
  simp [results, Tryz.results85, go_sem, h4, h5, h.c0, h.c1]
def frVal (x : Int × Int × Int) : Value := .tuple #[.agg #[.int .i64 x.1, .int .i64 x.2.1], .int .i64 x.2.2]
set_option maxRecDepth 100000 in
set_option maxHeartbeats 8000000 in
theorem request_c (m t : ByteArray) (s : Int) (r : ByteArray) (mi : Int) (A : Option Addr) (cap : Nat) (fs : List Fd) (most : Int) (M : Int) (w : World) (hB : FB fs) (hF : Flds w A fs) (hm : w.cell? ⟨0, 0, none⟩ = some (.int .i64 M)) :
    Calls Tryz.prog 85 #[hv m t s r mi A fs.length cap, .int .i64 most] w fun e w' => e = .returned (frVal (reqF mi fs most)) ∧ Below w.heap.size w w' := by
  have H1 := fun w h => Lib.hid (has_c m t s r mi A cap fs ⟨#[67, 111, 110, 116, 101, 110, 116, 45, 76, 101, 110, 103, 116, 104]⟩ w (by decide) hB h)
  rw [show (ByteArray.mk #[67, 111, 110, 116, 101, 110, 116, 45, 76, 101, 110, 103, 116, 104]).data.toList = clenU from rfl, show decide (0 < (getF fs clenU).2) = sizedF fs from by unfold sizedF getF; rw [valuesF_low clen_low]] at H1
  have H2 := fun w h => Lib.hid (has_c m t s r mi A cap fs ⟨#[84, 114, 97, 110, 115, 102, 101, 114, 45, 69, 110, 99, 111, 100, 105, 110, 103]⟩ w (by decide) hB h)
  rw [show (ByteArray.mk #[84, 114, 97, 110, 115, 102, 101, 114, 45, 69, 110, 99, 111, 100, 105, 110, 103]).data.toList = tencU from rfl, show decide (0 < (getF fs tencU).2) = codedF fs from by unfold codedF getF; rw [valuesF_low tenc_low]] at H2
  have C := fun w h hm => Lib.hid (coding_c m t s r mi A cap fs M w hB h hm)
  have L := fun w h hm => Lib.hid (length_c m t s r mi A cap fs M w hB h hm)
  unfold hv at H1 H2 C L
  have HF := Lib.hid hF
  have HM := Lib.hid hm
  have hcc := codeL_cases (elementsF fs tencL)
  rw [show codeL (elementsF fs tencL) = codeF fs from rfl] at hcc
  have hls := length_sized (fs := fs)
  clear hF hB hm
  generalize hout : frVal (reqF mi fs most) = out
  unfold reqF at hout
  generalize codeF fs = c at *
  generalize lengthF fs = lf at *
  generalize sizedF fs = sz at *
  unfold hv
  cases hcd : codedF fs with
  | true =>
    rw [hcd] at H2 hout
    rw [if_pos rfl] at hout
    simp only [codeVal] at C
    clear hcd L hls
    by_cases h0 : mi = 0
    · have b0 : (mi == 0) = true := by rw [h0]; rfl
      have HV := Lib.hid (show frVal (0, 0, 90) = out by rw [← hout, if_pos (.inl h0)])
      clear hout h0
      have W0 : Below w.heap.size w ((w.alloc (.cells #[.string m, .string t, .int .i64 s, .string r, .int .i64 mi, .slice A fs.length cap] 42)).alloc (.cells #[.int .i64 0, .int .i64 0] 96)) := ((Below.refl _ w).alloc (Nat.le_refl _) _).alloc (by simp) _
      have B0 := Lib.hid W0
      have X0 := Lib.hid ((box6_new w (.string m) (.string t) (.int .i64 s) (.string r) (.int .i64 mi) (.slice A fs.length cap) 42).alloc (.cells #[.int .i64 0, .int .i64 0] 96))
      have R00 := box2_new (w.alloc (.cells #[.string m, .string t, .int .i64 s, .string r, .int .i64 mi, .slice A fs.length cap] 42)) (.int .i64 0) (.int .i64 0) 96
      rw [show (w.alloc (.cells #[.string m, .string t, .int .i64 s, .string r, .int .i64 mi, .slice A fs.length cap] 42)).heap.size = w.heap.size + 1 from by simp] at R00
      have R0 := Lib.hid R00
      have F0 := Lib.hid (HF.out.below B0.out)
      have M0 := Lib.hid (cell_below B0.out HM.out)
      clear W0 R00
      go_enter Tryz.func85, Tryz.ntmps85
      go_wp2_with fail
      refine (H1 _ F0.out).out.mono ?_
      rintro e w1 ⟨rfl, hb1⟩
      have B1 := Lib.hid (below_then B0.out hb1)
      have X1 := Lib.hid (X0.out.below hb1)
      have R1 := Lib.hid (R0.out.below hb1)
      have F1 := Lib.hid (F0.out.below hb1)
      have M1 := Lib.hid (cell_below hb1 M0.out)
      obtain ⟨c0_1, c1_1, c2_1, c3_1, c4_1, c5_1, fz1⟩ := X1.out
      clear fz1 hb1
      go_wp2_with fail
      refine (H2 _ F1.out).out.mono ?_
      rintro e w2 ⟨rfl, hb2⟩
      have B2 := Lib.hid (below_then B1.out hb2)
      have X2 := Lib.hid (X1.out.below hb2)
      have R2 := Lib.hid (R1.out.below hb2)
      have F2 := Lib.hid (F1.out.below hb2)
      have M2 := Lib.hid (cell_below hb2 M1.out)
      obtain ⟨c0_2, c1_2, c2_2, c3_2, c4_2, c5_2, fz2⟩ := X2.out
      clear fz2 hb2
      go_wp2_with fail
      refine (C _ F2.out M2.out).out.mono ?_
      rintro e w3 ⟨rfl, hb3⟩
      have B3 := Lib.hid (below_then B2.out hb3)
      have X3 := Lib.hid (X2.out.below hb3)
      have R3 := Lib.hid (R2.out.below hb3)
      have F3 := Lib.hid (F2.out.below hb3)
      have M3 := Lib.hid (cell_below hb3 M2.out)
      obtain ⟨c0_3, c1_3, c2_3, c3_3, c4_3, c5_3, fz3⟩ := X3.out
      clear fz3 hb3
      have rz0 := R3.out.fz 0
      have rz1 := R3.out.fz 1
      have r0 := R3.out.c0
      have r1 := R3.out.c1
      go_wp2
      (try simp only [Exit.inBlock, Exit.then]); refine bodyPost_ret (ret_req (Box2.stored R3.out _ _) rfl rfl) rfl ?_
      refine ⟨HV.out.symm ▸ rfl, ?_⟩
      repeat refine Below.setCell ?_ (by simp) _
      exact B3.out
    · have b0 : (mi == 0) = false := by rw [beq_eq_false_iff_ne]; exact h0
      cases sz with
      | true =>
        have HV := Lib.hid (show frVal (0, 0, 90) = out by rw [← hout, if_pos (.inr (.inl rfl))])
        clear hout h0
        have W0 : Below w.heap.size w ((w.alloc (.cells #[.string m, .string t, .int .i64 s, .string r, .int .i64 mi, .slice A fs.length cap] 42)).alloc (.cells #[.int .i64 0, .int .i64 0] 96)) := ((Below.refl _ w).alloc (Nat.le_refl _) _).alloc (by simp) _
        have B0 := Lib.hid W0
        have X0 := Lib.hid ((box6_new w (.string m) (.string t) (.int .i64 s) (.string r) (.int .i64 mi) (.slice A fs.length cap) 42).alloc (.cells #[.int .i64 0, .int .i64 0] 96))
        have R00 := box2_new (w.alloc (.cells #[.string m, .string t, .int .i64 s, .string r, .int .i64 mi, .slice A fs.length cap] 42)) (.int .i64 0) (.int .i64 0) 96
        rw [show (w.alloc (.cells #[.string m, .string t, .int .i64 s, .string r, .int .i64 mi, .slice A fs.length cap] 42)).heap.size = w.heap.size + 1 from by simp] at R00
        have R0 := Lib.hid R00
        have F0 := Lib.hid (HF.out.below B0.out)
        have M0 := Lib.hid (cell_below B0.out HM.out)
        clear W0 R00
        go_enter Tryz.func85, Tryz.ntmps85
        go_wp2_with fail
        refine (H1 _ F0.out).out.mono ?_
        rintro e w1 ⟨rfl, hb1⟩
        have B1 := Lib.hid (below_then B0.out hb1)
        have X1 := Lib.hid (X0.out.below hb1)
        have R1 := Lib.hid (R0.out.below hb1)
        have F1 := Lib.hid (F0.out.below hb1)
        have M1 := Lib.hid (cell_below hb1 M0.out)
        obtain ⟨c0_1, c1_1, c2_1, c3_1, c4_1, c5_1, fz1⟩ := X1.out
        clear fz1 hb1
        go_wp2_with fail
        refine (H2 _ F1.out).out.mono ?_
        rintro e w2 ⟨rfl, hb2⟩
        have B2 := Lib.hid (below_then B1.out hb2)
        have X2 := Lib.hid (X1.out.below hb2)
        have R2 := Lib.hid (R1.out.below hb2)
        have F2 := Lib.hid (F1.out.below hb2)
        have M2 := Lib.hid (cell_below hb2 M1.out)
        obtain ⟨c0_2, c1_2, c2_2, c3_2, c4_2, c5_2, fz2⟩ := X2.out
        clear fz2 hb2
        go_wp2_with fail
        refine (C _ F2.out M2.out).out.mono ?_
        rintro e w3 ⟨rfl, hb3⟩
        have B3 := Lib.hid (below_then B2.out hb3)
        have X3 := Lib.hid (X2.out.below hb3)
        have R3 := Lib.hid (R2.out.below hb3)
        have F3 := Lib.hid (F2.out.below hb3)
        have M3 := Lib.hid (cell_below hb3 M2.out)
        obtain ⟨c0_3, c1_3, c2_3, c3_3, c4_3, c5_3, fz3⟩ := X3.out
        clear fz3 hb3
        have rz0 := R3.out.fz 0
        have rz1 := R3.out.fz 1
        have r0 := R3.out.c0
        have r1 := R3.out.c1
        go_wp2
        (try simp only [Exit.inBlock, Exit.then]); refine bodyPost_ret (ret_req (Box2.stored R3.out _ _) rfl rfl) rfl ?_
        refine ⟨HV.out.symm ▸ rfl, ?_⟩
        repeat refine Below.setCell ?_ (by simp) _
        exact B3.out
      | false =>
        rcases hcc with rfl | rfl | rfl
        · have HV := Lib.hid (show frVal (3, 0, 0) = out by rw [← hout, if_neg (by simp [h0]), if_pos rfl])
          rw [decide_eq_true rfl, decide_eq_true (by decide : (1 : Int) ≠ 3)] at C
          clear hout h0
          have W0 : Below w.heap.size w ((w.alloc (.cells #[.string m, .string t, .int .i64 s, .string r, .int .i64 mi, .slice A fs.length cap] 42)).alloc (.cells #[.int .i64 0, .int .i64 0] 96)) := ((Below.refl _ w).alloc (Nat.le_refl _) _).alloc (by simp) _
          have B0 := Lib.hid W0
          have X0 := Lib.hid ((box6_new w (.string m) (.string t) (.int .i64 s) (.string r) (.int .i64 mi) (.slice A fs.length cap) 42).alloc (.cells #[.int .i64 0, .int .i64 0] 96))
          have R00 := box2_new (w.alloc (.cells #[.string m, .string t, .int .i64 s, .string r, .int .i64 mi, .slice A fs.length cap] 42)) (.int .i64 0) (.int .i64 0) 96
          rw [show (w.alloc (.cells #[.string m, .string t, .int .i64 s, .string r, .int .i64 mi, .slice A fs.length cap] 42)).heap.size = w.heap.size + 1 from by simp] at R00
          have R0 := Lib.hid R00
          have F0 := Lib.hid (HF.out.below B0.out)
          have M0 := Lib.hid (cell_below B0.out HM.out)
          clear W0 R00
          go_enter Tryz.func85, Tryz.ntmps85
          go_wp2_with fail
          refine (H1 _ F0.out).out.mono ?_
          rintro e w1 ⟨rfl, hb1⟩
          have B1 := Lib.hid (below_then B0.out hb1)
          have X1 := Lib.hid (X0.out.below hb1)
          have R1 := Lib.hid (R0.out.below hb1)
          have F1 := Lib.hid (F0.out.below hb1)
          have M1 := Lib.hid (cell_below hb1 M0.out)
          obtain ⟨c0_1, c1_1, c2_1, c3_1, c4_1, c5_1, fz1⟩ := X1.out
          clear fz1 hb1
          go_wp2_with fail
          refine (H2 _ F1.out).out.mono ?_
          rintro e w2 ⟨rfl, hb2⟩
          have B2 := Lib.hid (below_then B1.out hb2)
          have X2 := Lib.hid (X1.out.below hb2)
          have R2 := Lib.hid (R1.out.below hb2)
          have F2 := Lib.hid (F1.out.below hb2)
          have M2 := Lib.hid (cell_below hb2 M1.out)
          obtain ⟨c0_2, c1_2, c2_2, c3_2, c4_2, c5_2, fz2⟩ := X2.out
          clear fz2 hb2
          go_wp2_with fail
          refine (C _ F2.out M2.out).out.mono ?_
          rintro e w3 ⟨rfl, hb3⟩
          have B3 := Lib.hid (below_then B2.out hb3)
          have X3 := Lib.hid (X2.out.below hb3)
          have R3 := Lib.hid (R2.out.below hb3)
          have F3 := Lib.hid (F2.out.below hb3)
          have M3 := Lib.hid (cell_below hb3 M2.out)
          obtain ⟨c0_3, c1_3, c2_3, c3_3, c4_3, c5_3, fz3⟩ := X3.out
          clear fz3 hb3
          have rz0 := R3.out.fz 0
          have rz1 := R3.out.fz 1
          have r0 := R3.out.c0
          have r1 := R3.out.c1
          go_wp2
          (try simp only [Exit.inBlock, Exit.then]); refine bodyPost_ret (ret_req (Box2.stored R3.out _ _) rfl rfl) rfl ?_
          refine ⟨HV.out.symm ▸ rfl, ?_⟩
          repeat refine Below.setCell ?_ (by simp) _
          exact B3.out
        · have HV := Lib.hid (show frVal (0, 0, 91) = out by rw [← hout, if_neg (by simp [h0]), if_neg (by decide)])
          rw [decide_eq_false (by decide : ¬ (2 : Int) = 1), decide_eq_true (by decide : (2 : Int) ≠ 3)] at C
          clear hout h0
          have W0 : Below w.heap.size w ((w.alloc (.cells #[.string m, .string t, .int .i64 s, .string r, .int .i64 mi, .slice A fs.length cap] 42)).alloc (.cells #[.int .i64 0, .int .i64 0] 96)) := ((Below.refl _ w).alloc (Nat.le_refl _) _).alloc (by simp) _
          have B0 := Lib.hid W0
          have X0 := Lib.hid ((box6_new w (.string m) (.string t) (.int .i64 s) (.string r) (.int .i64 mi) (.slice A fs.length cap) 42).alloc (.cells #[.int .i64 0, .int .i64 0] 96))
          have R00 := box2_new (w.alloc (.cells #[.string m, .string t, .int .i64 s, .string r, .int .i64 mi, .slice A fs.length cap] 42)) (.int .i64 0) (.int .i64 0) 96
          rw [show (w.alloc (.cells #[.string m, .string t, .int .i64 s, .string r, .int .i64 mi, .slice A fs.length cap] 42)).heap.size = w.heap.size + 1 from by simp] at R00
          have R0 := Lib.hid R00
          have F0 := Lib.hid (HF.out.below B0.out)
          have M0 := Lib.hid (cell_below B0.out HM.out)
          clear W0 R00
          go_enter Tryz.func85, Tryz.ntmps85
          go_wp2_with fail
          refine (H1 _ F0.out).out.mono ?_
          rintro e w1 ⟨rfl, hb1⟩
          have B1 := Lib.hid (below_then B0.out hb1)
          have X1 := Lib.hid (X0.out.below hb1)
          have R1 := Lib.hid (R0.out.below hb1)
          have F1 := Lib.hid (F0.out.below hb1)
          have M1 := Lib.hid (cell_below hb1 M0.out)
          obtain ⟨c0_1, c1_1, c2_1, c3_1, c4_1, c5_1, fz1⟩ := X1.out
          clear fz1 hb1
          go_wp2_with fail
          refine (H2 _ F1.out).out.mono ?_
          rintro e w2 ⟨rfl, hb2⟩
          have B2 := Lib.hid (below_then B1.out hb2)
          have X2 := Lib.hid (X1.out.below hb2)
          have R2 := Lib.hid (R1.out.below hb2)
          have F2 := Lib.hid (F1.out.below hb2)
          have M2 := Lib.hid (cell_below hb2 M1.out)
          obtain ⟨c0_2, c1_2, c2_2, c3_2, c4_2, c5_2, fz2⟩ := X2.out
          clear fz2 hb2
          go_wp2_with fail
          refine (C _ F2.out M2.out).out.mono ?_
          rintro e w3 ⟨rfl, hb3⟩
          have B3 := Lib.hid (below_then B2.out hb3)
          have X3 := Lib.hid (X2.out.below hb3)
          have R3 := Lib.hid (R2.out.below hb3)
          have F3 := Lib.hid (F2.out.below hb3)
          have M3 := Lib.hid (cell_below hb3 M2.out)
          obtain ⟨c0_3, c1_3, c2_3, c3_3, c4_3, c5_3, fz3⟩ := X3.out
          clear fz3 hb3
          have rz0 := R3.out.fz 0
          have rz1 := R3.out.fz 1
          have r0 := R3.out.c0
          have r1 := R3.out.c1
          go_wp2
          (try simp only [Exit.inBlock, Exit.then]); refine bodyPost_ret (ret_req (Box2.stored R3.out _ _) rfl rfl) rfl ?_
          refine ⟨HV.out.symm ▸ rfl, ?_⟩
          repeat refine Below.setCell ?_ (by simp) _
          exact B3.out
        · have HV := Lib.hid (show frVal (0, 0, 90) = out by rw [← hout, if_pos (.inr (.inr rfl))])
          rw [decide_eq_false (by decide : ¬ (3 : Int) = 1), decide_eq_false (by decide : ¬ (3 : Int) ≠ 3)] at C
          clear hout h0
          have W0 : Below w.heap.size w ((w.alloc (.cells #[.string m, .string t, .int .i64 s, .string r, .int .i64 mi, .slice A fs.length cap] 42)).alloc (.cells #[.int .i64 0, .int .i64 0] 96)) := ((Below.refl _ w).alloc (Nat.le_refl _) _).alloc (by simp) _
          have B0 := Lib.hid W0
          have X0 := Lib.hid ((box6_new w (.string m) (.string t) (.int .i64 s) (.string r) (.int .i64 mi) (.slice A fs.length cap) 42).alloc (.cells #[.int .i64 0, .int .i64 0] 96))
          have R00 := box2_new (w.alloc (.cells #[.string m, .string t, .int .i64 s, .string r, .int .i64 mi, .slice A fs.length cap] 42)) (.int .i64 0) (.int .i64 0) 96
          rw [show (w.alloc (.cells #[.string m, .string t, .int .i64 s, .string r, .int .i64 mi, .slice A fs.length cap] 42)).heap.size = w.heap.size + 1 from by simp] at R00
          have R0 := Lib.hid R00
          have F0 := Lib.hid (HF.out.below B0.out)
          have M0 := Lib.hid (cell_below B0.out HM.out)
          clear W0 R00
          go_enter Tryz.func85, Tryz.ntmps85
          go_wp2_with fail
          refine (H1 _ F0.out).out.mono ?_
          rintro e w1 ⟨rfl, hb1⟩
          have B1 := Lib.hid (below_then B0.out hb1)
          have X1 := Lib.hid (X0.out.below hb1)
          have R1 := Lib.hid (R0.out.below hb1)
          have F1 := Lib.hid (F0.out.below hb1)
          have M1 := Lib.hid (cell_below hb1 M0.out)
          obtain ⟨c0_1, c1_1, c2_1, c3_1, c4_1, c5_1, fz1⟩ := X1.out
          clear fz1 hb1
          go_wp2_with fail
          refine (H2 _ F1.out).out.mono ?_
          rintro e w2 ⟨rfl, hb2⟩
          have B2 := Lib.hid (below_then B1.out hb2)
          have X2 := Lib.hid (X1.out.below hb2)
          have R2 := Lib.hid (R1.out.below hb2)
          have F2 := Lib.hid (F1.out.below hb2)
          have M2 := Lib.hid (cell_below hb2 M1.out)
          obtain ⟨c0_2, c1_2, c2_2, c3_2, c4_2, c5_2, fz2⟩ := X2.out
          clear fz2 hb2
          go_wp2_with fail
          refine (C _ F2.out M2.out).out.mono ?_
          rintro e w3 ⟨rfl, hb3⟩
          have B3 := Lib.hid (below_then B2.out hb3)
          have X3 := Lib.hid (X2.out.below hb3)
          have R3 := Lib.hid (R2.out.below hb3)
          have F3 := Lib.hid (F2.out.below hb3)
          have M3 := Lib.hid (cell_below hb3 M2.out)
          obtain ⟨c0_3, c1_3, c2_3, c3_3, c4_3, c5_3, fz3⟩ := X3.out
          clear fz3 hb3
          have rz0 := R3.out.fz 0
          have rz1 := R3.out.fz 1
          have r0 := R3.out.c0
          have r1 := R3.out.c1
          go_wp2
          (try simp only [Exit.inBlock, Exit.then]); refine bodyPost_ret (ret_req (Box2.stored R3.out _ _) rfl rfl) rfl ?_
          refine ⟨HV.out.symm ▸ rfl, ?_⟩
          repeat refine Below.setCell ?_ (by simp) _
          exact B3.out
  | false =>
    rw [hcd] at H2 hout
    rw [if_neg (by simp)] at hout
    clear hcd C hcc
    cases sz with
    | false =>
      have HV := Lib.hid (show frVal (1, 0, 0) = out by rw [← hout, if_pos rfl])
      clear hout L hls
      have W0 : Below w.heap.size w ((w.alloc (.cells #[.string m, .string t, .int .i64 s, .string r, .int .i64 mi, .slice A fs.length cap] 42)).alloc (.cells #[.int .i64 0, .int .i64 0] 96)) := ((Below.refl _ w).alloc (Nat.le_refl _) _).alloc (by simp) _
      have B0 := Lib.hid W0
      have X0 := Lib.hid ((box6_new w (.string m) (.string t) (.int .i64 s) (.string r) (.int .i64 mi) (.slice A fs.length cap) 42).alloc (.cells #[.int .i64 0, .int .i64 0] 96))
      have R00 := box2_new (w.alloc (.cells #[.string m, .string t, .int .i64 s, .string r, .int .i64 mi, .slice A fs.length cap] 42)) (.int .i64 0) (.int .i64 0) 96
      rw [show (w.alloc (.cells #[.string m, .string t, .int .i64 s, .string r, .int .i64 mi, .slice A fs.length cap] 42)).heap.size = w.heap.size + 1 from by simp] at R00
      have R0 := Lib.hid R00
      have F0 := Lib.hid (HF.out.below B0.out)
      have M0 := Lib.hid (cell_below B0.out HM.out)
      clear W0 R00
      go_enter Tryz.func85, Tryz.ntmps85
      go_wp2_with fail
      refine (H1 _ F0.out).out.mono ?_
      rintro e w1 ⟨rfl, hb1⟩
      have B1 := Lib.hid (below_then B0.out hb1)
      have X1 := Lib.hid (X0.out.below hb1)
      have R1 := Lib.hid (R0.out.below hb1)
      have F1 := Lib.hid (F0.out.below hb1)
      have M1 := Lib.hid (cell_below hb1 M0.out)
      obtain ⟨c0_1, c1_1, c2_1, c3_1, c4_1, c5_1, fz1⟩ := X1.out
      clear fz1 hb1
      go_wp2_with fail
      refine (H2 _ F1.out).out.mono ?_
      rintro e w2 ⟨rfl, hb2⟩
      have B2 := Lib.hid (below_then B1.out hb2)
      have X2 := Lib.hid (X1.out.below hb2)
      have R2 := Lib.hid (R1.out.below hb2)
      have F2 := Lib.hid (F1.out.below hb2)
      have M2 := Lib.hid (cell_below hb2 M1.out)
      obtain ⟨c0_2, c1_2, c2_2, c3_2, c4_2, c5_2, fz2⟩ := X2.out
      clear fz2 hb2
      have rz0 := R2.out.fz 0
      have rz1 := R2.out.fz 1
      have r0 := R2.out.c0
      have r1 := R2.out.c1
      go_wp2
      (try simp only [Exit.inBlock, Exit.then]); refine bodyPost_ret (ret_req (Box2.stored R2.out _ _) rfl rfl) rfl ?_
      refine ⟨HV.out.symm ▸ rfl, ?_⟩
      repeat refine Below.setCell ?_ (by simp) _
      exact B2.out
    | true =>
      rw [if_neg (by simp)] at hout
      cases lf with
      | none =>
        simp only [lenVal] at L
        have HV := Lib.hid (show frVal (0, 0, 90) = out by rw [← hout])
        clear hout hls
        have W0 : Below w.heap.size w ((w.alloc (.cells #[.string m, .string t, .int .i64 s, .string r, .int .i64 mi, .slice A fs.length cap] 42)).alloc (.cells #[.int .i64 0, .int .i64 0] 96)) := ((Below.refl _ w).alloc (Nat.le_refl _) _).alloc (by simp) _
        have B0 := Lib.hid W0
        have X0 := Lib.hid ((box6_new w (.string m) (.string t) (.int .i64 s) (.string r) (.int .i64 mi) (.slice A fs.length cap) 42).alloc (.cells #[.int .i64 0, .int .i64 0] 96))
        have R00 := box2_new (w.alloc (.cells #[.string m, .string t, .int .i64 s, .string r, .int .i64 mi, .slice A fs.length cap] 42)) (.int .i64 0) (.int .i64 0) 96
        rw [show (w.alloc (.cells #[.string m, .string t, .int .i64 s, .string r, .int .i64 mi, .slice A fs.length cap] 42)).heap.size = w.heap.size + 1 from by simp] at R00
        have R0 := Lib.hid R00
        have F0 := Lib.hid (HF.out.below B0.out)
        have M0 := Lib.hid (cell_below B0.out HM.out)
        clear W0 R00
        go_enter Tryz.func85, Tryz.ntmps85
        go_wp2_with fail
        refine (H1 _ F0.out).out.mono ?_
        rintro e w1 ⟨rfl, hb1⟩
        have B1 := Lib.hid (below_then B0.out hb1)
        have X1 := Lib.hid (X0.out.below hb1)
        have R1 := Lib.hid (R0.out.below hb1)
        have F1 := Lib.hid (F0.out.below hb1)
        have M1 := Lib.hid (cell_below hb1 M0.out)
        obtain ⟨c0_1, c1_1, c2_1, c3_1, c4_1, c5_1, fz1⟩ := X1.out
        clear fz1 hb1
        go_wp2_with fail
        refine (H2 _ F1.out).out.mono ?_
        rintro e w2 ⟨rfl, hb2⟩
        have B2 := Lib.hid (below_then B1.out hb2)
        have X2 := Lib.hid (X1.out.below hb2)
        have R2 := Lib.hid (R1.out.below hb2)
        have F2 := Lib.hid (F1.out.below hb2)
        have M2 := Lib.hid (cell_below hb2 M1.out)
        obtain ⟨c0_2, c1_2, c2_2, c3_2, c4_2, c5_2, fz2⟩ := X2.out
        clear fz2 hb2
        go_wp2_with fail
        refine (L _ F2.out M2.out).out.mono ?_
        rintro e w3 ⟨rfl, hb3⟩
        have B3 := Lib.hid (below_then B2.out hb3)
        have X3 := Lib.hid (X2.out.below hb3)
        have R3 := Lib.hid (R2.out.below hb3)
        have F3 := Lib.hid (F2.out.below hb3)
        have M3 := Lib.hid (cell_below hb3 M2.out)
        obtain ⟨c0_3, c1_3, c2_3, c3_3, c4_3, c5_3, fz3⟩ := X3.out
        clear fz3 hb3
        have rz0 := R3.out.fz 0
        have rz1 := R3.out.fz 1
        have r0 := R3.out.c0
        have r1 := R3.out.c1
        go_wp2
        (try simp only [Exit.inBlock, Exit.then]); refine bodyPost_ret (ret_req (Box2.stored R3.out _ _) rfl rfl) rfl ?_
        refine ⟨HV.out.symm ▸ rfl, ?_⟩
        repeat refine Below.setCell ?_ (by simp) _
        exact B3.out
      | some x =>
        cases x with
        | none => exact absurd rfl (hls rfl)
        | some n =>
          simp only [lenVal, Option.getD_some] at L
          simp only at hout
          by_cases hmn : most < n
          · have HV := Lib.hid (show frVal (0, 0, 101) = out by rw [← hout, if_pos hmn])
            clear hout hls
            have W0 : Below w.heap.size w ((w.alloc (.cells #[.string m, .string t, .int .i64 s, .string r, .int .i64 mi, .slice A fs.length cap] 42)).alloc (.cells #[.int .i64 0, .int .i64 0] 96)) := ((Below.refl _ w).alloc (Nat.le_refl _) _).alloc (by simp) _
            have B0 := Lib.hid W0
            have X0 := Lib.hid ((box6_new w (.string m) (.string t) (.int .i64 s) (.string r) (.int .i64 mi) (.slice A fs.length cap) 42).alloc (.cells #[.int .i64 0, .int .i64 0] 96))
            have R00 := box2_new (w.alloc (.cells #[.string m, .string t, .int .i64 s, .string r, .int .i64 mi, .slice A fs.length cap] 42)) (.int .i64 0) (.int .i64 0) 96
            rw [show (w.alloc (.cells #[.string m, .string t, .int .i64 s, .string r, .int .i64 mi, .slice A fs.length cap] 42)).heap.size = w.heap.size + 1 from by simp] at R00
            have R0 := Lib.hid R00
            have F0 := Lib.hid (HF.out.below B0.out)
            have M0 := Lib.hid (cell_below B0.out HM.out)
            clear W0 R00
            go_enter Tryz.func85, Tryz.ntmps85
            go_wp2_with fail
            refine (H1 _ F0.out).out.mono ?_
            rintro e w1 ⟨rfl, hb1⟩
            have B1 := Lib.hid (below_then B0.out hb1)
            have X1 := Lib.hid (X0.out.below hb1)
            have R1 := Lib.hid (R0.out.below hb1)
            have F1 := Lib.hid (F0.out.below hb1)
            have M1 := Lib.hid (cell_below hb1 M0.out)
            obtain ⟨c0_1, c1_1, c2_1, c3_1, c4_1, c5_1, fz1⟩ := X1.out
            clear fz1 hb1
            go_wp2_with fail
            refine (H2 _ F1.out).out.mono ?_
            rintro e w2 ⟨rfl, hb2⟩
            have B2 := Lib.hid (below_then B1.out hb2)
            have X2 := Lib.hid (X1.out.below hb2)
            have R2 := Lib.hid (R1.out.below hb2)
            have F2 := Lib.hid (F1.out.below hb2)
            have M2 := Lib.hid (cell_below hb2 M1.out)
            obtain ⟨c0_2, c1_2, c2_2, c3_2, c4_2, c5_2, fz2⟩ := X2.out
            clear fz2 hb2
            go_wp2_with fail
            refine (L _ F2.out M2.out).out.mono ?_
            rintro e w3 ⟨rfl, hb3⟩
            have B3 := Lib.hid (below_then B2.out hb3)
            have X3 := Lib.hid (X2.out.below hb3)
            have R3 := Lib.hid (R2.out.below hb3)
            have F3 := Lib.hid (F2.out.below hb3)
            have M3 := Lib.hid (cell_below hb3 M2.out)
            obtain ⟨c0_3, c1_3, c2_3, c3_3, c4_3, c5_3, fz3⟩ := X3.out
            clear fz3 hb3
            have rz0 := R3.out.fz 0
            have rz1 := R3.out.fz 1
            have r0 := R3.out.c0
            have r1 := R3.out.c1
            go_wp2
            (try simp only [Exit.inBlock, Exit.then]); refine bodyPost_ret (ret_req (Box2.stored R3.out _ _) rfl rfl) rfl ?_
            refine ⟨HV.out.symm ▸ rfl, ?_⟩
            repeat refine Below.setCell ?_ (by simp) _
            exact B3.out
          · have HV := Lib.hid (show frVal (2, n, 0) = out by rw [← hout, if_neg hmn])
            have hmn' : n ≤ most := by omega
            clear hout hls
            have W0 : Below w.heap.size w ((w.alloc (.cells #[.string m, .string t, .int .i64 s, .string r, .int .i64 mi, .slice A fs.length cap] 42)).alloc (.cells #[.int .i64 0, .int .i64 0] 96)) := ((Below.refl _ w).alloc (Nat.le_refl _) _).alloc (by simp) _
            have B0 := Lib.hid W0
            have X0 := Lib.hid ((box6_new w (.string m) (.string t) (.int .i64 s) (.string r) (.int .i64 mi) (.slice A fs.length cap) 42).alloc (.cells #[.int .i64 0, .int .i64 0] 96))
            have R00 := box2_new (w.alloc (.cells #[.string m, .string t, .int .i64 s, .string r, .int .i64 mi, .slice A fs.length cap] 42)) (.int .i64 0) (.int .i64 0) 96
            rw [show (w.alloc (.cells #[.string m, .string t, .int .i64 s, .string r, .int .i64 mi, .slice A fs.length cap] 42)).heap.size = w.heap.size + 1 from by simp] at R00
            have R0 := Lib.hid R00
            have F0 := Lib.hid (HF.out.below B0.out)
            have M0 := Lib.hid (cell_below B0.out HM.out)
            clear W0 R00
            go_enter Tryz.func85, Tryz.ntmps85
            go_wp2_with fail
            refine (H1 _ F0.out).out.mono ?_
            rintro e w1 ⟨rfl, hb1⟩
            have B1 := Lib.hid (below_then B0.out hb1)
            have X1 := Lib.hid (X0.out.below hb1)
            have R1 := Lib.hid (R0.out.below hb1)
            have F1 := Lib.hid (F0.out.below hb1)
            have M1 := Lib.hid (cell_below hb1 M0.out)
            obtain ⟨c0_1, c1_1, c2_1, c3_1, c4_1, c5_1, fz1⟩ := X1.out
            clear fz1 hb1
            go_wp2_with fail
            refine (H2 _ F1.out).out.mono ?_
            rintro e w2 ⟨rfl, hb2⟩
            have B2 := Lib.hid (below_then B1.out hb2)
            have X2 := Lib.hid (X1.out.below hb2)
            have R2 := Lib.hid (R1.out.below hb2)
            have F2 := Lib.hid (F1.out.below hb2)
            have M2 := Lib.hid (cell_below hb2 M1.out)
            obtain ⟨c0_2, c1_2, c2_2, c3_2, c4_2, c5_2, fz2⟩ := X2.out
            clear fz2 hb2
            go_wp2_with fail
            refine (L _ F2.out M2.out).out.mono ?_
            rintro e w3 ⟨rfl, hb3⟩
            have B3 := Lib.hid (below_then B2.out hb3)
            have X3 := Lib.hid (X2.out.below hb3)
            have R3 := Lib.hid (R2.out.below hb3)
            have F3 := Lib.hid (F2.out.below hb3)
            have M3 := Lib.hid (cell_below hb3 M2.out)
            obtain ⟨c0_3, c1_3, c2_3, c3_3, c4_3, c5_3, fz3⟩ := X3.out
            clear fz3 hb3
            have rz0 := R3.out.fz 0
            have rz1 := R3.out.fz 1
            have r0 := R3.out.c0
            have r1 := R3.out.c1
            go_wp2
            (try simp only [Exit.inBlock, Exit.then]); refine bodyPost_ret (ret_req (Box2.stored R3.out _ _) rfl rfl) rfl ?_
            refine ⟨HV.out.symm ▸ rfl, ?_⟩
            repeat refine Below.setCell ?_ (by simp) _
            exact B3.out
theorem wp_keep_bool (a b : Bool) : a = b → Ending.returned (.bool a) = .returned (.bool b) := fun h => by rw [h]
set_option maxRecDepth 100000 in
set_option maxHeartbeats 4000000 in
theorem keep_c (m t : ByteArray) (s : Int) (r : ByteArray) (mi : Int) (A : Option Addr) (cap : Nat) (fs : List Fd) (M : Int) (w : World) (hB : FB fs) (hF : Flds w A fs) (hm : w.cell? ⟨0, 0, none⟩ = some (.int .i64 M)) :
    Calls Tryz.prog 65 #[hv m t s r mi A fs.length cap] w fun e w' => e = .returned (.bool (keepF mi fs)) ∧ Below w.heap.size w w' := by
  have H1 := fun w h hm => Lib.hid (hasf_c A cap fs ⟨#[67, 111, 110, 110, 101, 99, 116, 105, 111, 110]⟩ ⟨#[99, 108, 111, 115, 101]⟩ M w (by decide) (by decide) hB h hm)
  rw [show (ByteArray.mk #[67, 111, 110, 110, 101, 99, 116, 105, 111, 110]).data.toList = conn from rfl, show (ByteArray.mk #[99, 108, 111, 115, 101]).data.toList = closeL from rfl] at H1
  have H2 := fun w h hm => Lib.hid (hasf_c A cap fs ⟨#[67, 111, 110, 110, 101, 99, 116, 105, 111, 110]⟩ ⟨#[107, 101, 101, 112, 45, 97, 108, 105, 118, 101]⟩ M w (by decide) (by decide) hB h hm)
  rw [show (ByteArray.mk #[67, 111, 110, 110, 101, 99, 116, 105, 111, 110]).data.toList = conn from rfl, show (ByteArray.mk #[107, 101, 101, 112, 45, 97, 108, 105, 118, 101]).data.toList = keepL from rfl] at H2
  have W0 : Below w.heap.size w (w.alloc (.cells #[.string m, .string t, .int .i64 s, .string r, .int .i64 mi, .slice A fs.length cap] 42)) := (Below.refl _ w).alloc (Nat.le_refl _) _
  have F0 := Lib.hid (hF.below W0)
  have M0 := Lib.hid (cell_below W0 hm)
  have X0 := Lib.hid (box6_new w (.string m) (.string t) (.int .i64 s) (.string r) (.int .i64 mi) (.slice A fs.length cap) 42)
  have B0 := Lib.hid W0
  clear hB hF hm W0
  generalize hk : keepF mi fs = out
  unfold keepF at hk
  unfold hv
  cases hc : hasF fs conn closeL with
  | true =>
    rw [hc] at H1 hk
    have HV := Lib.hid hk
    clear hc hk
    go_enter Tryz.func65, Tryz.ntmps65
    go_wp2_with fail
    refine (H1 _ F0.out M0.out).out.mono ?_
    rintro e w1 ⟨rfl, hb1⟩
    have B1 := Lib.hid (below_then B0.out hb1)
    clear hb1
    go_wp2
    go_ret
    exact ⟨ret_bool (by rw [← HV.out]; rfl), B1.out⟩
  | false =>
    rw [hc] at H1 hk
    by_cases h0 : mi = 0
    · have b0 : (mi != 0) = false := by rw [h0]; rfl
      rw [decide_eq_false (not_not_intro h0)] at hk
      generalize hasF fs conn keepL = kb at *
      have HV := Lib.hid hk
      clear hc hk h0
      go_enter Tryz.func65, Tryz.ntmps65
      go_wp2_with fail
      refine (H1 _ F0.out M0.out).out.mono ?_
      rintro e w1 ⟨rfl, hb1⟩
      have B1 := Lib.hid (below_then B0.out hb1)
      have F1 := Lib.hid (F0.out.below hb1)
      have M1 := Lib.hid (cell_below hb1 M0.out)
      obtain ⟨c0, c1, c2, c3, c4, c5, fz⟩ := X0.out.below hb1
      clear hb1 fz
      go_wp2_with fail
      refine (H2 _ F1.out M1.out).out.mono ?_
      rintro e w2 ⟨rfl, hb2⟩
      have B2 := Lib.hid (below_then B1.out hb2)
      clear hb2 c0 c1 c2 c3 c4 c5
      go_wp2
      go_ret
      exact ⟨ret_bool (by rw [← HV.out]; rfl), B2.out⟩
    · have b0 : (mi != 0) = true := by rw [bne_iff_ne]; exact h0
      rw [decide_eq_true h0] at hk
      have HV := Lib.hid hk
      clear hc hk h0
      go_enter Tryz.func65, Tryz.ntmps65
      go_wp2_with fail
      refine (H1 _ F0.out M0.out).out.mono ?_
      rintro e w1 ⟨rfl, hb1⟩
      have B1 := Lib.hid (below_then B0.out hb1)
      obtain ⟨c0, c1, c2, c3, c4, c5, fz⟩ := X0.out.below hb1
      clear hb1 fz
      go_wp2
      go_ret
      exact ⟨ret_bool (by rw [← HV.out]; rfl), B1.out⟩
end Go.Proofs.YtgmjkkiahanekaaGreatDoor

