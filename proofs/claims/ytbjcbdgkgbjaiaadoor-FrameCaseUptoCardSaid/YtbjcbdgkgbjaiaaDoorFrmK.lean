/- The walks over FrameResponses, FrameAgrees and FrameRequests. -/
import Derived.Test.YtbjcbdgkgbjaiaaDoorFrmJ
import Derived.Deep.RegionHeld3
set_option linter.unusedVariables false
set_option linter.unusedSimpArgs false
namespace Go.Proofs.YtbjcbdgkgbjaiaaDoor
open Go.RowKit Lex

theorem Box2.far2 {w : World} {B : Nat} {v0 v1 : Value} {p : Addr} (h : Box2 w B v0 v1) (u : Value) (hp : p.block ≠ B) : Box2 (w.setCell p u) B v0 v1 := by
  have k : ∀ j, (w.setCell p u).cell? ⟨B, j, none⟩ = w.cell? ⟨B, j, none⟩ := fun j => World.cell?_setCell_other w p ⟨B, j, none⟩ u (fun e => hp (by rw [e]))
  exact ⟨(k 0).trans h.c0, (k 1).trans h.c1, fun j => (World.frozen?_setCell ..).trans (h.fz j)⟩
theorem Box6.put2 {w : World} {B : Nat} {v0 v1 v2 v3 v4 v5 : Value} (h : Box6 w B v0 v1 v2 v3 v4 v5) (u : Value) : Box6 (w.setCell ⟨B, 2, none⟩ u) B v0 v1 u v3 v4 v5 where
  c0 := by rw [setO _ _ 2 0 _ (by decide)]; exact h.c0
  c1 := by rw [setO _ _ 2 1 _ (by decide)]; exact h.c1
  c2 := setS _ h.c2
  c3 := by rw [setO _ _ 2 3 _ (by decide)]; exact h.c3
  c4 := by rw [setO _ _ 2 4 _ (by decide)]; exact h.c4
  c5 := by rw [setO _ _ 2 5 _ (by decide)]; exact h.c5
  fz := fun j => by rw [World.frozen?_setCell]; exact h.fz j
set_option maxRecDepth 100000 in
set_option maxHeartbeats 4000000 in
theorem responses_walk {W : World} (me : ByteArray) (hme : me.size ≤ 1048576) (m t : ByteArray) (s : Int) (r : ByteArray) (mi : Int) (A : Option Addr) (cap : Nat) (l : List Fd) (hA : A = none → cap = 0) (hF : Flds W A l) (hl : InF l) (M : Int) (W2 : World) (hW : W2 = W) (hm : W2.cell? ⟨0, 0, none⟩ = some (.int .i64 M)) :
    Calls Tryd.prog 5 #[.string me, hv m t s r mi A l.length cap] W2 fun e w' => e = .returned (.bool true) ∧ Below W2.heap.size W2 w' := by
  subst hW
  have hB := hl.fb
  have AN := Lib.hid (anchor9_c M (W2.alloc (.cells #[.string m, .string t, .int .i64 s, .string r, .int .i64 mi, .slice A l.length cap] 24)) (cell_below ((Below.refl _ W2).alloc (Nat.le_refl _) _) hm))
  have CP := fun w (hb : Below W2.heap.size W2 w) => Lib.hid (copied_c m t s r mi A cap l w hB hA (hF.below hb))
  have HF := Lib.hid hF
  have HM := Lib.hid hm
  have B0 := Lib.hid ((Below.refl _ W2).alloc (Nat.le_refl _) (.cells #[.string m, .string t, .int .i64 s, .string r, .int .i64 mi, .slice A l.length cap] 24))
  have X0 := Lib.hid (box6_new W2 (.string m) (.string t) (.int .i64 s) (.string r) (.int .i64 mi) (.slice A l.length cap) 24)
  have RP := fun a c w h hm => Lib.hid (response_c me m t s r mi a c l M w hB h hm)
  have RR := fun w (hb : Below W2.heap.size W2 w) => Lib.hid (rresponse_c me m t s r mi A cap l w hB (hF.below hb))
  unfold Copied hv at CP
  unfold hv at RP RR ⊢
  generalize respF me.data.toList s mi l = x at *
  obtain ⟨k, n, er⟩ := x
  simp only [frVal, fr3] at RP RR
  clear hF hm hA hB hl
  go_enter Tryd.func5, Tryd.ntmps5
  go_wp2_with fail
  refine AN.out.mono ?_
  rintro e w1 ⟨rfl, hb1⟩
  have B1 := Lib.hid (below_then B0.out hb1)
  have X1 := Lib.hid (X0.out.below hb1)
  obtain ⟨c0_1, c1_1, c2_1, c3_1, c4_1, c5_1, fz1⟩ := X1.out
  clear hb1 fz1
  go_wp2_with fail
  refine (CP _ B1.out).out.mono ?_
  rintro e w2 ⟨a2, k2, rfl, hn2, ho2, hb2⟩
  have B2 := Lib.hid (below_then B1.out hb2)
  have X2 := Lib.hid (X1.out.below hb2)
  obtain ⟨c0_2, c1_2, c2_2, c3_2, c4_2, c5_2, fz2⟩ := X2.out
  clear fz2
  have hlt2 : W2.heap.size < w2.heap.size := World.block_lt_of_cell? w2 _ c0_2
  have F2 := Lib.hid (flds_own ho2)
  have M2 := Lib.hid (cell_below B2.out HM.out)
  clear hb2 ho2
  go_wp2_with fail
  refine (RP _ _ _ F2.out M2.out).out.mono ?_
  rintro e w3 ⟨rfl, hb3⟩
  have B3 := Lib.hid (below_then B2.out hb3)
  have X3 := Lib.hid (X2.out.below hb3)
  obtain ⟨c0_3, c1_3, c2_3, c3_3, c4_3, c5_3, fz3⟩ := X3.out
  clear fz3
  have hlt3 : W2.heap.size < w3.heap.size := World.block_lt_of_cell? w3 _ c0_3
  clear hb3
  go_wp2_with fail
  have B4 := Lib.hid (B3.out.alloc B3.out.size (.cells #[.int .i64 k, .int .i64 n] 27))
  have Y4 := Lib.hid (box2_new w3 (.int .i64 k) (.int .i64 n) 27)
  refine (RR _ B4.out).out.mono ?_
  rintro e w5 ⟨rfl, hb5⟩
  have B5 := Lib.hid (below_then B4.out hb5)
  obtain ⟨d0, d1, gz⟩ := Y4.out.below hb5
  clear hb5 gz
  go_wp2
  go_ret
  exact ⟨rfl, B5.out⟩

set_option maxRecDepth 100000 in
set_option maxHeartbeats 4000000 in
theorem agrees_walk {W : World} (m t : ByteArray) (s : Int) (r : ByteArray) (mi : Int) (A : Option Addr) (cap : Nat) (l : List Fd) (hA : A = none → cap = 0) (hF : Flds W A l) (hl : InF l) (most : Int) (hmost : (Lit.int .i64 most).wf = true) (M : Int) (W2 : World) (hW : W2 = W) (hm : W2.cell? ⟨0, 0, none⟩ = some (.int .i64 M)) :
    Calls Tryd.prog 7 #[hv m t s r mi A l.length cap, .int .i64 most] W2 fun e w' => e = .returned (.bool true) ∧ Below W2.heap.size W2 w' := by
  subst hW
  have hB := hl.fb
  have AN := Lib.hid (anchor9_c M (W2.alloc (.cells #[.string m, .string t, .int .i64 s, .string r, .int .i64 mi, .slice A l.length cap] 24)) (cell_below ((Below.refl _ W2).alloc (Nat.le_refl _) _) hm))
  have CP := fun w (hb : Below W2.heap.size W2 w) => Lib.hid (copied_c m t s r mi A cap l w hB hA (hF.below hb))
  have HF := Lib.hid hF
  have HM := Lib.hid hm
  have B0 := Lib.hid ((Below.refl _ W2).alloc (Nat.le_refl _) (.cells #[.string m, .string t, .int .i64 s, .string r, .int .i64 mi, .slice A l.length cap] 24))
  have X0 := Lib.hid (box6_new W2 (.string m) (.string t) (.int .i64 s) (.string r) (.int .i64 mi) (.slice A l.length cap) 24)
  have CQ := fun w (hb : Below W2.heap.size W2 w) => Lib.hid (copied_c m t 200 r mi A cap l w hB hA (hF.below hb))
  have RP := fun a c w h hm => Lib.hid (request_c m t s r mi a c l most M w hB h hm)
  have RG := fun a c w h hm => Lib.hid (response_c ⟨#[71, 69, 84]⟩ m t 200 r mi a c l M w hB h hm)
  rw [show (ByteArray.mk #[71, 69, 84]).data.toList = getM from rfl] at RG
  unfold Copied hv at CP
  unfold Copied hv at CQ
  unfold hv at RP RG ⊢
  have hag := agrees mi l most
  generalize reqF mi l most = x at *
  generalize respF getM 200 mi l = y at *
  clear hF hm hA hB hl hmost
  rcases hag with ⟨n, rfl, rfl, hn⟩ | ⟨e1, e2, rfl, he1, rfl, he2⟩ | ⟨rfl, rfl⟩ | ⟨k, n, hk, rfl, rfl⟩
  · simp only [frVal] at RP RG
    go_enter Tryd.func7, Tryd.ntmps7
    go_wp2_with fail
    refine AN.out.mono ?_
    rintro e w1 ⟨rfl, hb1⟩
    have B1 := Lib.hid (below_then B0.out hb1)
    have X1 := Lib.hid (X0.out.below hb1)
    obtain ⟨c0_1, c1_1, c2_1, c3_1, c4_1, c5_1, fz1⟩ := X1.out
    clear hb1 fz1
    go_wp2_with fail
    refine (CP _ B1.out).out.mono ?_
    rintro e w2 ⟨a2, k2, rfl, hn2, ho2, hb2⟩
    have B2 := Lib.hid (below_then B1.out hb2)
    have X2 := Lib.hid (X1.out.below hb2)
    obtain ⟨c0_2, c1_2, c2_2, c3_2, c4_2, c5_2, fz2⟩ := X2.out
    clear fz2
    have hlt2 : W2.heap.size < w2.heap.size := World.block_lt_of_cell? w2 _ c0_2
    have F2 := Lib.hid (flds_own ho2)
    have M2 := Lib.hid (cell_below B2.out HM.out)
    clear hb2 ho2
    go_wp2_with fail
    refine (RP _ _ _ F2.out M2.out).out.mono ?_
    rintro e w3 ⟨rfl, hb3⟩
    have B3 := Lib.hid (below_then B2.out hb3)
    have X3 := Lib.hid (X2.out.below hb3)
    obtain ⟨c0_3, c1_3, c2_3, c3_3, c4_3, c5_3, fz3⟩ := X3.out
    clear fz3
    have hlt3 : W2.heap.size < w3.heap.size := World.block_lt_of_cell? w3 _ c0_3
    have f2_3 := X3.out.fz 2
    clear hb3
    go_wp2_with fail
    have Q4 : Below W2.heap.size W2 (w3.setCell ⟨W2.heap.size, 2, none⟩ (.int .i64 200)) := B3.out.setCell (Nat.le_refl _) _
    have B4 := Lib.hid (Q4.alloc Q4.size (.cells #[.int .i64 0, .int .i64 0] 27))
    have X4 := Lib.hid ((X3.out.put2 (.int .i64 200)).alloc (.cells #[.int .i64 0, .int .i64 0] 27))
    have Y40 := box2_new (w3.setCell ⟨W2.heap.size, 2, none⟩ (.int .i64 200)) (.int .i64 0) (.int .i64 0) 27
    rw [show (w3.setCell ⟨W2.heap.size, 2, none⟩ (.int .i64 200)).heap.size = w3.heap.size from by simp] at Y40
    have Y4 := Lib.hid Y40
    clear Q4 Y40
    refine (CQ _ B4.out).out.mono ?_
    rintro e w5 ⟨a5, k5, rfl, hn5, ho5, hb5⟩
    have B5 := Lib.hid (below_then B4.out hb5)
    have Y5 := Lib.hid (Y4.out.below hb5)
    have F5 := Lib.hid (flds_own ho5)
    have M5 := Lib.hid (cell_below B5.out HM.out)
    clear hb5 ho5
    go_wp2_with fail
    refine (RG _ _ _ F5.out M5.out).out.mono ?_
    rintro e w6 ⟨rfl, hb6⟩
    have B6 := Lib.hid (below_then B5.out hb6)
    obtain ⟨d0, d1, gz⟩ := Y5.out.below hb6
    have hlt6 : w3.heap.size < w6.heap.size := World.block_lt_of_cell? w6 _ d0
    clear hb6 gz
    go_wp2
    go_ret
    exact ⟨rfl, B6.out.alloc B6.out.size _⟩
  · have b1 : (e1 == 101) = false := by rw [beq_eq_false_iff_ne]; omega
    have b2 : (e1 != 0) = true := by rw [bne_iff_ne]; omega
    have b3 : (e2 != 0) = true := by rw [bne_iff_ne]; omega
    simp only [frVal] at RP RG
    clear he1 he2
    go_enter Tryd.func7, Tryd.ntmps7
    go_wp2_with fail
    refine AN.out.mono ?_
    rintro e w1 ⟨rfl, hb1⟩
    have B1 := Lib.hid (below_then B0.out hb1)
    have X1 := Lib.hid (X0.out.below hb1)
    obtain ⟨c0_1, c1_1, c2_1, c3_1, c4_1, c5_1, fz1⟩ := X1.out
    clear hb1 fz1
    go_wp2_with fail
    refine (CP _ B1.out).out.mono ?_
    rintro e w2 ⟨a2, k2, rfl, hn2, ho2, hb2⟩
    have B2 := Lib.hid (below_then B1.out hb2)
    have X2 := Lib.hid (X1.out.below hb2)
    obtain ⟨c0_2, c1_2, c2_2, c3_2, c4_2, c5_2, fz2⟩ := X2.out
    clear fz2
    have hlt2 : W2.heap.size < w2.heap.size := World.block_lt_of_cell? w2 _ c0_2
    have F2 := Lib.hid (flds_own ho2)
    have M2 := Lib.hid (cell_below B2.out HM.out)
    clear hb2 ho2
    go_wp2_with fail
    refine (RP _ _ _ F2.out M2.out).out.mono ?_
    rintro e w3 ⟨rfl, hb3⟩
    have B3 := Lib.hid (below_then B2.out hb3)
    have X3 := Lib.hid (X2.out.below hb3)
    obtain ⟨c0_3, c1_3, c2_3, c3_3, c4_3, c5_3, fz3⟩ := X3.out
    clear fz3
    have hlt3 : W2.heap.size < w3.heap.size := World.block_lt_of_cell? w3 _ c0_3
    have f2_3 := X3.out.fz 2
    clear hb3
    go_wp2_with fail
    have Q4 : Below W2.heap.size W2 (w3.setCell ⟨W2.heap.size, 2, none⟩ (.int .i64 200)) := B3.out.setCell (Nat.le_refl _) _
    have B4 := Lib.hid (Q4.alloc Q4.size (.cells #[.int .i64 0, .int .i64 0] 27))
    have X4 := Lib.hid ((X3.out.put2 (.int .i64 200)).alloc (.cells #[.int .i64 0, .int .i64 0] 27))
    have Y40 := box2_new (w3.setCell ⟨W2.heap.size, 2, none⟩ (.int .i64 200)) (.int .i64 0) (.int .i64 0) 27
    rw [show (w3.setCell ⟨W2.heap.size, 2, none⟩ (.int .i64 200)).heap.size = w3.heap.size from by simp] at Y40
    have Y4 := Lib.hid Y40
    clear Q4 Y40
    refine (CQ _ B4.out).out.mono ?_
    rintro e w5 ⟨a5, k5, rfl, hn5, ho5, hb5⟩
    have B5 := Lib.hid (below_then B4.out hb5)
    have Y5 := Lib.hid (Y4.out.below hb5)
    have F5 := Lib.hid (flds_own ho5)
    have M5 := Lib.hid (cell_below B5.out HM.out)
    clear hb5 ho5
    go_wp2_with fail
    refine (RG _ _ _ F5.out M5.out).out.mono ?_
    rintro e w6 ⟨rfl, hb6⟩
    have B6 := Lib.hid (below_then B5.out hb6)
    obtain ⟨d0, d1, gz⟩ := Y5.out.below hb6
    have hlt6 : w3.heap.size < w6.heap.size := World.block_lt_of_cell? w6 _ d0
    clear hb6 gz
    go_wp2
    go_ret
    exact ⟨rfl, B6.out.alloc B6.out.size _⟩
  · simp only [frVal] at RP RG
    go_enter Tryd.func7, Tryd.ntmps7
    go_wp2_with fail
    refine AN.out.mono ?_
    rintro e w1 ⟨rfl, hb1⟩
    have B1 := Lib.hid (below_then B0.out hb1)
    have X1 := Lib.hid (X0.out.below hb1)
    obtain ⟨c0_1, c1_1, c2_1, c3_1, c4_1, c5_1, fz1⟩ := X1.out
    clear hb1 fz1
    go_wp2_with fail
    refine (CP _ B1.out).out.mono ?_
    rintro e w2 ⟨a2, k2, rfl, hn2, ho2, hb2⟩
    have B2 := Lib.hid (below_then B1.out hb2)
    have X2 := Lib.hid (X1.out.below hb2)
    obtain ⟨c0_2, c1_2, c2_2, c3_2, c4_2, c5_2, fz2⟩ := X2.out
    clear fz2
    have hlt2 : W2.heap.size < w2.heap.size := World.block_lt_of_cell? w2 _ c0_2
    have F2 := Lib.hid (flds_own ho2)
    have M2 := Lib.hid (cell_below B2.out HM.out)
    clear hb2 ho2
    go_wp2_with fail
    refine (RP _ _ _ F2.out M2.out).out.mono ?_
    rintro e w3 ⟨rfl, hb3⟩
    have B3 := Lib.hid (below_then B2.out hb3)
    have X3 := Lib.hid (X2.out.below hb3)
    obtain ⟨c0_3, c1_3, c2_3, c3_3, c4_3, c5_3, fz3⟩ := X3.out
    clear fz3
    have hlt3 : W2.heap.size < w3.heap.size := World.block_lt_of_cell? w3 _ c0_3
    have f2_3 := X3.out.fz 2
    clear hb3
    go_wp2_with fail
    have Q4 : Below W2.heap.size W2 (w3.setCell ⟨W2.heap.size, 2, none⟩ (.int .i64 200)) := B3.out.setCell (Nat.le_refl _) _
    have B4 := Lib.hid (Q4.alloc Q4.size (.cells #[.int .i64 1, .int .i64 0] 27))
    have X4 := Lib.hid ((X3.out.put2 (.int .i64 200)).alloc (.cells #[.int .i64 1, .int .i64 0] 27))
    have Y40 := box2_new (w3.setCell ⟨W2.heap.size, 2, none⟩ (.int .i64 200)) (.int .i64 1) (.int .i64 0) 27
    rw [show (w3.setCell ⟨W2.heap.size, 2, none⟩ (.int .i64 200)).heap.size = w3.heap.size from by simp] at Y40
    have Y4 := Lib.hid Y40
    clear Q4 Y40
    refine (CQ _ B4.out).out.mono ?_
    rintro e w5 ⟨a5, k5, rfl, hn5, ho5, hb5⟩
    have B5 := Lib.hid (below_then B4.out hb5)
    have Y5 := Lib.hid (Y4.out.below hb5)
    have F5 := Lib.hid (flds_own ho5)
    have M5 := Lib.hid (cell_below B5.out HM.out)
    clear hb5 ho5
    go_wp2_with fail
    refine (RG _ _ _ F5.out M5.out).out.mono ?_
    rintro e w6 ⟨rfl, hb6⟩
    have B6 := Lib.hid (below_then B5.out hb6)
    obtain ⟨d0, d1, gz⟩ := Y5.out.below hb6
    have hlt6 : w3.heap.size < w6.heap.size := World.block_lt_of_cell? w6 _ d0
    clear hb6 gz
    go_wp2
    go_ret
    exact ⟨rfl, B6.out.alloc B6.out.size _⟩
  · have b1 : (k == 1) = false := by rw [beq_eq_false_iff_ne]; omega
    simp only [frVal] at RP RG
    clear hk
    go_enter Tryd.func7, Tryd.ntmps7
    go_wp2_with fail
    refine AN.out.mono ?_
    rintro e w1 ⟨rfl, hb1⟩
    have B1 := Lib.hid (below_then B0.out hb1)
    have X1 := Lib.hid (X0.out.below hb1)
    obtain ⟨c0_1, c1_1, c2_1, c3_1, c4_1, c5_1, fz1⟩ := X1.out
    clear hb1 fz1
    go_wp2_with fail
    refine (CP _ B1.out).out.mono ?_
    rintro e w2 ⟨a2, k2, rfl, hn2, ho2, hb2⟩
    have B2 := Lib.hid (below_then B1.out hb2)
    have X2 := Lib.hid (X1.out.below hb2)
    obtain ⟨c0_2, c1_2, c2_2, c3_2, c4_2, c5_2, fz2⟩ := X2.out
    clear fz2
    have hlt2 : W2.heap.size < w2.heap.size := World.block_lt_of_cell? w2 _ c0_2
    have F2 := Lib.hid (flds_own ho2)
    have M2 := Lib.hid (cell_below B2.out HM.out)
    clear hb2 ho2
    go_wp2_with fail
    refine (RP _ _ _ F2.out M2.out).out.mono ?_
    rintro e w3 ⟨rfl, hb3⟩
    have B3 := Lib.hid (below_then B2.out hb3)
    have X3 := Lib.hid (X2.out.below hb3)
    obtain ⟨c0_3, c1_3, c2_3, c3_3, c4_3, c5_3, fz3⟩ := X3.out
    clear fz3
    have hlt3 : W2.heap.size < w3.heap.size := World.block_lt_of_cell? w3 _ c0_3
    have f2_3 := X3.out.fz 2
    clear hb3
    go_wp2_with fail
    have Q4 : Below W2.heap.size W2 (w3.setCell ⟨W2.heap.size, 2, none⟩ (.int .i64 200)) := B3.out.setCell (Nat.le_refl _) _
    have B4 := Lib.hid (Q4.alloc Q4.size (.cells #[.int .i64 k, .int .i64 n] 27))
    have X4 := Lib.hid ((X3.out.put2 (.int .i64 200)).alloc (.cells #[.int .i64 k, .int .i64 n] 27))
    have Y40 := box2_new (w3.setCell ⟨W2.heap.size, 2, none⟩ (.int .i64 200)) (.int .i64 k) (.int .i64 n) 27
    rw [show (w3.setCell ⟨W2.heap.size, 2, none⟩ (.int .i64 200)).heap.size = w3.heap.size from by simp] at Y40
    have Y4 := Lib.hid Y40
    clear Q4 Y40
    refine (CQ _ B4.out).out.mono ?_
    rintro e w5 ⟨a5, k5, rfl, hn5, ho5, hb5⟩
    have B5 := Lib.hid (below_then B4.out hb5)
    have Y5 := Lib.hid (Y4.out.below hb5)
    have F5 := Lib.hid (flds_own ho5)
    have M5 := Lib.hid (cell_below B5.out HM.out)
    clear hb5 ho5
    go_wp2_with fail
    refine (RG _ _ _ F5.out M5.out).out.mono ?_
    rintro e w6 ⟨rfl, hb6⟩
    have B6 := Lib.hid (below_then B5.out hb6)
    obtain ⟨d0, d1, gz⟩ := Y5.out.below hb6
    have hlt6 : w3.heap.size < w6.heap.size := World.block_lt_of_cell? w6 _ d0
    clear hb6 gz
    go_wp2
    go_ret
    exact ⟨rfl, B6.out.alloc B6.out.size _⟩
end Go.Proofs.YtbjcbdgkgbjaiaaDoor
