/- The walk over FrameRequests. -/
import Derived.Test.YtbjcbdgkgbjaiaaDoorFrmK
set_option linter.unusedVariables false
set_option linter.unusedSimpArgs false
namespace Go.Proofs.YtbjcbdgkgbjaiaaDoor
open Go.RowKit Lex

theorem keep8 {W w w' : World} {a b : Nat} {v0 v1 v2 v3 v4 v5 u0 u1 : Value}
    (h : Below W.heap.size W w ∧ w.cell? ⟨a, 0, none⟩ = some v0 ∧ w.cell? ⟨a, 1, none⟩ = some v1 ∧ w.cell? ⟨a, 2, none⟩ = some v2 ∧ w.cell? ⟨a, 3, none⟩ = some v3 ∧ w.cell? ⟨a, 4, none⟩ = some v4 ∧ w.cell? ⟨a, 5, none⟩ = some v5 ∧
      w.cell? ⟨b, 0, none⟩ = some u0 ∧ w.cell? ⟨b, 1, none⟩ = some u1) (hb : Below w.heap.size w w') :
    Below W.heap.size W w' ∧ w'.cell? ⟨a, 0, none⟩ = some v0 ∧ w'.cell? ⟨a, 1, none⟩ = some v1 ∧ w'.cell? ⟨a, 2, none⟩ = some v2 ∧ w'.cell? ⟨a, 3, none⟩ = some v3 ∧ w'.cell? ⟨a, 4, none⟩ = some v4 ∧ w'.cell? ⟨a, 5, none⟩ = some v5 ∧
      w'.cell? ⟨b, 0, none⟩ = some u0 ∧ w'.cell? ⟨b, 1, none⟩ = some u1 := by
  obtain ⟨hB, h0, h1, h2, h3, h4, h5, g0, g1⟩ := h
  exact ⟨below_then hB hb, cell_below hb h0, cell_below hb h1, cell_below hb h2, cell_below hb h3, cell_below hb h4, cell_below hb h5, cell_below hb g0, cell_below hb g1⟩

set_option maxRecDepth 100000 in
set_option maxHeartbeats 8000000 in
theorem requests_walk {W : World} (m t : ByteArray) (s : Int) (r : ByteArray) (mi : Int) (A : Option Addr) (cap : Nat) (l : List Fd) (hA : A = none → cap = 0) (hF : Flds W A l) (hl : InF l) (most : Int) (hmost : (Lit.int .i64 most).wf = true) (M : Int) (W2 : World) (hW : W2 = W) (hm : W2.cell? ⟨0, 0, none⟩ = some (.int .i64 M)) :
    Calls Tryd.prog 4 #[hv m t s r mi A l.length cap, .int .i64 most] W2 fun e w' => e = .returned (.bool true) ∧ Below W2.heap.size W2 w' := by
  subst hW
  have hB := hl.fb
  have AN := Lib.hid (anchor9_c M (W2.alloc (.cells #[.string m, .string t, .int .i64 s, .string r, .int .i64 mi, .slice A l.length cap] 24)) (cell_below ((Below.refl _ W2).alloc (Nat.le_refl _) _) hm))
  have CP := fun w (hb : Below W2.heap.size W2 w) => Lib.hid (copied_c m t s r mi A cap l w hB hA (hF.below hb))
  have HF := Lib.hid hF
  have HM := Lib.hid hm
  have B0 := Lib.hid ((Below.refl _ W2).alloc (Nat.le_refl _) (.cells #[.string m, .string t, .int .i64 s, .string r, .int .i64 mi, .slice A l.length cap] 24))
  have X0 := Lib.hid (box6_new W2 (.string m) (.string t) (.int .i64 s) (.string r) (.int .i64 mi) (.slice A l.length cap) 24)
  have RP := fun a c w h hm => Lib.hid (request_c m t s r mi a c l most M w hB h hm)
  have RR := fun w (hb : Below W2.heap.size W2 w) => Lib.hid (rrequest_c m t s r mi A cap l most w hB (hF.below hb))
  have KP := fun a c w h hm => Lib.hid (keep_c m t s r mi a c l M w hB h hm)
  have RK := fun w (hb : Below W2.heap.size W2 w) => Lib.hid (rkeep_c m t s r mi A cap l w hB (hF.below hb))
  unfold Copied hv at CP
  unfold hv at RP RR KP RK ⊢
  generalize reqF mi l most = x at *
  generalize keepF mi l = kb at *
  obtain ⟨k, n, er⟩ := x
  simp only [frVal, fr3] at RP RR
  clear hF hm hA hB hl hmost
  go_enter Tryd.func4, Tryd.ntmps4
  go_wp2_with fail
  refine AN.out.mono ?_
  rintro e w1 ⟨rfl, hb1⟩
  have B1 := Lib.hid (below_then B0.out hb1)
  have X1 := Lib.hid (X0.out.below hb1)
  obtain ⟨c0_1, c1_1, c2_1, c3_1, c4_1, c5_1, fz1⟩ := X1.out
  clear hb1 fz1
  go_wp2_with fail
  refine (CP _ B1.out).out.mono ?_
  rintro e w2 ⟨a2, k2, rfl, hn2, ho2, hb2⟩
  have B2 := Lib.hid (below_then B1.out hb2)
  have X2 := Lib.hid (X1.out.below hb2)
  obtain ⟨c0_2, c1_2, c2_2, c3_2, c4_2, c5_2, fz2⟩ := X2.out
  clear fz2
  have hlt2 : W2.heap.size < w2.heap.size := World.block_lt_of_cell? w2 _ c0_2
  have F2 := Lib.hid (flds_own ho2)
  have M2 := Lib.hid (cell_below B2.out HM.out)
  clear hb2 ho2
  go_wp2_with fail
  refine (RP _ _ _ F2.out M2.out).out.mono ?_
  rintro e w3 ⟨rfl, hb3⟩
  have B3 := Lib.hid (below_then B2.out hb3)
  have X3 := Lib.hid (X2.out.below hb3)
  obtain ⟨c0_3, c1_3, c2_3, c3_3, c4_3, c5_3, fz3⟩ := X3.out
  clear fz3
  have hlt3 : W2.heap.size < w3.heap.size := World.block_lt_of_cell? w3 _ c0_3
  clear hb3
  go_wp2_with fail
  have B4 := Lib.hid (B3.out.alloc B3.out.size (.cells #[.int .i64 k, .int .i64 n] 27))
  have Y4 := Lib.hid (box2_new w3 (.int .i64 k) (.int .i64 n) 27)
  have X4 := Lib.hid (X3.out.alloc (.cells #[.int .i64 k, .int .i64 n] 27))
  refine (RR _ B4.out).out.mono ?_
  rintro e w5 ⟨rfl, hb5⟩
  have B5 := Lib.hid (below_then B4.out hb5)
  obtain ⟨c0, c1, c2, c3, c4, c5, fz⟩ := X4.out.below hb5
  obtain ⟨d0, d1, gz⟩ := Y4.out.below hb5
  clear hb5 gz fz c0_1 c1_1 c2_1 c3_1 c4_1 c5_1 c0_2 c1_2 c2_2 c3_2 c4_2 c5_2 c0_3 c1_3 c2_3 c3_3 c4_3 c5_3
  go_wp2
  go_region_held3 (fun w' => Below W2.heap.size W2 w' ∧ w'.cell? ⟨W2.heap.size, 0, none⟩ = some (.string m) ∧ w'.cell? ⟨W2.heap.size, 1, none⟩ = some (.string t) ∧ w'.cell? ⟨W2.heap.size, 2, none⟩ = some (.int .i64 s) ∧ w'.cell? ⟨W2.heap.size, 3, none⟩ = some (.string r) ∧ w'.cell? ⟨W2.heap.size, 4, none⟩ = some (.int .i64 mi) ∧ w'.cell? ⟨W2.heap.size, 5, none⟩ = some (.slice A l.length cap) ∧
      w'.cell? ⟨w3.heap.size, 0, none⟩ = some (.int .i64 k) ∧ w'.cell? ⟨w3.heap.size, 1, none⟩ = some (.int .i64 n))
    (first
      | assumption
      | exact ⟨B5.out.drew, c0, c1, c2, c3, c4, c5, d0, d1⟩
      | (refine keep8 ?_ (by assumption); assumption)
      | (refine keep8 ?_ (by assumption); exact ⟨B5.out.drew, c0, c1, c2, c3, c4, c5, d0, d1⟩))
    (first
      | (go_at_call 11; refine (CP _ (show Below W2.heap.size W2 _ ∧ _ from by assumption).1).out.mono ?_; rintro e w6 ⟨a6, k6, rfl, hn6, ho6, hb6⟩)
      | (go_at_call 17; refine (KP _ _ _ (by first | exact flds_own ho6 | exact (flds_own ho6).below hb7) (cell_below (show Below W2.heap.size W2 _ ∧ _ from by assumption).1 HM.out)).out.mono ?_; rintro e w8 ⟨rfl, hb8⟩)
      | (go_at_call 18; refine (RK _ (show Below W2.heap.size W2 _ ∧ _ from by assumption).1).out.mono ?_; rintro e w7 ⟨rfl, hb7⟩))
  go_wp2
  go_ret
  exact ⟨rfl, by first | assumption | (rename_i hh; exact hh.1)⟩
end Go.Proofs.YtbjcbdgkgbjaiaaDoor
