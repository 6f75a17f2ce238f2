/- The walk over FrameBodiless. -/
import Derived.Test.YtbjcbdgkgbjaiaaDoorFrmI
import Derived.Test.YtbjcbdgkgbjaiaaDoorFrmP
set_option linter.unusedVariables false
set_option linter.unusedSimpArgs false
namespace Go.Proofs.YtbjcbdgkgbjaiaaDoor
open Go.RowKit Lex

/-- The bounds of fields that come in. -/
abbrev InF (l : List Fd) : Prop := l.length ≤ 1048576 ∧ ∀ f ∈ l, f.1.length ≤ 1048576 ∧ f.2.length ≤ 1048576
theorem InF.fb {l : List Fd} (h : InF l) : FB l := ⟨by have := h.1; omega, fun f hf => by have := (h.2 f hf).1; omega, fun f hf => by have := (h.2 f hf).2; omega⟩
set_option maxRecDepth 100000 in
set_option maxHeartbeats 8000000 in
theorem bodiless_walk {W : World} (m t : ByteArray) (s : Int) (r : ByteArray) (mi : Int) (A : Option Addr) (cap : Nat) (l : List Fd) (hA : A = none → cap = 0) (hF : Flds W A l) (hl : InF l) (me : ByteArray) (hme : me.size ≤ 1048576) (M : Int) (W2 : World) (hW : W2 = W) (hm : W2.cell? ⟨0, 0, none⟩ = some (.int .i64 M)) :
    Calls Tryd.prog 6 #[hv m t s r mi A l.length cap, .string me] W2 fun e w' => e = .returned (.bool true) ∧ Below W2.heap.size W2 w' := by
  subst hW
  have hB := hl.fb
  have AN := Lib.hid (anchor9_c M (W2.alloc (.cells #[.string m, .string t, .int .i64 s, .string r, .int .i64 mi, .slice A l.length cap] 24)) (cell_below ((Below.refl _ W2).alloc (Nat.le_refl _) _) hm))
  have CP := fun w (hb : Below W2.heap.size W2 w) => Lib.hid (copied_c m t s r mi A cap l w hB hA (hF.below hb))
  have HF := Lib.hid hF
  have HM := Lib.hid hm
  have B0 := Lib.hid ((Below.refl _ W2).alloc (Nat.le_refl _) (.cells #[.string m, .string t, .int .i64 s, .string r, .int .i64 mi, .slice A l.length cap] 24))
  have X0 := Lib.hid (box6_new W2 (.string m) (.string t) (.int .i64 s) (.string r) (.int .i64 mi) (.slice A l.length cap) 24)
  have RH := fun a c w h hm => Lib.hid (response_c ⟨#[72, 69, 65, 68]⟩ m t s r mi a c l M w hB h hm)
  rw [show (ByteArray.mk #[72, 69, 65, 68]).data.toList = headM from rfl] at RH
  have RM := fun a c w h hm => Lib.hid (response_c me m t s r mi a c l M w hB h hm)
  unfold Copied hv at CP
  unfold hv at RH RM ⊢
  have h1 := resp_head s mi l
  have h2 := fun h => resp_nobody (s := s) h me.data.toList mi l
  generalize respF headM s mi l = x at *
  generalize respF me.data.toList s mi l = y at *
  clear hF hm hA hB hl
  by_cases hnb : noBody s = true
  · have h2 := h2 hnb
    have hs : s = 204 ∨ s = 304 ∨ (s = 101) ∨ (100 ≤ s ∧ s ≤ 199 ∧ s ≠ 101) := by
      simp only [noBody, Bool.or_eq_true, Bool.and_eq_true, decide_eq_true_eq] at hnb
      omega
    clear hnb
    have cs : (s ≠ 101 ∧ x = (1, 0, 0) ∧ y = (1, 0, 0)) ∨ (s = 101 ∧ (x = (1, 0, 0) ∨ x = (5, 0, 0)) ∧ y = (5, 0, 0)) := by
      rcases h2 with ⟨a, b⟩ | ⟨a, b⟩
      · rcases h1 with h | ⟨h, _⟩
        · exact .inl ⟨a, h, b⟩
        · exact absurd h a
      · rcases h1 with h | ⟨_, h⟩
        · exact .inr ⟨a, .inl h, b⟩
        · exact .inr ⟨a, .inr h, b⟩
    clear h1 h2
    have hq : (s == 204) = true ∨ ((s == 204) = false ∧ (s == 304) = true) ∨ ((s == 204) = false ∧ (s == 304) = false ∧ 100 ≤ s ∧ s ≤ 199) := by
      simp only [beq_iff_eq, beq_eq_false_iff_ne]
      omega
    clear hs
    rcases cs with ⟨h101, rfl, rfl⟩ | ⟨h101, rfl | rfl, rfl⟩
    · have b1 : (s == 101) = false := by rw [beq_eq_false_iff_ne]; exact h101
      have b2 : (s != 101) = true := by rw [bne_iff_ne]; exact h101
      simp only [frVal] at RH RM
      clear h101
      rcases hq with q1 | ⟨q1, q2⟩ | ⟨q1, q2, q3, q4⟩
      all_goals
        go_enter Tryd.func6, Tryd.ntmps6
        go_wp2_with fail
        refine AN.out.mono ?_
        rintro e w1 ⟨rfl, hb1⟩
        have B1 := Lib.hid (below_then B0.out hb1)
        have X1 := Lib.hid (X0.out.below hb1)
        obtain ⟨c0_1, c1_1, c2_1, c3_1, c4_1, c5_1, fz1⟩ := X1.out
        clear hb1 fz1
        go_wp2_with fail
        refine (CP _ B1.out).out.mono ?_
        rintro e w2 ⟨a2, k2, rfl, hn2, ho2, hb2⟩
        have B2 := Lib.hid (below_then B1.out hb2)
        have X2 := Lib.hid (X1.out.below hb2)
        obtain ⟨c0_2, c1_2, c2_2, c3_2, c4_2, c5_2, fz2⟩ := X2.out
        clear fz2
        have hlt2 : W2.heap.size < w2.heap.size := World.block_lt_of_cell? w2 _ c0_2
        have F2 := Lib.hid (flds_own ho2)
        have M2 := Lib.hid (cell_below B2.out HM.out)
        clear hb2 ho2
        go_wp2_with fail
        refine (RH _ _ _ F2.out M2.out).out.mono ?_
        rintro e w3 ⟨rfl, hb3⟩
        have B3 := Lib.hid (below_then B2.out hb3)
        have X3 := Lib.hid (X2.out.below hb3)
        obtain ⟨c0_3, c1_3, c2_3, c3_3, c4_3, c5_3, fz3⟩ := X3.out
        clear fz3
        have hlt3 : W2.heap.size < w3.heap.size := World.block_lt_of_cell? w3 _ c0_3
        clear hb3
        go_wp2_with fail
        have B4 := Lib.hid (B3.out.alloc B3.out.size (.cells #[.int .i64 1, .int .i64 0] 27))
        refine (CP _ B4.out).out.mono ?_
        rintro e w5 ⟨a5, k5, rfl, hn5, ho5, hb5⟩
        have B5 := Lib.hid (below_then B4.out hb5)
        have F5 := Lib.hid (flds_own ho5)
        have M5 := Lib.hid (cell_below B5.out HM.out)
        have X5 := Lib.hid ((X3.out.alloc (.cells #[.int .i64 1, .int .i64 0] 27)).below hb5)
        clear hb5 ho5
        go_wp2_with fail
        refine (RM _ _ _ F5.out M5.out).out.mono ?_
        rintro e w6 ⟨rfl, hb6⟩
        have B6 := Lib.hid (below_then B5.out hb6)
        obtain ⟨c0_6, c1_6, c2_6, c3_6, c4_6, c5_6, fz6⟩ := X5.out.below hb6
        have hlt6 : W2.heap.size < w6.heap.size := World.block_lt_of_cell? w6 _ c0_6
        clear hb6 fz6
        go_wp2
        go_ret
        exact ⟨rfl, B6.out.alloc B6.out.size _⟩
    · have b1 : (s == 101) = true := by rw [beq_iff_eq]; exact h101
      have b2 : (s != 101) = false := by rw [bne_eq_false_iff_eq]; exact h101
      simp only [frVal] at RH RM
      clear h101
      rcases hq with q1 | ⟨q1, q2⟩ | ⟨q1, q2, q3, q4⟩
      all_goals
        go_enter Tryd.func6, Tryd.ntmps6
        go_wp2_with fail
        refine AN.out.mono ?_
        rintro e w1 ⟨rfl, hb1⟩
        have B1 := Lib.hid (below_then B0.out hb1)
        have X1 := Lib.hid (X0.out.below hb1)
        obtain ⟨c0_1, c1_1, c2_1, c3_1, c4_1, c5_1, fz1⟩ := X1.out
        clear hb1 fz1
        go_wp2_with fail
        refine (CP _ B1.out).out.mono ?_
        rintro e w2 ⟨a2, k2, rfl, hn2, ho2, hb2⟩
        have B2 := Lib.hid (below_then B1.out hb2)
        have X2 := Lib.hid (X1.out.below hb2)
        obtain ⟨c0_2, c1_2, c2_2, c3_2, c4_2, c5_2, fz2⟩ := X2.out
        clear fz2
        have hlt2 : W2.heap.size < w2.heap.size := World.block_lt_of_cell? w2 _ c0_2
        have F2 := Lib.hid (flds_own ho2)
        have M2 := Lib.hid (cell_below B2.out HM.out)
        clear hb2 ho2
        go_wp2_with fail
        refine (RH _ _ _ F2.out M2.out).out.mono ?_
        rintro e w3 ⟨rfl, hb3⟩
        have B3 := Lib.hid (below_then B2.out hb3)
        have X3 := Lib.hid (X2.out.below hb3)
        obtain ⟨c0_3, c1_3, c2_3, c3_3, c4_3, c5_3, fz3⟩ := X3.out
        clear fz3
        have hlt3 : W2.heap.size < w3.heap.size := World.block_lt_of_cell? w3 _ c0_3
        clear hb3
        go_wp2_with fail
        have B4 := Lib.hid (B3.out.alloc B3.out.size (.cells #[.int .i64 1, .int .i64 0] 27))
        refine (CP _ B4.out).out.mono ?_
        rintro e w5 ⟨a5, k5, rfl, hn5, ho5, hb5⟩
        have B5 := Lib.hid (below_then B4.out hb5)
        have F5 := Lib.hid (flds_own ho5)
        have M5 := Lib.hid (cell_below B5.out HM.out)
        have X5 := Lib.hid ((X3.out.alloc (.cells #[.int .i64 1, .int .i64 0] 27)).below hb5)
        clear hb5 ho5
        go_wp2_with fail
        refine (RM _ _ _ F5.out M5.out).out.mono ?_
        rintro e w6 ⟨rfl, hb6⟩
        have B6 := Lib.hid (below_then B5.out hb6)
        obtain ⟨c0_6, c1_6, c2_6, c3_6, c4_6, c5_6, fz6⟩ := X5.out.below hb6
        have hlt6 : W2.heap.size < w6.heap.size := World.block_lt_of_cell? w6 _ c0_6
        clear hb6 fz6
        go_wp2
        go_ret
        exact ⟨rfl, B6.out.alloc B6.out.size _⟩
    · have b1 : (s == 101) = true := by rw [beq_iff_eq]; exact h101
      have b2 : (s != 101) = false := by rw [bne_eq_false_iff_eq]; exact h101
      simp only [frVal] at RH RM
      clear h101
      rcases hq with q1 | ⟨q1, q2⟩ | ⟨q1, q2, q3, q4⟩
      all_goals
        go_enter Tryd.func6, Tryd.ntmps6
        go_wp2_with fail
        refine AN.out.mono ?_
        rintro e w1 ⟨rfl, hb1⟩
        have B1 := Lib.hid (below_then B0.out hb1)
        have X1 := Lib.hid (X0.out.below hb1)
        obtain ⟨c0_1, c1_1, c2_1, c3_1, c4_1, c5_1, fz1⟩ := X1.out
        clear hb1 fz1
        go_wp2_with fail
        refine (CP _ B1.out).out.mono ?_
        rintro e w2 ⟨a2, k2, rfl, hn2, ho2, hb2⟩
        have B2 := Lib.hid (below_then B1.out hb2)
        have X2 := Lib.hid (X1.out.below hb2)
        obtain ⟨c0_2, c1_2, c2_2, c3_2, c4_2, c5_2, fz2⟩ := X2.out
        clear fz2
        have hlt2 : W2.heap.size < w2.heap.size := World.block_lt_of_cell? w2 _ c0_2
        have F2 := Lib.hid (flds_own ho2)
        have M2 := Lib.hid (cell_below B2.out HM.out)
        clear hb2 ho2
        go_wp2_with fail
        refine (RH _ _ _ F2.out M2.out).out.mono ?_
        rintro e w3 ⟨rfl, hb3⟩
        have B3 := Lib.hid (below_then B2.out hb3)
        have X3 := Lib.hid (X2.out.below hb3)
        obtain ⟨c0_3, c1_3, c2_3, c3_3, c4_3, c5_3, fz3⟩ := X3.out
        clear fz3
        have hlt3 : W2.heap.size < w3.heap.size := World.block_lt_of_cell? w3 _ c0_3
        clear hb3
        go_wp2_with fail
        have B4 := Lib.hid (B3.out.alloc B3.out.size (.cells #[.int .i64 5, .int .i64 0] 27))
        refine (CP _ B4.out).out.mono ?_
        rintro e w5 ⟨a5, k5, rfl, hn5, ho5, hb5⟩
        have B5 := Lib.hid (below_then B4.out hb5)
        have F5 := Lib.hid (flds_own ho5)
        have M5 := Lib.hid (cell_below B5.out HM.out)
        have X5 := Lib.hid ((X3.out.alloc (.cells #[.int .i64 5, .int .i64 0] 27)).below hb5)
        clear hb5 ho5
        go_wp2_with fail
        refine (RM _ _ _ F5.out M5.out).out.mono ?_
        rintro e w6 ⟨rfl, hb6⟩
        have B6 := Lib.hid (below_then B5.out hb6)
        obtain ⟨c0_6, c1_6, c2_6, c3_6, c4_6, c5_6, fz6⟩ := X5.out.below hb6
        have hlt6 : W2.heap.size < w6.heap.size := World.block_lt_of_cell? w6 _ c0_6
        clear hb6 fz6
        go_wp2
        go_ret
        exact ⟨rfl, B6.out.alloc B6.out.size _⟩
  · simp only [noBody, Bool.or_eq_true, Bool.and_eq_true, decide_eq_true_eq, not_or] at hnb
    have q1 : (s == 204) = false := by rw [beq_eq_false_iff_ne]; omega
    have q2 : (s == 304) = false := by rw [beq_eq_false_iff_ne]; omega
    have q5 : (s == 101) = false := by rw [beq_eq_false_iff_ne]; omega
    have h101 : s ≠ 101 := by omega
    have b2 : (s != 101) = true := by rw [bne_iff_ne]; exact h101
    obtain rfl : x = (1, 0, 0) := by
      rcases h1 with h | ⟨h, _⟩
      · exact h
      · exact absurd h h101
    simp only [frVal] at RH
    have q6 : s < 100 ∨ (100 ≤ s ∧ 199 < s) := by omega
    clear h1 h2 hnb h101
    rcases q6 with q6 | ⟨q6, q7⟩
    all_goals
      go_enter Tryd.func6, Tryd.ntmps6
      go_wp2_with fail
      refine AN.out.mono ?_
      rintro e w1 ⟨rfl, hb1⟩
      have B1 := Lib.hid (below_then B0.out hb1)
      have X1 := Lib.hid (X0.out.below hb1)
      obtain ⟨c0_1, c1_1, c2_1, c3_1, c4_1, c5_1, fz1⟩ := X1.out
      clear hb1 fz1
      go_wp2_with fail
      refine (CP _ B1.out).out.mono ?_
      rintro e w2 ⟨a2, k2, rfl, hn2, ho2, hb2⟩
      have B2 := Lib.hid (below_then B1.out hb2)
      have X2 := Lib.hid (X1.out.below hb2)
      obtain ⟨c0_2, c1_2, c2_2, c3_2, c4_2, c5_2, fz2⟩ := X2.out
      clear fz2
      have hlt2 : W2.heap.size < w2.heap.size := World.block_lt_of_cell? w2 _ c0_2
      have F2 := Lib.hid (flds_own ho2)
      have M2 := Lib.hid (cell_below B2.out HM.out)
      clear hb2 ho2
      go_wp2_with fail
      refine (RH _ _ _ F2.out M2.out).out.mono ?_
      rintro e w3 ⟨rfl, hb3⟩
      have B3 := Lib.hid (below_then B2.out hb3)
      have X3 := Lib.hid (X2.out.below hb3)
      obtain ⟨c0_3, c1_3, c2_3, c3_3, c4_3, c5_3, fz3⟩ := X3.out
      clear fz3
      have hlt3 : W2.heap.size < w3.heap.size := World.block_lt_of_cell? w3 _ c0_3
      clear hb3
      go_wp2
      go_ret
      exact ⟨rfl, B3.out.alloc B3.out.size _⟩
end Go.Proofs.YtbjcbdgkgbjaiaaDoor
