/- The contracts of the document's Response and Keep over every head. -/
import Derived.Test.YtbjcbdgkgbjaiaaDoorFrmG
set_option linter.unusedVariables false
set_option linter.unusedSimpArgs false
namespace Go.Proofs.YtbjcbdgkgbjaiaaDoor
open Go.RowKit Lex

set_option maxRecDepth 100000 in
set_option maxHeartbeats 4000000 in
theorem rkeep_c (m t : ByteArray) (s : Int) (r : ByteArray) (mi : Int) (A : Option Addr) (cap : Nat) (fs : List Fd) (w : World) (hB : FB fs) (hF : Flds w A fs) :
    Calls Tryd.prog 18 #[hv m t s r mi A fs.length cap] w fun e w' => e = .returned (.bool (keepF mi fs)) ∧ Below w.heap.size w w' := by
  have H1 := fun w h => Lib.hid (rhasf_c A cap fs ⟨#[99, 111, 110, 110, 101, 99, 116, 105, 111, 110]⟩ ⟨#[99, 108, 111, 115, 101]⟩ w (by decide) (by decide) hB h)
  rw [show hasF fs (ByteArray.mk #[99, 111, 110, 110, 101, 99, 116, 105, 111, 110]).data.toList (ByteArray.mk #[99, 108, 111, 115, 101]).data.toList = hasF fs conn closeL from by unfold hasF; rw [elementsF_lowN (show lower (ByteArray.mk #[99, 111, 110, 110, 101, 99, 116, 105, 111, 110]).data.toList = lower conn from by decide +kernel)]; rfl] at H1
  have H2 := fun w h => Lib.hid (rhasf_c A cap fs ⟨#[99, 111, 110, 110, 101, 99, 116, 105, 111, 110]⟩ ⟨#[107, 101, 101, 112, 45, 97, 108, 105, 118, 101]⟩ w (by decide) (by decide) hB h)
  rw [show hasF fs (ByteArray.mk #[99, 111, 110, 110, 101, 99, 116, 105, 111, 110]).data.toList (ByteArray.mk #[107, 101, 101, 112, 45, 97, 108, 105, 118, 101]).data.toList = hasF fs conn keepL from by unfold hasF; rw [elementsF_lowN (show lower (ByteArray.mk #[99, 111, 110, 110, 101, 99, 116, 105, 111, 110]).data.toList = lower conn from by decide +kernel)]; rfl] at H2
  have HF := Lib.hid hF
  clear hB hF
  generalize hk : keepF mi fs = out
  unfold keepF at hk
  unfold hv
  cases hc : hasF fs conn closeL with
  | true =>
    rw [hc] at H1 hk
    have HV := Lib.hid hk
    clear hc hk
    have W0 : Below w.heap.size w (w.alloc (.cells #[.string m, .string t, .int .i64 s, .string r, .int .i64 mi, .slice A fs.length cap] 24)) := (Below.refl _ w).alloc (Nat.le_refl _) _
    have B0 := Lib.hid W0
    have X0 := Lib.hid (box6_new w (.string m) (.string t) (.int .i64 s) (.string r) (.int .i64 mi) (.slice A fs.length cap) 24)
    have F0 := Lib.hid (HF.out.below B0.out)
    clear W0
    go_enter Tryd.func18, Tryd.ntmps18
    go_wp2_with fail
    refine (H1 _ F0.out).out.mono ?_
    rintro e w1 ⟨rfl, hb1⟩
    have B1 := Lib.hid (below_then B0.out hb1)
    have X1 := Lib.hid (X0.out.below hb1)
    have F1 := Lib.hid (F0.out.below hb1)
    obtain ⟨c0_1, c1_1, c2_1, c3_1, c4_1, c5_1, fz1⟩ := X1.out
    clear fz1 hb1
    go_wp2
    go_ret
    exact ⟨ret_bool (by rw [← HV.out]; rfl), B1.out⟩
  | false =>
    rw [hc] at H1 hk
    by_cases h0 : mi = 0
    · have b0 : (mi != 0) = false := by rw [h0]; rfl
      rw [decide_eq_false (not_not_intro h0)] at hk
      generalize hasF fs conn keepL = kb at *
      have HV := Lib.hid hk
      clear hc hk h0
      have W0 : Below w.heap.size w (w.alloc (.cells #[.string m, .string t, .int .i64 s, .string r, .int .i64 mi, .slice A fs.length cap] 24)) := (Below.refl _ w).alloc (Nat.le_refl _) _
      have B0 := Lib.hid W0
      have X0 := Lib.hid (box6_new w (.string m) (.string t) (.int .i64 s) (.string r) (.int .i64 mi) (.slice A fs.length cap) 24)
      have F0 := Lib.hid (HF.out.below B0.out)
      clear W0
      go_enter Tryd.func18, Tryd.ntmps18
      go_wp2_with fail
      refine (H1 _ F0.out).out.mono ?_
      rintro e w1 ⟨rfl, hb1⟩
      have B1 := Lib.hid (below_then B0.out hb1)
      have X1 := Lib.hid (X0.out.below hb1)
      have F1 := Lib.hid (F0.out.below hb1)
      obtain ⟨c0_1, c1_1, c2_1, c3_1, c4_1, c5_1, fz1⟩ := X1.out
      clear fz1 hb1
      go_wp2_with fail
      refine (H2 _ F1.out).out.mono ?_
      rintro e w2 ⟨rfl, hb2⟩
      have B2 := Lib.hid (below_then B1.out hb2)
      have X2 := Lib.hid (X1.out.below hb2)
      have F2 := Lib.hid (F1.out.below hb2)
      obtain ⟨c0_2, c1_2, c2_2, c3_2, c4_2, c5_2, fz2⟩ := X2.out
      clear fz2 hb2
      go_wp2
      go_ret
      exact ⟨ret_bool (by rw [← HV.out]; rfl), B2.out⟩
    · have b0 : (mi != 0) = true := by rw [bne_iff_ne]; exact h0
      rw [decide_eq_true h0] at hk
      have HV := Lib.hid hk
      clear hc hk h0
      have W0 : Below w.heap.size w (w.alloc (.cells #[.string m, .string t, .int .i64 s, .string r, .int .i64 mi, .slice A fs.length cap] 24)) := (Below.refl _ w).alloc (Nat.le_refl _) _
      have B0 := Lib.hid W0
      have X0 := Lib.hid (box6_new w (.string m) (.string t) (.int .i64 s) (.string r) (.int .i64 mi) (.slice A fs.length cap) 24)
      have F0 := Lib.hid (HF.out.below B0.out)
      clear W0
      go_enter Tryd.func18, Tryd.ntmps18
      go_wp2_with fail
      refine (H1 _ F0.out).out.mono ?_
      rintro e w1 ⟨rfl, hb1⟩
      have B1 := Lib.hid (below_then B0.out hb1)
      have X1 := Lib.hid (X0.out.below hb1)
      have F1 := Lib.hid (F0.out.below hb1)
      obtain ⟨c0_1, c1_1, c2_1, c3_1, c4_1, c5_1, fz1⟩ := X1.out
      clear fz1 hb1
      go_wp2
      go_ret
      exact ⟨ret_bool (by rw [← HV.out]; rfl), B1.out⟩

set_option maxRecDepth 100000 in
set_option maxHeartbeats 4000000 in
theorem rresponse_tunnel (me : ByteArray) (m t : ByteArray) (s : Int) (r : ByteArray) (mi : Int) (A : Option Addr) (cap : Nat) (fs : List Fd) (w : World) (hB : FB fs) (hF : Flds w A fs)
    (hs : s = 101 ∨ (200 ≤ s ∧ s ≤ 299 ∧ s ≠ 204 ∧ me.data.toList = connectM)) :
    Calls Tryd.prog 20 #[.string me, hv m t s r mi A fs.length cap] w fun e w' => e = .returned (fr3 (5, 0, 0)) ∧ Below w.heap.size w w' := by
  unfold hv
  generalize hout : fr3 (5, 0, 0) = out
  have HV := Lib.hid hout
  have HF := Lib.hid hF
  clear hF hB hout
  rcases hs with hs | ⟨h1, h2, h3, h4⟩
  · have g1 : (s == 101) = true := by rw [hs]; rfl
    clear hs
    go_enter Tryd.func20, Tryd.ntmps20
    go_wp2
    go_ret3
    exact ⟨HV.out.symm ▸ rfl, (Below.refl _ w).alloc (Nat.le_refl _) _⟩
  · have g1 : (s == 101) = false := by rw [beq_eq_false_iff_ne]; omega
    have g2 : (s == 204) = false := by rw [beq_eq_false_iff_ne]; exact h3
    have g5 : (s == 304) = false := by rw [beq_eq_false_iff_ne]; omega
    have g6 : s < 300 := by omega
    have g3 : (me.toList == [67, 79, 78, 78, 69, 67, 84]) = true := by rw [Lib.toList_data, h4]; rfl
    have g4 : me.toList = [67, 79, 78, 78, 69, 67, 84] := by rw [Lib.toList_data, h4]; rfl
    clear h3 h4
    go_enter Tryd.func20, Tryd.ntmps20
    go_wp2
    go_ret3
    exact ⟨HV.out.symm ▸ rfl, (Below.refl _ w).alloc (Nat.le_refl _) _⟩

set_option maxRecDepth 100000 in
set_option maxHeartbeats 4000000 in
theorem rresponse_none (me : ByteArray) (m t : ByteArray) (s : Int) (r : ByteArray) (mi : Int) (A : Option Addr) (cap : Nat) (fs : List Fd) (w : World) (hB : FB fs) (hF : Flds w A fs)
    (hs : (100 ≤ s ∧ s ≤ 199 ∧ s ≠ 101) ∨ s = 204 ∨ s = 304 ∨ (me.data.toList = headM ∧ s ≠ 101 ∧ (s < 100 ∨ (200 ≤ s ∧ s ≤ 299 ∧ s ≠ 204) ∨ (299 < s ∧ s ≠ 304)))) :
    Calls Tryd.prog 20 #[.string me, hv m t s r mi A fs.length cap] w fun e w' => e = .returned (fr3 (1, 0, 0)) ∧ Below w.heap.size w w' := by
  unfold hv
  generalize hout : fr3 (1, 0, 0) = out
  have HV := Lib.hid hout
  have HF := Lib.hid hF
  clear hF hB hout
  rcases hs with ⟨h1, h2, h3⟩ | h1 | h1 | ⟨h4, h3, h1⟩
  · have g1 : (s == 101) = false := by rw [beq_eq_false_iff_ne]; exact h3
    have g2 : s < 200 := by omega
    clear h3
    go_enter Tryd.func20, Tryd.ntmps20
    go_wp2
    go_ret3
    exact ⟨HV.out.symm ▸ rfl, (Below.refl _ w).alloc (Nat.le_refl _) _⟩
  · subst h1
    go_enter Tryd.func20, Tryd.ntmps20
    go_wp2
    go_ret3
    exact ⟨HV.out.symm ▸ rfl, (Below.refl _ w).alloc (Nat.le_refl _) _⟩
  · subst h1
    go_enter Tryd.func20, Tryd.ntmps20
    go_wp2
    go_ret3
    exact ⟨HV.out.symm ▸ rfl, (Below.refl _ w).alloc (Nat.le_refl _) _⟩
  · have g1 : (s == 101) = false := by rw [beq_eq_false_iff_ne]; exact h3
    have k1 : (me.toList == [67, 79, 78, 78, 69, 67, 84]) = false := by rw [Lib.toList_data, h4]; rfl
    have k2 : (me.toList == [72, 69, 65, 68]) = true := by rw [Lib.toList_data, h4]; rfl
    have k3 : ¬ me.toList = [67, 79, 78, 78, 69, 67, 84] := by rw [Lib.toList_data, h4]; decide
    have k4 : me.toList = [72, 69, 65, 68] := by rw [Lib.toList_data, h4]; rfl
    have g3 : (s == 204) = false := by rw [beq_eq_false_iff_ne]; omega
    have g4 : (s == 304) = false := by rw [beq_eq_false_iff_ne]; omega
    clear h3 h4
    rcases h1 with h1 | ⟨h1, h2, h3⟩ | ⟨h1, h3⟩
    · have g2 : s < 200 := by omega
      go_enter Tryd.func20, Tryd.ntmps20
      go_wp2
      go_ret3
      exact ⟨HV.out.symm ▸ rfl, (Below.refl _ w).alloc (Nat.le_refl _) _⟩
    · have g5 : 199 < s := by omega
      have g6 : 100 ≤ s := by omega
      have g7 : 200 ≤ s := by omega
      clear h3
      go_enter Tryd.func20, Tryd.ntmps20
      go_wp2
      go_ret3
      exact ⟨HV.out.symm ▸ rfl, (Below.refl _ w).alloc (Nat.le_refl _) _⟩
    · have g2 : 200 ≤ s := by omega
      have g5 : 199 < s := by omega
      have g6 : 100 ≤ s := by omega
      have g7 : 300 ≤ s := by omega
      clear h3
      go_enter Tryd.func20, Tryd.ntmps20
      go_wp2
      go_ret3
      exact ⟨HV.out.symm ▸ rfl, (Below.refl _ w).alloc (Nat.le_refl _) _⟩

set_option maxRecDepth 100000 in
set_option maxHeartbeats 16000000 in
theorem rresponse_body (me : ByteArray) (m t : ByteArray) (s : Int) (r : ByteArray) (mi : Int) (A : Option Addr) (cap : Nat) (fs : List Fd) (w : World) (hB : FB fs) (hF : Flds w A fs)
    (hh : me.data.toList ≠ headM) (hs : s < 100 ∨ (200 ≤ s ∧ s ≤ 299 ∧ s ≠ 204 ∧ me.data.toList ≠ connectM) ∨ (299 < s ∧ s ≠ 304)) (out : Value)
    (hout : fr3 (if codedF fs = true then (if mi = 0 ∨ sizedF fs = true then ((0, 0, 90) : Int × Int × Int) else if codeF fs = 1 then (3, 0, 0) else (0, 0, 91))
      else if sizedF fs = false then (4, 0, 0)
      else match lengthF fs with
        | some (some n) => (2, n, 0)
        | _ => (0, 0, 90)) = out) :
    Calls Tryd.prog 20 #[.string me, hv m t s r mi A fs.length cap] w fun e w' => e = .returned out ∧ Below w.heap.size w w' := by
  have H1 := fun w h => Lib.hid (rhas_c m t s r mi A cap fs ⟨#[99, 111, 110, 116, 101, 110, 116, 45, 108, 101, 110, 103, 116, 104]⟩ w (by decide) hB h)
  rw [show (ByteArray.mk #[99, 111, 110, 116, 101, 110, 116, 45, 108, 101, 110, 103, 116, 104]).data.toList = clenL from rfl, show decide (0 < (getF fs clenL).2) = sizedF fs from rfl] at H1
  have H2 := fun w h => Lib.hid (rhas_c m t s r mi A cap fs ⟨#[116, 114, 97, 110, 115, 102, 101, 114, 45, 101, 110, 99, 111, 100, 105, 110, 103]⟩ w (by decide) hB h)
  rw [show (ByteArray.mk #[116, 114, 97, 110, 115, 102, 101, 114, 45, 101, 110, 99, 111, 100, 105, 110, 103]).data.toList = tencL from rfl, show decide (0 < (getF fs tencL).2) = codedF fs from rfl] at H2
  have C := fun w h => Lib.hid (rcoding_c m t s r mi A cap fs w hB h)
  have L := fun w h => Lib.hid (rlength_c m t s r mi A cap fs w hB h)
  unfold hv at H1 H2 C L ⊢
  have HF := Lib.hid hF
  have hcc := codeL_cases (elementsF fs tencL)
  rw [show codeL (elementsF fs tencL) = codeF fs from rfl] at hcc
  have hls := length_sized (fs := fs)
  have hlb := fun n => length_bound (fs := fs) (n := n)
  clear hF hB
  generalize codeF fs = c at *
  generalize lengthF fs = lf at *
  generalize sizedF fs = sz at *
  have k2 : (me.toList == [72, 69, 65, 68]) = false := by rw [Lib.toList_data, beq_eq_false_iff_ne]; exact hh
  have k4 : ¬ me.toList = [72, 69, 65, 68] := by rw [Lib.toList_data]; exact hh
  have hr : (s < 100 ∧ s < 200 ∧ (s == 101) = false ∧ (s == 204) = false ∧ (s == 304) = false ∧ (me.toList == [67, 79, 78, 78, 69, 67, 84]) = false) ∨
      (s < 100 ∧ s < 200 ∧ (s == 101) = false ∧ (s == 204) = false ∧ (s == 304) = false ∧ (me.toList == [67, 79, 78, 78, 69, 67, 84]) = true) ∨
      (200 ≤ s ∧ 199 < s ∧ 100 ≤ s ∧ (s == 101) = false ∧ (s == 204) = false ∧ (s == 304) = false ∧ (me.toList == [67, 79, 78, 78, 69, 67, 84]) = false) ∨
      (300 ≤ s ∧ 200 ≤ s ∧ 100 ≤ s ∧ (s == 101) = false ∧ (s == 204) = false ∧ (s == 304) = false ∧ (me.toList == [67, 79, 78, 78, 69, 67, 84]) = false) ∨
      (300 ≤ s ∧ 200 ≤ s ∧ 100 ≤ s ∧ (s == 101) = false ∧ (s == 204) = false ∧ (s == 304) = false ∧ (me.toList == [67, 79, 78, 78, 69, 67, 84]) = true) := by
    simp only [beq_eq_false_iff_ne, beq_iff_eq, bne_iff_ne, Lib.toList_data]
    by_cases hC : me.data.toList = [67, 79, 78, 78, 69, 67, 84]
    · rcases hs with h | ⟨h1, h2, h3, h4⟩ | ⟨h1, h2⟩
      · exact .inr (.inl ⟨h, by omega, by omega, by omega, by omega, hC⟩)
      · exact absurd hC h4
      · exact .inr (.inr (.inr (.inr ⟨by omega, by omega, by omega, by omega, by omega, h2, hC⟩)))
    · rcases hs with h | ⟨h1, h2, h3, h4⟩ | ⟨h1, h2⟩
      · exact .inl ⟨h, by omega, by omega, by omega, by omega, hC⟩
      · exact .inr (.inr (.inl ⟨h1, by omega, by omega, by omega, h3, by omega, hC⟩))
      · exact .inr (.inr (.inr (.inl ⟨by omega, by omega, by omega, by omega, by omega, h2, hC⟩)))
  clear hh hs
  cases hcd : codedF fs with
  | true =>
    rw [hcd] at H2 hout
    rw [if_pos rfl] at hout
    clear hcd L hls hlb
    by_cases h0 : mi = 0
    · have b0 : (mi == 0) = true := by rw [h0]; rfl
      have HV := Lib.hid (show fr3 (0, 0, 90) = out by rw [← hout, if_pos (.inl h0)])
      clear hout h0
      rcases hr with ⟨h1, g0, g1, g3, g4, k1⟩ | ⟨h1, g0, g1, g3, g4, k1⟩ | ⟨h1, h5, h6, g1, g3, g4, k1⟩ | ⟨h1, h5, h6, g1, g3, g4, k1⟩ | ⟨h1, h5, h6, g1, g3, g4, k1⟩
      all_goals
        have W0 : Below w.heap.size w (w.alloc (.cells #[.string m, .string t, .int .i64 s, .string r, .int .i64 mi, .slice A fs.length cap] 24)) := (Below.refl _ w).alloc (Nat.le_refl _) _
        have B0 := Lib.hid W0
        have X0 := Lib.hid (box6_new w (.string m) (.string t) (.int .i64 s) (.string r) (.int .i64 mi) (.slice A fs.length cap) 24)
        have F0 := Lib.hid (HF.out.below B0.out)
        clear W0
        go_enter Tryd.func20, Tryd.ntmps20
        go_wp2_with fail
        refine (H1 _ F0.out).out.mono ?_
        rintro e w1 ⟨rfl, hb1⟩
        have B1 := Lib.hid (below_then B0.out hb1)
        have X1 := Lib.hid (X0.out.below hb1)
        have F1 := Lib.hid (F0.out.below hb1)
        obtain ⟨c0_1, c1_1, c2_1, c3_1, c4_1, c5_1, fz1⟩ := X1.out
        clear fz1 hb1
        go_wp2_with fail
        refine (H2 _ F1.out).out.mono ?_
        rintro e w2 ⟨rfl, hb2⟩
        have B2 := Lib.hid (below_then B1.out hb2)
        have X2 := Lib.hid (X1.out.below hb2)
        have F2 := Lib.hid (F1.out.below hb2)
        obtain ⟨c0_2, c1_2, c2_2, c3_2, c4_2, c5_2, fz2⟩ := X2.out
        clear fz2 hb2
        go_wp2
        go_ret3
        exact ⟨HV.out.symm ▸ rfl, B2.out⟩
    · have b0 : (mi == 0) = false := by rw [beq_eq_false_iff_ne]; exact h0
      cases sz with
      | true =>
        have HV := Lib.hid (show fr3 (0, 0, 90) = out by rw [← hout, if_pos (.inr rfl)])
        clear hout h0
        rcases hr with ⟨h1, g0, g1, g3, g4, k1⟩ | ⟨h1, g0, g1, g3, g4, k1⟩ | ⟨h1, h5, h6, g1, g3, g4, k1⟩ | ⟨h1, h5, h6, g1, g3, g4, k1⟩ | ⟨h1, h5, h6, g1, g3, g4, k1⟩
        all_goals
          have W0 : Below w.heap.size w (w.alloc (.cells #[.string m, .string t, .int .i64 s, .string r, .int .i64 mi, .slice A fs.length cap] 24)) := (Below.refl _ w).alloc (Nat.le_refl _) _
          have B0 := Lib.hid W0
          have X0 := Lib.hid (box6_new w (.string m) (.string t) (.int .i64 s) (.string r) (.int .i64 mi) (.slice A fs.length cap) 24)
          have F0 := Lib.hid (HF.out.below B0.out)
          clear W0
          go_enter Tryd.func20, Tryd.ntmps20
          go_wp2_with fail
          refine (H1 _ F0.out).out.mono ?_
          rintro e w1 ⟨rfl, hb1⟩
          have B1 := Lib.hid (below_then B0.out hb1)
          have X1 := Lib.hid (X0.out.below hb1)
          have F1 := Lib.hid (F0.out.below hb1)
          obtain ⟨c0_1, c1_1, c2_1, c3_1, c4_1, c5_1, fz1⟩ := X1.out
          clear fz1 hb1
          go_wp2_with fail
          refine (H2 _ F1.out).out.mono ?_
          rintro e w2 ⟨rfl, hb2⟩
          have B2 := Lib.hid (below_then B1.out hb2)
          have X2 := Lib.hid (X1.out.below hb2)
          have F2 := Lib.hid (F1.out.below hb2)
          obtain ⟨c0_2, c1_2, c2_2, c3_2, c4_2, c5_2, fz2⟩ := X2.out
          clear fz2 hb2
          go_wp2
          go_ret3
          exact ⟨HV.out.symm ▸ rfl, B2.out⟩
      | false =>
        by_cases hc1 : c = 1
        · subst hc1
          have HV := Lib.hid (show fr3 (3, 0, 0) = out by rw [← hout, if_neg (by simp [h0]), if_pos rfl])
          clear hout h0
          rcases hr with ⟨h1, g0, g1, g3, g4, k1⟩ | ⟨h1, g0, g1, g3, g4, k1⟩ | ⟨h1, h5, h6, g1, g3, g4, k1⟩ | ⟨h1, h5, h6, g1, g3, g4, k1⟩ | ⟨h1, h5, h6, g1, g3, g4, k1⟩
          all_goals
            have W0 : Below w.heap.size w (w.alloc (.cells #[.string m, .string t, .int .i64 s, .string r, .int .i64 mi, .slice A fs.length cap] 24)) := (Below.refl _ w).alloc (Nat.le_refl _) _
            have B0 := Lib.hid W0
            have X0 := Lib.hid (box6_new w (.string m) (.string t) (.int .i64 s) (.string r) (.int .i64 mi) (.slice A fs.length cap) 24)
            have F0 := Lib.hid (HF.out.below B0.out)
            clear W0
            go_enter Tryd.func20, Tryd.ntmps20
            go_wp2_with fail
            refine (H1 _ F0.out).out.mono ?_
            rintro e w1 ⟨rfl, hb1⟩
            have B1 := Lib.hid (below_then B0.out hb1)
            have X1 := Lib.hid (X0.out.below hb1)
            have F1 := Lib.hid (F0.out.below hb1)
            obtain ⟨c0_1, c1_1, c2_1, c3_1, c4_1, c5_1, fz1⟩ := X1.out
            clear fz1 hb1
            go_wp2_with fail
            refine (H2 _ F1.out).out.mono ?_
            rintro e w2 ⟨rfl, hb2⟩
            have B2 := Lib.hid (below_then B1.out hb2)
            have X2 := Lib.hid (X1.out.below hb2)
            have F2 := Lib.hid (F1.out.below hb2)
            obtain ⟨c0_2, c1_2, c2_2, c3_2, c4_2, c5_2, fz2⟩ := X2.out
            clear fz2 hb2
            go_wp2_with fail
            refine (C _ F2.out).out.mono ?_
            rintro e w3 ⟨rfl, hb3⟩
            have B3 := Lib.hid (below_then B2.out hb3)
            have X3 := Lib.hid (X2.out.below hb3)
            have F3 := Lib.hid (F2.out.below hb3)
            obtain ⟨c0_3, c1_3, c2_3, c3_3, c4_3, c5_3, fz3⟩ := X3.out
            clear fz3 hb3
            go_wp2
            go_ret3
            exact ⟨HV.out.symm ▸ rfl, B3.out⟩
        · have HV := Lib.hid (show fr3 (0, 0, 91) = out by rw [← hout, if_neg (by simp [h0]), if_neg hc1])
          have bc : (c != 1) = true := by rw [bne_iff_ne]; exact hc1
          clear hout h0 hc1 hcc
          rcases hr with ⟨h1, g0, g1, g3, g4, k1⟩ | ⟨h1, g0, g1, g3, g4, k1⟩ | ⟨h1, h5, h6, g1, g3, g4, k1⟩ | ⟨h1, h5, h6, g1, g3, g4, k1⟩ | ⟨h1, h5, h6, g1, g3, g4, k1⟩
          all_goals
            have W0 : Below w.heap.size w (w.alloc (.cells #[.string m, .string t, .int .i64 s, .string r, .int .i64 mi, .slice A fs.length cap] 24)) := (Below.refl _ w).alloc (Nat.le_refl _) _
            have B0 := Lib.hid W0
            have X0 := Lib.hid (box6_new w (.string m) (.string t) (.int .i64 s) (.string r) (.int .i64 mi) (.slice A fs.length cap) 24)
            have F0 := Lib.hid (HF.out.below B0.out)
            clear W0
            go_enter Tryd.func20, Tryd.ntmps20
            go_wp2_with fail
            refine (H1 _ F0.out).out.mono ?_
            rintro e w1 ⟨rfl, hb1⟩
            have B1 := Lib.hid (below_then B0.out hb1)
            have X1 := Lib.hid (X0.out.below hb1)
            have F1 := Lib.hid (F0.out.below hb1)
            obtain ⟨c0_1, c1_1, c2_1, c3_1, c4_1, c5_1, fz1⟩ := X1.out
            clear fz1 hb1
            go_wp2_with fail
            refine (H2 _ F1.out).out.mono ?_
            rintro e w2 ⟨rfl, hb2⟩
            have B2 := Lib.hid (below_then B1.out hb2)
            have X2 := Lib.hid (X1.out.below hb2)
            have F2 := Lib.hid (F1.out.below hb2)
            obtain ⟨c0_2, c1_2, c2_2, c3_2, c4_2, c5_2, fz2⟩ := X2.out
            clear fz2 hb2
            go_wp2_with fail
            refine (C _ F2.out).out.mono ?_
            rintro e w3 ⟨rfl, hb3⟩
            have B3 := Lib.hid (below_then B2.out hb3)
            have X3 := Lib.hid (X2.out.below hb3)
            have F3 := Lib.hid (F2.out.below hb3)
            obtain ⟨c0_3, c1_3, c2_3, c3_3, c4_3, c5_3, fz3⟩ := X3.out
            clear fz3 hb3
            go_wp2
            go_ret3
            exact ⟨HV.out.symm ▸ rfl, B3.out⟩
  | false =>
    rw [hcd] at H2 hout
    rw [if_neg (by simp)] at hout
    clear hcd C hcc
    cases sz with
    | false =>
      have HV := Lib.hid (show fr3 (4, 0, 0) = out by rw [← hout, if_pos rfl])
      clear hout L hls hlb
      rcases hr with ⟨h1, g0, g1, g3, g4, k1⟩ | ⟨h1, g0, g1, g3, g4, k1⟩ | ⟨h1, h5, h6, g1, g3, g4, k1⟩ | ⟨h1, h5, h6, g1, g3, g4, k1⟩ | ⟨h1, h5, h6, g1, g3, g4, k1⟩
      all_goals
        have W0 : Below w.heap.size w (w.alloc (.cells #[.string m, .string t, .int .i64 s, .string r, .int .i64 mi, .slice A fs.length cap] 24)) := (Below.refl _ w).alloc (Nat.le_refl _) _
        have B0 := Lib.hid W0
        have X0 := Lib.hid (box6_new w (.string m) (.string t) (.int .i64 s) (.string r) (.int .i64 mi) (.slice A fs.length cap) 24)
        have F0 := Lib.hid (HF.out.below B0.out)
        clear W0
        go_enter Tryd.func20, Tryd.ntmps20
        go_wp2_with fail
        refine (H1 _ F0.out).out.mono ?_
        rintro e w1 ⟨rfl, hb1⟩
        have B1 := Lib.hid (below_then B0.out hb1)
        have X1 := Lib.hid (X0.out.below hb1)
        have F1 := Lib.hid (F0.out.below hb1)
        obtain ⟨c0_1, c1_1, c2_1, c3_1, c4_1, c5_1, fz1⟩ := X1.out
        clear fz1 hb1
        go_wp2_with fail
        refine (H2 _ F1.out).out.mono ?_
        rintro e w2 ⟨rfl, hb2⟩
        have B2 := Lib.hid (below_then B1.out hb2)
        have X2 := Lib.hid (X1.out.below hb2)
        have F2 := Lib.hid (F1.out.below hb2)
        obtain ⟨c0_2, c1_2, c2_2, c3_2, c4_2, c5_2, fz2⟩ := X2.out
        clear fz2 hb2
        go_wp2
        go_ret3
        exact ⟨HV.out.symm ▸ rfl, B2.out⟩
    | true =>
      rw [if_neg (by simp)] at hout
      cases lf with
      | none =>
        simp only [rlenVal] at L
        have HV := Lib.hid (show fr3 (0, 0, 90) = out by rw [← hout])
        clear hout hls hlb
        rcases hr with ⟨h1, g0, g1, g3, g4, k1⟩ | ⟨h1, g0, g1, g3, g4, k1⟩ | ⟨h1, h5, h6, g1, g3, g4, k1⟩ | ⟨h1, h5, h6, g1, g3, g4, k1⟩ | ⟨h1, h5, h6, g1, g3, g4, k1⟩
        all_goals
          have W0 : Below w.heap.size w (w.alloc (.cells #[.string m, .string t, .int .i64 s, .string r, .int .i64 mi, .slice A fs.length cap] 24)) := (Below.refl _ w).alloc (Nat.le_refl _) _
          have B0 := Lib.hid W0
          have X0 := Lib.hid (box6_new w (.string m) (.string t) (.int .i64 s) (.string r) (.int .i64 mi) (.slice A fs.length cap) 24)
          have F0 := Lib.hid (HF.out.below B0.out)
          clear W0
          go_enter Tryd.func20, Tryd.ntmps20
          go_wp2_with fail
          refine (H1 _ F0.out).out.mono ?_
          rintro e w1 ⟨rfl, hb1⟩
          have B1 := Lib.hid (below_then B0.out hb1)
          have X1 := Lib.hid (X0.out.below hb1)
          have F1 := Lib.hid (F0.out.below hb1)
          obtain ⟨c0_1, c1_1, c2_1, c3_1, c4_1, c5_1, fz1⟩ := X1.out
          clear fz1 hb1
          go_wp2_with fail
          refine (H2 _ F1.out).out.mono ?_
          rintro e w2 ⟨rfl, hb2⟩
          have B2 := Lib.hid (below_then B1.out hb2)
          have X2 := Lib.hid (X1.out.below hb2)
          have F2 := Lib.hid (F1.out.below hb2)
          obtain ⟨c0_2, c1_2, c2_2, c3_2, c4_2, c5_2, fz2⟩ := X2.out
          clear fz2 hb2
          go_wp2_with fail
          refine (L _ F2.out).out.mono ?_
          rintro e w3 ⟨rfl, hb3⟩
          have B3 := Lib.hid (below_then B2.out hb3)
          have X3 := Lib.hid (X2.out.below hb3)
          have F3 := Lib.hid (F2.out.below hb3)
          obtain ⟨c0_3, c1_3, c2_3, c3_3, c4_3, c5_3, fz3⟩ := X3.out
          clear fz3 hb3
          go_wp2
          go_ret3
          exact ⟨HV.out.symm ▸ rfl, B3.out⟩
      | some x =>
        cases x with
        | none => exact absurd rfl (hls rfl)
        | some n =>
          simp only [rlenVal] at L
          simp only at hout
          have hn0 := (hlb n rfl).1
          have HV := Lib.hid (show fr3 (2, n, 0) = out by rw [← hout])
          clear hout hls hlb
          rcases hr with ⟨h1, g0, g1, g3, g4, k1⟩ | ⟨h1, g0, g1, g3, g4, k1⟩ | ⟨h1, h5, h6, g1, g3, g4, k1⟩ | ⟨h1, h5, h6, g1, g3, g4, k1⟩ | ⟨h1, h5, h6, g1, g3, g4, k1⟩
          all_goals
            have W0 : Below w.heap.size w (w.alloc (.cells #[.string m, .string t, .int .i64 s, .string r, .int .i64 mi, .slice A fs.length cap] 24)) := (Below.refl _ w).alloc (Nat.le_refl _) _
            have B0 := Lib.hid W0
            have X0 := Lib.hid (box6_new w (.string m) (.string t) (.int .i64 s) (.string r) (.int .i64 mi) (.slice A fs.length cap) 24)
            have F0 := Lib.hid (HF.out.below B0.out)
            clear W0
            go_enter Tryd.func20, Tryd.ntmps20
            go_wp2_with fail
            refine (H1 _ F0.out).out.mono ?_
            rintro e w1 ⟨rfl, hb1⟩
            have B1 := Lib.hid (below_then B0.out hb1)
            have X1 := Lib.hid (X0.out.below hb1)
            have F1 := Lib.hid (F0.out.below hb1)
            obtain ⟨c0_1, c1_1, c2_1, c3_1, c4_1, c5_1, fz1⟩ := X1.out
            clear fz1 hb1
            go_wp2_with fail
            refine (H2 _ F1.out).out.mono ?_
            rintro e w2 ⟨rfl, hb2⟩
            have B2 := Lib.hid (below_then B1.out hb2)
            have X2 := Lib.hid (X1.out.below hb2)
            have F2 := Lib.hid (F1.out.below hb2)
            obtain ⟨c0_2, c1_2, c2_2, c3_2, c4_2, c5_2, fz2⟩ := X2.out
            clear fz2 hb2
            go_wp2_with fail
            refine (L _ F2.out).out.mono ?_
            rintro e w3 ⟨rfl, hb3⟩
            have B3 := Lib.hid (below_then B2.out hb3)
            have X3 := Lib.hid (X2.out.below hb3)
            have F3 := Lib.hid (F2.out.below hb3)
            obtain ⟨c0_3, c1_3, c2_3, c3_3, c4_3, c5_3, fz3⟩ := X3.out
            clear fz3 hb3
            go_wp2
            go_ret3
            exact ⟨HV.out.symm ▸ rfl, B3.out⟩

theorem rresponse_c (me : ByteArray) (m t : ByteArray) (s : Int) (r : ByteArray) (mi : Int) (A : Option Addr) (cap : Nat) (fs : List Fd) (w : World) (hB : FB fs) (hF : Flds w A fs) :
    Calls Tryd.prog 20 #[.string me, hv m t s r mi A fs.length cap] w fun e w' => e = .returned (fr3 (respF me.data.toList s mi fs)) ∧ Below w.heap.size w w' := by
  by_cases h1 : s = 101
  · rw [show respF me.data.toList s mi fs = (5, 0, 0) from by unfold respF; rw [if_pos h1]]
    exact rresponse_tunnel me m t s r mi A cap fs w hB hF (.inl h1)
  · by_cases h2 : noBody s = true
    · rw [show respF me.data.toList s mi fs = (1, 0, 0) from by unfold respF; rw [if_neg h1, if_pos h2]]
      refine rresponse_none me m t s r mi A cap fs w hB hF ?_
      simp only [noBody, Bool.or_eq_true, Bool.and_eq_true, decide_eq_true_eq] at h2
      rcases h2 with (h2 | h2) | h2
      · exact .inl ⟨h2.1, h2.2, h1⟩
      · exact .inr (.inl h2)
      · exact .inr (.inr (.inl h2))
    · have h3 := h2
      simp only [noBody, Bool.or_eq_true, Bool.and_eq_true, decide_eq_true_eq, not_or] at h3
      have hr : s < 100 ∨ (200 ≤ s ∧ s ≤ 299 ∧ s ≠ 204) ∨ (299 < s ∧ s ≠ 304) := by omega
      by_cases h4 : me.data.toList = connectM ∧ 200 ≤ s ∧ s ≤ 299
      · rw [show respF me.data.toList s mi fs = (5, 0, 0) from by unfold respF; rw [if_neg h1, if_neg h2, if_pos h4]]
        exact rresponse_tunnel me m t s r mi A cap fs w hB hF (.inr ⟨h4.2.1, h4.2.2, by omega, h4.1⟩)
      · by_cases h5 : me.data.toList = headM
        · rw [show respF me.data.toList s mi fs = (1, 0, 0) from by unfold respF; rw [if_neg h1, if_neg h2, if_neg h4, if_pos h5]]
          exact rresponse_none me m t s r mi A cap fs w hB hF (.inr (.inr (.inr ⟨h5, h1, hr⟩)))
        · refine rresponse_body me m t s r mi A cap fs w hB hF h5 ?_ _ ?_
          · rcases hr with h | ⟨ha, hb, hc⟩ | h
            · exact .inl h
            · exact .inr (.inl ⟨ha, hb, hc, fun e => h4 ⟨e, ha, hb⟩⟩)
            · exact .inr (.inr h)
          · unfold respF; rw [if_neg h1, if_neg h2, if_neg h4, if_neg h5]
            rfl
end Go.Proofs.YtbjcbdgkgbjaiaaDoor
