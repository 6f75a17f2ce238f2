/- The contracts of the document's own bucket: New, Take, Count and Wait, over plain numbers; for every bucket in its bounds. -/
import Derived.Test.YtmibjlcmphfbgaaBf
set_option linter.unusedVariables false
namespace Go.Proofs.Ytmibjlcmphfbgaa
open Go.RowKit

set_option maxRecDepth 100000 in
theorem rnew_bad (m f e now : Int) (w : World) (h : ¬ good m f e) :
    Calls Try.prog 11 #[.int .i64 m, .int .i64 f, .int .i64 e, .int .i64 now] w fun en w' => en = .returned (.tuple #[.pointer none, .int .i64 30]) ∧ w = w' := by
  have HG := Lib.hid h
  clear h
  go_enter Try.func11, Try.ntmps11
  go_wp2
  all_goals first | (exfalso; have h := HG.out; unfold good at h; omega) | (go_ret2; exact ⟨rfl, rfl⟩)

set_option maxRecDepth 100000 in
theorem rnew_late (m f e now : Int) (w : World) (h : good m f e) (hn : ¬ (0 ≤ now ∧ now ≤ 1099511627776)) :
    Calls Try.prog 11 #[.int .i64 m, .int .i64 f, .int .i64 e, .int .i64 now] w fun en w' => en = .returned (.tuple #[.pointer none, .int .i64 20]) ∧ w = w' := by
  obtain ⟨⟨m1, m2⟩, ⟨f1, f2⟩, e1, e2⟩ := h
  have HG := Lib.hid hn
  clear hn
  go_enter Try.func11, Try.ntmps11
  go_wp2
  all_goals first | (exfalso; have h := HG.out; omega) | (go_ret2; exact ⟨rfl, rfl⟩)

theorem rmade_alloc (x : S) (w : World) : Made x w (w.alloc (.cells #[.int .i64 x.m, .int .i64 x.f, .int .i64 x.e, .int .i64 x.t, .int .i64 x.fl, .int .i64 x.s] 54)) :=
  ⟨⟨by simp, by simp, by simp, by simp, by simp, by simp, by simp, by simp, by simp, by simp, by simp, by simp⟩, by simp, (Below.refl _ _).alloc (Nat.le_refl _) _⟩

set_option maxRecDepth 100000 in
theorem rnew_good (m f e now : Int) (w : World) (h : good m f e) (hn : 0 ≤ now ∧ now ≤ 1099511627776) :
    Calls Try.prog 11 #[.int .i64 m, .int .i64 f, .int .i64 e, .int .i64 now] w fun en w' => en = .returned (.tuple #[.pointer (some ⟨w.heap.size, 0, none⟩), .int .i64 0]) ∧ Made (S.new m f e now) w w' := by
  obtain ⟨⟨m1, m2⟩, ⟨f1, f2⟩, e1, e2⟩ := h
  obtain ⟨n1, n2⟩ := hn
  go_enter Try.func11, Try.ntmps11
  go_wp2
  go_ret2
  exact ⟨rfl, rmade_alloc (S.new m f e now) _⟩

theorem rtake_no {b : Nat} {x : S} {now n : Int} {w : World} (h : At w b x) (hr : x.rk now = none) :
    Calls Try.prog 12 #[.pointer (some ⟨b, 0, none⟩), .int .i64 now, .int .i64 n] w fun e w' => e = .returned (.tuple #[.bool false, .int .i64 20]) ∧ w = w' := by
  have K := Lib.hid (ref_no b x now w h hr)
  clear h hr
  go_enter Try.func12, Try.ntmps12
  go_wp2_with (go_at_call 19; refine K.out.mono ?_; rintro e w' ⟨rfl, rfl⟩)
  go_ret2
  exact ⟨rfl, rfl⟩

theorem rtake_less {b : Nat} {x y : S} {now n : Int} {w : World} (h : At w b x) (k : x.ok) (hr : x.rk now = some y) (hn : ¬ (1 ≤ n ∧ n ≤ y.t)) :
    Calls Try.prog 12 #[.pointer (some ⟨b, 0, none⟩), .int .i64 now, .int .i64 n] w fun e w' => e = .returned (.tuple #[.bool false, .int .i64 0]) ∧ Put b y w w' := by
  have K := Lib.hid (ref_some b x y now w h k hr)
  clear k h hr
  by_cases h1 : n < 1
  · clear hn
    go_enter Try.func12, Try.ntmps12
    go_wp2_with (go_at_call 19; refine K.out.mono ?_; rintro e w1 ⟨rfl, hp⟩; obtain ⟨c0, c1, c2, c3, c4, c5, f0, f1, f2, f3, f4, f5⟩ := hp.at_)
    go_ret2
    exact ⟨rfl, hp⟩
  · have h2 : y.t < n := by omega
    clear hn
    go_enter Try.func12, Try.ntmps12
    go_wp2_with (go_at_call 19; refine K.out.mono ?_; rintro e w1 ⟨rfl, hp⟩; obtain ⟨c0, c1, c2, c3, c4, c5, f0, f1, f2, f3, f4, f5⟩ := hp.at_)
    go_ret2
    exact ⟨rfl, hp⟩

theorem rtake_yes {b : Nat} {x y : S} {now n : Int} {w : World} (h : At w b x) (k : x.ok) (hr : x.rk now = some y) (hn : 1 ≤ n ∧ n ≤ y.t) :
    Calls Try.prog 12 #[.pointer (some ⟨b, 0, none⟩), .int .i64 now, .int .i64 n] w fun e w' => e = .returned (.tuple #[.bool true, .int .i64 0]) ∧ Put b { y with t := y.t - n } w w' := by
  have o := S.rk_ok k hr
  have K := Lib.hid (ref_some b x y now w h k hr)
  obtain ⟨n1, n2⟩ := hn
  obtain ⟨m1, m2, f1, f2, e1, e2, t0, tm, l0, ls, sb, near⟩ := o
  clear k h hr
  go_enter Try.func12, Try.ntmps12
  go_wp2_with (go_at_call 19; refine K.out.mono ?_; rintro e w1 ⟨rfl, hp⟩; obtain ⟨c0, c1, c2, c3, c4, c5, f0, f1, f2, f3, f4, f5⟩ := hp.at_)
  go_ret2
  exact ⟨rfl, put_trans hp (put_set3 hp.at_ _)⟩

theorem count_no {b : Nat} {x : S} {now : Int} {w : World} (h : At w b x) (hr : x.rk now = none) :
    Calls Try.prog 14 #[.pointer (some ⟨b, 0, none⟩), .int .i64 now] w fun e w' => e = .returned (.tuple #[.int .i64 0, .int .i64 20]) ∧ w = w' := by
  have K := Lib.hid (ref_no b x now w h hr)
  clear h hr
  go_enter Try.func14, Try.ntmps14
  go_wp2_with (go_at_call 19; refine K.out.mono ?_; rintro e w' ⟨rfl, rfl⟩)
  go_ret2
  exact ⟨rfl, rfl⟩

theorem count_yes {b : Nat} {x y : S} {now : Int} {w : World} (h : At w b x) (k : x.ok) (hr : x.rk now = some y) :
    Calls Try.prog 14 #[.pointer (some ⟨b, 0, none⟩), .int .i64 now] w fun e w' => e = .returned (.tuple #[.int .i64 y.t, .int .i64 0]) ∧ Put b y w w' := by
  have K := Lib.hid (ref_some b x y now w h k hr)
  clear k h hr
  go_enter Try.func14, Try.ntmps14
  go_wp2_with (go_at_call 19; refine K.out.mono ?_; rintro e w1 ⟨rfl, hp⟩; obtain ⟨c0, c1, c2, c3, c4, c5, f0, f1, f2, f3, f4, f5⟩ := hp.at_)
  go_ret2
  exact ⟨rfl, hp⟩

theorem rwait_no {b : Nat} {x : S} {now n : Int} {w : World} (h : At w b x) (hr : x.rk now = none) :
    Calls Try.prog 16 #[.pointer (some ⟨b, 0, none⟩), .int .i64 now, .int .i64 n] w fun e w' => e = .returned (.tuple #[.int .i64 0, .int .i64 20]) ∧ w = w' := by
  have K := Lib.hid (ref_no b x now w h hr)
  clear h hr
  go_enter Try.func16, Try.ntmps16
  go_wp2_with (go_at_call 19; refine K.out.mono ?_; rintro e w' ⟨rfl, rfl⟩)
  go_ret2
  exact ⟨rfl, rfl⟩

theorem ceil_of (d f : Int) (hf : 1 ≤ f) (hd : 0 ≤ d) : ((0 < d % f) → (d + f - 1) / f = d / f + 1) ∧ ((¬ 0 < d % f) → (d + f - 1) / f = d / f) := by
  have h1 := Int.emod_nonneg d (show f ≠ 0 by omega)
  have h2 := Int.emod_lt_of_pos d (show 0 < f by omega)
  have h3 := Int.mul_ediv_add_emod d f
  constructor
  · intro h
    have : d + f - 1 = (d % f - 1) + (d / f + 1) * f := by rw [Int.add_mul, Int.one_mul, Int.mul_comm (d / f) f]; omega
    rw [this, Int.add_mul_ediv_right _ _ (by omega), Int.ediv_eq_zero_of_lt (by omega) (by omega)]
    omega
  · intro h
    have : d + f - 1 = (f - 1) + (d / f) * f := by rw [Int.mul_comm (d / f) f]; omega
    rw [this, Int.add_mul_ediv_right _ _ (by omega), Int.ediv_eq_zero_of_lt (by omega) (by omega)]
    omega

set_option maxRecDepth 100000 in
theorem rwait_yes {b : Nat} {x y : S} {now n : Int} {w : World} (h : At w b x) (k : x.ok) (hr : x.rk now = some y) (hy : y.s = now) :
    Calls Try.prog 16 #[.pointer (some ⟨b, 0, none⟩), .int .i64 now, .int .i64 n] w fun e w' => e = .returned (.tuple #[.int .i64 (y.wait now n), .int .i64 0]) ∧ Put b y w w' := by
  have o := S.rk_ok k hr
  have K := Lib.hid (ref_some b x y now w h k hr)
  subst hy
  obtain ⟨m1, m2, f1, f2, e1, e2, t0, tm, l0, ls, sb, near⟩ := o
  clear k h hr
  by_cases h1 : n ≤ y.t
  · rw [show y.wait y.s n = 0 from by unfold S.wait; rw [if_pos h1]]
    go_enter Try.func16, Try.ntmps16
    go_wp2_with (go_at_call 19; refine K.out.mono ?_; rintro e w1 ⟨rfl, hp⟩; obtain ⟨c0, c1, c2, c3, c4, c5, f0, f1, f2, f3, f4, f5⟩ := hp.at_)
    go_ret2
    exact ⟨rfl, hp⟩
  · by_cases h2 : y.m < n
    · rw [show y.wait y.s n = -1 from by unfold S.wait; rw [if_neg h1, if_pos h2]]
      go_enter Try.func16, Try.ntmps16
      go_wp2_with (go_at_call 19; refine K.out.mono ?_; rintro e w1 ⟨rfl, hp⟩; obtain ⟨c0, c1, c2, c3, c4, c5, f0, f1, f2, f3, f4, f5⟩ := hp.at_)
      go_ret2
      exact ⟨rfl, hp⟩
    · have hc := ceil_of (n - y.t) y.f f1 (by omega)
      have q0 : 0 ≤ (n - y.t) / y.f := Int.ediv_nonneg (by omega) (by omega)
      have q1 : (n - y.t) / y.f ≤ n - y.t := Int.ediv_le_self _ (by omega)
      have r0 := Int.emod_nonneg (n - y.t) (show y.f ≠ 0 by omega)
      by_cases hm : 0 < (n - y.t) % y.f
      · have q2 : 0 ≤ ((n - y.t) / y.f + 1) * y.e := Int.mul_nonneg (by omega) (by omega)
        have q3 : ((n - y.t) / y.f + 1) * y.e ≤ 2147483648 * 1073741824 := Int.mul_le_mul (by omega) (by omega) (by omega) (by omega)
        have hw : y.wait y.s n = y.fl - y.s + ((n - y.t) / y.f + 1) * y.e := by unfold S.wait; rw [if_neg h1, if_neg h2, hc.1 hm]; omega
        rw [hw]
        clear hc hw
        go_enter Try.func16, Try.ntmps16
        go_wp2_with (go_at_call 19; refine K.out.mono ?_; rintro e w1 ⟨rfl, hp⟩; obtain ⟨c0, c1, c2, c3, c4, c5, f0, f1, f2, f3, f4, f5⟩ := hp.at_)
        try go_quiet (fail)
        go_wp2
        try go_quiet (fail)
        go_wp2
        try go_quiet (fail)
        go_wp2
        go_ret2
        exact ⟨rfl, by first | exact hp | exact put_drewN hp _ | exact put_drewN (put_drewN hp _) _⟩
      · have q2 : 0 ≤ (n - y.t) / y.f * y.e := Int.mul_nonneg (by omega) (by omega)
        have q3 : (n - y.t) / y.f * y.e ≤ 2147483648 * 1073741824 := Int.mul_le_mul (by omega) (by omega) (by omega) (by omega)
        have hw : y.wait y.s n = y.fl - y.s + (n - y.t) / y.f * y.e := by unfold S.wait; rw [if_neg h1, if_neg h2, hc.2 hm]; omega
        rw [hw]
        clear hc hw
        go_enter Try.func16, Try.ntmps16
        go_wp2_with (go_at_call 19; refine K.out.mono ?_; rintro e w1 ⟨rfl, hp⟩; obtain ⟨c0, c1, c2, c3, c4, c5, f0, f1, f2, f3, f4, f5⟩ := hp.at_)
        try go_quiet (fail)
        go_wp2
        try go_quiet (fail)
        go_wp2
        try go_quiet (fail)
        go_wp2
        go_ret2
        exact ⟨rfl, by first | exact hp | exact put_drewN hp _ | exact put_drewN (put_drewN hp _) _⟩

end Go.Proofs.Ytmibjlcmphfbgaa
