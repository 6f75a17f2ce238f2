/- The contracts of a token bucket's New, Take, Tokens and Wait, over plain numbers; for every bucket in its bounds. -/
import Derived.Test.YtmibjlcmphfbgaaBa
set_option linter.unusedVariables false
namespace Go.Proofs.Ytmibjlcmphfbgaa
open Go.RowKit

def S.new (m f e now : Int) : S := ⟨m, f, e, m, now, now⟩
def good (m f e : Int) : Prop := (1 ≤ m ∧ m ≤ 1073741824) ∧ (1 ≤ f ∧ f ≤ 1073741824) ∧ (1 ≤ e ∧ e ≤ 1073741824)
theorem S.new_ok {m f e now : Int} (h : good m f e) (h0 : 0 ≤ now) (h1 : now ≤ 1099511627776) : (S.new m f e now).ok := by
  obtain ⟨⟨a, b⟩, ⟨c, d⟩, g, k⟩ := h
  constructor <;> simp only [S.new] <;> omega

theorem dec_t {n l m : Int} (h : l ≤ n ∧ n ≤ m) : (decide (l ≤ n) && decide (n ≤ m)) = true := by simp [h]
theorem dec_f {n l m : Int} (h : ¬ (l ≤ n ∧ n ≤ m)) : (decide (l ≤ n) && decide (n ≤ m)) = false := by simpa using h

theorem new_bad (m f e now : Int) (w : World) (h : ¬ good m f e) :
    Calls Try.prog 9 #[.int .i64 m, .int .i64 f, .int .i64 e, .int .i64 now] w fun en w' => en = .returned (.tuple #[.pointer none, .int .i64 30]) ∧ w = w' := by
  by_cases h1 : 1 ≤ m ∧ m ≤ 1073741824
  · have k1 := dec_t h1
    by_cases h2 : 1 ≤ f ∧ f ≤ 1073741824
    · have k2 := dec_t h2
      have h3 : ¬ (1 ≤ e ∧ e ≤ 1073741824) := fun h3 => h ⟨h1, h2, h3⟩
      have k3 := dec_f h3
      clear h1 h2 h3 h
      go_enter Try.func9, Try.ntmps9
      go_wp2_with (go_at_call 17; refine (within_any _ _ _ _).mono ?_; rintro e w' ⟨rfl, rfl⟩)
      go_ret2
      exact ⟨rfl, rfl⟩
    · have k2 := dec_f h2
      clear h1 h2 h
      go_enter Try.func9, Try.ntmps9
      go_wp2_with (go_at_call 17; refine (within_any _ _ _ _).mono ?_; rintro e w' ⟨rfl, rfl⟩)
      go_ret2
      exact ⟨rfl, rfl⟩
  · have k1 := dec_f h1
    clear h1 h
    go_enter Try.func9, Try.ntmps9
    go_wp2_with (go_at_call 17; refine (within_any _ _ _ _).mono ?_; rintro e w' ⟨rfl, rfl⟩)
    go_ret2
    exact ⟨rfl, rfl⟩

theorem new_late (m f e now : Int) (w : World) (h : good m f e) (hn : ¬ (0 ≤ now ∧ now ≤ 1099511627776)) :
    Calls Try.prog 9 #[.int .i64 m, .int .i64 f, .int .i64 e, .int .i64 now] w fun en w' => en = .returned (.tuple #[.pointer none, .int .i64 20]) ∧ w = w' := by
  have k1 := dec_t h.1
  have k2 := dec_t h.2.1
  have k3 := dec_t h.2.2
  have k4 := dec_f hn
  clear h hn
  go_enter Try.func9, Try.ntmps9
  go_wp2_with (go_at_call 17; refine (within_any _ _ _ _).mono ?_; rintro e w' ⟨rfl, rfl⟩)
  go_ret2
  exact ⟨rfl, rfl⟩

/-- A block more, the bucket x in it. -/
structure Made (x : S) (w w' : World) : Prop where
  at_ : At w' w.heap.size x
  size : w'.heap.size = w.heap.size + 1
  below : Below w.heap.size w w'

theorem made_alloc (x : S) (w : World) : Made x w (w.alloc (.cells #[.int .i64 x.m, .int .i64 x.f, .int .i64 x.e, .int .i64 x.t, .int .i64 x.fl, .int .i64 x.s] 51)) :=
  ⟨⟨by simp, by simp, by simp, by simp, by simp, by simp, by simp, by simp, by simp, by simp, by simp, by simp⟩, by simp, (Below.refl _ _).alloc (Nat.le_refl _) _⟩

theorem new_good (m f e now : Int) (w : World) (h : good m f e) (hn : 0 ≤ now ∧ now ≤ 1099511627776) :
    Calls Try.prog 9 #[.int .i64 m, .int .i64 f, .int .i64 e, .int .i64 now] w fun en w' => en = .returned (.tuple #[.pointer (some ⟨w.heap.size, 0, none⟩), .int .i64 0]) ∧ Made (S.new m f e now) w w' := by
  have k1 := dec_t h.1
  have k2 := dec_t h.2.1
  have k3 := dec_t h.2.2
  have k4 := dec_t hn
  clear h hn
  go_enter Try.func9, Try.ntmps9
  go_wp2_with (go_at_call 17; refine (within_any _ _ _ _).mono ?_; rintro e w' ⟨rfl, rfl⟩)
  go_ret2
  exact ⟨rfl, made_alloc (S.new m f e now) _⟩

/-- Take, over numbers. -/
def S.take (x : S) (now n : Int) : Bool × Int × S :=
  match x.rk now with
  | none => (false, 20, x)
  | some y => if 1 ≤ n ∧ n ≤ y.t then (true, 0, { y with t := y.t - n }) else (false, 0, y)

theorem take_no {b : Nat} {x : S} {now n : Int} {w : World} (h : At w b x) (hr : x.rk now = none) :
    Calls Try.prog 10 #[.pointer (some ⟨b, 0, none⟩), .int .i64 now, .int .i64 n] w fun e w' => e = .returned (.tuple #[.bool false, .int .i64 20]) ∧ w = w' := by
  have k := rk_none h hr
  have K := Lib.hid k
  clear k h hr
  go_enter Try.func10, Try.ntmps10
  go_wp2_with (go_at_call 18; refine K.out.mono ?_; rintro e w' ⟨rfl, rfl⟩)
  go_ret2
  exact ⟨rfl, rfl⟩

theorem take_less {b : Nat} {x y : S} {now n : Int} {w : World} (h : At w b x) (k : x.ok) (hr : x.rk now = some y) (hn : ¬ (1 ≤ n ∧ n ≤ y.t)) :
    Calls Try.prog 10 #[.pointer (some ⟨b, 0, none⟩), .int .i64 now, .int .i64 n] w fun e w' => e = .returned (.tuple #[.bool false, .int .i64 0]) ∧ Put b y w w' := by
  have k := rk_some h k hr
  have K := Lib.hid k
  have k1 := dec_f hn
  clear k h hr hn
  go_enter Try.func10, Try.ntmps10
  go_wp2_with (go_at_call 18; refine K.out.mono ?_; rintro e w1 ⟨rfl, hp⟩; obtain ⟨c0, c1, c2, c3, c4, c5, f0, f1, f2, f3, f4, f5⟩ := hp.at_)
  go_wp2_with (go_at_call 17; refine (within_any _ _ _ _).mono ?_; rintro e w' ⟨rfl, rfl⟩)
  go_ret2
  exact ⟨rfl, hp⟩

theorem take_yes {b : Nat} {x y : S} {now n : Int} {w : World} (h : At w b x) (k : x.ok) (hr : x.rk now = some y) (hn : 1 ≤ n ∧ n ≤ y.t) :
    Calls Try.prog 10 #[.pointer (some ⟨b, 0, none⟩), .int .i64 now, .int .i64 n] w fun e w' => e = .returned (.tuple #[.bool true, .int .i64 0]) ∧ Put b { y with t := y.t - n } w w' := by
  have o := S.rk_ok k hr
  have k := rk_some h k hr
  have K := Lib.hid k
  have k1 := dec_t hn
  obtain ⟨n1, n2⟩ := hn
  obtain ⟨m1, m2, f1, f2, e1, e2, t0, tm, l0, ls, sb, near⟩ := o
  clear k h hr
  go_enter Try.func10, Try.ntmps10
  go_wp2_with (go_at_call 18; refine K.out.mono ?_; rintro e w1 ⟨rfl, hp⟩; obtain ⟨c0, c1, c2, c3, c4, c5, f0, f1, f2, f3, f4, f5⟩ := hp.at_)
  go_wp2_with (go_at_call 17; refine (within_any _ _ _ _).mono ?_; rintro e w' ⟨rfl, rfl⟩)
  go_ret2
  exact ⟨rfl, put_trans hp (put_set3 hp.at_ _)⟩

theorem tokens_no {b : Nat} {x : S} {now : Int} {w : World} (h : At w b x) (hr : x.rk now = none) :
    Calls Try.prog 13 #[.pointer (some ⟨b, 0, none⟩), .int .i64 now] w fun e w' => e = .returned (.tuple #[.int .i64 0, .int .i64 20]) ∧ w = w' := by
  have k := rk_none h hr
  have K := Lib.hid k
  clear k h hr
  go_enter Try.func13, Try.ntmps13
  go_wp2_with (go_at_call 18; refine K.out.mono ?_; rintro e w' ⟨rfl, rfl⟩)
  go_ret2
  exact ⟨rfl, rfl⟩

theorem tokens_yes {b : Nat} {x y : S} {now : Int} {w : World} (h : At w b x) (k : x.ok) (hr : x.rk now = some y) :
    Calls Try.prog 13 #[.pointer (some ⟨b, 0, none⟩), .int .i64 now] w fun e w' => e = .returned (.tuple #[.int .i64 y.t, .int .i64 0]) ∧ Put b y w w' := by
  have k := rk_some h k hr
  have K := Lib.hid k
  clear k h hr
  go_enter Try.func13, Try.ntmps13
  go_wp2_with (go_at_call 18; refine K.out.mono ?_; rintro e w1 ⟨rfl, hp⟩; obtain ⟨c0, c1, c2, c3, c4, c5, f0, f1, f2, f3, f4, f5⟩ := hp.at_)
  go_ret2
  exact ⟨rfl, hp⟩

/-- Wait, over numbers, behind the reckoning. -/
def S.wait (y : S) (now n : Int) : Int :=
  if n ≤ y.t then 0 else if y.m < n then -1 else y.fl + (n - y.t + y.f - 1) / y.f * y.e - now

theorem wait_no {b : Nat} {x : S} {now n : Int} {w : World} (h : At w b x) (hr : x.rk now = none) :
    Calls Try.prog 15 #[.pointer (some ⟨b, 0, none⟩), .int .i64 now, .int .i64 n] w fun e w' => e = .returned (.tuple #[.int .i64 0, .int .i64 20]) ∧ w = w' := by
  have k := rk_none h hr
  have K := Lib.hid k
  clear k h hr
  go_enter Try.func15, Try.ntmps15
  go_wp2_with (go_at_call 18; refine K.out.mono ?_; rintro e w' ⟨rfl, rfl⟩)
  go_ret2
  exact ⟨rfl, rfl⟩

theorem put_drew {b : Nat} {y : S} {w w1 : World} (h : Put b y w w1) : Put b y w w1.drew := put_like h ⟨rfl, rfl, rfl, rfl⟩
theorem put_drewN {b : Nat} {y : S} {w w1 : World} (h : Put b y w w1) (n : Nat) : Put b y w (w1.drewN n) := put_like h ⟨rfl, rfl, rfl, rfl⟩

theorem wait_yes {b : Nat} {x y : S} {now n : Int} {w : World} (h : At w b x) (k : x.ok) (hr : x.rk now = some y) (hy : y.s = now) :
    Calls Try.prog 15 #[.pointer (some ⟨b, 0, none⟩), .int .i64 now, .int .i64 n] w fun e w' => e = .returned (.tuple #[.int .i64 (y.wait now n), .int .i64 0]) ∧ Put b y w w' := by
  have o := S.rk_ok k hr
  have k := rk_some h k hr
  have K := Lib.hid k
  subst hy
  obtain ⟨m1, m2, f1, f2, e1, e2, t0, tm, l0, ls, sb, near⟩ := o
  clear k h hr
  by_cases h1 : n ≤ y.t
  · rw [show y.wait y.s n = 0 from by unfold S.wait; rw [if_pos h1]]
    go_enter Try.func15, Try.ntmps15
    go_wp2_with (go_at_call 18; refine K.out.mono ?_; rintro e w1 ⟨rfl, hp⟩; obtain ⟨c0, c1, c2, c3, c4, c5, f0, f1, f2, f3, f4, f5⟩ := hp.at_)
    go_ret2
    exact ⟨rfl, hp⟩
  · by_cases h2 : y.m < n
    · rw [show y.wait y.s n = -1 from by unfold S.wait; rw [if_neg h1, if_pos h2]]
      go_enter Try.func15, Try.ntmps15
      go_wp2_with (go_at_call 18; refine K.out.mono ?_; rintro e w1 ⟨rfl, hp⟩; obtain ⟨c0, c1, c2, c3, c4, c5, f0, f1, f2, f3, f4, f5⟩ := hp.at_)
      go_ret2
      exact ⟨rfl, hp⟩
    · rw [show y.wait y.s n = y.fl + (n - y.t + y.f - 1) / y.f * y.e - y.s from by unfold S.wait; rw [if_neg h1, if_neg h2]]
      have q0 : 0 ≤ (n - y.t + y.f - 1) / y.f := Int.ediv_nonneg (by omega) (by omega)
      have q1 : (n - y.t + y.f - 1) / y.f ≤ n - y.t + y.f - 1 := Int.ediv_le_self _ (by omega)
      have q2 : 0 ≤ (n - y.t + y.f - 1) / y.f * y.e := Int.mul_nonneg q0 (by omega)
      have q3 : (n - y.t + y.f - 1) / y.f * y.e ≤ 2147483648 * 1073741824 := Int.mul_le_mul (by omega) (by omega) (by omega) (by omega)
      go_enter Try.func15, Try.ntmps15
      go_wp2_with (go_at_call 18; refine K.out.mono ?_; rintro e w1 ⟨rfl, hp⟩; obtain ⟨c0, c1, c2, c3, c4, c5, f0, f1, f2, f3, f4, f5⟩ := hp.at_)
      go_quiet (fail)
      go_wp2
      go_quiet (fail)
      go_wp2
      go_ret2
      exact ⟨rfl, by first | exact put_drewN hp _ | exact put_drewN (put_drewN hp _) _⟩

end Go.Proofs.Ytmibjlcmphfbgaa
