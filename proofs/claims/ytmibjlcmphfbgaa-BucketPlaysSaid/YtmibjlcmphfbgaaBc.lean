/- Plain facts of a bucket over numbers: what a reckoning gives, when Wait's answer comes true; and two buckets side by side in memory. -/
import Derived.Test.YtmibjlcmphfbgaaBr
set_option linter.unusedVariables false
namespace Go.Proofs.Ytmibjlcmphfbgaa
open Go.RowKit

structure Rk (x y : S) (now k : Int) : Prop where
  k0 : 0 ≤ k
  m : y.m = x.m
  f : y.f = x.f
  e : y.e = x.e
  s : y.s = now
  fl : y.fl = x.fl + k * x.e
  le : x.fl + k * x.e ≤ now
  lt : now < x.fl + k * x.e + x.e
  t : (y.t = x.m ∧ x.m ≤ x.t + k * x.f) ∨ (y.t = x.t + k * x.f ∧ x.t + k * x.f ≤ x.m)

theorem S.rk_some {x : S} {now : Int} (h : x.ok) (hs : x.s ≤ now) (hn : now ≤ 1099511627776) : ∃ y k, x.rk now = some y ∧ y.ok ∧ Rk x y now k := by
  obtain ⟨m1, m2, f1, f2, e1, e2, t0, tm, l0, ls, sb, near⟩ := id h
  have hr : x.rk now = some { x with t := if (x.m - x.t) / x.f < (now - x.fl) / x.e then x.m else x.t + (now - x.fl) / x.e * x.f, fl := x.fl + (now - x.fl) / x.e * x.e, s := now } := by
    unfold S.rk; rw [if_pos ⟨hs, hn⟩]
  have q0 : 0 ≤ (now - x.fl) / x.e := Int.ediv_nonneg (by omega) (by omega)
  have q1 : (now - x.fl) / x.e * x.e ≤ now - x.fl := Int.ediv_mul_le _ (by omega)
  have q3 : now - x.fl < (now - x.fl) / x.e * x.e + x.e := by
    have := Int.lt_ediv_add_one_mul_self (now - x.fl) (show 0 < x.e by omega)
    rw [Int.add_mul, Int.one_mul] at this
    exact this
  refine ⟨_, (now - x.fl) / x.e, hr, S.rk_ok h hr, q0, rfl, rfl, rfl, rfl, rfl, by omega, by omega, ?_⟩
  simp only
  by_cases hq : (x.m - x.t) / x.f < (now - x.fl) / x.e
  · rw [if_pos hq]
    refine .inl ⟨rfl, ?_⟩
    have h1 : (x.m - x.t) / x.f + 1 ≤ (now - x.fl) / x.e := hq
    have h2 := Int.mul_le_mul_of_nonneg_right h1 (show 0 ≤ x.f by omega)
    have h3 := Int.lt_ediv_add_one_mul_self (x.m - x.t) (show 0 < x.f by omega)
    omega
  · rw [if_neg hq]
    refine .inr ⟨rfl, ?_⟩
    have q5 : (now - x.fl) / x.e * x.f ≤ x.m - x.t :=
      Int.le_trans (Int.mul_le_mul_of_nonneg_right (by omega : (now - x.fl) / x.e ≤ (x.m - x.t) / x.f) (by omega)) (Int.ediv_mul_le _ (by omega))
    omega

theorem mul_lt_cancel {a b e : Int} (he : 0 < e) (h : a * e < b * e) : a < b := Int.lt_of_mul_lt_mul_right h (Int.le_of_lt he)

/-- A wait that is long: its bounds, and that it is just as long as it takes. -/
structure Waits (y : S) (now n W : Int) : Prop where
  pos : 0 < W
  most : W ≤ (n - y.t) * y.e + y.e
  early : ∀ z k, Rk y z (now + W - 1) k → z.t < n
  late : ∀ x z j k, Rk x y now j → Rk x z (now + W) k → n ≤ z.t

theorem S.wait_long {y : S} {now n : Int} (h : y.ok) (hs : y.s = now) (hn : y.t < n) (hm : n ≤ y.m) : Waits y now n (y.wait now n) := by
  subst hs
  obtain ⟨m1, m2, f1, f2, e1, e2, t0, tm, l0, ls, sb, near⟩ := h
  rw [show y.wait y.s n = y.fl + (n - y.t + y.f - 1) / y.f * y.e - y.s from by unfold S.wait; rw [if_neg (by omega), if_neg (by omega)]]
  have a0 : 1 ≤ (n - y.t + y.f - 1) / y.f := by rw [Int.le_ediv_iff_mul_le (by omega)]; omega
  have a1 : (n - y.t + y.f - 1) / y.f * y.f ≤ n - y.t + y.f - 1 := Int.ediv_mul_le _ (by omega)
  have a2 := Int.lt_ediv_add_one_mul_self (n - y.t + y.f - 1) (show 0 < y.f by omega)
  rw [Int.add_mul, Int.one_mul] at a2
  have a3 : (n - y.t + y.f - 1) / y.f ≤ n - y.t := by
    have : (n - y.t + y.f - 1) / y.f < n - y.t + 1 := by
      rw [Int.ediv_lt_iff_lt_mul (by omega), Int.add_mul, Int.one_mul]
      have : (n - y.t) * 1 ≤ (n - y.t) * y.f := Int.mul_le_mul_of_nonneg_left f1 (by omega)
      omega
    omega
  generalize (n - y.t + y.f - 1) / y.f = q at *
  have b0 : 1 * y.e ≤ q * y.e := Int.mul_le_mul_of_nonneg_right a0 (by omega)
  have b1 : q * y.e ≤ (n - y.t) * y.e := Int.mul_le_mul_of_nonneg_right a3 (by omega)
  refine ⟨by omega, by omega, ?_, ?_⟩
  · intro z k hz
    have c1 := hz.le
    have c2 : k * y.e < q * y.e := by omega
    have c3 : k ≤ q - 1 := by have := mul_lt_cancel (by omega) c2; omega
    have c4 := Int.mul_le_mul_of_nonneg_right c3 (show 0 ≤ y.f by omega)
    rw [Int.sub_mul, Int.one_mul] at c4
    rcases hz.t with ⟨h1, h2⟩ | ⟨h1, h2⟩ <;> omega
  · intro x z j k hx hz
    have c0 := hx.fl
    have c1 := hz.lt
    have ce := hx.e
    have cf := hx.f
    have cm := hx.m
    rw [ce] at b0 b1 c1 near e1
    rw [cf] at a1 a2 f1
    have c2 : (j + q) * x.e < (k + 1) * x.e := by rw [Int.add_mul, Int.add_mul, Int.one_mul]; omega
    have c3 : j + q ≤ k := by have := mul_lt_cancel (by omega) c2; omega
    have c4 := Int.mul_le_mul_of_nonneg_right c3 (show 0 ≤ x.f by omega)
    rw [Int.add_mul] at c4
    rcases hx.t with ⟨h1, h2⟩ | ⟨h1, h2⟩ <;> rcases hz.t with ⟨h3, h4⟩ | ⟨h3, h4⟩ <;> omega

theorem at_below {w w1 : World} {b : Nat} {x : S} (h : At w b x) (hb : Below w.heap.size w w1) : At w1 b x := by
  obtain ⟨c0, c1, c2, c3, c4, c5, f0, f1, f2, f3, f4, f5⟩ := h
  have hlt : b < w.heap.size := World.block_lt_of_cell? w _ c0
  exact ⟨(hb.cell hlt).trans c0, (hb.cell hlt).trans c1, (hb.cell hlt).trans c2, (hb.cell hlt).trans c3, (hb.cell hlt).trans c4, (hb.cell hlt).trans c5,
    (hb.frozen hlt).trans f0, (hb.frozen hlt).trans f1, (hb.frozen hlt).trans f2, (hb.frozen hlt).trans f3, (hb.frozen hlt).trans f4, (hb.frozen hlt).trans f5⟩
theorem at_lt {w : World} {b : Nat} {x : S} (h : At w b x) : b < w.heap.size := World.block_lt_of_cell? w _ h.c0
theorem at_other {w w1 : World} {a b : Nat} {x y : S} (h : At w a x) (k : Put b y w w1) (hne : a ≠ b) : At w1 a x := by
  obtain ⟨c0, c1, c2, c3, c4, c5, f0, f1, f2, f3, f4, f5⟩ := h
  have hlt : a < w.heap.size := World.block_lt_of_cell? w _ c0
  have e : w1.heap[a]? = w.heap[a]? := k.grown.block a hlt (fun q => hne (by injection q))
  exact ⟨(World.cell?_of_block e).trans c0, (World.cell?_of_block e).trans c1, (World.cell?_of_block e).trans c2, (World.cell?_of_block e).trans c3, (World.cell?_of_block e).trans c4, (World.cell?_of_block e).trans c5,
    (World.frozen?_of_block e).trans f0, (World.frozen?_of_block e).trans f1, (World.frozen?_of_block e).trans f2, (World.frozen?_of_block e).trans f3, (World.frozen?_of_block e).trans f4, (World.frozen?_of_block e).trans f5⟩

end Go.Proofs.Ytmibjlcmphfbgaa
