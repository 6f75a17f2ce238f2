/- BucketLooks: the walk over the law: looking changes nothing that is taken later. -/
import Derived.Test.YtmibjlcmphfbgaaBc
set_option linter.unusedVariables false
namespace Go.Proofs.Ytmibjlcmphfbgaa
open Go.RowKit

theorem mul_le_cancel {a b e : Int} (he : 0 < e) (h : a * e ≤ b * e) : a ≤ b := Int.le_of_mul_le_mul_right h he

theorem Rk.uniq {x y z : S} {now k j : Int} (he : 1 ≤ x.e) (h : Rk x y now k) (h' : Rk x z now j) : y = z := by
  have e1 : k * x.e < (j + 1) * x.e := by have := h.le; have := h'.lt; rw [Int.add_mul, Int.one_mul]; omega
  have e2 : j * x.e < (k + 1) * x.e := by have := h'.le; have := h.lt; rw [Int.add_mul, Int.one_mul]; omega
  have e3 := mul_lt_cancel (by omega) e1
  have e4 := mul_lt_cancel (by omega) e2
  obtain rfl : k = j := by omega
  obtain ⟨-, a1, a2, a3, a4, a5, -, -, at_⟩ := h
  obtain ⟨-, b1, b2, b3, b4, b5, -, -, bt⟩ := h'
  obtain ⟨ym, yf, ye, yt, yfl, ys⟩ := y
  obtain ⟨zm, zf, ze, zt, zfl, zs⟩ := z
  simp only at *
  have : yt = zt := by rcases at_ with ⟨h1, h2⟩ | ⟨h1, h2⟩ <;> rcases bt with ⟨h3, h4⟩ | ⟨h3, h4⟩ <;> omega
  subst a1 a2 a3 a4 a5 b1 b2 b3 b4 b5 this
  rfl

theorem Rk.comp {x y z : S} {a b k j : Int} (hf : 1 ≤ x.f) (h : Rk x y a k) (h' : Rk y z b j) : Rk x z b (k + j) := by
  obtain ⟨a0, a1, a2, a3, a4, a5, a6, a7, at_⟩ := h
  obtain ⟨b0, b1, b2, b3, b4, b5, b6, b7, bt⟩ := h'
  rw [a1, a2] at bt
  rw [a3] at b6 b7 b5
  have q : 0 ≤ j * x.f := Int.mul_nonneg b0 (by omega)
  have q' : 0 ≤ k * x.f := Int.mul_nonneg a0 (by omega)
  refine ⟨by omega, b1.trans a1, b2.trans a2, b3.trans a3, b4, ?_, ?_, ?_, ?_⟩
  · rw [Int.add_mul]; omega
  · rw [Int.add_mul]; omega
  · rw [Int.add_mul]; omega
  · rw [Int.add_mul]
    rcases at_ with ⟨h1, h2⟩ | ⟨h1, h2⟩ <;> rcases bt with ⟨h3, h4⟩ | ⟨h3, h4⟩ <;> omega

theorem S.rk_rk {x y : S} {now : Int} (h : x.ok) (hr : x.rk now = some y) : ∃ k, Rk x y now k := by
  have hs : x.s ≤ now ∧ now ≤ 1099511627776 := by
    unfold S.rk at hr
    split at hr
    · assumption
    · cases hr
  obtain ⟨z, k, hz, _, hk⟩ := S.rk_some h hs.1 hs.2
  rw [hr] at hz
  injection hz with hz
  subst hz
  exact ⟨k, hk⟩

/-- Two reckonings one behind the other are one. -/
theorem S.rk_twice {x y : S} {a b : Int} (h : x.ok) (hr : x.rk a = some y) (hab : a ≤ b) (hb : b ≤ 1099511627776) : ∃ z, y.rk b = some z ∧ x.rk b = some z := by
  have oy := S.rk_ok h hr
  obtain ⟨k, hk⟩ := S.rk_rk h hr
  obtain ⟨z, j, hz, _, hj⟩ := S.rk_some oy (by rw [hk.s]; exact hab) hb
  have hxs : x.s ≤ a := by
    unfold S.rk at hr
    split at hr
    · rename_i h; exact h.1
    · cases hr
  obtain ⟨z', j', hz', _, hj'⟩ := S.rk_some h (now := b) (by omega) hb
  have := Rk.uniq h.e1 (Rk.comp h.f1 hk hj) hj'
  subst this
  exact ⟨z, hz, hz'⟩

theorem S.rk_again {x y : S} {a : Int} (h : x.ok) (hr : x.rk a = some y) (ha : a ≤ 1099511627776) : y.rk a = some y := by
  obtain ⟨z, hz, hz'⟩ := S.rk_twice h hr (Int.le_refl _) ha
  rw [hr] at hz'
  injection hz' with hz'
  rw [hz, hz']

theorem take_some {b : Nat} {x : S} {n : Int} (w : World) (k : x.ok) (hr : x.rk 0 = some x) (h : At w b x) :
    Calls Try.prog 10 #[.pointer (some ⟨b, 0, none⟩), .int .i64 0, .int .i64 n] w fun e w' =>
      e = .returned (.tuple #[.bool (decide (1 ≤ n ∧ n ≤ x.t)), .int .i64 0]) ∧ Put b (if 1 ≤ n ∧ n ≤ x.t then { x with t := x.t - n } else x) w w' := by
  by_cases hn : 1 ≤ n ∧ n ≤ x.t
  · rw [if_pos hn]
    refine (take_yes h k hr hn).mono fun e w' ⟨he, hp⟩ => ⟨by rw [he]; simp [hn], hp⟩
  · rw [if_neg hn]
    refine (take_less h k hr hn).mono fun e w' ⟨he, hp⟩ => ⟨by rw [he, decide_eq_false hn], hp⟩

set_option maxRecDepth 100000 in
theorem looks_bad (m f e : Int) (v3 : Value) (n : Int) (w : World) (h : ¬ good m f e) :
    Calls Try.prog 6 #[.int .i64 m, .int .i64 f, .int .i64 e, v3, .int .i64 n] w fun en w' => en = .returned (.bool true) ∧ Below w.heap.size w w' := by
  have A := Lib.hid (anchor_any w)
  have N := fun w => Lib.hid (new_bad m f e 0 w h)
  go_enter Try.func6, Try.ntmps6
  go_wp2_with (go_at_call 8; refine A.out.mono ?_; rintro en w1 ⟨rfl, hb1⟩)
  go_wp2_with (go_at_call 9; refine (N _).out.mono ?_; rintro en w2 ⟨rfl, rfl⟩)
  go_ret
  exact ⟨rfl, hb1⟩

set_option maxRecDepth 100000 in
set_option maxHeartbeats 4000000 in
theorem looks_good (m f e : Int) (a3 : Option Addr) (len3 cap3 : Nat) (z3 : List Int) (n : Int) (w : World) (gd : good m f e) (h3 : Ints w a3 len3 z3) :
    Calls Try.prog 6 #[.int .i64 m, .int .i64 f, .int .i64 e, .slice a3 len3 cap3, .int .i64 n] w fun en w' => en = .returned (.bool true) ∧ Below w.heap.size w w' := by
  have A := Lib.hid (anchor_any w)
  have o0 : (S.new m f e 0).ok := S.new_ok gd (by omega) (by omega)
  have r0 : (S.new m f e 0).rk 0 = some (S.new m f e 0) := by simp [S.rk, S.new]
  have N := fun w => Lib.hid (new_good m f e 0 w gd (by omega))
  have T := fun (w : World) b (h : At w b (S.new m f e 0)) => Lib.hid (take_some (n := n) w o0 r0 h)
  have hx : (if 1 ≤ n ∧ n ≤ (S.new m f e 0).t then { S.new m f e 0 with t := (S.new m f e 0).t - n } else S.new m f e 0 : S).ok ∧
      (if 1 ≤ n ∧ n ≤ (S.new m f e 0).t then { S.new m f e 0 with t := (S.new m f e 0).t - n } else S.new m f e 0 : S).m = m ∧
      (if 1 ≤ n ∧ n ≤ (S.new m f e 0).t then { S.new m f e 0 with t := (S.new m f e 0).t - n } else S.new m f e 0 : S).rk 0 =
        some (if 1 ≤ n ∧ n ≤ (S.new m f e 0).t then { S.new m f e 0 with t := (S.new m f e 0).t - n } else S.new m f e 0 : S) := by
    split
    · rename_i h
      obtain ⟨a1, a2, a3, a4, a5, a6, a7, a8, a9, b1, b2, b3⟩ := o0
      refine ⟨by constructor <;> simp only [S.new] at * <;> omega, rfl, ?_⟩
      simp only [S.rk, S.new] at h ⊢
      have : (0 : Int) ≤ (m - (m - n)) / f := Int.ediv_nonneg (by omega) (by simp only [S.new] at a3; omega)
      simp
      omega
    · exact ⟨o0, rfl, r0⟩
  clear r0 o0
  generalize (if 1 ≤ n ∧ n ≤ (S.new m f e 0).t then { S.new m f e 0 with t := (S.new m f e 0).t - n } else S.new m f e 0 : S) = x at *
  obtain ⟨ox, hxm, hxr⟩ := hx
  obtain ⟨hl3, hz3⟩ := h3
  have H3 := Lib.hid hz3
  have HM := Lib.hid hxm
  have HR := Lib.hid hxr
  clear hz3 hxm hxr gd
  generalize decide (1 ≤ n ∧ n ≤ (S.new m f e 0).t) = q at *
  go_enter Try.func6, Try.ntmps6
  go_wp2_with (go_at_call 8; refine A.out.mono ?_; rintro en w1 ⟨rfl, hb1⟩)
  go_wp2_with fail
  refine (N _).out.mono ?_
  rintro en w2 ⟨rfl, hM2⟩
  go_wp2_with fail
  refine (N _).out.mono ?_
  rintro en w3 ⟨rfl, hM3⟩
  have b2 : Below w.heap.size w w2 := hb1.trans (hM2.below.mono hb1.size)
  have z2 := hM2.size
  have z3_ := hM3.size
  have z1 := hb1.size
  have b3 : Below w.heap.size w w3 := b2.trans (hM3.below.mono (by omega))
  have aa := at_below hM2.at_ hM3.below
  have ab := hM3.at_
  have hne : w1.heap.size ≠ w2.heap.size := by omega
  have sa : w.heap.size ≤ w1.heap.size := z1
  have sb : w.heap.size ≤ w2.heap.size := by omega
  have sw : w.heap.size ≤ w3.heap.size := by omega
  clear z1 z2 z3_ hb1 hM2 hM3 b2
  have HN := Lib.hid hne
  clear hne
  generalize w1.heap.size = a at *
  generalize w2.heap.size = b at *
  go_wp2_with fail
  refine (T _ a aa).out.mono ?_
  rintro en w4 ⟨rfl, hp4⟩
  have ab := at_other ab hp4 (Ne.symm HN.out)
  have b4 := below_put b3 sa sw hp4
  have sw : w.heap.size ≤ w4.heap.size := by rw [hp4.size]; exact sw
  have aa := hp4.at_
  clear hp4
  go_wp2_with fail
  refine (T _ b ab).out.mono ?_
  rintro en w5 ⟨rfl, hp5⟩
  have aa := at_other aa hp5 HN.out
  have b5 := below_put b4 sb sw hp5
  have sw : w.heap.size ≤ w5.heap.size := by rw [hp5.size]; exact sw
  have ab := hp5.at_
  clear hp5 b3 b4
  go_wp2
  go_loopw [15, 65] (fun last i wr => ∃ (k : Nat) (l : Int) (y : S), k ≤ len3 ∧ i = .int .i64 k ∧ last = .int .i64 l ∧ 0 ≤ l ∧ l ≤ 1099511627776 ∧ x.rk l = some y ∧ At wr a y ∧ At wr b x ∧ Below w.heap.size w wr) (fun _ i _ => len3 - (intOf i).toNat)
  case atStart => exact ⟨0, 0, x, Nat.zero_le _, rfl, rfl, by omega, by omega, HR.out, aa, ab, b5⟩
  case round =>
    clear aa ab b5
    obtain ⟨k, l, y, hk, rfl, rfl, l0, l1, hy, aa, ab, hB⟩ := hrel
    have HY := Lib.hid hy
    clear hy
    have sw := hB.size
    by_cases hlt : k < len3
    · obtain ⟨ad, rfl, hc⟩ := H3.out k hlt
      have hc' := cell_later_below hB hc
      generalize z3.getD k 0 = t at hc'
      clear hc
      by_cases g0 : l ≤ t
      · by_cases g1 : t ≤ 1099511627776
        · obtain ⟨z, hz1, hz2⟩ := S.rk_twice ox HY.out g0 g1
          have oy := S.rk_ok ox HY.out
          have oz := S.rk_ok ox hz2
          have hzs := (S.rk_rk ox hz2).choose_spec.s
          have hz3 := S.rk_again ox hz2 g1
          have K := fun (w : World) b (h : At w b y) => Lib.hid (tokens_yes h oy hz1)
          have V := fun (w : World) b (h : At w b z) => Lib.hid (wait_yes (n := n) h oz hz3 hzs)
          have HZ := Lib.hid hz2
          clear hz1 hz2 hzs hz3 oy oz
          go_wp2_with fail
          refine (K _ a aa).out.mono ?_
          rintro en w7 ⟨rfl, hp7⟩
          have ab := at_other ab hp7 (Ne.symm HN.out)
          have b7 := below_put hB sa sw hp7
          have sw : w.heap.size ≤ w7.heap.size := by rw [hp7.size]; exact sw
          have aa := hp7.at_
          clear hp7
          go_wp2_with fail
          refine (V _ a aa).out.mono ?_
          rintro en w8 ⟨rfl, hp8⟩
          have ab := at_other ab hp8 (Ne.symm HN.out)
          have b8 := below_put b7 sa sw hp8
          have aa := hp8.at_
          clear hp8
          go_wp2
          go_roundw
          case rel => exact ⟨k + 1, t, z, by omega, by go_num, rfl, by omega, by omega, HZ.out, aa, ab, b8⟩
          case measure => simp [intOf]; omega
        · go_wp2
          go_roundw
          case rel => exact ⟨k + 1, l, y, by omega, by go_num, rfl, by omega, by omega, HY.out, aa, ab, hB⟩
          case measure => simp [intOf]; omega
      · go_wp2
        go_roundw
        case rel => exact ⟨k + 1, l, y, by omega, by go_num, rfl, by omega, by omega, HY.out, aa, ab, hB⟩
        case measure => simp [intOf]; omega
    · have oy := S.rk_ok ox HY.out
      have hy2 := S.rk_again ox HY.out l1
      have K := fun (w : World) b (h : At w b y) => Lib.hid (tokens_yes h oy hy2)
      have K2 := fun (w : World) b (h : At w b x) => Lib.hid (tokens_yes h ox HY.out)
      have t0 := oy.t0
      have hym := (S.rk_rk ox HY.out).choose_spec.m
      have tm : y.t ≤ m := by have := oy.tm; rw [hym, HM.out] at this; exact this
      clear hy2 oy hym
      go_wp2_with fail
      refine (K _ a aa).out.mono ?_
      rintro en w7 ⟨rfl, hp7⟩
      have ab := at_other ab hp7 (Ne.symm HN.out)
      have b7 := below_put hB sa sw hp7
      have sw : w.heap.size ≤ w7.heap.size := by rw [hp7.size]; exact sw
      clear hp7
      go_wp2_with fail
      refine (K2 _ b ab).out.mono ?_
      rintro en w8 ⟨rfl, hp8⟩
      have b8 := below_put b7 sb sw hp8
      go_wp2
      go_ret
      exact ⟨by simp, b8⟩

theorem looks_walk (m : Int) (_ : (Lit.int .i64 m).wf = true) (f : Int) (_ : (Lit.int .i64 f).wf = true) (e : Int) (_ : (Lit.int .i64 e).wf = true)
    (a3 : Option Addr) (len3 cap3 : Nat) (z3 : List Int) (y3 : len3 * 8 ≤ 140737488351232) (_ : ∀ x ∈ z3, (Lit.int .i64 x).wf = true) {w : World} (h3 : ∀ j, j < len3 → j < z3.length ∧ ∃ ad, a3 = some ad ∧ w.cell? (ad.add j) = some (.int .i64 (z3.getD j 0)))
    (n : Int) (_ : (Lit.int .i64 n).wf = true) (W : World) (hW : W = w) :
    Calls Try.prog 6 #[.int .i64 m, .int .i64 f, .int .i64 e, .slice a3 len3 cap3, .int .i64 n] W fun en w' => en = .returned (.bool true) ∧ Below W.heap.size W w' := by
  subst hW
  by_cases h : good m f e
  · exact looks_good m f e a3 len3 cap3 z3 n _ h (ints_of y3 h3)
  · exact looks_bad m f e _ n _ h

end Go.Proofs.Ytmibjlcmphfbgaa
