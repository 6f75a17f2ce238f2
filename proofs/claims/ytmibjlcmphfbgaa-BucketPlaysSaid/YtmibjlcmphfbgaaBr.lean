/- BucketRate: the walk over the law. -/
import Derived.Test.YtmibjlcmphfbgaaBb
set_option linter.unusedVariables false
namespace Go.Proofs.Ytmibjlcmphfbgaa
open Go.RowKit

theorem below_put {B b : Nat} {y : S} {w w1 w2 : World} (h : Below B w w1) (hB : B ≤ b) (hs : B ≤ w1.heap.size) (k : Put b y w1 w2) : Below B w w2 :=
  h.grown k.grown hs (fun k e => by injection e with e; omega)

/-- The document's example. -/
theorem anchor_any (w : World) : Calls Try.prog 8 #[] w fun e w' => e = .returned (.bool true) ∧ Below w.heap.size w w' := by
  have N := Lib.hid (new_good 4 2 10 0 w (by unfold good; omega) (by omega))
  have o0 : (S.new 4 2 10 0).ok := S.new_ok (by unfold good; omega) (by omega) (by omega)
  go_enter Try.func8, Try.ntmps8
  go_wp2_with (go_at_call 9; refine N.out.mono ?_; rintro e w1 ⟨rfl, hM⟩)
  have T := Lib.hid (take_yes (x := S.new 4 2 10 0) (y := S.new 4 2 10 0) (now := 0) (n := 3) hM.at_ o0 (by simp [S.rk, S.new]) (by simp [S.new]))
  go_wp2_with (go_at_call 10; refine T.out.mono ?_; rintro e w2 ⟨rfl, hp⟩)
  have K := Lib.hid (tokens_yes (x := { S.new 4 2 10 0 with t := 1 }) (y := ⟨4, 2, 10, 1, 0, 9⟩) (now := 9) hp.at_ (by constructor <;> decide) (by simp [S.rk, S.new]))
  go_wp2_with (go_at_call 13; refine K.out.mono ?_; rintro e w3 ⟨rfl, hq⟩)
  go_ret
  exact ⟨rfl, below_put (below_put hM.below (Nat.le_refl _) (by rw [hM.size]; omega) hp) (Nat.le_refl _) (by rw [hp.size, hM.size]; omega) hq⟩

/-- A slice of ints that came in, as far as a walk reads it. -/
def Ints (w : World) (a : Option Addr) (len : Nat) (z : List Int) : Prop :=
  len ≤ 17592186044416 ∧ ∀ k, k < len → ∃ ad, a = some ad ∧ w.cell? (ad.add k) = some (.int .i64 (z.getD k 0))

theorem Ints.below {w w1 : World} {a : Option Addr} {len : Nat} {z : List Int} (h : Ints w a len z) (hb : Below w.heap.size w w1) : Ints w1 a len z :=
  ⟨h.1, fun k hk => by
    obtain ⟨ad, e, hc⟩ := h.2 k hk
    exact ⟨ad, e, (hb.cell (World.block_lt_of_cell? w _ hc)).trans hc⟩⟩

theorem cell_later_below {w wr : World} {a : Addr} {v : Value} (hb : Below w.heap.size w wr) (hc : w.cell? a = some v) : wr.cell? a = some v :=
  (hb.cell (World.block_lt_of_cell? w _ hc)).trans hc

/-- What holds between two rounds: c fillings so far. -/
structure RInv (m f e now taken : Int) (x : S) : Prop where
  ok : x.ok
  xm : x.m = m
  xf : x.f = f
  xe : x.e = e
  xs : x.s = now
  n0 : 0 ≤ now
  n1 : now ≤ 1073751824
  t0 : 0 ≤ taken
  paid : ∃ c, 0 ≤ c ∧ x.fl = c * e ∧ taken + x.t ≤ m + c * f

theorem RInv.step {m f e now taken g : Int} {x : S} (h : RInv m f e now taken x) (hg : 0 ≤ g) (hg2 : g ≤ 10000) (hn : now ≤ 1073741824) :
    ∃ y, x.rk (now + g) = some y ∧ RInv m f e (now + g) taken y := by
  obtain ⟨ok, rfl, rfl, rfl, rfl, n0, n1, t0, c, c0, hc, hp⟩ := h
  obtain ⟨m1, m2, f1, f2, e1, e2, u0, um, l0, ls, sb, near⟩ := id ok
  have hr : x.rk (x.s + g) = some { x with t := if (x.m - x.t) / x.f < (x.s + g - x.fl) / x.e then x.m else x.t + (x.s + g - x.fl) / x.e * x.f, fl := x.fl + (x.s + g - x.fl) / x.e * x.e, s := x.s + g } := by
    unfold S.rk; rw [if_pos (by omega)]
  refine ⟨_, hr, S.rk_ok ok hr, rfl, rfl, rfl, rfl, by omega, by omega, t0, c + (x.s + g - x.fl) / x.e, ?_, ?_, ?_⟩
  · have := Int.ediv_nonneg (show 0 ≤ x.s + g - x.fl by omega) (show 0 ≤ x.e by omega); omega
  · simp only; rw [Int.add_mul, hc]
  · simp only
    have q : 0 ≤ (x.s + g - x.fl) / x.e * x.f := Int.mul_nonneg (Int.ediv_nonneg (by omega) (by omega)) (by omega)
    rw [Int.add_mul]
    split
    · rename_i hq
      have h1 : (x.m - x.t) / x.f + 1 ≤ (x.s + g - x.fl) / x.e := hq
      have h2 := Int.mul_le_mul_of_nonneg_right h1 (show 0 ≤ x.f by omega)
      have h3 := Int.lt_ediv_add_one_mul_self (x.m - x.t) (show 0 < x.f by omega)
      omega
    · omega

theorem RInv.took {m f e now taken n : Int} {x : S} (h : RInv m f e now taken x) (hn : 1 ≤ n ∧ n ≤ x.t) : RInv m f e now (taken + n) { x with t := x.t - n } := by
  obtain ⟨ok, xm, xf, xe, xs, n0, n1, t0, c, c0, hc, hp⟩ := h
  obtain ⟨m1, m2, f1, f2, e1, e2, u0, um, l0, ls, sb, near⟩ := ok
  refine ⟨by constructor <;> simp only <;> omega, xm, xf, xe, xs, n0, n1, by omega, c, c0, hc, ?_⟩
  simp only; omega

theorem RInv.rate {m f e now taken : Int} {x : S} (h : RInv m f e now taken x) : taken ≤ m + now / e * f := by
  obtain ⟨ok, rfl, rfl, rfl, rfl, n0, n1, t0, c, c0, hc, hp⟩ := h
  obtain ⟨m1, m2, f1, f2, e1, e2, u0, um, l0, ls, sb, near⟩ := ok
  have h1 : c ≤ x.s / x.e := by
    rw [Int.le_ediv_iff_mul_le (by omega)]; omega
  have h2 := Int.mul_le_mul_of_nonneg_right h1 (show 0 ≤ x.f by omega)
  omega

def Bad (m f e : Int) : Prop := ¬ ((1 ≤ m ∧ m ≤ 1000) ∧ (1 ≤ f ∧ f ≤ 1000) ∧ (1 ≤ e ∧ e ≤ 1000))

theorem rate_bad (m f e : Int) (v3 v4 : Value) (w : World) (h : Bad m f e) :
    Calls Try.prog 3 #[.int .i64 m, .int .i64 f, .int .i64 e, v3, v4] w fun en w' => en = .returned (.bool true) ∧ Below w.heap.size w w' := by
  have A := Lib.hid (anchor_any w)
  have h' : m < 1 ∨ (¬ m < 1 ∧ 1000 < m) ∨ (¬ m < 1 ∧ ¬ 1000 < m ∧ f < 1) ∨ (¬ m < 1 ∧ ¬ 1000 < m ∧ ¬ f < 1 ∧ 1000 < f) ∨ (¬ m < 1 ∧ ¬ 1000 < m ∧ ¬ f < 1 ∧ ¬ 1000 < f ∧ e < 1) ∨ (¬ m < 1 ∧ ¬ 1000 < m ∧ ¬ f < 1 ∧ ¬ 1000 < f ∧ ¬ e < 1 ∧ 1000 < e) := by
    unfold Bad at h; omega
  clear h
  rcases h' with h | ⟨h0, h⟩ | ⟨h0, h1, h⟩ | ⟨h0, h1, h2, h⟩ | ⟨h0, h1, h2, h3, h⟩ | ⟨h0, h1, h2, h3, h4, h⟩ <;>
  · go_enter Try.func3, Try.ntmps3
    go_wp2_with (go_at_call 8; refine A.out.mono ?_; rintro e w1 ⟨rfl, hb⟩)
    go_ret
    exact ⟨rfl, hb⟩

set_option maxRecDepth 100000 in
set_option maxHeartbeats 8000000 in
theorem rate_good (m f e : Int) (a3 : Option Addr) (len3 cap3 : Nat) (z3 : List Int) (a4 : Option Addr) (len4 cap4 : Nat) (z4 : List Int) (w : World)
    (hm : 1 ≤ m ∧ m ≤ 1000) (hf : 1 ≤ f ∧ f ≤ 1000) (he : 1 ≤ e ∧ e ≤ 1000) (h3 : Ints w a3 len3 z3) (h4 : Ints w a4 len4 z4) :
    Calls Try.prog 3 #[.int .i64 m, .int .i64 f, .int .i64 e, .slice a3 len3 cap3, .slice a4 len4 cap4] w fun en w' => en = .returned (.bool true) ∧ Below w.heap.size w w' := by
  have A := Lib.hid (anchor_any w)
  have gd : good m f e := by unfold good; omega
  have G := Lib.hid gd
  have o0 := Lib.hid (S.new_ok (now := 0) gd (by omega) (by omega))
  clear gd
  obtain ⟨hm1, hm2⟩ := hm
  obtain ⟨hf1, hf2⟩ := hf
  obtain ⟨he1, he2⟩ := he
  obtain ⟨hl3, hz3⟩ := h3
  obtain ⟨hl4, hz4⟩ := h4
  have H3 := Lib.hid hz3
  have H4 := Lib.hid hz4
  clear hz3 hz4
  go_enter Try.func3, Try.ntmps3
  go_wp2_with (go_at_call 8; refine A.out.mono ?_; rintro en w1 ⟨rfl, hb⟩)
  go_wp2_with (go_at_call 9; refine (new_good m f e 0 _ G.out (by omega)).mono ?_; rintro en w2 ⟨rfl, hM⟩)
  have b0 : Below w.heap.size w w2 := hb.trans (hM.below.mono (by have := hb.size; omega))
  have z0 : w1.heap.size < w2.heap.size := by rw [hM.size]; omega
  have z1 : w.heap.size ≤ w1.heap.size := hb.size
  have hat := hM.at_
  clear hM hb
  generalize w1.heap.size = B at *
  go_loopw [13, 14, 58] (fun now taken i wr => ∃ (k : Nat) (nw tk : Int) (x : S), k ≤ len3 ∧ i = .int .i64 k ∧ now = .int .i64 nw ∧ taken = .int .i64 tk ∧ RInv m f e nw tk x ∧ At wr B x ∧ Below w.heap.size w wr ∧ B < wr.heap.size) (fun _ _ i _ => len3 - (intOf i).toNat)
  case atStart => exact ⟨0, 0, 0, S.new m f e 0, Nat.zero_le _, rfl, rfl, rfl, ⟨o0.out, rfl, rfl, rfl, rfl, by omega, by omega, by omega, 0, by omega, by simp [S.new], by simp [S.new]⟩, hat, b0, z0⟩
  case round =>
    clear hat b0 z0
    obtain ⟨k, nw, tk, x, hk, rfl, rfl, rfl, hI, hat, hB, hz⟩ := hrel
    by_cases hlt : k < len3
    · obtain ⟨ad, rfl, hc⟩ := H3.out k hlt
      have hc' := cell_later_below hB hc
      have hI' := hI
      obtain ⟨ok, xm, xf, xe, xs, n0, n1, t0, -⟩ := hI'
      generalize z3.getD k 0 = g at hc'
      clear ok xm xf xe xs hc
      by_cases g0 : g < 0
      · go_wp2
        go_roundw
        case rel => exact ⟨k + 1, nw, tk, x, by omega, by go_num, rfl, rfl, hI, hat, hB, hz⟩
        case measure => simp [intOf]; omega
      by_cases g1 : 10000 < g
      · go_wp2
        go_roundw
        case rel => exact ⟨k + 1, nw, tk, x, by omega, by go_num, rfl, rfl, hI, hat, hB, hz⟩
        case measure => simp [intOf]; omega
      by_cases g2 : 1073741824 < nw
      · go_wp2
        go_roundw
        case rel => exact ⟨k + 1, nw, tk, x, by omega, by go_num, rfl, rfl, hI, hat, hB, hz⟩
        case measure => simp [intOf]; omega
      by_cases g3 : len4 ≤ k
      · go_wp2
        go_roundw
        case rel => exact ⟨k + 1, nw, tk, x, by omega, by go_num, rfl, rfl, hI, hat, hB, hz⟩
        case measure => simp [intOf]; omega
      obtain ⟨ad4, rfl, hc4⟩ := H4.out k (by omega)
      have hc4' := cell_later_below hB hc4
      have hne : some (ad4.add k).block ≠ some B := fun q => by
        injection q with q
        have := World.block_lt_of_cell? w _ hc4
        omega
      generalize z4.getD k 0 = n at hc4'
      have HNE := Lib.hid hne
      clear hc4 hne
      obtain ⟨y, hy, hJ⟩ := hI.step (g := g) (by omega) (by omega) (by omega)
      have hr := hJ.rate
      by_cases hn : 1 ≤ n ∧ n ≤ y.t
      · have hr' := (hJ.took hn).rate
        have hym := hJ.ok.tm
        have hyM := hJ.xm
        have T := Lib.hid (take_yes hat hI.ok hy hn)
        have HY := Lib.hid hyM
        have hle : n ≤ m := by omega
        have hm0 : 0 ≤ (nw + g) / e * f := Int.mul_nonneg (Int.ediv_nonneg (by omega) (by omega)) (by omega)
        have hm2 : (nw + g) / e * f ≤ 1073751824 * 1000 := Int.mul_le_mul (Int.le_trans (Int.ediv_le_self _ (by omega)) (by omega)) (by omega) (by omega) (by omega)
        obtain ⟨n1', n2'⟩ := hn
        clear hyM hym hI hy
        go_wp2_with (go_at_call 10; refine T.out.mono ?_; rintro en w3 ⟨rfl, hp⟩; have hc5 := hp.grown.cell hc4' HNE.out)
        go_roundw
        case rel => exact ⟨k + 1, nw + g, tk + n, { y with t := y.t - n }, by omega, by go_num, rfl, rfl, hJ.took ⟨n1', n2'⟩, hp.at_, below_put hB z1 hB.size hp, by rw [hp.size]; exact hz⟩
        case measure => simp [intOf]; omega
      · have T := Lib.hid (take_less hat hI.ok hy hn)
        have hm0 : 0 ≤ (nw + g) / e * f := Int.mul_nonneg (Int.ediv_nonneg (by omega) (by omega)) (by omega)
        have hm2 : (nw + g) / e * f ≤ 1073751824 * 1000 := Int.mul_le_mul (Int.le_trans (Int.ediv_le_self _ (by omega)) (by omega)) (by omega) (by omega) (by omega)
        clear hI hy hn
        go_wp2_with (go_at_call 10; refine T.out.mono ?_; rintro en w3 ⟨rfl, hp⟩; have hc5 := hp.grown.cell hc4' HNE.out)
        go_roundw
        case rel => exact ⟨k + 1, nw + g, tk, y, by omega, by go_num, rfl, rfl, hJ, hp.at_, below_put hB z1 hB.size hp, by rw [hp.size]; exact hz⟩
        case measure => simp [intOf]; omega
    · go_wp2
      go_ret
      exact ⟨rfl, hB⟩

theorem ints_of {w : World} {a : Option Addr} {len : Nat} {z : List Int} (y : len * 8 ≤ 140737488351232) (h : ∀ j, j < len → j < z.length ∧ ∃ ad, a = some ad ∧ w.cell? (ad.add j) = some (.int .i64 (z.getD j 0))) : Ints w a len z :=
  ⟨by omega, fun k hk => (h k hk).2⟩

theorem rate_walk (m : Int) (_ : (Lit.int .i64 m).wf = true) (f : Int) (_ : (Lit.int .i64 f).wf = true) (e : Int) (_ : (Lit.int .i64 e).wf = true)
    (a3 : Option Addr) (len3 cap3 : Nat) (z3 : List Int) (y3 : len3 * 8 ≤ 140737488351232) (_ : ∀ x ∈ z3, (Lit.int .i64 x).wf = true) {w : World} (h3 : ∀ j, j < len3 → j < z3.length ∧ ∃ ad, a3 = some ad ∧ w.cell? (ad.add j) = some (.int .i64 (z3.getD j 0)))
    (a4 : Option Addr) (len4 cap4 : Nat) (z4 : List Int) (y4 : len4 * 8 ≤ 140737488351232) (_ : ∀ x ∈ z4, (Lit.int .i64 x).wf = true) (h4 : ∀ j, j < len4 → j < z4.length ∧ ∃ ad, a4 = some ad ∧ w.cell? (ad.add j) = some (.int .i64 (z4.getD j 0))) (W : World) (hW : W = w) :
    Calls Try.prog 3 #[.int .i64 m, .int .i64 f, .int .i64 e, .slice a3 len3 cap3, .slice a4 len4 cap4] W fun en w' => en = .returned (.bool true) ∧ Below W.heap.size W w' := by
  subst hW
  by_cases h : Bad m f e
  · exact rate_bad m f e _ _ _ h
  · have h' : (1 ≤ m ∧ m ≤ 1000) ∧ (1 ≤ f ∧ f ≤ 1000) ∧ (1 ≤ e ∧ e ≤ 1000) := Classical.byContradiction h
    exact rate_good m f e a3 len3 cap3 z3 a4 len4 cap4 z4 _ h'.1 h'.2.1 h'.2.2 (ints_of y3 h3) (ints_of y4 h4)

end Go.Proofs.Ytmibjlcmphfbgaa
