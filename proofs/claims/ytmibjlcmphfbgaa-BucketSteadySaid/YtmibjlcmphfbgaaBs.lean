/- BucketSteady: the walk over the law: one token as soon as Wait says so comes to Fill tokens each Every ticks. -/
import Derived.Test.YtmibjlcmphfbgaaBl
set_option linter.unusedVariables false
namespace Go.Proofs.Ytmibjlcmphfbgaa
open Go.RowKit

def SGood (m f e n : Int) : Prop := (1 ≤ m ∧ m ≤ 50) ∧ (1 ≤ f ∧ f ≤ 50) ∧ (1 ≤ e ∧ e ≤ 1000) ∧ (1 ≤ n ∧ n ≤ 500)

set_option maxRecDepth 100000 in
set_option maxHeartbeats 4000000 in
theorem steady_bad (m f e n : Int) (w : World) (h : ¬ SGood m f e n) :
    Calls Try.prog 7 #[.int .i64 m, .int .i64 f, .int .i64 e, .int .i64 n] w fun en w' => en = .returned (.bool true) ∧ Below w.heap.size w w' := by
  have A := Lib.hid (anchor_any w)
  have HG := Lib.hid h
  clear h
  go_enter Try.func7, Try.ntmps7
  go_wp2_with (go_at_call 8; refine A.out.mono ?_; rintro e w1 ⟨rfl, hb⟩)
  all_goals first | (exfalso; have h := HG.out; unfold SGood at h; omega) | (go_ret; exact ⟨rfl, hb⟩)

/-- What holds between two rounds: c fillings so far, g tokens each. -/
structure SInv (m f e g i now c : Int) (x : S) : Prop where
  ok : x.ok
  xm : x.m = m
  xf : x.f = f
  xe : x.e = e
  xs : x.s = now
  xfl : x.fl = now
  nc : now = c * e
  tc : x.t = m + c * g - i
  tg : (c = 0) ∨ (1 ≤ c ∧ x.t < g)

structure SRound (m f e g i now c : Int) (x y z : S) (W d : Int) : Prop where
  wait : x.wait now 1 = W
  w0 : 0 ≤ W
  w1 : W ≤ 1000
  rk : x.rk now = some x
  rk2 : x.rk (now + W) = some y
  one : 1 ≤ y.t
  put : z = { y with t := y.t - 1 }
  inv : SInv m f e g (i + 1) (now + W) d z
  want : (i < m ∧ now + W = 0) ∨ (m ≤ i ∧ now + W = ((i - m) / g + 1) * e)

theorem SInv.round {m f e g i now c : Int} {x : S} (h : SInv m f e g i now c x) (hg : (f ≤ m ∧ g = f) ∨ (m < f ∧ g = m)) (he : e ≤ 1000) (hi : 0 ≤ i) (hn : now ≤ 1000000) : ∃ y z W d, SRound m f e g i now c x y z W d := by
  obtain ⟨ok, rfl, rfl, rfl, xs, xfl, nc, tc, tg⟩ := h
  obtain ⟨m1, m2, f1, f2, e1, e2, t0, tm, l0, ls, sb, near⟩ := id ok
  have c0 : 0 ≤ c := by rcases tg with h | h <;> omega
  have hcg : 0 ≤ c * g := Int.mul_nonneg c0 (by omega)
  have hrk : x.rk now = some x := by
    obtain ⟨y, k, hy, oy, ry⟩ := S.rk_some ok (now := now) (by omega) (by omega)
    have r0 : Rk x x now 0 := ⟨by omega, rfl, rfl, rfl, xs, by omega, by omega, by omega, .inr ⟨by omega, by omega⟩⟩
    rw [hy, Rk.uniq e1 r0 ry]
  have gpos : 1 ≤ g := by omega
  by_cases ht : 1 ≤ x.t
  · refine ⟨x, _, 0, c, by unfold S.wait; rw [if_pos ht], by omega, by omega, hrk, by rw [Int.add_zero]; exact hrk, ht, rfl, ⟨?_, rfl, rfl, rfl, by simp only; omega, by simp only; omega, by omega, by simp only; omega, ?_⟩, ?_⟩
    · constructor <;> simp only <;> omega
    · rcases tg with h | ⟨h, h'⟩
      · exact .inl h
      · exact .inr ⟨h, by simp only; omega⟩
    · rcases tg with h | ⟨h, h'⟩
      · left
        subst h
        constructor
        · rw [Int.zero_mul] at tc; omega
        · rw [nc, Int.zero_mul]; rfl
      · right
        have hc1 : 0 ≤ (c - 1) * g := Int.mul_nonneg (by omega) (by omega)
        rw [Int.sub_mul, Int.one_mul] at hc1
        refine ⟨by omega, ?_⟩
        have : (i - x.m) / g = c - 1 := by
          have : i - x.m = (g - x.t) + (c - 1) * g := by rw [Int.sub_mul, Int.one_mul]; omega
          rw [this, Int.add_mul_ediv_right _ _ (by omega), Int.ediv_eq_zero_of_lt (by omega) (by omega)]
          omega
        rw [this, nc]
        simp
  · have ht0 : x.t = 0 := by omega
    have hw : x.wait now 1 = x.e := by
      unfold S.wait
      rw [if_neg ht, if_neg (by omega), ht0, show (1 - 0 + x.f - 1 : Int) = x.f from by omega, Int.ediv_self (by omega)]
      omega
    obtain ⟨y, k, hy, oy, ry⟩ := S.rk_some ok (now := now + x.e) (by omega) (by omega)
    have hk : k = 1 := by
      have h1 := ry.le
      have h2 := ry.lt
      have h3 : k * x.e ≤ 1 * x.e := by omega
      have h4 : 1 * x.e < (k + 1) * x.e := by rw [Int.add_mul, Int.one_mul]; omega
      have := mul_le_cancel (by omega) h3
      have := mul_lt_cancel (by omega) h4
      omega
    subst hk
    obtain ⟨_, ym, yf, ye, ys, yfl, _, _, yt⟩ := ry
    have hyt : y.t = g := by rcases yt with ⟨h1, h2⟩ | ⟨h1, h2⟩ <;> omega
    refine ⟨y, _, x.e, c + 1, hw, by omega, by omega, hrk, hy, by omega, rfl, ⟨?_, by simp only; omega, by simp only; omega, by simp only; omega, by simp only; omega, by simp only; omega, ?_, ?_, ?_⟩, ?_⟩
    · obtain ⟨a1, a2, a3, a4, a5, a6, a7, a8, a9, b1, b2, b3⟩ := oy
      constructor <;> simp only <;> omega
    · rw [nc, Int.add_mul, Int.one_mul]
    · simp only; rw [Int.add_mul, Int.one_mul]; omega
    · exact .inr ⟨by omega, by simp only; omega⟩
    · right
      refine ⟨by omega, ?_⟩
      have : (i - x.m) / g = c := by
        have : i - x.m = c * g := by omega
        rw [this, Int.mul_ediv_cancel _ (by omega)]
      rw [this, nc, Int.add_mul, Int.one_mul]

theorem beq_of {a b : Int} (h : a = b) : (a != b) = false := by simp [h]

theorem SInv.bound {m f e g i now c : Int} {x : S} (h : SInv m f e g i now c x) (hg : 1 ≤ g) (hm : 1 ≤ m) (he : 1 ≤ e) (he2 : e ≤ 1000) (hi : i ≤ 500) (hi0 : 0 ≤ i) : 0 ≤ now ∧ now ≤ 500000 := by
  obtain ⟨ok, rfl, rfl, rfl, xs, xfl, nc, tc, tg⟩ := h
  have c0 : 0 ≤ c := by rcases tg with h | h <;> omega
  have c5 : c ≤ 500 := by
    rcases tg with h | ⟨h, h'⟩
    · omega
    · have h1 : (c - 1) * 1 ≤ (c - 1) * g := Int.mul_le_mul_of_nonneg_left hg (by omega)
      rw [Int.sub_mul c 1 g, Int.one_mul] at h1
      omega
  have : c * x.e ≤ 500 * 1000 := Int.mul_le_mul c5 he2 (by omega) (by omega)
  have := Int.mul_nonneg c0 (show 0 ≤ x.e by omega)
  omega

set_option maxRecDepth 100000 in
set_option maxHeartbeats 4000000 in
theorem steady_good (m f e n g : Int) (w : World) (h : SGood m f e n) (hg : (f ≤ m ∧ g = f) ∨ (m < f ∧ g = m)) :
    Calls Try.prog 7 #[.int .i64 m, .int .i64 f, .int .i64 e, .int .i64 n] w fun en w' => en = .returned (.bool true) ∧ Below w.heap.size w w' := by
  have A := Lib.hid (anchor_any w)
  obtain ⟨⟨m1, m2⟩, ⟨f1, f2⟩, ⟨e1, e2⟩, ⟨n1, n2⟩⟩ := h
  have gd : good m f e := by unfold good; omega
  have o0 := Lib.hid (S.new_ok (now := 0) gd (by omega) (by omega))
  have N := fun w => Lib.hid (new_good m f e 0 w gd (by omega))
  have HG := Lib.hid hg
  have g1 : 1 ≤ g := by omega
  have g2 : g ≤ 50 := by omega
  clear gd hg
  go_enter Try.func7, Try.ntmps7
  go_wp2_with (go_at_call 8; refine A.out.mono ?_; rintro en w1 ⟨rfl, hb⟩)
  go_wp2_with fail
  refine (N _).out.mono ?_
  rintro en w2 ⟨rfl, hM⟩
  go_wp2
  have b0 : Below w.heap.size w w2 := hb.trans (hM.below.mono hb.size)
  have z1 : w.heap.size ≤ w1.heap.size := hb.size
  have hat := hM.at_
  clear hM hb
  generalize w1.heap.size = B at *
  go_loopw [11, 12] (fun now i wr => ∃ (k : Nat) (nw c : Int) (x : S), (k : Int) ≤ n ∧ i = .int .i64 k ∧ now = .int .i64 nw ∧ SInv m f e g k nw c x ∧ At wr B x ∧ Below w.heap.size w wr) (fun _ i _ => (n - intOf i).toNat)
  case atStart => exact ⟨0, 0, 0, S.new m f e 0, by omega, rfl, rfl, ⟨o0.out, rfl, rfl, rfl, rfl, rfl, by omega, by simp [S.new], .inl rfl⟩, hat, b0⟩
  case round =>
    clear hat b0
    obtain ⟨k, nw, c, x, hk, rfl, rfl, hI, hat, hB⟩ := hrel
    by_cases hlt : (k : Int) < n
    · obtain ⟨nw0, nw1⟩ := hI.bound g1 m1 e1 e2 (by omega) (by omega)
      obtain ⟨y, z, W, d, hR⟩ := hI.round HG.out e2 (by omega) (by omega)
      have V := fun (w : World) (h : At w B x) => Lib.hid (wait_yes (n := 1) h hI.ok hR.rk hI.xs)
      rw [hR.wait] at V
      have T := fun (w : World) (h : At w B x) => Lib.hid (take_yes h hI.ok hR.rk2 ⟨Int.le_refl 1, hR.one⟩)
      rw [← hR.put] at T
      have w0 := hR.w0
      have w1 := hR.w1
      have HR := Lib.hid hR
      have hw := hR.want
      have HJ := Lib.hid hR.inv
      clear hR hI
      have sw := hB.size
      by_cases him : (k : Int) < m
      · have hz : W = 0 := by omega
        have hz' : nw = 0 := by omega
        subst hz hz'
        clear hw
        go_wp2_with fail
        refine (V _ hat).out.mono ?_
        rintro en w7 ⟨rfl, hp7⟩
        have b7 := below_put hB z1 sw hp7
        have sw : w.heap.size ≤ w7.heap.size := by rw [hp7.size]; exact sw
        have aa := hp7.at_
        clear hp7
        go_wp2_with fail
        refine (T _ aa).out.mono ?_
        rintro en w8 ⟨rfl, hp8⟩
        have b8 := below_put b7 z1 sw hp8
        have aa := hp8.at_
        clear hp8 b7
        go_wp2
        go_roundw
        case rel => exact ⟨k + 1, _, d, z, by omega, by go_num, rfl, HJ.out, aa, b8⟩
        case measure => simp [intOf]; omega
      · have hw' : nw + W = ((k - m) / g + 1) * e := by omega
        have q0 : 0 ≤ ((k : Int) - m) / g := Int.ediv_nonneg (by omega) (by omega)
        have q1 : ((k : Int) - m) / g ≤ k - m := Int.ediv_le_self _ (by omega)
        have HW := Lib.hid hw'
        clear hw hw'
        go_wp2_with fail
        refine (V _ hat).out.mono ?_
        rintro en w7 ⟨rfl, hp7⟩
        have b7 := below_put hB z1 sw hp7
        have sw : w.heap.size ≤ w7.heap.size := by rw [hp7.size]; exact sw
        have aa := hp7.at_
        clear hp7
        go_wp2_with fail
        refine (T _ aa).out.mono ?_
        rintro en w8 ⟨rfl, hp8⟩
        have b8 := below_put b7 z1 sw hp8
        have aa := hp8.at_
        clear hp8 b7
        have hv := HW.out
        have p0 : 0 ≤ ((k - m) / g + 1) * e := Int.mul_nonneg (by omega) (by omega)
        have p1 : ((k - m) / g + 1) * e ≤ 600000 := by omega
        rcases HG.out with ⟨hfm, hgf⟩ | ⟨hfm, hgf⟩
        all_goals
          rw [hgf] at q0 q1 p0 p1 hv
          have hq := beq_of hv
          have HGF := Lib.hid hgf
          clear hv hgf HG
          go_wp2
          go_roundw
          case rel => exact ⟨k + 1, _, d, z, by omega, by go_num, rfl, HJ.out, aa, b8⟩
          case measure => simp [intOf]; omega
    · go_wp2
      go_ret
      exact ⟨rfl, hB⟩

theorem steady_walk (m : Int) (_ : (Lit.int .i64 m).wf = true) (f : Int) (_ : (Lit.int .i64 f).wf = true) (e : Int) (_ : (Lit.int .i64 e).wf = true) (n : Int) (_ : (Lit.int .i64 n).wf = true) (W : World) {w : World} (hW : W = w) :
    Calls Try.prog 7 #[.int .i64 m, .int .i64 f, .int .i64 e, .int .i64 n] W fun en w' => en = .returned (.bool true) ∧ Below W.heap.size W w' := by
  by_cases h : SGood m f e n
  · by_cases hf : f ≤ m
    · exact steady_good m f e n f W h (.inl ⟨hf, rfl⟩)
    · exact steady_good m f e n m W h (.inr ⟨by omega, rfl⟩)
  · exact steady_bad m f e n W h

end Go.Proofs.Ytmibjlcmphfbgaa
