/- BucketWaits: the walk over the law. -/
import Derived.Test.YtmibjlcmphfbgaaBx
set_option linter.unusedVariables false
namespace Go.Proofs.Ytmibjlcmphfbgaa
open Go.RowKit

set_option maxRecDepth 100000 in
set_option maxHeartbeats 4000000 in
theorem waits_good (m f e t n l : Int) (w : World) (h : WGood m f e t l) :
    Calls Try.prog 5 #[.int .i64 m, .int .i64 f, .int .i64 e, .int .i64 t, .int .i64 n, .int .i64 l] w fun en w' => en = .returned (.bool true) ∧ Below w.heap.size w w' := by
  have A := Lib.hid (anchor_any w)
  obtain ⟨⟨m1, m2⟩, ⟨f1, f2⟩, ⟨e1, e2⟩, ⟨l0, l1⟩, t1, t2⟩ := h
  have gd : good m f e := by unfold good; omega
  have o0 : (S.new m f e 0).ok := S.new_ok gd (by omega) (by omega)
  have r0 : (S.new m f e 0).rk 0 = some (S.new m f e 0) := by simp [S.rk, S.new]
  have hn0 : 1 ≤ t ∧ t ≤ (S.new m f e 0).t := ⟨t1, t2⟩
  have o1 : ({ S.new m f e 0 with t := (S.new m f e 0).t - t } : S).ok := by
    obtain ⟨a1, a2, a3, a4, a5, a6, a7, a8, a9, b1, b2, b3⟩ := o0
    constructor <;> simp only [S.new] at * <;> omega
  have N := fun w => Lib.hid (new_good m f e 0 w gd (by omega))
  have T := fun (w : World) b (h : At w b (S.new m f e 0)) => Lib.hid (take_yes h o0 r0 hn0)
  have hxm : ({ S.new m f e 0 with t := (S.new m f e 0).t - t } : S).m = m := rfl
  have hxe : ({ S.new m f e 0 with t := (S.new m f e 0).t - t } : S).e = e := rfl
  have hxs : ({ S.new m f e 0 with t := (S.new m f e 0).t - t } : S).s = 0 := rfl
  generalize ({ S.new m f e 0 with t := (S.new m f e 0).t - t } : S) = x at *
  obtain ⟨y, k, hy, oy, ry⟩ := S.rk_some (now := l) o1 (by omega) (by omega)
  have hym := ry.m
  have hye := ry.e
  have hys := ry.s
  have Wt := fun (w : World) b (h : At w b x) => Lib.hid (wait_yes (n := n) h o1 hy hys)
  clear r0 hn0 gd
  by_cases c1 : m < n
  · have hW : y.wait l n = -1 := by unfold S.wait; rw [if_neg (by have := oy.tm; omega), if_pos (by omega)]
    rw [hW] at Wt
    clear hW
    have G1 := Lib.hid o0; have G2 := Lib.hid o1; have G3 := Lib.hid hxm; have G4 := Lib.hid hxe; have G5 := Lib.hid hxs; have G6 := Lib.hid hy; have G7 := Lib.hid ry; have G8 := Lib.hid hym; have G9 := Lib.hid hye; have G10 := Lib.hid hys; have G11 := Lib.hid oy
    clear o0 o1 hxm hxe hxs hy ry hym hye hys oy
    go_enter Try.func5, Try.ntmps5
    go_wp2_with (go_at_call 8; refine A.out.mono ?_; rintro en w1 ⟨rfl, hb1⟩)
    go_wp2_with fail
    refine (N _).out.mono ?_
    rintro en w2 ⟨rfl, hM2⟩
    go_wp2_with fail
    refine (N _).out.mono ?_
    rintro en w3 ⟨rfl, hM3⟩
    have b2 : Below w.heap.size w w2 := hb1.trans (hM2.below.mono hb1.size)
    have z2 := hM2.size
    have z3 := hM3.size
    have z1 := hb1.size
    have b3 : Below w.heap.size w w3 := b2.trans (hM3.below.mono (by omega))
    have aa := at_below hM2.at_ hM3.below
    have ab := hM3.at_
    have hne : w1.heap.size ≠ w2.heap.size := by omega
    have sa : w.heap.size ≤ w1.heap.size := z1
    have sb : w.heap.size ≤ w2.heap.size := by omega
    have sw : w.heap.size ≤ w3.heap.size := by omega
    clear z1 z2 z3 hb1 hM2 hM3 b2
    have HN := Lib.hid hne
    clear hne
    generalize w1.heap.size = a at *
    generalize w2.heap.size = b at *
    go_wp2_with fail
    refine (T _ a aa).out.mono ?_
    rintro en w4 ⟨rfl, hp4⟩
    have ab := at_other ab hp4 (Ne.symm HN.out)
    have b4 := below_put b3 sa sw hp4
    have sw : w.heap.size ≤ w4.heap.size := by rw [hp4.size]; exact sw
    have aa := hp4.at_
    clear hp4
    go_wp2_with fail
    refine (T _ b ab).out.mono ?_
    rintro en w5 ⟨rfl, hp5⟩
    have aa := at_other aa hp5 HN.out
    have b5 := below_put b4 sb sw hp5
    have sw : w.heap.size ≤ w5.heap.size := by rw [hp5.size]; exact sw
    have ab := hp5.at_
    clear hp5
    go_wp2_with fail
    refine (Wt _ a aa).out.mono ?_
    rintro en w6 ⟨rfl, hp6⟩
    have ab := at_other ab hp6 (Ne.symm HN.out)
    have b6 := below_put b5 sa sw hp6
    have sw : w.heap.size ≤ w6.heap.size := by rw [hp6.size]; exact sw
    have aa := hp6.at_
    clear hp6
    go_wp2
    go_ret
    exact ⟨rfl, b6⟩
  by_cases c2 : n ≤ y.t
  · have hW : y.wait l n = 0 := by unfold S.wait; rw [if_pos c2]
    rw [hW] at Wt
    have K := fun (w : World) b (h : At w b x) => Lib.hid (tokens_yes h o1 hy)
    clear hW
    have G1 := Lib.hid o0; have G2 := Lib.hid o1; have G3 := Lib.hid hxm; have G4 := Lib.hid hxe; have G5 := Lib.hid hxs; have G6 := Lib.hid hy; have G7 := Lib.hid ry; have G8 := Lib.hid hym; have G9 := Lib.hid hye; have G10 := Lib.hid hys; have G11 := Lib.hid oy
    clear o0 o1 hxm hxe hxs hy ry hym hye hys oy
    go_enter Try.func5, Try.ntmps5
    go_wp2_with (go_at_call 8; refine A.out.mono ?_; rintro en w1 ⟨rfl, hb1⟩)
    go_wp2_with fail
    refine (N _).out.mono ?_
    rintro en w2 ⟨rfl, hM2⟩
    go_wp2_with fail
    refine (N _).out.mono ?_
    rintro en w3 ⟨rfl, hM3⟩
    have b2 : Below w.heap.size w w2 := hb1.trans (hM2.below.mono hb1.size)
    have z2 := hM2.size
    have z3 := hM3.size
    have z1 := hb1.size
    have b3 : Below w.heap.size w w3 := b2.trans (hM3.below.mono (by omega))
    have aa := at_below hM2.at_ hM3.below
    have ab := hM3.at_
    have hne : w1.heap.size ≠ w2.heap.size := by omega
    have sa : w.heap.size ≤ w1.heap.size := z1
    have sb : w.heap.size ≤ w2.heap.size := by omega
    have sw : w.heap.size ≤ w3.heap.size := by omega
    clear z1 z2 z3 hb1 hM2 hM3 b2
    have HN := Lib.hid hne
    clear hne
    generalize w1.heap.size = a at *
    generalize w2.heap.size = b at *
    go_wp2_with fail
    refine (T _ a aa).out.mono ?_
    rintro en w4 ⟨rfl, hp4⟩
    have ab := at_other ab hp4 (Ne.symm HN.out)
    have b4 := below_put b3 sa sw hp4
    have sw : w.heap.size ≤ w4.heap.size := by rw [hp4.size]; exact sw
    have aa := hp4.at_
    clear hp4
    go_wp2_with fail
    refine (T _ b ab).out.mono ?_
    rintro en w5 ⟨rfl, hp5⟩
    have aa := at_other aa hp5 HN.out
    have b5 := below_put b4 sb sw hp5
    have sw : w.heap.size ≤ w5.heap.size := by rw [hp5.size]; exact sw
    have ab := hp5.at_
    clear hp5
    go_wp2_with fail
    refine (Wt _ a aa).out.mono ?_
    rintro en w6 ⟨rfl, hp6⟩
    have ab := at_other ab hp6 (Ne.symm HN.out)
    have b6 := below_put b5 sa sw hp6
    have sw : w.heap.size ≤ w6.heap.size := by rw [hp6.size]; exact sw
    have aa := hp6.at_
    clear hp6
    go_wp2_with fail
    refine (K _ b ab).out.mono ?_
    rintro en w7 ⟨rfl, hp7⟩
    have b7 := below_put b6 sb sw hp7
    go_wp2
    go_ret
    exact ⟨by simp, b7⟩
  · have hWa := S.wait_long oy hys (by omega) (show n ≤ y.m by omega)
    have h1 := hWa.pos
    have h2 := hWa.most
    have h3 : (n - y.t) * y.e ≤ 1000 * 1000 := Int.mul_le_mul (by have := oy.t0; omega) (by omega) (by have := oy.e1; omega) (by omega)
    have h4 := hWa.early
    have h5 := hWa.late x
    generalize y.wait l n = W at *
    obtain ⟨z, kz, hz, oz, rz⟩ := S.rk_some (now := l + W - 1) oy (by omega) (by omega)
    obtain ⟨v, kv, hv, ov, rv⟩ := S.rk_some (now := l + W) o1 (by omega) (by omega)
    have hzn := h4 z kz rz
    have hvn := h5 v k kv ry rv
    have K := fun (w : World) b (h : At w b y) => Lib.hid (tokens_yes h oy hz)
    have K2 := fun (w : World) b (h : At w b x) => Lib.hid (tokens_yes h o1 hv)
    have hWm : W ≤ 2000000 := by omega
    clear h4 h5 hWa h2 h3 hz oz rz hv ov rv c2
    have G1 := Lib.hid o0; have G2 := Lib.hid o1; have G3 := Lib.hid hxm; have G4 := Lib.hid hxe; have G5 := Lib.hid hxs; have G6 := Lib.hid hy; have G7 := Lib.hid ry; have G8 := Lib.hid hym; have G9 := Lib.hid hye; have G10 := Lib.hid hys; have G11 := Lib.hid oy
    clear o0 o1 hxm hxe hxs hy ry hym hye hys oy
    go_enter Try.func5, Try.ntmps5
    go_wp2_with (go_at_call 8; refine A.out.mono ?_; rintro en w1 ⟨rfl, hb1⟩)
    go_wp2_with fail
    refine (N _).out.mono ?_
    rintro en w2 ⟨rfl, hM2⟩
    go_wp2_with fail
    refine (N _).out.mono ?_
    rintro en w3 ⟨rfl, hM3⟩
    have b2 : Below w.heap.size w w2 := hb1.trans (hM2.below.mono hb1.size)
    have z2 := hM2.size
    have z3 := hM3.size
    have z1 := hb1.size
    have b3 : Below w.heap.size w w3 := b2.trans (hM3.below.mono (by omega))
    have aa := at_below hM2.at_ hM3.below
    have ab := hM3.at_
    have hne : w1.heap.size ≠ w2.heap.size := by omega
    have sa : w.heap.size ≤ w1.heap.size := z1
    have sb : w.heap.size ≤ w2.heap.size := by omega
    have sw : w.heap.size ≤ w3.heap.size := by omega
    clear z1 z2 z3 hb1 hM2 hM3 b2
    have HN := Lib.hid hne
    clear hne
    generalize w1.heap.size = a at *
    generalize w2.heap.size = b at *
    go_wp2_with fail
    refine (T _ a aa).out.mono ?_
    rintro en w4 ⟨rfl, hp4⟩
    have ab := at_other ab hp4 (Ne.symm HN.out)
    have b4 := below_put b3 sa sw hp4
    have sw : w.heap.size ≤ w4.heap.size := by rw [hp4.size]; exact sw
    have aa := hp4.at_
    clear hp4
    go_wp2_with fail
    refine (T _ b ab).out.mono ?_
    rintro en w5 ⟨rfl, hp5⟩
    have aa := at_other aa hp5 HN.out
    have b5 := below_put b4 sb sw hp5
    have sw : w.heap.size ≤ w5.heap.size := by rw [hp5.size]; exact sw
    have ab := hp5.at_
    clear hp5
    go_wp2_with fail
    refine (Wt _ a aa).out.mono ?_
    rintro en w6 ⟨rfl, hp6⟩
    have ab := at_other ab hp6 (Ne.symm HN.out)
    have b6 := below_put b5 sa sw hp6
    have sw : w.heap.size ≤ w6.heap.size := by rw [hp6.size]; exact sw
    have aa := hp6.at_
    clear hp6
    go_wp2_with fail
    refine (K _ a aa).out.mono ?_
    rintro en w7 ⟨rfl, hp7⟩
    have ab := at_other ab hp7 (Ne.symm HN.out)
    have b7 := below_put b6 sa sw hp7
    have sw : w.heap.size ≤ w7.heap.size := by rw [hp7.size]; exact sw
    clear hp7
    go_wp2_with fail
    refine (K2 _ b ab).out.mono ?_
    rintro en w8 ⟨rfl, hp8⟩
    have b8 := below_put b7 sb sw hp8
    go_wp2
    go_ret
    exact ⟨by simp, b8⟩

theorem waits_walk (m : Int) (_ : (Lit.int .i64 m).wf = true) (f : Int) (_ : (Lit.int .i64 f).wf = true) (e : Int) (_ : (Lit.int .i64 e).wf = true) (t : Int) (_ : (Lit.int .i64 t).wf = true)
    (n : Int) (_ : (Lit.int .i64 n).wf = true) (l : Int) (_ : (Lit.int .i64 l).wf = true) (W : World) {w : World} (hW : W = w) :
    Calls Try.prog 5 #[.int .i64 m, .int .i64 f, .int .i64 e, .int .i64 t, .int .i64 n, .int .i64 l] W fun en w' => en = .returned (.bool true) ∧ Below W.heap.size W w' := by
  by_cases h : WGood m f e t l
  · exact waits_good m f e t n l W h
  · exact waits_bad m f e t n l W h

end Go.Proofs.Ytmibjlcmphfbgaa
