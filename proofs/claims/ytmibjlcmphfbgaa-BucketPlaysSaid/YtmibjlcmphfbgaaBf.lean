/- The contracts of the document's own bucket (filling by filling): it reckons as the program's bucket does, for every bucket in its bounds. -/
import Derived.Test.YtmibjlcmphfbgaaBl
set_option linter.unusedVariables false
namespace Go.Proofs.Ytmibjlcmphfbgaa
open Go.RowKit

/-- Some fillings, not all that are due. -/
structure Pr (x y : S) (now c : Int) : Prop where
  c0 : 0 ≤ c
  m : y.m = x.m
  f : y.f = x.f
  e : y.e = x.e
  s : y.s = now
  fl : y.fl = x.fl + c * x.e
  le : y.fl ≤ now
  t0 : 0 ≤ y.t
  tm : y.t ≤ x.m
  t : (y.t = x.m ∧ x.m ≤ x.t + c * x.f) ∨ (y.t = x.t + c * x.f ∧ x.t + c * x.f ≤ x.m)

theorem Pr.rk {x y z : S} {now c : Int} (hx : x.ok) (h : Pr x y now c) (hn : now < y.fl + x.e) (hr : x.rk now = some z) : y = z := by
  obtain ⟨k, hk⟩ := S.rk_rk hx hr
  exact Rk.uniq hx.e1 ⟨h.c0, h.m, h.f, h.e, h.s, h.fl, by have := h.fl; have := h.le; omega, by have := h.fl; omega, h.t⟩ hk

theorem Pr.over {x y : S} {now c : Int} (h : Pr x y now c) (hx : x.ok) (hd : y.fl ≤ now - x.e) (ho : x.m < y.t + x.f) : Pr x { ({ ({ y with fl := y.fl + x.e } : S) with t := y.t + x.f } : S) with t := x.m } now (c + 1) := by
  obtain ⟨p0, pm, pf, pe, ps, pfl, ple, pt0, ptm, pt⟩ := h
  have := hx.m1
  have hf := hx.f1
  refine ⟨by omega, pm, pf, pe, ps, ?_, by simp only; omega, by simp only; omega, Int.le_refl _, .inl ⟨rfl, ?_⟩⟩
  · simp only; rw [Int.add_mul, Int.one_mul]; omega
  · rw [Int.add_mul, Int.one_mul]
    have : 0 ≤ c * x.f := Int.mul_nonneg p0 (by omega)
    have := hx.t0
    rcases pt with ⟨h1, h2⟩ | ⟨h1, h2⟩ <;> omega

theorem Pr.under {x y : S} {now c : Int} (h : Pr x y now c) (hx : x.ok) (hd : y.fl ≤ now - x.e) (ho : ¬ x.m < y.t + x.f) : Pr x { ({ y with fl := y.fl + x.e } : S) with t := y.t + x.f } now (c + 1) := by
  obtain ⟨p0, pm, pf, pe, ps, pfl, ple, pt0, ptm, pt⟩ := h
  have hf := hx.f1
  refine ⟨by omega, pm, pf, pe, ps, ?_, by simp only; omega, by simp only; omega, by simp only; omega, ?_⟩
  · simp only; rw [Int.add_mul, Int.one_mul]; omega
  · simp only
    rw [Int.add_mul, Int.one_mul]
    rcases pt with ⟨h1, h2⟩ | ⟨h1, h2⟩ <;> omega

theorem Pr.fin {x y z : S} {now c t : Int} (h : Pr x y now c) (hx : x.ok) (hr : x.rk now = some z)
    (ht : (t = x.m ∧ x.m ≤ y.t + (now - y.fl) / x.e * x.f) ∨ (t = y.t + (now - y.fl) / x.e * x.f ∧ t ≤ x.m)) :
    z = { y with t := t, fl := y.fl + (now - y.fl) / x.e * x.e } := by
  obtain ⟨m1, m2, f1, f2, e1, e2, t0, tm, l0, ls, sb, near⟩ := id hx
  obtain ⟨p0, pm, pf, pe, ps, pfl, ple, pt0, ptm, pt⟩ := h
  have q0 : 0 ≤ (now - y.fl) / x.e := Int.ediv_nonneg (by omega) (by omega)
  have q1 : (now - y.fl) / x.e * x.e ≤ now - y.fl := Int.ediv_mul_le _ (by omega)
  have q2 : 0 ≤ (now - y.fl) / x.e * x.e := Int.mul_nonneg q0 (by omega)
  have q3 : now - y.fl < (now - y.fl) / x.e * x.e + x.e := by
    have := Int.lt_ediv_add_one_mul_self (now - y.fl) (show 0 < x.e by omega)
    rw [Int.add_mul, Int.one_mul] at this
    exact this
  have q4 : 0 ≤ (now - y.fl) / x.e * x.f := Int.mul_nonneg q0 (by omega)
  refine (Pr.rk (c := c + (now - y.fl) / x.e) hx ?_ ?_ hr).symm
  · refine ⟨by omega, pm, pf, pe, ps, ?_, by simp only; omega, ?_, ?_, ?_⟩
    · simp only; rw [Int.add_mul]; omega
    · simp only; rcases ht with ⟨h1, h2⟩ | ⟨h1, h2⟩ <;> omega
    · simp only; rcases ht with ⟨h1, h2⟩ | ⟨h1, h2⟩ <;> omega
    · simp only
      rw [Int.add_mul]
      rcases ht with ⟨h1, h2⟩ | ⟨h1, h2⟩ <;> rcases pt with ⟨h3, h4⟩ | ⟨h3, h4⟩ <;> omega
  · simp only; omega

set_option maxRecDepth 100000 in
theorem ref_no (b : Nat) (x : S) (now : Int) (w : World) (h : At w b x) (hr : x.rk now = none) :
    Calls Try.prog 19 #[.pointer (some ⟨b, 0, none⟩), .int .i64 now] w fun e w' => e = .returned (.int .i64 20) ∧ w = w' := by
  obtain ⟨c0, c1, c2, c3, c4, c5, f0, f1, f2, f3, f4, f5⟩ := h
  have hc : ¬ (x.s ≤ now ∧ now ≤ 1099511627776) := by intro hc; unfold S.rk at hr; rw [if_pos hc] at hr; cases hr
  clear hr
  by_cases h1 : now < x.s
  · clear hc
    go_enter Try.func19, Try.ntmps19
    go_wp2
    go_ret
    exact ⟨rfl, rfl⟩
  · have h2 : 1099511627776 < now := by omega
    clear hc
    go_enter Try.func19, Try.ntmps19
    go_wp2
    go_ret
    exact ⟨rfl, rfl⟩

set_option maxRecDepth 100000 in
set_option maxHeartbeats 4000000 in
theorem ref_some (b : Nat) (x z : S) (now : Int) (w : World) (h : At w b x) (hx : x.ok) (hr : x.rk now = some z) :
    Calls Try.prog 19 #[.pointer (some ⟨b, 0, none⟩), .int .i64 now] w fun e w' => e = .returned (.int .i64 0) ∧ Put b z w w' := by
  have hc : x.s ≤ now ∧ now ≤ 1099511627776 := by
    unfold S.rk at hr
    split at hr
    · assumption
    · cases hr
  have HR := Lib.hid hr
  have HX := Lib.hid hx
  have hp0 := put_set5 h now
  obtain ⟨c0, c1, c2, c3, c4, c5, f0, f1, f2, f3, f4, f5⟩ := h
  obtain ⟨m1, m2, fp1, fp2, e1, e2, t0, tm, l0, ls, sb, near⟩ := hx
  obtain ⟨hs, hn⟩ := hc
  have HP0 := Lib.hid hp0
  clear hr hp0
  go_enter Try.func19, Try.ntmps19
  go_wp2
  go_loopw [5] (fun i wr => ∃ (k : Nat) (c : Int) (y : S), k ≤ 100 ∧ i = .int .i64 k ∧ Pr x y now c ∧ Put b y w wr) (fun i _ => 100 - (intOf i).toNat)
  case atStart => exact ⟨0, 0, { x with s := now }, by omega, rfl, ⟨by omega, rfl, rfl, rfl, rfl, by simp, by simp only; omega, t0, tm, .inr ⟨by simp, by omega⟩⟩, HP0.out⟩
  case round =>
    clear c0 c1 c2 c3 c4 c5 f0 f1 f2 f3 f4 f5
    obtain ⟨k, c, y, hk, rfl, hP, hp⟩ := hrel
    have HP := Lib.hid hP
    obtain ⟨c0, c1, c2, c3, c4, c5, f0, f1, f2, f3, f4, f5⟩ := hp.at_
    obtain ⟨p0, pm, pf, pe, ps, pfl, ple, pt0, ptm, pt⟩ := hP
    rw [pm] at c0
    rw [pf] at c1
    rw [pe] at c2
    rw [ps] at c5
    have q1 : 0 ≤ c * x.e := Int.mul_nonneg p0 (by omega)
    have hl0 : 0 ≤ y.fl := by omega
    clear pm pf pe ps pfl pt
    have q2 : 0 ≤ (now - y.fl) / x.e := Int.ediv_nonneg (by omega) (by omega)
    have q3 : (now - y.fl) / x.e ≤ now - y.fl := Int.ediv_le_self _ (by omega)
    have q4 : 0 ≤ (now - y.fl) / x.e * x.e := Int.mul_nonneg q2 (by omega)
    have q5 : (now - y.fl) / x.e * x.e ≤ now - y.fl := Int.ediv_mul_le _ (by omega)
    by_cases hlt : k < 100
    · have hg : decide ((k : Int) < 100) = true := by simp; omega
      by_cases hdue : y.fl ≤ now - x.e
      · clear q2 q3 q4 q5
        by_cases hover : x.m < y.t + x.f
        · go_wp2
          go_quiet (fail)
          clear hg
          go_wp2
          go_region
          all_goals go_wp2
          all_goals go_region
          all_goals go_wp2
          all_goals try go_quiet (fail)
          all_goals go_wp2
          all_goals go_roundw
          case rel => exact ⟨k + 1, c + 1, _, by omega, by go_num, HP.out.over HX.out hdue hover, put_like (put_trans hp (put_trans (put_set4 hp.at_ _) (put_trans (put_set3 (put_set4 hp.at_ _).at_ (y.t + x.f)) (put_set3 (put_set3 (put_set4 hp.at_ _).at_ (y.t + x.f)).at_ x.m)))) ⟨rfl, rfl, rfl, rfl⟩⟩
          case measure => simp [intOf]; omega
        · go_wp2
          go_quiet (fail)
          clear hg
          go_wp2
          go_region
          all_goals go_wp2
          all_goals go_region
          all_goals go_wp2
          all_goals try go_quiet (fail)
          all_goals go_wp2
          all_goals go_roundw
          case rel => exact ⟨k + 1, c + 1, _, by omega, by go_num, HP.out.under HX.out hdue (by omega), put_like (put_trans hp (put_trans (put_set4 hp.at_ _) (put_set3 (put_set4 hp.at_ _).at_ (y.t + x.f)))) ⟨rfl, rfl, rfl, rfl⟩⟩
          case measure => simp [intOf]; omega
      · have hz := HP.out.fin HX.out HR.out (t := y.t) (.inr ⟨by
          have : (now - y.fl) / x.e = 0 := Int.ediv_eq_zero_of_lt (by omega) (by omega)
          rw [this]; omega, ptm⟩)
        have hq : ¬ 0 < (now - y.fl) / x.e := by
          have : (now - y.fl) / x.e = 0 := Int.ediv_eq_zero_of_lt (by omega) (by omega)
          omega
        have hgq : decide (0 < (now - y.fl) / x.e) = false := by simpa using hq
        have HZ := Lib.hid hz
        clear hz
        go_wp2
        go_quiet (fail)
        clear hg
        go_wp2
        go_quiet (fail)
        go_wp2
        go_quiet (fail)
        go_wp2
        go_region
        all_goals go_wp2
        all_goals try go_quiet (fail)
        all_goals go_wp2
        all_goals go_ret
        all_goals exact ⟨rfl, by rw [HZ.out]; exact put_like (put_trans hp (put_set4 hp.at_ _)) ⟨rfl, rfl, rfl, rfl⟩⟩
    · have hg : decide ((k : Int) < 100) = false := by simp; omega
      by_cases hq : 0 < (now - y.fl) / x.e
      · have hgq : decide (0 < (now - y.fl) / x.e) = true := by simpa using hq
        have r0 : 0 ≤ (x.m - y.t) / x.f := Int.ediv_nonneg (by omega) (by omega)
        have r1 : (x.m - y.t) / x.f ≤ x.m - y.t := Int.ediv_le_self _ (by omega)
        by_cases htm : y.t < x.m
        · by_cases hmore : (x.m - y.t) / x.f + 1 ≤ (now - y.fl) / x.e
          · have hz := HP.out.fin HX.out HR.out (t := x.m) (.inl ⟨rfl, by
              have h2 := Int.mul_le_mul_of_nonneg_right hmore (show 0 ≤ x.f by omega)
              have h3 := Int.lt_ediv_add_one_mul_self (x.m - y.t) (show 0 < x.f by omega)
              omega⟩)
            have HZ := Lib.hid hz
            clear hz
            go_wp2
            go_quiet (fail)
            clear hg
            go_wp2
            go_quiet (fail)
            go_wp2
            go_quiet (fail)
            go_wp2
            go_quiet (fail)
            go_wp2
            all_goals go_region
            all_goals go_wp2
            all_goals try go_quiet (fail)
            all_goals go_wp2
            all_goals go_ret
            all_goals exact ⟨rfl, by rw [HZ.out]; exact put_like (put_trans hp (put_trans (put_set3 hp.at_ x.m) (put_set4 (put_set3 hp.at_ x.m).at_ _))) ⟨rfl, rfl, rfl, rfl⟩⟩
          · have r2 : (now - y.fl) / x.e * x.f ≤ x.m - y.t :=
              Int.le_trans (Int.mul_le_mul_of_nonneg_right (by omega : (now - y.fl) / x.e ≤ (x.m - y.t) / x.f) (by omega)) (Int.ediv_mul_le _ (by omega))
            have r3 : 0 ≤ (now - y.fl) / x.e * x.f := Int.mul_nonneg q2 (by omega)
            have hz := HP.out.fin HX.out HR.out (t := y.t + (now - y.fl) / x.e * x.f) (.inr ⟨rfl, by omega⟩)
            have HZ := Lib.hid hz
            clear hz
            go_wp2
            go_quiet (fail)
            clear hg
            go_wp2
            go_quiet (fail)
            go_wp2
            go_quiet (fail)
            go_wp2
            go_quiet (fail)
            go_wp2
            all_goals go_region
            all_goals go_wp2
            all_goals go_region
            all_goals go_wp2
            all_goals try go_quiet (fail)
            all_goals go_wp2
            all_goals go_ret
            all_goals exact ⟨rfl, by rw [HZ.out]; exact put_like (put_trans hp (put_trans (put_set3 hp.at_ (y.t + (now - y.fl) / x.e * x.f)) (put_set4 (put_set3 hp.at_ (y.t + (now - y.fl) / x.e * x.f)).at_ (y.fl + (now - y.fl) / x.e * x.e)))) ⟨rfl, rfl, rfl, rfl⟩⟩
        · have hz := HP.out.fin HX.out HR.out (t := y.t) (.inl ⟨by omega, by
            have : 0 ≤ (now - y.fl) / x.e * x.f := Int.mul_nonneg q2 (by omega)
            omega⟩)
          have HZ := Lib.hid hz
          clear hz
          go_wp2
          go_quiet (fail)
          clear hg
          go_wp2
          go_quiet (fail)
          go_wp2
          go_quiet (fail)
          go_wp2
          go_region
          all_goals go_wp2
          all_goals try go_quiet (fail)
          all_goals go_wp2
          all_goals go_ret
          all_goals exact ⟨rfl, by rw [HZ.out]; exact put_like (put_trans hp (put_set4 hp.at_ _)) ⟨rfl, rfl, rfl, rfl⟩⟩
      · have hgq : decide (0 < (now - y.fl) / x.e) = false := by simpa using hq
        have hz := HP.out.fin HX.out HR.out (t := y.t) (.inr ⟨by
          have : (now - y.fl) / x.e = 0 := by omega
          rw [this]; omega, ptm⟩)
        have HZ := Lib.hid hz
        clear hz
        go_wp2
        go_quiet (fail)
        clear hg
        go_wp2
        go_quiet (fail)
        go_wp2
        go_quiet (fail)
        go_wp2
        go_region
        all_goals go_wp2
        all_goals try go_quiet (fail)
        all_goals go_wp2
        all_goals go_ret
        all_goals exact ⟨rfl, by rw [HZ.out]; exact put_like (put_trans hp (put_set4 hp.at_ _)) ⟨rfl, rfl, rfl, rfl⟩⟩

end Go.Proofs.Ytmibjlcmphfbgaa
