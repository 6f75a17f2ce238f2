/- The texts FrmD in one. -/
import Derived.Test.YtgmjkkiahanekaaDoorM18
import Derived.Test.YtgmjkkiahanekaaDoorM8
import Derived.Outline
/- The contracts of frame.Request and frame.Keep over every head. -/
set_option linter.unusedVariables false
set_option linter.unusedSimpArgs false
namespace Go.Proofs.YtgmjkkiahanekaaDoor
open Go.RowKit Lex

def frVal (x : Int × Int × Int) : Value := .tuple #[.agg #[.int .i64 x.1, .int .i64 x.2.1], .int .i64 x.2.2]
theorem wp_keep_bool (a b : Bool) : a = b → Ending.returned (.bool a) = .returned (.bool b) := fun h => by rw [h]
set_option maxRecDepth 100000 in
set_option maxHeartbeats 4000000 in
theorem keep_c (m t : ByteArray) (s : Int) (r : ByteArray) (mi : Int) (A : Option Addr) (cap : Nat) (fs : List Fd) (M : Int) (w : World) (hB : FB fs) (hF : Flds w A fs) (hm : w.cell? ⟨0, 0, none⟩ = some (.int .i64 M)) :
    Calls Tryd.prog 24 #[hv m t s r mi A fs.length cap] w fun e w' => e = .returned (.bool (keepF mi fs)) ∧ Below w.heap.size w w' := by
  have H1 := fun w h hm => Lib.hid (hasf_c A cap fs ⟨#[67, 111, 110, 110, 101, 99, 116, 105, 111, 110]⟩ ⟨#[99, 108, 111, 115, 101]⟩ M w (by decide) (by decide) hB h hm)
  rw [show (ByteArray.mk #[67, 111, 110, 110, 101, 99, 116, 105, 111, 110]).data.toList = conn from rfl, show (ByteArray.mk #[99, 108, 111, 115, 101]).data.toList = closeL from rfl] at H1
  have H2 := fun w h hm => Lib.hid (hasf_c A cap fs ⟨#[67, 111, 110, 110, 101, 99, 116, 105, 111, 110]⟩ ⟨#[107, 101, 101, 112, 45, 97, 108, 105, 118, 101]⟩ M w (by decide) (by decide) hB h hm)
  rw [show (ByteArray.mk #[67, 111, 110, 110, 101, 99, 116, 105, 111, 110]).data.toList = conn from rfl, show (ByteArray.mk #[107, 101, 101, 112, 45, 97, 108, 105, 118, 101]).data.toList = keepL from rfl] at H2
  have W0 : Below w.heap.size w (w.alloc (.cells #[.string m, .string t, .int .i64 s, .string r, .int .i64 mi, .slice A fs.length cap] 39)) := (Below.refl _ w).alloc (Nat.le_refl _) _
  have F0 := Lib.hid (hF.below W0)
  have M0 := Lib.hid (cell_below W0 hm)
  have X0 := Lib.hid (box6_new w (.string m) (.string t) (.int .i64 s) (.string r) (.int .i64 mi) (.slice A fs.length cap) 39)
  have B0 := Lib.hid W0
  clear hB hF hm W0
  generalize hk : keepF mi fs = out
  unfold keepF at hk
  unfold hv
  cases hc : hasF fs conn closeL with
  | true =>
    rw [hc] at H1 hk
    have HV := Lib.hid hk
    clear hc hk
    go_enter Tryd.func24, Tryd.ntmps24
    go_wp2_with fail
    refine (H1 _ F0.out M0.out).out.mono ?_
    rintro e w1 ⟨rfl, hb1⟩
    have B1 := Lib.hid (below_then B0.out hb1)
    clear hb1
    go_wp2
    go_ret
    exact ⟨ret_bool (by rw [← HV.out]; rfl), B1.out⟩
  | false =>
    rw [hc] at H1 hk
    by_cases h0 : mi = 0
    · have b0 : (mi != 0) = false := by rw [h0]; rfl
      rw [decide_eq_false (not_not_intro h0)] at hk
      generalize hasF fs conn keepL = kb at *
      have HV := Lib.hid hk
      clear hc hk h0
      go_enter Tryd.func24, Tryd.ntmps24
      go_wp2_with fail
      refine (H1 _ F0.out M0.out).out.mono ?_
      rintro e w1 ⟨rfl, hb1⟩
      have B1 := Lib.hid (below_then B0.out hb1)
      have F1 := Lib.hid (F0.out.below hb1)
      have M1 := Lib.hid (cell_below hb1 M0.out)
      obtain ⟨c0, c1, c2, c3, c4, c5, fz⟩ := X0.out.below hb1
      clear hb1 fz
      go_wp2_with fail
      refine (H2 _ F1.out M1.out).out.mono ?_
      rintro e w2 ⟨rfl, hb2⟩
      have B2 := Lib.hid (below_then B1.out hb2)
      clear hb2 c0 c1 c2 c3 c4 c5
      go_wp2
      go_ret
      exact ⟨ret_bool (by rw [← HV.out]; rfl), B2.out⟩
    · have b0 : (mi != 0) = true := by rw [bne_iff_ne]; exact h0
      rw [decide_eq_true h0] at hk
      have HV := Lib.hid hk
      clear hc hk h0
      go_enter Tryd.func24, Tryd.ntmps24
      go_wp2_with fail
      refine (H1 _ F0.out M0.out).out.mono ?_
      rintro e w1 ⟨rfl, hb1⟩
      have B1 := Lib.hid (below_then B0.out hb1)
      obtain ⟨c0, c1, c2, c3, c4, c5, fz⟩ := X0.out.below hb1
      clear hb1 fz
      go_wp2
      go_ret
      exact ⟨ret_bool (by rw [← HV.out]; rfl), B1.out⟩
end Go.Proofs.YtgmjkkiahanekaaDoor

