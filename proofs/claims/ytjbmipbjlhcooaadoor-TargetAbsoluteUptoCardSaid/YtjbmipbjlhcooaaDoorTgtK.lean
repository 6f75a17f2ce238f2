/- The contract of the document's Parse: the method CONNECT. -/
import Derived.Test.YtjbmipbjlhcooaaDoorTgtJ
set_option linter.unusedVariables false
set_option linter.unusedSimpArgs false
namespace Go.Proofs.YtjbmipbjlhcooaaDoor
open Go.RowKit Lex

theorem ret_rparse {w : World} {B : Nat} {v0 v1 v2 v3 v4 v5 e : Value} (h : Box6 w B v0 v1 v2 v3 v4 v5) {tmps : Array Value} (h4 : tmps[4]?.getD undef = .pointer (some ⟨B, 0, none⟩)) (h5 : tmps[5]?.getD undef = e) :
    (results Tryd.f21 tmps).run Tryd.prog w = .ok (.tuple #[.agg #[v0, v1, v2, v3, v4, v5], e]) w := by
  simp [results, Tryd.results21, go_sem, h4, h5, h.c0, h.c1, h.c2, h.c3, h.c4, h.c5]

set_option maxRecDepth 100000 in
set_option maxHeartbeats 4000000 in
theorem rparse_connect (S : List UInt8) (w : World) (hs : S.length ≤ 4194304) :
    Calls Tryd.prog 21 #[.string (bs connectL), .string (bs S)] w fun e w' => e = .returned (tgOut (parseT connectL S)) ∧ Below w.heap.size w w' := by
  have AU := fun w => Lib.hid (rauth_c (bs S) w (by rw [bs_size]; omega))
  rw [show (bs S).data.toList = S from rfl] at AU
  unfold parseT
  rw [if_pos rfl]
  cases ha : authB S with
  | none =>
    rw [ha] at AU
    simp only [authVal] at AU
    go_enter Tryd.func21, Tryd.ntmps21
    go_wp2_with fail
    refine (AU _).out.mono ?_
    rintro e w1 ⟨rfl, hb1⟩
    have B1 := Lib.hid (show Below w.heap.size w w1 from ((Below.refl _ w).alloc (Nat.le_refl _) _).trans (hb1.mono (by simp)))
    have BX := Lib.hid ((box6_new w _ _ _ _ _ _ _).below hb1)
    obtain ⟨c0, c1, c2, c3, c4, c5, fz⟩ := BX.out
    have f0 := fz 0
    have f1 := fz 1
    have f2 := fz 2
    have f3 := fz 3
    have f4 := fz 4
    have f5 := fz 5
    clear fz hb1
    go_wp2
    (try simp only [Exit.inBlock, Exit.then]); refine bodyPost_ret (ret_rparse (Box6.stored BX.out _ _ _ _ _ _) rfl rfl) rfl ?_
    refine ⟨rfl, ?_⟩
    repeat refine Below.setCell ?_ (by simp) _
    exact B1.out
  | some x =>
    obtain ⟨h, p⟩ := x
    rw [ha] at AU
    simp only [authVal] at AU
    by_cases hp : p = 0
    · subst hp
      go_enter Tryd.func21, Tryd.ntmps21
      go_wp2_with fail
      refine (AU _).out.mono ?_
      rintro e w1 ⟨rfl, hb1⟩
      have B1 := Lib.hid (show Below w.heap.size w w1 from ((Below.refl _ w).alloc (Nat.le_refl _) _).trans (hb1.mono (by simp)))
      have BX := Lib.hid ((box6_new w _ _ _ _ _ _ _).below hb1)
      obtain ⟨c0, c1, c2, c3, c4, c5, fz⟩ := BX.out
      have f0 := fz 0
      have f1 := fz 1
      have f2 := fz 2
      have f3 := fz 3
      have f4 := fz 4
      have f5 := fz 5
      clear fz hb1
      go_wp2
      (try simp only [Exit.inBlock, Exit.then]); refine bodyPost_ret (ret_rparse (Box6.stored BX.out _ _ _ _ _ _) rfl rfl) rfl ?_
      refine ⟨rfl, ?_⟩
      repeat refine Below.setCell ?_ (by simp) _
      exact B1.out
    · have bp : (p == 0) = false := by rw [beq_eq_false_iff_ne]; exact hp
      simp only [if_neg hp]
      go_enter Tryd.func21, Tryd.ntmps21
      go_wp2_with fail
      refine (AU _).out.mono ?_
      rintro e w1 ⟨rfl, hb1⟩
      have B1 := Lib.hid (show Below w.heap.size w w1 from ((Below.refl _ w).alloc (Nat.le_refl _) _).trans (hb1.mono (by simp)))
      have BX := Lib.hid ((box6_new w _ _ _ _ _ _ _).below hb1)
      obtain ⟨c0, c1, c2, c3, c4, c5, fz⟩ := BX.out
      have f0 := fz 0
      have f1 := fz 1
      have f2 := fz 2
      have f3 := fz 3
      have f4 := fz 4
      have f5 := fz 5
      clear fz hb1
      go_wp2
      (try simp only [Exit.inBlock, Exit.then]); refine bodyPost_ret (ret_rparse (Box6.stored BX.out _ _ _ _ _ _) rfl rfl) rfl ?_
      refine ⟨rfl, ?_⟩
      repeat refine Below.setCell ?_ (by simp) _
      exact B1.out
end Go.Proofs.YtjbmipbjlhcooaaDoor
