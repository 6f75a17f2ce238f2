/- The contract of Parse: the method CONNECT. -/
import Derived.Test.YtjbmipbjlhcooaaDoorTgtK
set_option linter.unusedVariables false
set_option linter.unusedSimpArgs false
namespace Go.Proofs.YtjbmipbjlhcooaaDoor
open Go.RowKit Lex

set_option maxRecDepth 100000 in
set_option maxHeartbeats 4000000 in
theorem parse_connect (S : List UInt8) (m : Int) (w : World) (hs : S.length ≤ 4194304) (hm : w.cell? ⟨0, 0, none⟩ = some (.int .i64 m)) :
    Calls Tryd.prog 19 #[.string (bs connectL), .string (bs S)] w fun e w' => e = .returned (tgOut (parseT connectL S)) ∧ Below w.heap.size w w' := by
  have AU := fun w hm => Lib.hid (auth_c (bs S) m w (by rw [bs_size]; omega) hm)
  rw [show (bs S).data.toList = S from rfl] at AU
  have HM := Lib.hid hm
  clear hm
  unfold parseT
  rw [if_pos rfl]
  cases ha : authB S with
  | none =>
    rw [ha] at AU
    simp only [authVal] at AU
    go_enter Tryd.func19, Tryd.ntmps19
    go_wp2_with fail
    refine (AU _ (cell_below ((Below.refl _ w).alloc (Nat.le_refl _) _) HM.out)).out.mono ?_
    rintro e w1 ⟨rfl, hb1⟩
    have B1 := Lib.hid (show Below w.heap.size w w1 from ((Below.refl _ w).alloc (Nat.le_refl _) _).trans (hb1.mono (by simp)))
    have BX := Lib.hid ((box6_new w _ _ _ _ _ _ _).below hb1)
    obtain ⟨c0, c1, c2, c3, c4, c5, fz⟩ := BX.out
    have f0 := fz 0
    have f1 := fz 1
    have f2 := fz 2
    have f3 := fz 3
    have f4 := fz 4
    have f5 := fz 5
    clear fz hb1
    go_wp2
    (try simp only [Exit.inBlock, Exit.then]); refine bodyPost_ret (ret_parse (Box6.stored BX.out _ _ _ _ _ _) rfl rfl) rfl ?_
    refine ⟨rfl, ?_⟩
    repeat refine Below.setCell ?_ (by simp) _
    exact B1.out
  | some x =>
    obtain ⟨h, p⟩ := x
    rw [ha] at AU
    simp only [authVal] at AU
    by_cases hp : p = 0
    · subst hp
      go_enter Tryd.func19, Tryd.ntmps19
      go_wp2_with fail
      refine (AU _ (cell_below ((Below.refl _ w).alloc (Nat.le_refl _) _) HM.out)).out.mono ?_
      rintro e w1 ⟨rfl, hb1⟩
      have B1 := Lib.hid (show Below w.heap.size w w1 from ((Below.refl _ w).alloc (Nat.le_refl _) _).trans (hb1.mono (by simp)))
      have BX := Lib.hid ((box6_new w _ _ _ _ _ _ _).below hb1)
      obtain ⟨c0, c1, c2, c3, c4, c5, fz⟩ := BX.out
      have f0 := fz 0
      have f1 := fz 1
      have f2 := fz 2
      have f3 := fz 3
      have f4 := fz 4
      have f5 := fz 5
      clear fz hb1
      go_wp2
      (try simp only [Exit.inBlock, Exit.then]); refine bodyPost_ret (ret_parse (Box6.stored BX.out _ _ _ _ _ _) rfl rfl) rfl ?_
      refine ⟨rfl, ?_⟩
      repeat refine Below.setCell ?_ (by simp) _
      exact B1.out
    · have bp : (p == 0) = false := by rw [beq_eq_false_iff_ne]; exact hp
      simp only [if_neg hp]
      go_enter Tryd.func19, Tryd.ntmps19
      go_wp2_with fail
      refine (AU _ (cell_below ((Below.refl _ w).alloc (Nat.le_refl _) _) HM.out)).out.mono ?_
      rintro e w1 ⟨rfl, hb1⟩
      have B1 := Lib.hid (show Below w.heap.size w w1 from ((Below.refl _ w).alloc (Nat.le_refl _) _).trans (hb1.mono (by simp)))
      have BX := Lib.hid ((box6_new w _ _ _ _ _ _ _).below hb1)
      obtain ⟨c0, c1, c2, c3, c4, c5, fz⟩ := BX.out
      have f0 := fz 0
      have f1 := fz 1
      have f2 := fz 2
      have f3 := fz 3
      have f4 := fz 4
      have f5 := fz 5
      clear fz hb1
      go_wp2
      (try simp only [Exit.inBlock, Exit.then]); refine bodyPost_ret (ret_parse (Box6.stored BX.out _ _ _ _ _ _) rfl rfl) rfl ?_
      refine ⟨rfl, ?_⟩
      repeat refine Below.setCell ?_ (by simp) _
      exact B1.out
end Go.Proofs.YtjbmipbjlhcooaaDoor
