/- The contract of the document's Parse: other methods, no absolute target. -/
import Derived.Test.YtjbmipbjlhcooaaDoorTgtL
import Derived.Outline
set_option linter.unusedVariables false
set_option linter.unusedSimpArgs false
namespace Go.Proofs.YtjbmipbjlhcooaaDoor
open Go.RowKit Lex

set_option maxRecDepth 100000 in
set_option maxHeartbeats 1000000 in
theorem rparse_star (w : World) : Calls Tryd.prog 21 #[.string (bs optionsL), .string (bs [42])] w fun e w' => e = .returned (tgOut ({ form := 4 }, 0)) ∧ Below w.heap.size w w' := by
  show Calls Tryd.prog 21 #[.string ⟨#[79, 80, 84, 73, 79, 78, 83]⟩, .string ⟨#[42]⟩] w _
  go_enter Tryd.func21, Tryd.ntmps21
  go_wp2_with fail
  exact bodyPost_ret (ret_rparse (box6_new w _ _ _ _ _ _ _) rfl rfl) rfl ⟨rfl, (Below.refl _ w).alloc (Nat.le_refl _) _⟩
set_option maxRecDepth 100000 in
set_option maxHeartbeats 1000000 in
theorem rparse_origin (M S : List UInt8) (w : World) (hM : M ≠ connectL) (hs : S.length ≤ 4194304) (hl : 0 < S.length) (h47 : S[0] = 47) :
    Calls Tryd.prog 21 #[.string (bs M), .string (bs S)] w fun e w' => e = .returned (tgOut (localT { form := 1 } S)) ∧ Below w.heap.size w w' := by
  have LC := fun w => Lib.hid (rlocal_c 1 0 ⟨#[]⟩ (bs S) w (by rw [bs_size]; exact hs))
  rw [show localT { form := 1, host := (ByteArray.mk #[]).data.toList, port := 0 } (bs S).data.toList = localT { form := 1 } S from rfl] at LC
  generalize localT { form := 1 } S = x at *
  have bM : (M == [67, 79, 78, 78, 69, 67, 84]) = false := by rw [beq_eq_false_iff_ne]; exact hM
  have b42 : ¬ S = [42] := by rintro rfl; simp at h47
  have g47 : (((bs S)[0]'hl).toNat : Int) = 47 := by show (S[0].toNat : Int) = 47; rw [h47]; rfl
  have b47 : ((((bs S)[0]'hl).toNat : Int) == 47) = true := by rw [g47]; rfl
  simp only [tgOut, tgVal] at LC ⊢
  clear h47 hM g47
  go_enter Tryd.func21, Tryd.ntmps21
  go_wp2_with fail
  refine (LC _).out.mono ?_
  rintro e w1 ⟨rfl, hb1⟩
  have B1 := Lib.hid (show Below w.heap.size w w1 from ((Below.refl _ w).alloc (Nat.le_refl _) _).trans (hb1.mono (by simp)))
  have BX := Lib.hid ((box6_new w _ _ _ _ _ _ _).below hb1)
  obtain ⟨c0, c1, c2, c3, c4, c5, fz⟩ := BX.out
  have f0 := fz 0
  have f1 := fz 1
  have f2 := fz 2
  have f3 := fz 3
  have f4 := fz 4
  have f5 := fz 5
  clear fz
  clear hb1
  go_wp2
  (try simp only [Exit.inBlock, Exit.then]); refine bodyPost_ret (ret_rparse (Box6.stored BX.out _ _ _ _ _ _) rfl rfl) rfl ?_
  refine ⟨rfl, ?_⟩
  repeat refine Below.setCell ?_ (by simp) _
  exact B1.out
end Go.Proofs.YtjbmipbjlhcooaaDoor
