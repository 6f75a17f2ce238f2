/- The contract of the document's Parse: what is no target; absolute targets. -/
import Derived.Test.YtjbmipbjlhcooaaDoorTgtM
set_option linter.unusedVariables false
set_option linter.unusedSimpArgs false
namespace Go.Proofs.YtjbmipbjlhcooaaDoor
open Go.RowKit Lex

set_option maxRecDepth 100000 in
set_option maxHeartbeats 1000000 in
theorem rparse_short (M s : ByteArray) (w : World) (hM : M.data.toList ≠ connectL) (h42 : s.data.toList = [42] → M.data.toList ≠ optionsL) (h7 : s.size < 7) (h47 : ∀ h : 0 < s.size, s[0] ≠ 47) :
    Calls Tryd.prog 21 #[.string M, .string s] w fun e w' => e = .returned (tgOut ({}, 60)) ∧ Below w.heap.size w w' := by
  have bM : (M.toList == [67, 79, 78, 78, 69, 67, 84]) = false := by rw [Lib.toList_data, beq_eq_false_iff_ne]; exact hM
  by_cases hs : s.data.toList = [42]
  · have bO : (M.toList == [79, 80, 84, 73, 79, 78, 83]) = false := by rw [Lib.toList_data, beq_eq_false_iff_ne]; exact h42 hs
    have b47 : ((((⟨#[42]⟩ : ByteArray)[0]'(by decide)).toNat : Int) == 47) = false := rfl
    obtain rfl : s = ⟨#[42]⟩ := bytes_ext hs
    clear h42 hs h47 hM
    go_enter Tryd.func21, Tryd.ntmps21
    go_wp2_with fail
    exact bodyPost_ret (ret_rparse (box6_new w _ _ _ _ _ _ _) rfl rfl) rfl ⟨rfl, (Below.refl _ w).alloc (Nat.le_refl _) _⟩
  · have b42 : ¬ s.toList = [42] := by rw [Lib.toList_data]; exact hs
    by_cases h0 : 0 < s.size
    · have b47 : ((s[0].toNat : Int) == 47) = false := by rw [beq_eq_false_iff_ne]; intro e; apply h47 h0; rw [← UInt8.toNat_inj]; simp only [UInt8.reduceToNat]; omega
      clear h42 h47 hM hs
      have h7' : (s.size : Int) < 7 := by omega
      have h0' : (0 : Int) < s.size := by omega
      go_enter Tryd.func21, Tryd.ntmps21
      go_wp2_with fail
      exact bodyPost_ret (ret_rparse (box6_new w _ _ _ _ _ _ _) rfl rfl) rfl ⟨rfl, (Below.refl _ w).alloc (Nat.le_refl _) _⟩
    · obtain rfl : s = ⟨#[]⟩ := bytes_ext (by rw [← size_list] at h0; exact List.eq_nil_of_length_eq_zero (by omega))
      clear h42 hs h47 hM b42
      go_enter Tryd.func21, Tryd.ntmps21
      go_wp2_with fail
      exact bodyPost_ret (ret_rparse (box6_new w _ _ _ _ _ _ _) rfl rfl) rfl ⟨rfl, (Below.refl _ w).alloc (Nat.le_refl _) _⟩
set_option maxRecDepth 100000 in
set_option maxHeartbeats 1000000 in
theorem rparse_other (M s : ByteArray) (w : World) (hM : M.data.toList ≠ connectL) (hs : s.size ≤ 4194304) (h7 : 7 ≤ s.size) (h47 : s[0] ≠ 47) (hh : lower (s.data.toList.take 7) ≠ httpL) :
    Calls Tryd.prog 21 #[.string M, .string s] w fun e w' => e = .returned (tgOut ({}, 60)) ∧ Below w.heap.size w w' := by
  have bM : (M.toList == [67, 79, 78, 78, 69, 67, 84]) = false := by rw [Lib.toList_data, beq_eq_false_iff_ne]; exact hM
  have b42 : ¬ s.toList = [42] := by rw [Lib.toList_data]; intro e; have := congrArg List.length e; rw [size_list] at this; simp at this; omega
  have b47 : ((s[0].toNat : Int) == 47) = false := by rw [beq_eq_false_iff_ne]; intro e; apply h47; rw [← UInt8.toNat_inj]; simp only [UInt8.reduceToNat]; omega
  have h7' : ¬ (s.size : Int) < 7 := by omega
  have h0 : 0 < s.size := by omega
  have LO := fun w => Lib.hid (rlower_c (s.extract 0 7) w (by rw [ByteArray.size_extract]; omega))
  rw [show (s.extract 0 7).data.toList = s.data.toList.take 7 from by rw [Lib.extract_data]; simp] at LO
  have bh : (lower (s.data.toList.take 7) == [104, 116, 116, 112, 58, 47, 47]) = false := by rw [beq_eq_false_iff_ne]; exact hh
  generalize lower (s.data.toList.take 7) = q at *
  clear h47 hM hh
  go_enter Tryd.func21, Tryd.ntmps21
  go_wp2_with fail
  refine (LO _).out.mono ?_
  rintro e w1 ⟨rfl, hb1⟩
  have B1 := Lib.hid (show Below w.heap.size w w1 from ((Below.refl _ w).alloc (Nat.le_refl _) _).trans (hb1.mono (by simp)))
  have BX := Lib.hid ((box6_new w _ _ _ _ _ _ _).below hb1)
  obtain ⟨c0, c1, c2, c3, c4, c5, fz⟩ := BX.out
  have f0 := fz 0
  have f1 := fz 1
  have f2 := fz 2
  have f3 := fz 3
  have f4 := fz 4
  have f5 := fz 5
  clear fz
  clear hb1
  go_wp2
  (try simp only [Exit.inBlock, Exit.then]); refine bodyPost_ret (ret_rparse (Box6.stored BX.out _ _ _ _ _ _) rfl rfl) rfl ?_
  refine ⟨rfl, ?_⟩
  repeat refine Below.setCell ?_ (by simp) _
  exact B1.out
end Go.Proofs.YtjbmipbjlhcooaaDoor
