/- The texts TgtI, TgtJ, TgtK, TgtL, TgtM, TgtN, TgtO in one. -/
import Derived.Test.YtgmjkkiahanekaaGreatDoorM23
import Derived.Outline
/- The contracts of Origin, program and document. -/
set_option linter.unusedVariables false
set_option linter.unusedSimpArgs false
namespace Go.Proofs.YtgmjkkiahanekaaGreatDoor
open Go.RowKit Lex

end Go.Proofs.YtgmjkkiahanekaaGreatDoor

/- The contract of like. -/
set_option linter.unusedVariables false
set_option linter.unusedSimpArgs false
namespace Go.Proofs.YtgmjkkiahanekaaGreatDoor
open Go.RowKit Lex

end Go.Proofs.YtgmjkkiahanekaaGreatDoor

/- The contract of the document's Parse: the method CONNECT. -/
set_option linter.unusedVariables false
set_option linter.unusedSimpArgs false
namespace Go.Proofs.YtgmjkkiahanekaaGreatDoor
open Go.RowKit Lex

theorem ret_rparse {w : World} {B : Nat} {v0 v1 v2 v3 v4 v5 e : Value} (h : Box6 w B v0 v1 v2 v3 v4 v5) {tmps : Array Value} (h4 : tmps[4]?.getD undef = .pointer (some ⟨B, 0, none⟩)) (h5 : tmps[5]?.getD undef = e) :
    (results Tryz.f92 tmps).run Tryz.prog w = .ok (.tuple #[.agg #[v0, v1, v2, v3, v4, v5], e]) w := by
  simp [results, Tryz.results92, go_sem, h4, h5, h.c0, h.c1, h.c2, h.c3, h.c4, h.c5]

set_option maxRecDepth 100000 in
set_option maxHeartbeats 4000000 in
theorem rparse_connect (S : List UInt8) (w : World) (hs : S.length ≤ 4194304) :
    Calls Tryz.prog 92 #[.string (bs connectL), .string (bs S)] w fun e w' => e = .returned (tgOut (parseT connectL S)) ∧ Below w.heap.size w w' := by
  have AU := fun w => Lib.hid (rauth_c (bs S) w (by rw [bs_size]; omega))
  rw [show (bs S).data.toList = S from rfl] at AU
  unfold parseT
  rw [if_pos rfl]
  cases ha : authB S with
  | none =>
    rw [ha] at AU
    simp only [authVal] at AU
    go_enter Tryz.func92, Tryz.ntmps92
    go_wp2_with fail
    refine (AU _).out.mono ?_
    rintro e w1 ⟨rfl, hb1⟩
    have B1 := Lib.hid (show Below w.heap.size w w1 from ((Below.refl _ w).alloc (Nat.le_refl _) _).trans (hb1.mono (by simp)))
    have BX := Lib.hid ((box6_new w _ _ _ _ _ _ _).below hb1)
    obtain ⟨c0, c1, c2, c3, c4, c5, fz⟩ := BX.out
    have f0 := fz 0
    have f1 := fz 1
    have f2 := fz 2
    have f3 := fz 3
    have f4 := fz 4
    have f5 := fz 5
    clear fz hb1
    go_wp2
    (try simp only [Exit.inBlock, Exit.then]); refine bodyPost_ret (ret_rparse (Box6.stored BX.out _ _ _ _ _ _) rfl rfl) rfl ?_
    refine ⟨rfl, ?_⟩
    repeat refine Below.setCell ?_ (by simp) _
    exact B1.out
  | some x =>
    obtain ⟨h, p⟩ := x
    rw [ha] at AU
    simp only [authVal] at AU
    by_cases hp : p = 0
    · subst hp
      go_enter Tryz.func92, Tryz.ntmps92
      go_wp2_with fail
      refine (AU _).out.mono ?_
      rintro e w1 ⟨rfl, hb1⟩
      have B1 := Lib.hid (show Below w.heap.size w w1 from ((Below.refl _ w).alloc (Nat.le_refl _) _).trans (hb1.mono (by simp)))
      have BX := Lib.hid ((box6_new w _ _ _ _ _ _ _).below hb1)
      obtain ⟨c0, c1, c2, c3, c4, c5, fz⟩ := BX.out
      have f0 := fz 0
      have f1 := fz 1
      have f2 := fz 2
      have f3 := fz 3
      have f4 := fz 4
      have f5 := fz 5
      clear fz hb1
      go_wp2
      (try simp only [Exit.inBlock, Exit.then]); refine bodyPost_ret (ret_rparse (Box6.stored BX.out _ _ _ _ _ _) rfl rfl) rfl ?_
      refine ⟨rfl, ?_⟩
      repeat refine Below.setCell ?_ (by simp) _
      exact B1.out
    · have bp : (p == 0) = false := by rw [beq_eq_false_iff_ne]; exact hp
      simp only [if_neg hp]
      go_enter Tryz.func92, Tryz.ntmps92
      go_wp2_with fail
      refine (AU _).out.mono ?_
      rintro e w1 ⟨rfl, hb1⟩
      have B1 := Lib.hid (show Below w.heap.size w w1 from ((Below.refl _ w).alloc (Nat.le_refl _) _).trans (hb1.mono (by simp)))
      have BX := Lib.hid ((box6_new w _ _ _ _ _ _ _).below hb1)
      obtain ⟨c0, c1, c2, c3, c4, c5, fz⟩ := BX.out
      have f0 := fz 0
      have f1 := fz 1
      have f2 := fz 2
      have f3 := fz 3
      have f4 := fz 4
      have f5 := fz 5
      clear fz hb1
      go_wp2
      (try simp only [Exit.inBlock, Exit.then]); refine bodyPost_ret (ret_rparse (Box6.stored BX.out _ _ _ _ _ _) rfl rfl) rfl ?_
      refine ⟨rfl, ?_⟩
      repeat refine Below.setCell ?_ (by simp) _
      exact B1.out
end Go.Proofs.YtgmjkkiahanekaaGreatDoor

/- The contract of Parse: the method CONNECT. -/
set_option linter.unusedVariables false
set_option linter.unusedSimpArgs false
namespace Go.Proofs.YtgmjkkiahanekaaGreatDoor
open Go.RowKit Lex

set_option maxRecDepth 100000 in
set_option maxHeartbeats 4000000 in
theorem parse_connect (S : List UInt8) (m : Int) (w : World) (hs : S.length ≤ 4194304) (hm : w.cell? ⟨0, 0, none⟩ = some (.int .i64 m)) :
    Calls Tryz.prog 82 #[.string (bs connectL), .string (bs S)] w fun e w' => e = .returned (tgOut (parseT connectL S)) ∧ Below w.heap.size w w' := by
  have AU := fun w hm => Lib.hid (auth_c (bs S) m w (by rw [bs_size]; omega) hm)
  rw [show (bs S).data.toList = S from rfl] at AU
  have HM := Lib.hid hm
  clear hm
  unfold parseT
  rw [if_pos rfl]
  cases ha : authB S with
  | none =>
    rw [ha] at AU
    simp only [authVal] at AU
    go_enter Tryz.func82, Tryz.ntmps82
    go_wp2_with fail
    refine (AU _ (cell_below ((Below.refl _ w).alloc (Nat.le_refl _) _) HM.out)).out.mono ?_
    rintro e w1 ⟨rfl, hb1⟩
    have B1 := Lib.hid (show Below w.heap.size w w1 from ((Below.refl _ w).alloc (Nat.le_refl _) _).trans (hb1.mono (by simp)))
    have BX := Lib.hid ((box6_new w _ _ _ _ _ _ _).below hb1)
    obtain ⟨c0, c1, c2, c3, c4, c5, fz⟩ := BX.out
    have f0 := fz 0
    have f1 := fz 1
    have f2 := fz 2
    have f3 := fz 3
    have f4 := fz 4
    have f5 := fz 5
    clear fz hb1
    go_wp2
    (try simp only [Exit.inBlock, Exit.then]); refine bodyPost_ret (ret_parse (Box6.stored BX.out _ _ _ _ _ _) rfl rfl) rfl ?_
    refine ⟨rfl, ?_⟩
    repeat refine Below.setCell ?_ (by simp) _
    exact B1.out
  | some x =>
    obtain ⟨h, p⟩ := x
    rw [ha] at AU
    simp only [authVal] at AU
    by_cases hp : p = 0
    · subst hp
      go_enter Tryz.func82, Tryz.ntmps82
      go_wp2_with fail
      refine (AU _ (cell_below ((Below.refl _ w).alloc (Nat.le_refl _) _) HM.out)).out.mono ?_
      rintro e w1 ⟨rfl, hb1⟩
      have B1 := Lib.hid (show Below w.heap.size w w1 from ((Below.refl _ w).alloc (Nat.le_refl _) _).trans (hb1.mono (by simp)))
      have BX := Lib.hid ((box6_new w _ _ _ _ _ _ _).below hb1)
      obtain ⟨c0, c1, c2, c3, c4, c5, fz⟩ := BX.out
      have f0 := fz 0
      have f1 := fz 1
      have f2 := fz 2
      have f3 := fz 3
      have f4 := fz 4
      have f5 := fz 5
      clear fz hb1
      go_wp2
      (try simp only [Exit.inBlock, Exit.then]); refine bodyPost_ret (ret_parse (Box6.stored BX.out _ _ _ _ _ _) rfl rfl) rfl ?_
      refine ⟨rfl, ?_⟩
      repeat refine Below.setCell ?_ (by simp) _
      exact B1.out
    · have bp : (p == 0) = false := by rw [beq_eq_false_iff_ne]; exact hp
      simp only [if_neg hp]
      go_enter Tryz.func82, Tryz.ntmps82
      go_wp2_with fail
      refine (AU _ (cell_below ((Below.refl _ w).alloc (Nat.le_refl _) _) HM.out)).out.mono ?_
      rintro e w1 ⟨rfl, hb1⟩
      have B1 := Lib.hid (show Below w.heap.size w w1 from ((Below.refl _ w).alloc (Nat.le_refl _) _).trans (hb1.mono (by simp)))
      have BX := Lib.hid ((box6_new w _ _ _ _ _ _ _).below hb1)
      obtain ⟨c0, c1, c2, c3, c4, c5, fz⟩ := BX.out
      have f0 := fz 0
      have f1 := fz 1
      have f2 := fz 2
      have f3 := fz 3
      have f4 := fz 4
      have f5 := fz 5
      clear fz hb1
      go_wp2
      (try simp only [Exit.inBlock, Exit.then]); refine bodyPost_ret (ret_parse (Box6.stored BX.out _ _ _ _ _ _) rfl rfl) rfl ?_
      refine ⟨rfl, ?_⟩
      repeat refine Below.setCell ?_ (by simp) _
      exact B1.out
end Go.Proofs.YtgmjkkiahanekaaGreatDoor

/- The contract of the document's Parse: other methods, no absolute target. -/
set_option linter.unusedVariables false
set_option linter.unusedSimpArgs false
namespace Go.Proofs.YtgmjkkiahanekaaGreatDoor
open Go.RowKit Lex

set_option maxRecDepth 100000 in
set_option maxHeartbeats 1000000 in
theorem rparse_star (w : World) : Calls Tryz.prog 92 #[.string (bs optionsL), .string (bs [42])] w fun e w' => e = .returned (tgOut ({ form := 4 }, 0)) ∧ Below w.heap.size w w' := by
  show Calls Tryz.prog 92 #[.string ⟨#[79, 80, 84, 73, 79, 78, 83]⟩, .string ⟨#[42]⟩] w _
  go_enter Tryz.func92, Tryz.ntmps92
  go_wp2_with fail
  exact bodyPost_ret (ret_rparse (box6_new w _ _ _ _ _ _ _) rfl rfl) rfl ⟨rfl, (Below.refl _ w).alloc (Nat.le_refl _) _⟩
set_option maxRecDepth 100000 in
set_option maxHeartbeats 1000000 in
theorem rparse_origin (M S : List UInt8) (w : World) (hM : M ≠ connectL) (hs : S.length ≤ 4194304) (hl : 0 < S.length) (h47 : S[0] = 47) :
    Calls Tryz.prog 92 #[.string (bs M), .string (bs S)] w fun e w' => e = .returned (tgOut (localT { form := 1 } S)) ∧ Below w.heap.size w w' := by
  have LC := fun w => Lib.hid (rlocal_c 1 0 ⟨#[]⟩ (bs S) w (by rw [bs_size]; exact hs))
  rw [show localT { form := 1, host := (ByteArray.mk #[]).data.toList, port := 0 } (bs S).data.toList = localT { form := 1 } S from rfl] at LC
  generalize localT { form := 1 } S = x at *
  have bM : (M == [67, 79, 78, 78, 69, 67, 84]) = false := by rw [beq_eq_false_iff_ne]; exact hM
  have b42 : ¬ S = [42] := by rintro rfl; simp at h47
  have g47 : (((bs S)[0]'hl).toNat : Int) = 47 := by show (S[0].toNat : Int) = 47; rw [h47]; rfl
  have b47 : ((((bs S)[0]'hl).toNat : Int) == 47) = true := by rw [g47]; rfl
  simp only [tgOut, tgVal] at LC ⊢
  clear h47 hM g47
  go_enter Tryz.func92, Tryz.ntmps92
  go_wp2_with fail
  refine (LC _).out.mono ?_
  rintro e w1 ⟨rfl, hb1⟩
  have B1 := Lib.hid (show Below w.heap.size w w1 from ((Below.refl _ w).alloc (Nat.le_refl _) _).trans (hb1.mono (by simp)))
  have BX := Lib.hid ((box6_new w _ _ _ _ _ _ _).below hb1)
  obtain ⟨c0, c1, c2, c3, c4, c5, fz⟩ := BX.out
  have f0 := fz 0
  have f1 := fz 1
  have f2 := fz 2
  have f3 := fz 3
  have f4 := fz 4
  have f5 := fz 5
  clear fz
  clear hb1
  go_wp2
  (try simp only [Exit.inBlock, Exit.then]); refine bodyPost_ret (ret_rparse (Box6.stored BX.out _ _ _ _ _ _) rfl rfl) rfl ?_
  refine ⟨rfl, ?_⟩
  repeat refine Below.setCell ?_ (by simp) _
  exact B1.out
end Go.Proofs.YtgmjkkiahanekaaGreatDoor

/- The contract of the document's Parse: what is no target; absolute targets. -/
set_option linter.unusedVariables false
set_option linter.unusedSimpArgs false
namespace Go.Proofs.YtgmjkkiahanekaaGreatDoor
open Go.RowKit Lex

set_option maxRecDepth 100000 in
set_option maxHeartbeats 1000000 in
theorem rparse_short (M s : ByteArray) (w : World) (hM : M.data.toList ≠ connectL) (h42 : s.data.toList = [42] → M.data.toList ≠ optionsL) (h7 : s.size < 7) (h47 : ∀ h : 0 < s.size, s[0] ≠ 47) :
    Calls Tryz.prog 92 #[.string M, .string s] w fun e w' => e = .returned (tgOut ({}, 60)) ∧ Below w.heap.size w w' := by
  have bM : (M.toList == [67, 79, 78, 78, 69, 67, 84]) = false := by rw [Lib.toList_data, beq_eq_false_iff_ne]; exact hM
  by_cases hs : s.data.toList = [42]
  · have bO : (M.toList == [79, 80, 84, 73, 79, 78, 83]) = false := by rw [Lib.toList_data, beq_eq_false_iff_ne]; exact h42 hs
    have b47 : ((((⟨#[42]⟩ : ByteArray)[0]'(by decide)).toNat : Int) == 47) = false := rfl
    obtain rfl : s = ⟨#[42]⟩ := bytes_ext hs
    clear h42 hs h47 hM
    go_enter Tryz.func92, Tryz.ntmps92
    go_wp2_with fail
    exact bodyPost_ret (ret_rparse (box6_new w _ _ _ _ _ _ _) rfl rfl) rfl ⟨rfl, (Below.refl _ w).alloc (Nat.le_refl _) _⟩
  · have b42 : ¬ s.toList = [42] := by rw [Lib.toList_data]; exact hs
    by_cases h0 : 0 < s.size
    · have b47 : ((s[0].toNat : Int) == 47) = false := by rw [beq_eq_false_iff_ne]; intro e; apply h47 h0; rw [← UInt8.toNat_inj]; simp only [UInt8.reduceToNat]; omega
      clear h42 h47 hM hs
      have h7' : (s.size : Int) < 7 := by omega
      have h0' : (0 : Int) < s.size := by omega
      go_enter Tryz.func92, Tryz.ntmps92
      go_wp2_with fail
      exact bodyPost_ret (ret_rparse (box6_new w _ _ _ _ _ _ _) rfl rfl) rfl ⟨rfl, (Below.refl _ w).alloc (Nat.le_refl _) _⟩
    · obtain rfl : s = ⟨#[]⟩ := bytes_ext (by rw [← size_list] at h0; exact List.eq_nil_of_length_eq_zero (by omega))
      clear h42 hs h47 hM b42
      go_enter Tryz.func92, Tryz.ntmps92
      go_wp2_with fail
      exact bodyPost_ret (ret_rparse (box6_new w _ _ _ _ _ _ _) rfl rfl) rfl ⟨rfl, (Below.refl _ w).alloc (Nat.le_refl _) _⟩
set_option maxRecDepth 100000 in
set_option maxHeartbeats 1000000 in
theorem rparse_other (M s : ByteArray) (w : World) (hM : M.data.toList ≠ connectL) (hs : s.size ≤ 4194304) (h7 : 7 ≤ s.size) (h47 : s[0] ≠ 47) (hh : lower (s.data.toList.take 7) ≠ httpL) :
    Calls Tryz.prog 92 #[.string M, .string s] w fun e w' => e = .returned (tgOut ({}, 60)) ∧ Below w.heap.size w w' := by
  have bM : (M.toList == [67, 79, 78, 78, 69, 67, 84]) = false := by rw [Lib.toList_data, beq_eq_false_iff_ne]; exact hM
  have b42 : ¬ s.toList = [42] := by rw [Lib.toList_data]; intro e; have := congrArg List.length e; rw [size_list] at this; simp at this; omega
  have b47 : ((s[0].toNat : Int) == 47) = false := by rw [beq_eq_false_iff_ne]; intro e; apply h47; rw [← UInt8.toNat_inj]; simp only [UInt8.reduceToNat]; omega
  have h7' : ¬ (s.size : Int) < 7 := by omega
  have h0 : 0 < s.size := by omega
  have LO := fun w => Lib.hid (rlower_c (s.extract 0 7) w (by rw [ByteArray.size_extract]; omega))
  rw [show (s.extract 0 7).data.toList = s.data.toList.take 7 from by rw [Lib.extract_data]; simp] at LO
  have bh : (lower (s.data.toList.take 7) == [104, 116, 116, 112, 58, 47, 47]) = false := by rw [beq_eq_false_iff_ne]; exact hh
  generalize lower (s.data.toList.take 7) = q at *
  clear h47 hM hh
  go_enter Tryz.func92, Tryz.ntmps92
  go_wp2_with fail
  refine (LO _).out.mono ?_
  rintro e w1 ⟨rfl, hb1⟩
  have B1 := Lib.hid (show Below w.heap.size w w1 from ((Below.refl _ w).alloc (Nat.le_refl _) _).trans (hb1.mono (by simp)))
  have BX := Lib.hid ((box6_new w _ _ _ _ _ _ _).below hb1)
  obtain ⟨c0, c1, c2, c3, c4, c5, fz⟩ := BX.out
  have f0 := fz 0
  have f1 := fz 1
  have f2 := fz 2
  have f3 := fz 3
  have f4 := fz 4
  have f5 := fz 5
  clear fz
  clear hb1
  go_wp2
  (try simp only [Exit.inBlock, Exit.then]); refine bodyPost_ret (ret_rparse (Box6.stored BX.out _ _ _ _ _ _) rfl rfl) rfl ?_
  refine ⟨rfl, ?_⟩
  repeat refine Below.setCell ?_ (by simp) _
  exact B1.out
end Go.Proofs.YtgmjkkiahanekaaGreatDoor

/- The contract of the document's Parse: absolute targets. -/
set_option linter.unusedVariables false
set_option linter.unusedSimpArgs false
namespace Go.Proofs.YtgmjkkiahanekaaGreatDoor
open Go.RowKit Lex

theorem endT_at {s : List UInt8} {j : Nat} (h : ∀ x ∈ s.take j, x ≠ 47 ∧ x ≠ 63) (hj : j = s.length ∨ ∃ hj : j < s.length, s[j] = 47 ∨ s[j] = 63) : endT s = j := by
  have hno : Lib.NoAny s [47, 63] j := by
    intro i b hi hb
    have hm : b ∈ s.take j := by
      have : (s.take j)[i]? = some b := by rw [List.getElem?_take, if_pos hi]; exact hb
      exact List.mem_of_getElem? this
    have := h b hm
    simp only [List.contains_cons, List.contains_nil, Bool.or_false, Bool.or_eq_false_iff, beq_eq_false_iff_ne]
    exact ⟨this.1, this.2⟩
  unfold endT
  rcases hj with rfl | ⟨hlt, hc⟩
  · rw [Lib.indexAny_none hno, if_pos (by decide)]
  · rw [Lib.indexAny_hit hno (List.getElem?_eq_getElem hlt) (by rcases hc with hc | hc <;> rw [hc] <;> decide), if_neg (by omega)]; simp
theorem absT_at {s : List UInt8} {j : Nat} (hj : endT s = j) : absT s = match authB (s.take j) with
  | none => ({}, 61)
  | some (h, p) => localT { form := 2, host := h, port := p } (if (s.drop j).head? = some 47 then s.drop j else 47 :: s.drop j) := by subst hj; rfl

set_option maxRecDepth 100000 in
set_option maxHeartbeats 4000000 in
theorem rparse_abs (M s : ByteArray) (w : World) (hM : M.data.toList ≠ connectL) (hs : s.size ≤ 4194000) (h7 : 7 ≤ s.size) (h47 : s[0] ≠ 47) (hh : lower (s.data.toList.take 7) = httpL) :
    Calls Tryz.prog 92 #[.string M, .string s] w fun e w' => e = .returned (tgOut (absT (s.data.toList.drop 7))) ∧ Below w.heap.size w w' := by
  have bM : (M.toList == [67, 79, 78, 78, 69, 67, 84]) = false := by rw [Lib.toList_data, beq_eq_false_iff_ne]; exact hM
  have b42 : ¬ s.toList = [42] := by rw [Lib.toList_data]; intro e; have := congrArg List.length e; rw [size_list] at this; simp at this; omega
  have b47 : ((s[0].toNat : Int) == 47) = false := by rw [beq_eq_false_iff_ne]; intro e; apply h47; rw [← UInt8.toNat_inj]; simp only [UInt8.reduceToNat]; omega
  have h7' : ¬ (s.size : Int) < 7 := by omega
  have h0 : 0 < s.size := by omega
  have LO := fun w => Lib.hid (rlower_c (s.extract 0 7) w (by rw [ByteArray.size_extract]; omega))
  rw [show (s.extract 0 7).data.toList = s.data.toList.take 7 from by rw [Lib.extract_data]; simp, hh] at LO
  generalize ho : absT (s.data.toList.drop 7) = out
  have HO := Lib.hid ho
  clear h47 hM hh ho
  go_enter Tryz.func92, Tryz.ntmps92
  go_wp2_with fail
  refine (LO _).out.mono ?_
  rintro e w1 ⟨rfl, hb1⟩
  have B1 := Lib.hid (show Below w.heap.size w w1 from ((Below.refl _ w).alloc (Nat.le_refl _) _).trans (hb1.mono (by simp)))
  have BX1 := Lib.hid ((box6_new w _ _ _ _ _ _ _).below hb1)
  clear hb1
  go_wp2
  go_loop [9] (fun i => ∃ k : Nat, 7 ≤ k ∧ k ≤ s.size ∧ i = .int .i64 k ∧ ∀ x ∈ (s.data.toList.drop 7).take (k - 7), x ≠ 47 ∧ x ≠ 63) (fun i => s.size - (intOf i).toNat)
  case atStart => exact ⟨7, Nat.le_refl _, h7, rfl, by simp⟩
  case round =>
    obtain ⟨k, hk7, hk, rfl, ha⟩ := hrel
    have HA := Lib.hid ha
    clear ha LO b47 b42 bM
    by_cases hlt : k < s.size
    · by_cases h47 : s[k] = 47
      · have hc := h47
        have HJ : k - 7 = (s.data.toList.drop 7).length ∨ ∃ hj : k - 7 < (s.data.toList.drop 7).length, (s.data.toList.drop 7)[k - 7] = 47 ∨ (s.data.toList.drop 7)[k - 7] = 63 := by
          right
          have hj : k - 7 < (s.data.toList.drop 7).length := by rw [List.length_drop, size_list]; omega
          refine ⟨hj, .inl ?_⟩
          rw [List.getElem_drop]
          have := sget_list s k hlt
          rw [← hc, ← this]
          congr 1; omega
        have g47 : ((s[k].toNat : Int) != 47) = false := by rw [hc]; rfl
        clear h47
        have hj : endT (s.data.toList.drop 7) = k - 7 := endT_at HA.out HJ
        have hab := absT_at hj
        have e7 : (s.extract 7 k).data.toList = (s.data.toList.drop 7).take (k - 7) := by rw [Lib.extract_data]
        have ek : (s.data.toList.drop 7).drop (k - 7) = s.data.toList.drop k := by rw [List.drop_drop]; congr 1; omega
        rw [ek, ← e7] at hab
        have AU := fun w => Lib.hid (rauth_c (s.extract 7 k) w (by rw [ByteArray.size_extract]; omega))
        have er : (s.extract k s.size).data.toList = s.data.toList.drop k := Lib.extract_to_end s k
        have hd : s.data.toList.drop k = 47 :: s.data.toList.drop (k + 1) := by
          have := List.drop_eq_getElem_cons (l := s.data.toList) (i := k) (by rw [size_list]; exact hlt)
          rw [sget_list s k hlt, hc] at this; exact this
        rw [hd] at hab
        have hr0 : 0 < (s.extract k s.size).size := by rw [ByteArray.size_extract]; omega
        have hg : (s.extract k s.size)[0] = 47 := by
          have h1 : (s.extract k s.size).data.toList[0]? = some 47 := by rw [er, hd]; rfl
          have h2 := get_at (s.extract k s.size) 0 hr0
          rw [h1] at h2; injection h2 with h2; exact h2.symm
        rw [if_pos (by rfl)] at hab
        have q47 : (((s.extract k s.size)[0].toNat : Int) != 47) = false := by rw [hg]; rfl
        cases ha : authB (s.extract 7 k).data.toList with
        | none =>
          rw [ha] at AU hab
          simp only at hab
          obtain rfl : out = ({}, 61) := HO.out.symm.trans hab
          simp only [authVal] at AU
          clear hj hab e7 ek er hd ha hg hc
          go_wp2_with fail
          refine (AU _).out.mono ?_
          rintro e w2 ⟨rfl, hb2⟩
          have B := Lib.hid (below_then B1.out hb2)
          have BX := Lib.hid (BX1.out.below hb2)
          obtain ⟨c0, c1, c2, c3, c4, c5, fz⟩ := BX.out
          have f0 := fz 0
          have f1 := fz 1
          have f2 := fz 2
          have f3 := fz 3
          have f4 := fz 4
          have f5 := fz 5
          clear fz
          clear hb2
          go_wp2
          (try simp only [Exit.inBlock, Exit.then]); refine bodyPost_ret (ret_rparse (Box6.stored BX.out _ _ _ _ _ _) rfl rfl) rfl ?_
          refine ⟨rfl, ?_⟩
          repeat refine Below.setCell ?_ (by simp) _
          exact B.out
        | some x =>
          obtain ⟨h, p⟩ := x
          rw [ha] at AU hab
          simp only at hab
          have HOUT := Lib.hid (HO.out.symm.trans hab)
          simp only [authVal] at AU
          have LC := fun w => Lib.hid (rlocal_c 2 p (bs h) (s.extract k s.size) w (by rw [ByteArray.size_extract]; omega))
          rw [show (bs h).data.toList = h from rfl, show ((s.extract k s.size) : ByteArray).data.toList = (47 :: s.data.toList.drop (k + 1)) from by rw [er, hd], ← HOUT.out] at LC
          obtain ⟨t, n⟩ := out
          simp only [tgOut, tgVal] at LC
          have hr0' : ¬ ((s.extract k s.size).size : Int) = 0 := by omega
          have hr1 : (((s.extract k s.size).size : Int) == 0) = false := by rw [beq_eq_false_iff_ne]; omega
          clear hj hab e7 ek er hd ha hg hc
          go_wp2_with fail
          refine (AU _).out.mono ?_
          rintro e w2 ⟨rfl, hb2⟩
          have B2 := Lib.hid (below_then B1.out hb2)
          have BX2 := Lib.hid (BX1.out.below hb2)
          clear hb2
          go_wp2_with fail
          refine (LC _).out.mono ?_
          rintro e w3 ⟨rfl, hb3⟩
          have B := Lib.hid (below_then B2.out hb3)
          have BX := Lib.hid (BX2.out.below hb3)
          obtain ⟨c0, c1, c2, c3, c4, c5, fz⟩ := BX.out
          have f0 := fz 0
          have f1 := fz 1
          have f2 := fz 2
          have f3 := fz 3
          have f4 := fz 4
          have f5 := fz 5
          clear fz
          clear hb3
          go_wp2
          (try simp only [Exit.inBlock, Exit.then]); refine bodyPost_ret (ret_rparse (Box6.stored BX.out _ _ _ _ _ _) rfl rfl) rfl ?_
          refine ⟨rfl, ?_⟩
          repeat refine Below.setCell ?_ (by simp) _
          exact B.out
      · by_cases h63 : s[k] = 63
        · have hc := h63
          have HJ : k - 7 = (s.data.toList.drop 7).length ∨ ∃ hj : k - 7 < (s.data.toList.drop 7).length, (s.data.toList.drop 7)[k - 7] = 47 ∨ (s.data.toList.drop 7)[k - 7] = 63 := by
            right
            have hj : k - 7 < (s.data.toList.drop 7).length := by rw [List.length_drop, size_list]; omega
            refine ⟨hj, .inr ?_⟩
            rw [List.getElem_drop]
            have := sget_list s k hlt
            rw [← hc, ← this]
            congr 1; omega
          have g47 : ((s[k].toNat : Int) != 47) = true := by rw [hc]; rfl
          have g63 : ((s[k].toNat : Int) != 63) = false := by rw [hc]; rfl
          clear h47 h63
          have hj : endT (s.data.toList.drop 7) = k - 7 := endT_at HA.out HJ
          have hab := absT_at hj
          have e7 : (s.extract 7 k).data.toList = (s.data.toList.drop 7).take (k - 7) := by rw [Lib.extract_data]
          have ek : (s.data.toList.drop 7).drop (k - 7) = s.data.toList.drop k := by rw [List.drop_drop]; congr 1; omega
          rw [ek, ← e7] at hab
          have AU := fun w => Lib.hid (rauth_c (s.extract 7 k) w (by rw [ByteArray.size_extract]; omega))
          have er : (s.extract k s.size).data.toList = s.data.toList.drop k := Lib.extract_to_end s k
          have hd : s.data.toList.drop k = 63 :: s.data.toList.drop (k + 1) := by
            have := List.drop_eq_getElem_cons (l := s.data.toList) (i := k) (by rw [size_list]; exact hlt)
            rw [sget_list s k hlt, hc] at this; exact this
          rw [hd] at hab
          have hr0 : 0 < (s.extract k s.size).size := by rw [ByteArray.size_extract]; omega
          have hg : (s.extract k s.size)[0] = 63 := by
            have h1 : (s.extract k s.size).data.toList[0]? = some 63 := by rw [er, hd]; rfl
            have h2 := get_at (s.extract k s.size) 0 hr0
            rw [h1] at h2; injection h2 with h2; exact h2.symm
          rw [if_neg (by simp)] at hab
          have q47 : (((s.extract k s.size)[0].toNat : Int) != 47) = true := by rw [hg]; rfl
          cases ha : authB (s.extract 7 k).data.toList with
          | none =>
            rw [ha] at AU hab
            simp only at hab
            obtain rfl : out = ({}, 61) := HO.out.symm.trans hab
            simp only [authVal] at AU
            clear hj hab e7 ek er hd ha hg hc
            go_wp2_with fail
            refine (AU _).out.mono ?_
            rintro e w2 ⟨rfl, hb2⟩
            have B := Lib.hid (below_then B1.out hb2)
            have BX := Lib.hid (BX1.out.below hb2)
            obtain ⟨c0, c1, c2, c3, c4, c5, fz⟩ := BX.out
            have f0 := fz 0
            have f1 := fz 1
            have f2 := fz 2
            have f3 := fz 3
            have f4 := fz 4
            have f5 := fz 5
            clear fz
            clear hb2
            go_wp2
            (try simp only [Exit.inBlock, Exit.then]); refine bodyPost_ret (ret_rparse (Box6.stored BX.out _ _ _ _ _ _) rfl rfl) rfl ?_
            refine ⟨rfl, ?_⟩
            repeat refine Below.setCell ?_ (by simp) _
            exact B.out
          | some x =>
            obtain ⟨h, p⟩ := x
            rw [ha] at AU hab
            simp only at hab
            have HOUT := Lib.hid (HO.out.symm.trans hab)
            simp only [authVal] at AU
            have LC := fun w => Lib.hid (rlocal_c 2 p (bs h) (⟨#[47]⟩ ++ s.extract k s.size) w (by rw [ByteArray.size_append, ByteArray.size_extract]; show 1 + _ ≤ _; omega))
            rw [show (bs h).data.toList = h from rfl, show ((⟨#[47]⟩ ++ s.extract k s.size) : ByteArray).data.toList = (47 :: 63 :: s.data.toList.drop (k + 1)) from by rw [ByteArray.data_append, Array.toList_append, er, hd]; rfl, ← HOUT.out] at LC
            obtain ⟨t, n⟩ := out
            simp only [tgOut, tgVal] at LC
            have hcat : (ByteArray.mk #[47]).size + (s.extract k s.size).size ≤ 4194304 := by rw [ByteArray.size_extract]; show 1 + _ ≤ _; omega
            have hr0' : ¬ ((s.extract k s.size).size : Int) = 0 := by omega
            have hr1 : (((s.extract k s.size).size : Int) == 0) = false := by rw [beq_eq_false_iff_ne]; omega
            clear hj hab e7 ek er hd ha hg hc
            go_wp2_with fail
            refine (AU _).out.mono ?_
            rintro e w2 ⟨rfl, hb2⟩
            have B2 := Lib.hid (below_then B1.out hb2)
            have BX2 := Lib.hid (BX1.out.below hb2)
            clear hb2
            go_wp2_with fail
            refine (LC _).out.mono ?_
            rintro e w3 ⟨rfl, hb3⟩
            have B := Lib.hid (below_then B2.out hb3)
            have BX := Lib.hid (BX2.out.below hb3)
            obtain ⟨c0, c1, c2, c3, c4, c5, fz⟩ := BX.out
            have f0 := fz 0
            have f1 := fz 1
            have f2 := fz 2
            have f3 := fz 3
            have f4 := fz 4
            have f5 := fz 5
            clear fz
            clear hb3
            go_wp2
            (try simp only [Exit.inBlock, Exit.then]); refine bodyPost_ret (ret_rparse (Box6.stored BX.out _ _ _ _ _ _) rfl rfl) rfl ?_
            refine ⟨rfl, ?_⟩
            repeat refine Below.setCell ?_ (by simp) _
            exact B.out
        · have g47 : ((s[k].toNat : Int) != 47) = true := by rw [bne_iff_ne]; intro e; apply h47; rw [← UInt8.toNat_inj]; simp only [UInt8.reduceToNat]; omega
          have g63 : ((s[k].toNat : Int) != 63) = true := by rw [bne_iff_ne]; intro e; apply h63; rw [← UInt8.toNat_inj]; simp only [UInt8.reduceToNat]; omega
          have hs2 : ∀ x ∈ (s.data.toList.drop 7).take (k + 1 - 7), x ≠ 47 ∧ x ≠ 63 := by
            intro x hx
            rw [show k + 1 - 7 = (k - 7) + 1 by omega, List.take_succ_eq_append_getElem (by rw [List.length_drop, size_list]; omega)] at hx
            rcases List.mem_append.1 hx with hx | hx
            · exact HA.out x hx
            · have he : (s.data.toList.drop 7)[k - 7]'(by rw [List.length_drop, size_list]; omega) = s[k] := by
                rw [List.getElem_drop]
                have := sget_list s k hlt
                rw [← this]; congr 1; omega
              simp only [List.mem_singleton] at hx
              rw [hx, he]; exact ⟨h47, h63⟩
          have HS := Lib.hid hs2
          clear hs2 h47 h63
          go_wp2
          go_round
          case rel => exact ⟨k + 1, by omega, by omega, by go_num, HS.out⟩
          case measure => simp [intOf]; omega
    · have HJ : k - 7 = (s.data.toList.drop 7).length ∨ ∃ hj : k - 7 < (s.data.toList.drop 7).length, (s.data.toList.drop 7)[k - 7] = 47 ∨ (s.data.toList.drop 7)[k - 7] = 63 := .inl (by rw [List.length_drop, size_list]; omega)
      have hj : endT (s.data.toList.drop 7) = k - 7 := endT_at HA.out HJ
      have hab := absT_at hj
      have e7 : (s.extract 7 k).data.toList = (s.data.toList.drop 7).take (k - 7) := by rw [Lib.extract_data]
      have ek : (s.data.toList.drop 7).drop (k - 7) = s.data.toList.drop k := by rw [List.drop_drop]; congr 1; omega
      rw [ek, ← e7] at hab
      have AU := fun w => Lib.hid (rauth_c (s.extract 7 k) w (by rw [ByteArray.size_extract]; omega))
      have er : (s.extract k s.size).data.toList = s.data.toList.drop k := Lib.extract_to_end s k
      have hd : s.data.toList.drop k = [] := List.drop_eq_nil_of_le (by rw [size_list]; omega)
      rw [hd] at hab
      have hx : s.extract k s.size = ⟨#[]⟩ := bytes_ext (by rw [er, hd])
      have HX := Lib.hid hx
      rw [if_neg (by simp)] at hab
      cases ha : authB (s.extract 7 k).data.toList with
      | none =>
        rw [ha] at AU hab
        simp only at hab
        obtain rfl : out = ({}, 61) := HO.out.symm.trans hab
        simp only [authVal] at AU
        clear hj hab e7 ek er hd ha hx
        go_wp2_with fail
        refine (AU _).out.mono ?_
        rintro e w2 ⟨rfl, hb2⟩
        have B := Lib.hid (below_then B1.out hb2)
        have BX := Lib.hid (BX1.out.below hb2)
        obtain ⟨c0, c1, c2, c3, c4, c5, fz⟩ := BX.out
        have f0 := fz 0
        have f1 := fz 1
        have f2 := fz 2
        have f3 := fz 3
        have f4 := fz 4
        have f5 := fz 5
        clear fz
        clear hb2
        go_wp2
        (try simp only [Exit.inBlock, Exit.then]); refine bodyPost_ret (ret_rparse (Box6.stored BX.out _ _ _ _ _ _) rfl rfl) rfl ?_
        refine ⟨rfl, ?_⟩
        repeat refine Below.setCell ?_ (by simp) _
        exact B.out
      | some x =>
        obtain ⟨h, p⟩ := x
        rw [ha] at AU hab
        simp only at hab
        have HOUT := Lib.hid (HO.out.symm.trans hab)
        simp only [authVal] at AU
        have LC := fun w => Lib.hid (rlocal_c 2 p (bs h) ⟨#[47]⟩ w (by decide))
        rw [show (bs h).data.toList = h from rfl, show (⟨#[47]⟩ : ByteArray).data.toList = [47] from rfl, ← HOUT.out] at LC
        obtain ⟨t, n⟩ := out
        simp only [tgOut, tgVal] at LC
        clear hj hab e7 ek er hd ha hx
        go_wp2_with fail
        refine (AU _).out.mono ?_
        rintro e w2 ⟨rfl, hb2⟩
        have B2 := Lib.hid (below_then B1.out hb2)
        have BX2 := Lib.hid (BX1.out.below hb2)
        clear hb2
        go_wp2_with fail
        rw [HX.out]
        go_wp2_with fail
        refine (LC _).out.mono ?_
        rintro e w3 ⟨rfl, hb3⟩
        have B := Lib.hid (below_then B2.out hb3)
        have BX := Lib.hid (BX2.out.below hb3)
        obtain ⟨c0, c1, c2, c3, c4, c5, fz⟩ := BX.out
        have f0 := fz 0
        have f1 := fz 1
        have f2 := fz 2
        have f3 := fz 3
        have f4 := fz 4
        have f5 := fz 5
        clear fz
        clear hb3
        go_wp2
        (try simp only [Exit.inBlock, Exit.then]); refine bodyPost_ret (ret_rparse (Box6.stored BX.out _ _ _ _ _ _) rfl rfl) rfl ?_
        refine ⟨rfl, ?_⟩
        repeat refine Below.setCell ?_ (by simp) _
        exact B.out
end Go.Proofs.YtgmjkkiahanekaaGreatDoor

