/- The contract of the document's Parse: absolute targets. -/
import Derived.Test.YtjbmipbjlhcooaaDoorTgtN
import Derived.Outline
set_option linter.unusedVariables false
set_option linter.unusedSimpArgs false
namespace Go.Proofs.YtjbmipbjlhcooaaDoor
open Go.RowKit Lex

theorem endT_at {s : List UInt8} {j : Nat} (h : ∀ x ∈ s.take j, x ≠ 47 ∧ x ≠ 63) (hj : j = s.length ∨ ∃ hj : j < s.length, s[j] = 47 ∨ s[j] = 63) : endT s = j := by
  have hno : Lib.NoAny s [47, 63] j := by
    intro i b hi hb
    have hm : b ∈ s.take j := by
      have : (s.take j)[i]? = some b := by rw [List.getElem?_take, if_pos hi]; exact hb
      exact List.mem_of_getElem? this
    have := h b hm
    simp only [List.contains_cons, List.contains_nil, Bool.or_false, Bool.or_eq_false_iff, beq_eq_false_iff_ne]
    exact ⟨this.1, this.2⟩
  unfold endT
  rcases hj with rfl | ⟨hlt, hc⟩
  · rw [Lib.indexAny_none hno, if_pos (by decide)]
  · rw [Lib.indexAny_hit hno (List.getElem?_eq_getElem hlt) (by rcases hc with hc | hc <;> rw [hc] <;> decide), if_neg (by omega)]; simp
theorem absT_at {s : List UInt8} {j : Nat} (hj : endT s = j) : absT s = match authB (s.take j) with
  | none => ({}, 61)
  | some (h, p) => localT { form := 2, host := h, port := p } (if (s.drop j).head? = some 47 then s.drop j else 47 :: s.drop j) := by subst hj; rfl

set_option maxRecDepth 100000 in
set_option maxHeartbeats 4000000 in
theorem rparse_abs (M s : ByteArray) (w : World) (hM : M.data.toList ≠ connectL) (hs : s.size ≤ 4194000) (h7 : 7 ≤ s.size) (h47 : s[0] ≠ 47) (hh : lower (s.data.toList.take 7) = httpL) :
    Calls Tryd.prog 21 #[.string M, .string s] w fun e w' => e = .returned (tgOut (absT (s.data.toList.drop 7))) ∧ Below w.heap.size w w' := by
  have bM : (M.toList == [67, 79, 78, 78, 69, 67, 84]) = false := by rw [Lib.toList_data, beq_eq_false_iff_ne]; exact hM
  have b42 : ¬ s.toList = [42] := by rw [Lib.toList_data]; intro e; have := congrArg List.length e; rw [size_list] at this; simp at this; omega
  have b47 : ((s[0].toNat : Int) == 47) = false := by rw [beq_eq_false_iff_ne]; intro e; apply h47; rw [← UInt8.toNat_inj]; simp only [UInt8.reduceToNat]; omega
  have h7' : ¬ (s.size : Int) < 7 := by omega
  have h0 : 0 < s.size := by omega
  have LO := fun w => Lib.hid (rlower_c (s.extract 0 7) w (by rw [ByteArray.size_extract]; omega))
  rw [show (s.extract 0 7).data.toList = s.data.toList.take 7 from by rw [Lib.extract_data]; simp, hh] at LO
  generalize ho : absT (s.data.toList.drop 7) = out
  have HO := Lib.hid ho
  clear h47 hM hh ho
  go_enter Tryd.func21, Tryd.ntmps21
  go_wp2_with fail
  refine (LO _).out.mono ?_
  rintro e w1 ⟨rfl, hb1⟩
  have B1 := Lib.hid (show Below w.heap.size w w1 from ((Below.refl _ w).alloc (Nat.le_refl _) _).trans (hb1.mono (by simp)))
  have BX1 := Lib.hid ((box6_new w _ _ _ _ _ _ _).below hb1)
  clear hb1
  go_wp2
  go_loop [9] (fun i => ∃ k : Nat, 7 ≤ k ∧ k ≤ s.size ∧ i = .int .i64 k ∧ ∀ x ∈ (s.data.toList.drop 7).take (k - 7), x ≠ 47 ∧ x ≠ 63) (fun i => s.size - (intOf i).toNat)
  case atStart => exact ⟨7, Nat.le_refl _, h7, rfl, by simp⟩
  case round =>
    obtain ⟨k, hk7, hk, rfl, ha⟩ := hrel
    have HA := Lib.hid ha
    clear ha LO b47 b42 bM
    by_cases hlt : k < s.size
    · by_cases h47 : s[k] = 47
      · have hc := h47
        have HJ : k - 7 = (s.data.toList.drop 7).length ∨ ∃ hj : k - 7 < (s.data.toList.drop 7).length, (s.data.toList.drop 7)[k - 7] = 47 ∨ (s.data.toList.drop 7)[k - 7] = 63 := by
          right
          have hj : k - 7 < (s.data.toList.drop 7).length := by rw [List.length_drop, size_list]; omega
          refine ⟨hj, .inl ?_⟩
          rw [List.getElem_drop]
          have := sget_list s k hlt
          rw [← hc, ← this]
          congr 1; omega
        have g47 : ((s[k].toNat : Int) != 47) = false := by rw [hc]; rfl
        clear h47
        have hj : endT (s.data.toList.drop 7) = k - 7 := endT_at HA.out HJ
        have hab := absT_at hj
        have e7 : (s.extract 7 k).data.toList = (s.data.toList.drop 7).take (k - 7) := by rw [Lib.extract_data]
        have ek : (s.data.toList.drop 7).drop (k - 7) = s.data.toList.drop k := by rw [List.drop_drop]; congr 1; omega
        rw [ek, ← e7] at hab
        have AU := fun w => Lib.hid (rauth_c (s.extract 7 k) w (by rw [ByteArray.size_extract]; omega))
        have er : (s.extract k s.size).data.toList = s.data.toList.drop k := Lib.extract_to_end s k
        have hd : s.data.toList.drop k = 47 :: s.data.toList.drop (k + 1) := by
          have := List.drop_eq_getElem_cons (l := s.data.toList) (i := k) (by rw [size_list]; exact hlt)
          rw [sget_list s k hlt, hc] at this; exact this
        rw [hd] at hab
        have hr0 : 0 < (s.extract k s.size).size := by rw [ByteArray.size_extract]; omega
        have hg : (s.extract k s.size)[0] = 47 := by
          have h1 : (s.extract k s.size).data.toList[0]? = some 47 := by rw [er, hd]; rfl
          have h2 := get_at (s.extract k s.size) 0 hr0
          rw [h1] at h2; injection h2 with h2; exact h2.symm
        rw [if_pos (by rfl)] at hab
        have q47 : (((s.extract k s.size)[0].toNat : Int) != 47) = false := by rw [hg]; rfl
        cases ha : authB (s.extract 7 k).data.toList with
        | none =>
          rw [ha] at AU hab
          simp only at hab
          obtain rfl : out = ({}, 61) := HO.out.symm.trans hab
          simp only [authVal] at AU
          clear hj hab e7 ek er hd ha hg hc
          go_wp2_with fail
          refine (AU _).out.mono ?_
          rintro e w2 ⟨rfl, hb2⟩
          have B := Lib.hid (below_then B1.out hb2)
          have BX := Lib.hid (BX1.out.below hb2)
          obtain ⟨c0, c1, c2, c3, c4, c5, fz⟩ := BX.out
          have f0 := fz 0
          have f1 := fz 1
          have f2 := fz 2
          have f3 := fz 3
          have f4 := fz 4
          have f5 := fz 5
          clear fz
          clear hb2
          go_wp2
          (try simp only [Exit.inBlock, Exit.then]); refine bodyPost_ret (ret_rparse (Box6.stored BX.out _ _ _ _ _ _) rfl rfl) rfl ?_
          refine ⟨rfl, ?_⟩
          repeat refine Below.setCell ?_ (by simp) _
          exact B.out
        | some x =>
          obtain ⟨h, p⟩ := x
          rw [ha] at AU hab
          simp only at hab
          have HOUT := Lib.hid (HO.out.symm.trans hab)
          simp only [authVal] at AU
          have LC := fun w => Lib.hid (rlocal_c 2 p (bs h) (s.extract k s.size) w (by rw [ByteArray.size_extract]; omega))
          rw [show (bs h).data.toList = h from rfl, show ((s.extract k s.size) : ByteArray).data.toList = (47 :: s.data.toList.drop (k + 1)) from by rw [er, hd], ← HOUT.out] at LC
          obtain ⟨t, n⟩ := out
          simp only [tgOut, tgVal] at LC
          have hr0' : ¬ ((s.extract k s.size).size : Int) = 0 := by omega
          have hr1 : (((s.extract k s.size).size : Int) == 0) = false := by rw [beq_eq_false_iff_ne]; omega
          clear hj hab e7 ek er hd ha hg hc
          go_wp2_with fail
          refine (AU _).out.mono ?_
          rintro e w2 ⟨rfl, hb2⟩
          have B2 := Lib.hid (below_then B1.out hb2)
          have BX2 := Lib.hid (BX1.out.below hb2)
          clear hb2
          go_wp2_with fail
          refine (LC _).out.mono ?_
          rintro e w3 ⟨rfl, hb3⟩
          have B := Lib.hid (below_then B2.out hb3)
          have BX := Lib.hid (BX2.out.below hb3)
          obtain ⟨c0, c1, c2, c3, c4, c5, fz⟩ := BX.out
          have f0 := fz 0
          have f1 := fz 1
          have f2 := fz 2
          have f3 := fz 3
          have f4 := fz 4
          have f5 := fz 5
          clear fz
          clear hb3
          go_wp2
          (try simp only [Exit.inBlock, Exit.then]); refine bodyPost_ret (ret_rparse (Box6.stored BX.out _ _ _ _ _ _) rfl rfl) rfl ?_
          refine ⟨rfl, ?_⟩
          repeat refine Below.setCell ?_ (by simp) _
          exact B.out
      · by_cases h63 : s[k] = 63
        · have hc := h63
          have HJ : k - 7 = (s.data.toList.drop 7).length ∨ ∃ hj : k - 7 < (s.data.toList.drop 7).length, (s.data.toList.drop 7)[k - 7] = 47 ∨ (s.data.toList.drop 7)[k - 7] = 63 := by
            right
            have hj : k - 7 < (s.data.toList.drop 7).length := by rw [List.length_drop, size_list]; omega
            refine ⟨hj, .inr ?_⟩
            rw [List.getElem_drop]
            have := sget_list s k hlt
            rw [← hc, ← this]
            congr 1; omega
          have g47 : ((s[k].toNat : Int) != 47) = true := by rw [hc]; rfl
          have g63 : ((s[k].toNat : Int) != 63) = false := by rw [hc]; rfl
          clear h47 h63
          have hj : endT (s.data.toList.drop 7) = k - 7 := endT_at HA.out HJ
          have hab := absT_at hj
          have e7 : (s.extract 7 k).data.toList = (s.data.toList.drop 7).take (k - 7) := by rw [Lib.extract_data]
          have ek : (s.data.toList.drop 7).drop (k - 7) = s.data.toList.drop k := by rw [List.drop_drop]; congr 1; omega
          rw [ek, ← e7] at hab
          have AU := fun w => Lib.hid (rauth_c (s.extract 7 k) w (by rw [ByteArray.size_extract]; omega))
          have er : (s.extract k s.size).data.toList = s.data.toList.drop k := Lib.extract_to_end s k
          have hd : s.data.toList.drop k = 63 :: s.data.toList.drop (k + 1) := by
            have := List.drop_eq_getElem_cons (l := s.data.toList) (i := k) (by rw [size_list]; exact hlt)
            rw [sget_list s k hlt, hc] at this; exact this
          rw [hd] at hab
          have hr0 : 0 < (s.extract k s.size).size := by rw [ByteArray.size_extract]; omega
          have hg : (s.extract k s.size)[0] = 63 := by
            have h1 : (s.extract k s.size).data.toList[0]? = some 63 := by rw [er, hd]; rfl
            have h2 := get_at (s.extract k s.size) 0 hr0
            rw [h1] at h2; injection h2 with h2; exact h2.symm
          rw [if_neg (by simp)] at hab
          have q47 : (((s.extract k s.size)[0].toNat : Int) != 47) = true := by rw [hg]; rfl
          cases ha : authB (s.extract 7 k).data.toList with
          | none =>
            rw [ha] at AU hab
            simp only at hab
            obtain rfl : out = ({}, 61) := HO.out.symm.trans hab
            simp only [authVal] at AU
            clear hj hab e7 ek er hd ha hg hc
            go_wp2_with fail
            refine (AU _).out.mono ?_
            rintro e w2 ⟨rfl, hb2⟩
            have B := Lib.hid (below_then B1.out hb2)
            have BX := Lib.hid (BX1.out.below hb2)
            obtain ⟨c0, c1, c2, c3, c4, c5, fz⟩ := BX.out
            have f0 := fz 0
            have f1 := fz 1
            have f2 := fz 2
            have f3 := fz 3
            have f4 := fz 4
            have f5 := fz 5
            clear fz
            clear hb2
            go_wp2
            (try simp only [Exit.inBlock, Exit.then]); refine bodyPost_ret (ret_rparse (Box6.stored BX.out _ _ _ _ _ _) rfl rfl) rfl ?_
            refine ⟨rfl, ?_⟩
            repeat refine Below.setCell ?_ (by simp) _
            exact B.out
          | some x =>
            obtain ⟨h, p⟩ := x
            rw [ha] at AU hab
            simp only at hab
            have HOUT := Lib.hid (HO.out.symm.trans hab)
            simp only [authVal] at AU
            have LC := fun w => Lib.hid (rlocal_c 2 p (bs h) (⟨#[47]⟩ ++ s.extract k s.size) w (by rw [ByteArray.size_append, ByteArray.size_extract]; show 1 + _ ≤ _; omega))
            rw [show (bs h).data.toList = h from rfl, show ((⟨#[47]⟩ ++ s.extract k s.size) : ByteArray).data.toList = (47 :: 63 :: s.data.toList.drop (k + 1)) from by rw [ByteArray.data_append, Array.toList_append, er, hd]; rfl, ← HOUT.out] at LC
            obtain ⟨t, n⟩ := out
            simp only [tgOut, tgVal] at LC
            have hcat : (ByteArray.mk #[47]).size + (s.extract k s.size).size ≤ 4194304 := by rw [ByteArray.size_extract]; show 1 + _ ≤ _; omega
            have hr0' : ¬ ((s.extract k s.size).size : Int) = 0 := by omega
            have hr1 : (((s.extract k s.size).size : Int) == 0) = false := by rw [beq_eq_false_iff_ne]; omega
            clear hj hab e7 ek er hd ha hg hc
            go_wp2_with fail
            refine (AU _).out.mono ?_
            rintro e w2 ⟨rfl, hb2⟩
            have B2 := Lib.hid (below_then B1.out hb2)
            have BX2 := Lib.hid (BX1.out.below hb2)
            clear hb2
            go_wp2_with fail
            refine (LC _).out.mono ?_
            rintro e w3 ⟨rfl, hb3⟩
            have B := Lib.hid (below_then B2.out hb3)
            have BX := Lib.hid (BX2.out.below hb3)
            obtain ⟨c0, c1, c2, c3, c4, c5, fz⟩ := BX.out
            have f0 := fz 0
            have f1 := fz 1
            have f2 := fz 2
            have f3 := fz 3
            have f4 := fz 4
            have f5 := fz 5
            clear fz
            clear hb3
            go_wp2
            (try simp only [Exit.inBlock, Exit.then]); refine bodyPost_ret (ret_rparse (Box6.stored BX.out _ _ _ _ _ _) rfl rfl) rfl ?_
            refine ⟨rfl, ?_⟩
            repeat refine Below.setCell ?_ (by simp) _
            exact B.out
        · have g47 : ((s[k].toNat : Int) != 47) = true := by rw [bne_iff_ne]; intro e; apply h47; rw [← UInt8.toNat_inj]; simp only [UInt8.reduceToNat]; omega
          have g63 : ((s[k].toNat : Int) != 63) = true := by rw [bne_iff_ne]; intro e; apply h63; rw [← UInt8.toNat_inj]; simp only [UInt8.reduceToNat]; omega
          have hs2 : ∀ x ∈ (s.data.toList.drop 7).take (k + 1 - 7), x ≠ 47 ∧ x ≠ 63 := by
            intro x hx
            rw [show k + 1 - 7 = (k - 7) + 1 by omega, List.take_succ_eq_append_getElem (by rw [List.length_drop, size_list]; omega)] at hx
            rcases List.mem_append.1 hx with hx | hx
            · exact HA.out x hx
            · have he : (s.data.toList.drop 7)[k - 7]'(by rw [List.length_drop, size_list]; omega) = s[k] := by
                rw [List.getElem_drop]
                have := sget_list s k hlt
                rw [← this]; congr 1; omega
              simp only [List.mem_singleton] at hx
              rw [hx, he]; exact ⟨h47, h63⟩
          have HS := Lib.hid hs2
          clear hs2 h47 h63
          go_wp2
          go_round
          case rel => exact ⟨k + 1, by omega, by omega, by go_num, HS.out⟩
          case measure => simp [intOf]; omega
    · have HJ : k - 7 = (s.data.toList.drop 7).length ∨ ∃ hj : k - 7 < (s.data.toList.drop 7).length, (s.data.toList.drop 7)[k - 7] = 47 ∨ (s.data.toList.drop 7)[k - 7] = 63 := .inl (by rw [List.length_drop, size_list]; omega)
      have hj : endT (s.data.toList.drop 7) = k - 7 := endT_at HA.out HJ
      have hab := absT_at hj
      have e7 : (s.extract 7 k).data.toList = (s.data.toList.drop 7).take (k - 7) := by rw [Lib.extract_data]
      have ek : (s.data.toList.drop 7).drop (k - 7) = s.data.toList.drop k := by rw [List.drop_drop]; congr 1; omega
      rw [ek, ← e7] at hab
      have AU := fun w => Lib.hid (rauth_c (s.extract 7 k) w (by rw [ByteArray.size_extract]; omega))
      have er : (s.extract k s.size).data.toList = s.data.toList.drop k := Lib.extract_to_end s k
      have hd : s.data.toList.drop k = [] := List.drop_eq_nil_of_le (by rw [size_list]; omega)
      rw [hd] at hab
      have hx : s.extract k s.size = ⟨#[]⟩ := bytes_ext (by rw [er, hd])
      have HX := Lib.hid hx
      rw [if_neg (by simp)] at hab
      cases ha : authB (s.extract 7 k).data.toList with
      | none =>
        rw [ha] at AU hab
        simp only at hab
        obtain rfl : out = ({}, 61) := HO.out.symm.trans hab
        simp only [authVal] at AU
        clear hj hab e7 ek er hd ha hx
        go_wp2_with fail
        refine (AU _).out.mono ?_
        rintro e w2 ⟨rfl, hb2⟩
        have B := Lib.hid (below_then B1.out hb2)
        have BX := Lib.hid (BX1.out.below hb2)
        obtain ⟨c0, c1, c2, c3, c4, c5, fz⟩ := BX.out
        have f0 := fz 0
        have f1 := fz 1
        have f2 := fz 2
        have f3 := fz 3
        have f4 := fz 4
        have f5 := fz 5
        clear fz
        clear hb2
        go_wp2
        (try simp only [Exit.inBlock, Exit.then]); refine bodyPost_ret (ret_rparse (Box6.stored BX.out _ _ _ _ _ _) rfl rfl) rfl ?_
        refine ⟨rfl, ?_⟩
        repeat refine Below.setCell ?_ (by simp) _
        exact B.out
      | some x =>
        obtain ⟨h, p⟩ := x
        rw [ha] at AU hab
        simp only at hab
        have HOUT := Lib.hid (HO.out.symm.trans hab)
        simp only [authVal] at AU
        have LC := fun w => Lib.hid (rlocal_c 2 p (bs h) ⟨#[47]⟩ w (by decide))
        rw [show (bs h).data.toList = h from rfl, show (⟨#[47]⟩ : ByteArray).data.toList = [47] from rfl, ← HOUT.out] at LC
        obtain ⟨t, n⟩ := out
        simp only [tgOut, tgVal] at LC
        clear hj hab e7 ek er hd ha hx
        go_wp2_with fail
        refine (AU _).out.mono ?_
        rintro e w2 ⟨rfl, hb2⟩
        have B2 := Lib.hid (below_then B1.out hb2)
        have BX2 := Lib.hid (BX1.out.below hb2)
        clear hb2
        go_wp2_with fail
        rw [HX.out]
        go_wp2_with fail
        refine (LC _).out.mono ?_
        rintro e w3 ⟨rfl, hb3⟩
        have B := Lib.hid (below_then B2.out hb3)
        have BX := Lib.hid (BX2.out.below hb3)
        obtain ⟨c0, c1, c2, c3, c4, c5, fz⟩ := BX.out
        have f0 := fz 0
        have f1 := fz 1
        have f2 := fz 2
        have f3 := fz 3
        have f4 := fz 4
        have f5 := fz 5
        clear fz
        clear hb3
        go_wp2
        (try simp only [Exit.inBlock, Exit.then]); refine bodyPost_ret (ret_rparse (Box6.stored BX.out _ _ _ _ _ _) rfl rfl) rfl ?_
        refine ⟨rfl, ?_⟩
        repeat refine Below.setCell ?_ (by simp) _
        exact B.out
end Go.Proofs.YtjbmipbjlhcooaaDoor
