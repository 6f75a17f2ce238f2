/- The contract of Parse: other methods than CONNECT. -/
import Derived.Test.YtjbmipbjlhcooaaDoorTgtO
import Derived.Test.YtjbmipbjlhcooaaDoorTgtX
set_option linter.unusedVariables false
set_option linter.unusedSimpArgs false
namespace Go.Proofs.YtjbmipbjlhcooaaDoor
open Go.RowKit Lex

theorem indexAny_lt (chars : List UInt8) : ∀ l : List UInt8, Lib.indexAny l chars < l.length
  | [] => by simp [Lib.indexAny]
  | b :: l => by
    have ih := indexAny_lt chars l
    unfold Lib.indexAny
    split
    · simp only [List.length_cons]; omega
    · split
      · simp only [List.length_cons]; omega
      · simp only [List.length_cons]; omega

set_option maxRecDepth 100000 in
set_option maxHeartbeats 1000000 in
theorem parse_star (w : World) : Calls Tryd.prog 19 #[.string (bs optionsL), .string (bs [42])] w fun e w' => e = .returned (tgOut ({ form := 4 }, 0)) ∧ Below w.heap.size w w' := by
  show Calls Tryd.prog 19 #[.string ⟨#[79, 80, 84, 73, 79, 78, 83]⟩, .string ⟨#[42]⟩] w _
  go_enter Tryd.func19, Tryd.ntmps19
  go_wp2_with fail
  exact bodyPost_ret (ret_parse (box6_new w _ _ _ _ _ _ _) rfl rfl) rfl ⟨rfl, (Below.refl _ w).alloc (Nat.le_refl _) _⟩

set_option maxRecDepth 100000 in
set_option maxHeartbeats 1000000 in
theorem parse_origin (M s : ByteArray) (m : Int) (w : World) (hM : M.data.toList ≠ connectL) (hs : s.size ≤ 4194304) (h47 : s.data.toList.head? = some 47) (hm : w.cell? ⟨0, 0, none⟩ = some (.int .i64 m)) :
    Calls Tryd.prog 19 #[.string M, .string s] w fun e w' => e = .returned (tgOut (localT { form := 1 } s.data.toList)) ∧ Below w.heap.size w w' := by
  have LC := fun w hm => Lib.hid (local_c 1 0 ⟨#[]⟩ s m w hs hm)
  rw [show localT { form := 1, host := (ByteArray.mk #[]).data.toList, port := 0 } s.data.toList = localT { form := 1 } s.data.toList from rfl] at LC
  generalize localT { form := 1 } s.data.toList = x at *
  have HP := fun w => Lib.hid (Tryd.strings_HasPrefix s ⟨#[47]⟩ w)
  rw [show (ByteArray.mk #[47]).data.toList = [47] from rfl, slash_prefix, decide_eq_true h47] at HP
  have bM : (M.toList == [67, 79, 78, 78, 69, 67, 84]) = false := by rw [Lib.toList_data, beq_eq_false_iff_ne]; exact hM
  have b42 : ¬ s.toList = [42] := by rw [Lib.toList_data]; intro e; rw [e] at h47; revert h47; decide
  have HM := Lib.hid hm
  simp only [tgOut, tgVal] at LC ⊢
  clear h47 hM hm
  go_enter Tryd.func19, Tryd.ntmps19
  go_wp2_with (go_at_call 41; refine (HP _).out.mono ?_; rintro e w' ⟨rfl, hw⟩; rw [hw])
  refine (LC _ (cell_below ((Below.refl _ w).alloc (Nat.le_refl _) _) HM.out)).out.mono ?_
  rintro e w1 ⟨rfl, hb1⟩
  have B := Lib.hid (show Below w.heap.size w w1 from ((Below.refl _ w).alloc (Nat.le_refl _) _).trans (hb1.mono (by simp)))
  have BX := Lib.hid ((box6_new w _ _ _ _ _ _ _).below hb1)
  obtain ⟨c0, c1, c2, c3, c4, c5, fz⟩ := BX.out
  have f0 := fz 0
  have f1 := fz 1
  have f2 := fz 2
  have f3 := fz 3
  have f4 := fz 4
  have f5 := fz 5
  clear fz
  clear hb1
  go_wp2
  (try simp only [Exit.inBlock, Exit.then]); refine bodyPost_ret (ret_parse (Box6.stored BX.out _ _ _ _ _ _) rfl rfl) rfl ?_
  refine ⟨rfl, ?_⟩
  repeat refine Below.setCell ?_ (by simp) _
  exact B.out

set_option maxRecDepth 100000 in
set_option maxHeartbeats 1000000 in
theorem parse_short (M s : ByteArray) (w : World) (hM : M.data.toList ≠ connectL) (h42 : s.data.toList = [42] → M.data.toList ≠ optionsL) (h7 : s.size < 7) (h47 : s.data.toList.head? ≠ some 47) :
    Calls Tryd.prog 19 #[.string M, .string s] w fun e w' => e = .returned (tgOut ({}, 60)) ∧ Below w.heap.size w w' := by
  have bM : (M.toList == [67, 79, 78, 78, 69, 67, 84]) = false := by rw [Lib.toList_data, beq_eq_false_iff_ne]; exact hM
  have HP := fun w => Lib.hid (Tryd.strings_HasPrefix s ⟨#[47]⟩ w)
  rw [show (ByteArray.mk #[47]).data.toList = [47] from rfl, slash_prefix, decide_eq_false h47] at HP
  by_cases hs : s.data.toList = [42]
  · have bO : (M.toList == [79, 80, 84, 73, 79, 78, 83]) = false := by rw [Lib.toList_data, beq_eq_false_iff_ne]; exact h42 hs
    obtain rfl : s = ⟨#[42]⟩ := bytes_ext hs
    clear h42 hs h47 hM
    go_enter Tryd.func19, Tryd.ntmps19
    go_wp2_with (go_at_call 41; refine (HP _).out.mono ?_; rintro e w' ⟨rfl, hw⟩; rw [hw])
    exact bodyPost_ret (ret_parse (box6_new w _ _ _ _ _ _ _) rfl rfl) rfl ⟨rfl, (Below.refl _ w).alloc (Nat.le_refl _) _⟩
  · have b42 : ¬ s.toList = [42] := by rw [Lib.toList_data]; exact hs
    have h7' : ¬ (7 : Int) ≤ (s.size : Int) := by omega
    have h7'' : (s.size : Int) < 7 := by omega
    clear h42 h47 hM hs
    go_enter Tryd.func19, Tryd.ntmps19
    go_wp2_with (go_at_call 41; refine (HP _).out.mono ?_; rintro e w' ⟨rfl, hw⟩; rw [hw])
    exact bodyPost_ret (ret_parse (box6_new w _ _ _ _ _ _ _) rfl rfl) rfl ⟨rfl, (Below.refl _ w).alloc (Nat.le_refl _) _⟩

set_option maxRecDepth 100000 in
set_option maxHeartbeats 1000000 in
theorem parse_other (M s : ByteArray) (w : World) (hM : M.data.toList ≠ connectL) (hs : s.size ≤ 4194304) (h7 : 7 ≤ s.size) (h47 : s.data.toList.head? ≠ some 47) (hh : alike (s.data.toList.take 7) httpL = false) :
    Calls Tryd.prog 19 #[.string M, .string s] w fun e w' => e = .returned (tgOut ({}, 60)) ∧ Below w.heap.size w w' := by
  have bM : (M.toList == [67, 79, 78, 78, 69, 67, 84]) = false := by rw [Lib.toList_data, beq_eq_false_iff_ne]; exact hM
  have b42 : ¬ s.toList = [42] := by rw [Lib.toList_data]; intro e; have := congrArg List.length e; rw [size_list] at this; simp at this; omega
  have HP := fun w => Lib.hid (Tryd.strings_HasPrefix s ⟨#[47]⟩ w)
  rw [show (ByteArray.mk #[47]).data.toList = [47] from rfl, slash_prefix, decide_eq_false h47] at HP
  have h7' : (7 : Int) ≤ (s.size : Int) := by omega
  have AL := fun w => Lib.hid (alike_c (s.extract 0 7) ⟨#[104, 116, 116, 112, 58, 47, 47]⟩ w (by rw [ByteArray.size_extract]; omega) (by decide))
  rw [show (s.extract 0 7).data.toList = s.data.toList.take 7 from by rw [Lib.extract_data]; simp, show (ByteArray.mk #[104, 116, 116, 112, 58, 47, 47]).data.toList = httpL from rfl, hh] at AL
  clear h47 hM hh
  go_enter Tryd.func19, Tryd.ntmps19
  go_wp2_with (go_at_call 41; refine (HP _).out.mono ?_; rintro e w' ⟨rfl, hw⟩; rw [hw])
  refine (AL _).out.mono ?_
  rintro e w1 ⟨rfl, hb1⟩
  have B := Lib.hid (show Below w.heap.size w w1 from ((Below.refl _ w).alloc (Nat.le_refl _) _).trans (hb1.mono (by simp)))
  have BX := Lib.hid ((box6_new w _ _ _ _ _ _ _).below hb1)
  obtain ⟨c0, c1, c2, c3, c4, c5, fz⟩ := BX.out
  have f0 := fz 0
  have f1 := fz 1
  have f2 := fz 2
  have f3 := fz 3
  have f4 := fz 4
  have f5 := fz 5
  clear fz
  clear hb1
  go_wp2
  (try simp only [Exit.inBlock, Exit.then]); refine bodyPost_ret (ret_parse (Box6.stored BX.out _ _ _ _ _ _) rfl rfl) rfl ?_
  refine ⟨rfl, ?_⟩
  repeat refine Below.setCell ?_ (by simp) _
  exact B.out

set_option maxRecDepth 100000 in
set_option maxHeartbeats 4000000 in
theorem parse_abs (M s : ByteArray) (m : Int) (w : World) (hM : M.data.toList ≠ connectL) (hs : s.size ≤ 4194000) (h7 : 7 ≤ s.size) (h47 : s.data.toList.head? ≠ some 47) (hh : alike (s.data.toList.take 7) httpL = true) (hm : w.cell? ⟨0, 0, none⟩ = some (.int .i64 m)) :
    Calls Tryd.prog 19 #[.string M, .string s] w fun e w' => e = .returned (tgOut (absT (s.data.toList.drop 7))) ∧ Below w.heap.size w w' := by
  have bM : (M.toList == [67, 79, 78, 78, 69, 67, 84]) = false := by rw [Lib.toList_data, beq_eq_false_iff_ne]; exact hM
  have b42 : ¬ s.toList = [42] := by rw [Lib.toList_data]; intro e; have := congrArg List.length e; rw [size_list] at this; simp at this; omega
  have HP := fun w => Lib.hid (Tryd.strings_HasPrefix s ⟨#[47]⟩ w)
  rw [show (ByteArray.mk #[47]).data.toList = [47] from rfl, slash_prefix, decide_eq_false h47] at HP
  have h7' : (7 : Int) ≤ (s.size : Int) := by omega
  have AL := fun w => Lib.hid (alike_c (s.extract 0 7) ⟨#[104, 116, 116, 112, 58, 47, 47]⟩ w (by rw [ByteArray.size_extract]; omega) (by decide))
  rw [show (s.extract 0 7).data.toList = s.data.toList.take 7 from by rw [Lib.extract_data]; simp, show (ByteArray.mk #[104, 116, 116, 112, 58, 47, 47]).data.toList = httpL from rfl, hh] at AL
  have HM := Lib.hid hm
  rw [show s.data.toList.drop 7 = (s.extract 7 s.size).data.toList from (Lib.extract_to_end s 7).symm]
  have hT : (s.extract 7 s.size).size ≤ 4194000 := by rw [ByteArray.size_extract]; omega
  obtain ⟨T, hTE⟩ : ∃ T, s.extract 7 s.size = T := ⟨_, rfl⟩
  rw [hTE] at hT ⊢
  have HTE := Lib.hid hTE
  generalize ho : absT T.data.toList = out
  have HO := Lib.hid ho
  have IX := fun w => Lib.hid (ixany_c T w (by omega))
  clear h47 hM hh hm hTE ho
  go_enter Tryd.func19, Tryd.ntmps19
  go_wp2_with (go_at_call 41; refine (HP _).out.mono ?_; rintro e w' ⟨rfl, hw⟩; rw [hw])
  refine (AL _).out.mono ?_
  rintro e w1 ⟨rfl, hb1⟩
  have B1 := Lib.hid (show Below w.heap.size w w1 from ((Below.refl _ w).alloc (Nat.le_refl _) _).trans (hb1.mono (by simp)))
  have BX1 := Lib.hid ((box6_new w _ _ _ _ _ _ _).below hb1)
  clear hb1 HP AL
  go_wp2_with fail
  rw [HTE.out]
  clear b42
  refine (IX _).out.mono ?_
  rintro e w2 ⟨rfl, hb2⟩
  have B2 := Lib.hid (below_then B1.out hb2)
  have BX2 := Lib.hid (BX1.out.below hb2)
  have M2 := Lib.hid (cell_below B2.out HM.out)
  clear hb2 IX
  have hge := Lib.indexAny_ge [47, 63] T.data.toList
  have hlt := indexAny_lt [47, 63] T.data.toList
  have hen : endT T.data.toList = if Lib.indexAny T.data.toList [47, 63] < 0 then T.data.toList.length else (Lib.indexAny T.data.toList [47, 63]).toNat := rfl
  rw [size_list] at hlt hen
  generalize Lib.indexAny T.data.toList [47, 63] = E at *
  by_cases hE : E = -1
  · subst hE
    have hj : endT T.data.toList = T.size := by rw [hen, if_pos (by decide)]
    clear hen hge hlt
    have e7 : T.data.toList = T.data.toList.take T.size := (List.take_of_length_le (by rw [size_list]; exact Nat.le_refl _)).symm
    have er : T.data.toList.drop T.size = [] := List.drop_eq_nil_of_le (by rw [size_list]; exact Nat.le_refl _)
    have hab := absT_at hj
    rw [← e7, er, if_neg (by simp)] at hab
    have AU := fun w hm => Lib.hid (auth_c T m w (by omega) hm)
    have HP2 := fun w => Lib.hid (Tryd.strings_HasPrefix ByteArray.empty ⟨#[47]⟩ w)
    rw [show Lib.hasPrefix ByteArray.empty.data.toList (ByteArray.mk #[47]).data.toList = false from rfl] at HP2
    cases ha : authB T.data.toList with
    | none =>
      rw [ha] at AU hab
      simp only at hab
      obtain rfl : out = ({}, 61) := HO.out.symm.trans hab
      simp only [authVal] at AU
      clear hj hab e7 er ha HP2
      go_wp2_with fail
      refine (AU _ M2.out).out.mono ?_
      rintro e w3 ⟨rfl, hb3⟩
      have B := Lib.hid (below_then B2.out hb3)
      have BX := Lib.hid (BX2.out.below hb3)
      obtain ⟨c0, c1, c2, c3, c4, c5, fz⟩ := BX.out
      have f0 := fz 0
      have f1 := fz 1
      have f2 := fz 2
      have f3 := fz 3
      have f4 := fz 4
      have f5 := fz 5
      clear fz
      clear hb3
      go_wp2
      (try simp only [Exit.inBlock, Exit.then]); refine bodyPost_ret (ret_parse (Box6.stored BX.out _ _ _ _ _ _) rfl rfl) rfl ?_
      refine ⟨rfl, ?_⟩
      repeat refine Below.setCell ?_ (by simp) _
      exact B.out
    | some x =>
      obtain ⟨h, p⟩ := x
      rw [ha] at AU hab
      simp only at hab
      simp only [authVal] at AU
      have HOUT := Lib.hid (HO.out.symm.trans hab)
      have LC := fun w hm => Lib.hid (local_c 2 p (bs h) ⟨#[47]⟩ m w (by decide) hm)
      rw [show (bs h).data.toList = h from rfl, show (ByteArray.mk #[47]).data.toList = [47] from rfl, ← HOUT.out] at LC
      have hemp : (ByteArray.mk #[47] ++ ByteArray.empty) = ByteArray.mk #[47] := rfl
      have HEMP := Lib.hid hemp
      obtain ⟨t, n⟩ := out
      simp only [tgOut, tgVal] at LC
      clear hj hab e7 er ha hemp
      go_wp2_with fail
      refine (AU _ M2.out).out.mono ?_
      rintro e w3 ⟨rfl, hb3⟩
      have B3 := Lib.hid (below_then B2.out hb3)
      have BX3 := Lib.hid (BX2.out.below hb3)
      have M3 := Lib.hid (cell_below hb3 M2.out)
      clear hb3
      go_wp2_with (go_at_call 41; refine (HP2 _).out.mono ?_; rintro e w' ⟨rfl, hw⟩; rw [hw])
      try rw [HEMP.out]
      refine (LC _ M3.out).out.mono ?_
      rintro e w4 ⟨rfl, hb4⟩
      have B := Lib.hid (below_then B3.out hb4)
      have BX := Lib.hid (BX3.out.below hb4)
      obtain ⟨c0, c1, c2, c3, c4, c5, fz⟩ := BX.out
      have f0 := fz 0
      have f1 := fz 1
      have f2 := fz 2
      have f3 := fz 3
      have f4 := fz 4
      have f5 := fz 5
      clear fz
      clear hb4
      go_wp2
      (try simp only [Exit.inBlock, Exit.then]); refine bodyPost_ret (ret_parse (Box6.stored BX.out _ _ _ _ _ _) rfl rfl) rfl ?_
      refine ⟨rfl, ?_⟩
      repeat refine Below.setCell ?_ (by simp) _
      exact B.out
  · obtain ⟨k, rfl⟩ : ∃ k : Nat, E = k := ⟨E.toNat, by omega⟩
    have hj : endT T.data.toList = k := by rw [hen, if_neg (by omega)]; simp
    have hk0 : (0 : Int) ≤ (k : Int) := by omega
    have hk : k ≤ T.size := by omega
    have hk1 : (k : Int) ≤ (T.size : Int) := by omega
    clear hen hge hlt hE
    have e7 : (T.extract 0 k).data.toList = T.data.toList.take k := by rw [Lib.extract_data]; simp
    have er : (T.extract k T.size).data.toList = T.data.toList.drop k := Lib.extract_to_end T k
    have hab := absT_at hj
    rw [← e7, ← er] at hab
    have AU := fun w hm => Lib.hid (auth_c (T.extract 0 k) m w (by rw [ByteArray.size_extract]; omega) hm)
    have HP2 := fun w => Lib.hid (Tryd.strings_HasPrefix (T.extract k T.size) ⟨#[47]⟩ w)
    rw [show (ByteArray.mk #[47]).data.toList = [47] from rfl, slash_prefix] at HP2
    cases ha : authB (T.extract 0 k).data.toList with
    | none =>
      rw [ha] at AU hab
      simp only at hab
      obtain rfl : out = ({}, 61) := HO.out.symm.trans hab
      simp only [authVal] at AU
      clear hj hab e7 er ha HP2
      go_wp2_with fail
      refine (AU _ M2.out).out.mono ?_
      rintro e w3 ⟨rfl, hb3⟩
      have B := Lib.hid (below_then B2.out hb3)
      have BX := Lib.hid (BX2.out.below hb3)
      obtain ⟨c0, c1, c2, c3, c4, c5, fz⟩ := BX.out
      have f0 := fz 0
      have f1 := fz 1
      have f2 := fz 2
      have f3 := fz 3
      have f4 := fz 4
      have f5 := fz 5
      clear fz
      clear hb3
      go_wp2
      (try simp only [Exit.inBlock, Exit.then]); refine bodyPost_ret (ret_parse (Box6.stored BX.out _ _ _ _ _ _) rfl rfl) rfl ?_
      refine ⟨rfl, ?_⟩
      repeat refine Below.setCell ?_ (by simp) _
      exact B.out
    | some x =>
      obtain ⟨h, p⟩ := x
      rw [ha] at AU hab
      simp only at hab
      simp only [authVal] at AU
      have hrs : (T.extract k T.size).size ≤ 4194000 := by rw [ByteArray.size_extract]; omega
      by_cases hs47 : (T.extract k T.size).data.toList.head? = some 47
      · rw [if_pos hs47] at hab
        rw [decide_eq_true hs47] at HP2
        have HOUT := Lib.hid (HO.out.symm.trans hab)
        have LC := fun w hm => Lib.hid (local_c 2 p (bs h) (T.extract k T.size) m w (by omega) hm)
        rw [show (bs h).data.toList = h from rfl, ← HOUT.out] at LC
        obtain ⟨t, n⟩ := out
        simp only [tgOut, tgVal] at LC
        clear hj hab e7 er ha hs47
        go_wp2_with fail
        refine (AU _ M2.out).out.mono ?_
        rintro e w3 ⟨rfl, hb3⟩
        have B3 := Lib.hid (below_then B2.out hb3)
        have BX3 := Lib.hid (BX2.out.below hb3)
        have M3 := Lib.hid (cell_below hb3 M2.out)
        clear hb3
        go_wp2_with (go_at_call 41; refine (HP2 _).out.mono ?_; rintro e w' ⟨rfl, hw⟩; rw [hw])
        refine (LC _ M3.out).out.mono ?_
        rintro e w4 ⟨rfl, hb4⟩
        have B := Lib.hid (below_then B3.out hb4)
        have BX := Lib.hid (BX3.out.below hb4)
        obtain ⟨c0, c1, c2, c3, c4, c5, fz⟩ := BX.out
        have f0 := fz 0
        have f1 := fz 1
        have f2 := fz 2
        have f3 := fz 3
        have f4 := fz 4
        have f5 := fz 5
        clear fz
        clear hb4
        go_wp2
        (try simp only [Exit.inBlock, Exit.then]); refine bodyPost_ret (ret_parse (Box6.stored BX.out _ _ _ _ _ _) rfl rfl) rfl ?_
        refine ⟨rfl, ?_⟩
        repeat refine Below.setCell ?_ (by simp) _
        exact B.out
      · rw [if_neg hs47] at hab
        rw [decide_eq_false hs47] at HP2
        have HOUT := Lib.hid (HO.out.symm.trans hab)
        have LC := fun w hm => Lib.hid (local_c 2 p (bs h) (⟨#[47]⟩ ++ T.extract k T.size) m w (by rw [ByteArray.size_append]; show 1 + _ ≤ _; omega) hm)
        rw [show (bs h).data.toList = h from rfl, show ((⟨#[47]⟩ : ByteArray) ++ T.extract k T.size).data.toList = 47 :: (T.extract k T.size).data.toList from by rw [ByteArray.data_append, Array.toList_append]; rfl, ← HOUT.out] at LC
        have hcat : (ByteArray.mk #[47]).size + (T.extract k T.size).size ≤ 4194304 := by show 1 + _ ≤ _; omega
        obtain ⟨t, n⟩ := out
        simp only [tgOut, tgVal] at LC
        clear hj hab e7 er ha hs47
        go_wp2_with fail
        refine (AU _ M2.out).out.mono ?_
        rintro e w3 ⟨rfl, hb3⟩
        have B3 := Lib.hid (below_then B2.out hb3)
        have BX3 := Lib.hid (BX2.out.below hb3)
        have M3 := Lib.hid (cell_below hb3 M2.out)
        clear hb3
        go_wp2_with (go_at_call 41; refine (HP2 _).out.mono ?_; rintro e w' ⟨rfl, hw⟩; rw [hw])
        refine (LC _ M3.out).out.mono ?_
        rintro e w4 ⟨rfl, hb4⟩
        have B := Lib.hid (below_then B3.out hb4)
        have BX := Lib.hid (BX3.out.below hb4)
        obtain ⟨c0, c1, c2, c3, c4, c5, fz⟩ := BX.out
        have f0 := fz 0
        have f1 := fz 1
        have f2 := fz 2
        have f3 := fz 3
        have f4 := fz 4
        have f5 := fz 5
        clear fz
        clear hb4
        go_wp2
        (try simp only [Exit.inBlock, Exit.then]); refine bodyPost_ret (ret_parse (Box6.stored BX.out _ _ _ _ _ _) rfl rfl) rfl ?_
        refine ⟨rfl, ?_⟩
        repeat refine Below.setCell ?_ (by simp) _
        exact B.out
end Go.Proofs.YtjbmipbjlhcooaaDoor
