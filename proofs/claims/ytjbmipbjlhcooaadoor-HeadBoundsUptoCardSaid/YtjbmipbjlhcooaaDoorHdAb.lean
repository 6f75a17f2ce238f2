/- The walk over HeadBounds (printed by gb.py). -/
import Derived.Test.YtjbmipbjlhcooaaDoorHdO
import Derived.Test.YtjbmipbjlhcooaaDoorHdQ
import Derived.Test.YtjbmipbjlhcooaaDoorHdU
set_option linter.unusedVariables false
set_option linter.unusedSimpArgs false
namespace Go.Proofs.YtjbmipbjlhcooaaDoor
open Go.RowKit Lex

set_option maxRecDepth 100000 in
set_option maxHeartbeats 4000000 in
theorem bounds_000 (M : Int) (W2 : World) (hm : W2.cell? ⟨0, 0, none⟩ = some (.int .i64 M)) :
    Calls Tryd.prog 11 #[.int .i64 0, .bool false, .bool false] W2 fun e w' => e = .returned (.bool true) ∧ Below W2.heap.size W2 w' := by
  have AN := Lib.hid (anchor8_c M W2 hm)
  have HM := Lib.hid hm
  clear hm
  have BL := fun w => Lib.hid (bline_c 1086 (by decide) w)
  obtain ⟨T, hT⟩ : ∃ T, ((ByteArray.mk #[71, 69, 84, 32, 47]) ++ bs (aas 1086) ++ ByteArray.mk #[32, 72, 84, 84, 80, 47, 49, 46, 49]) = T := ⟨_, rfl⟩
  have tT : T.data.toList = sL0 1086 := by rw [← hT]; exact t0_text 1086
  have HT := Lib.hid hT
  clear hT
  go_enter Tryd.func11, Tryd.ntmps11
  go_wp2_with fail
  refine AN.out.mono ?_
  rintro e' w1 ⟨rfl, hb1⟩
  have B1 := Lib.hid hb1
  have M1 := Lib.hid (cell_below hb1 HM.out)
  clear hb1
  go_wp2_with fail
  refine (BL _).out.mono ?_
  rintro e' w2 ⟨rfl, hb2⟩
  have B2 := Lib.hid (below_then B1.out hb2)
  have M2 := Lib.hid (cell_below B2.out HM.out)
  clear hb2 BL
  have sT : T.size = 1100 := by rw [← size_list, tT]; exact getL_length _
  have l1 : T.data.toList = (sL0 1086) := by exact tT
  have z1 : T.size = 1100 := by rw [← size_list, l1, ← tT, size_list, sT]
  have R1 := fun w h => Lib.hid (request_h T M w (by rw [z1]; decide) h)
  rw [l1, b0_part] at R1
  unfold ReadPost hdv at R1
  simp only [List.length_nil] at R1
  have l2 : (T ++ ByteArray.mk #[13, 10] ++ ByteArray.mk #[13, 10]).data.toList = sL0 1086 ++ [13, 10] ++ [13, 10] := by rw [app_list, app_list, tT]
  have z0 : (T ++ ByteArray.mk #[13, 10]).size = 1102 := by rw [← size_list, app_list, List.length_append, size_list, sT]; rfl
  have z2 : (T ++ ByteArray.mk #[13, 10] ++ ByteArray.mk #[13, 10]).size = 1104 := by rw [← size_list, l2, List.length_append, List.length_append, ← tT, size_list, sT]; rfl
  have R2 := fun w h => Lib.hid (request_h (T ++ ByteArray.mk #[13, 10] ++ ByteArray.mk #[13, 10]) M w (by rw [z2]; decide) h)
  obtain ⟨h, hme, hfew, hr⟩ := b0_whole
  rw [l2, hr] at R2
  unfold ReadPost hdv at R2
  simp only at R2
  rw [hme] at R2
  have hmt : (bs [71, 69, 84]).toList = [71, 69, 84] := by rw [Lib.toList_data]
  clear hr hme hfew
  clear l2 z2
  clear l1 z1 tT
  go_wp2_with (rw [HT.out])
  refine (R1 _ M2.out).out.mono ?_
  rintro e' w3 ⟨A, c, rfl, hA, ho, hb3⟩
  have B3 := Lib.hid (below_then B2.out hb3)
  clear hb3 hA ho
  obtain ⟨V3, hV3⟩ : ∃ V3, w3.alloc (.cells #[.string (bs []), .string (bs []), .int .i64 0, .string (bs []), .int .i64 0, .slice A 0 c] 43) = V3 := ⟨_, rfl⟩
  have B4 : Hid (Below W2.heap.size W2 V3) := Lib.hid (by rw [← hV3]; exact B3.out.alloc B3.out.size _)
  have M4 := Lib.hid (cell_below B4.out HM.out)
  have HV3 := Lib.hid hV3
  clear hV3
  go_wp2_with fail
  rw [HV3.out]
  refine (R2 _ M4.out).out.mono ?_
  rintro e' w5 ⟨A5, c5, rfl, hA, ho, hb5⟩
  have B5 := Lib.hid (below_then B4.out hb5)
  clear hb5 hA ho
  obtain ⟨V6, hV6⟩ : ∃ V6, w5.alloc (.cells #[.string (bs [71, 69, 84]), .string (bs h.target), .int .i64 h.status, .string (bs h.reason), .int .i64 h.minor, .slice A5 h.fields.length c5] 43) = V6 := ⟨_, rfl⟩
  have B6 : Hid (Below W2.heap.size W2 V6) := Lib.hid (by rw [← hV6]; exact B5.out.alloc B5.out.size _)
  have c0 : V6.cell? ⟨w5.heap.size, 0, none⟩ = some (.string (bs [71, 69, 84])) := by rw [← hV6, World.cell?_alloc_new]; rfl
  have HV6 := Lib.hid hV6
  clear hV6
  go_wp2_with (rw [HV6.out])
  go_ret
  exact ⟨rfl, B6.out⟩
set_option maxRecDepth 100000 in
set_option maxHeartbeats 4000000 in
theorem bounds_001 (M : Int) (W2 : World) (hm : W2.cell? ⟨0, 0, none⟩ = some (.int .i64 M)) :
    Calls Tryd.prog 11 #[.int .i64 0, .bool false, .bool true] W2 fun e w' => e = .returned (.bool true) ∧ Below W2.heap.size W2 w' := by
  have AN := Lib.hid (anchor8_c M W2 hm)
  have HM := Lib.hid hm
  clear hm
  have BL := fun w => Lib.hid (bline_c 1086 (by decide) w)
  obtain ⟨T, hT⟩ : ∃ T, ((ByteArray.mk #[71, 69, 84, 32, 47]) ++ bs (aas 1086) ++ ByteArray.mk #[32, 72, 84, 84, 80, 47, 49, 46, 49]) = T := ⟨_, rfl⟩
  have tT : T.data.toList = sL0 1086 := by rw [← hT]; exact t0_text 1086
  have HT := Lib.hid hT
  clear hT
  go_enter Tryd.func11, Tryd.ntmps11
  go_wp2_with fail
  refine AN.out.mono ?_
  rintro e' w1 ⟨rfl, hb1⟩
  have B1 := Lib.hid hb1
  have M1 := Lib.hid (cell_below hb1 HM.out)
  clear hb1
  go_wp2_with fail
  refine (BL _).out.mono ?_
  rintro e' w2 ⟨rfl, hb2⟩
  have B2 := Lib.hid (below_then B1.out hb2)
  have M2 := Lib.hid (cell_below B2.out HM.out)
  clear hb2 BL
  have sT : T.size = 1100 := by rw [← size_list, tT]; exact getL_length _
  have l1 : (T ++ ByteArray.mk #[13, 10]).data.toList = (sL0 1086 ++ [13, 10]) := by rw [app_list, tT]
  have z1 : (T ++ ByteArray.mk #[13, 10]).size = 1102 := by rw [← size_list, l1, List.length_append, ← tT, size_list, sT]; rfl
  have R1 := fun w h => Lib.hid (request_h (T ++ ByteArray.mk #[13, 10]) M w (by rw [z1]; decide) h)
  rw [l1, b0_partE] at R1
  unfold ReadPost hdv at R1
  simp only [List.length_nil] at R1
  have l2 : (T ++ ByteArray.mk #[13, 10] ++ ByteArray.mk #[13, 10]).data.toList = sL0 1086 ++ [13, 10] ++ [13, 10] := by rw [app_list, app_list, tT]
  have z0 : (T ++ ByteArray.mk #[13, 10]).size = 1102 := by rw [← size_list, app_list, List.length_append, size_list, sT]; rfl
  have z2 : (T ++ ByteArray.mk #[13, 10] ++ ByteArray.mk #[13, 10]).size = 1104 := by rw [← size_list, l2, List.length_append, List.length_append, ← tT, size_list, sT]; rfl
  have R2 := fun w h => Lib.hid (request_h (T ++ ByteArray.mk #[13, 10] ++ ByteArray.mk #[13, 10]) M w (by rw [z2]; decide) h)
  obtain ⟨h, hme, hfew, hr⟩ := b0_whole
  rw [l2, hr] at R2
  unfold ReadPost hdv at R2
  simp only at R2
  rw [hme] at R2
  have hmt : (bs [71, 69, 84]).toList = [71, 69, 84] := by rw [Lib.toList_data]
  clear hr hme hfew
  clear l2 z2
  clear l1 z1 tT
  go_wp2_with (rw [HT.out])
  refine (R1 _ M2.out).out.mono ?_
  rintro e' w3 ⟨A, c, rfl, hA, ho, hb3⟩
  have B3 := Lib.hid (below_then B2.out hb3)
  clear hb3 hA ho
  obtain ⟨V3, hV3⟩ : ∃ V3, w3.alloc (.cells #[.string (bs []), .string (bs []), .int .i64 0, .string (bs []), .int .i64 0, .slice A 0 c] 43) = V3 := ⟨_, rfl⟩
  have B4 : Hid (Below W2.heap.size W2 V3) := Lib.hid (by rw [← hV3]; exact B3.out.alloc B3.out.size _)
  have M4 := Lib.hid (cell_below B4.out HM.out)
  have HV3 := Lib.hid hV3
  clear hV3
  go_wp2_with fail
  rw [HV3.out]
  refine (R2 _ M4.out).out.mono ?_
  rintro e' w5 ⟨A5, c5, rfl, hA, ho, hb5⟩
  have B5 := Lib.hid (below_then B4.out hb5)
  clear hb5 hA ho
  obtain ⟨V6, hV6⟩ : ∃ V6, w5.alloc (.cells #[.string (bs [71, 69, 84]), .string (bs h.target), .int .i64 h.status, .string (bs h.reason), .int .i64 h.minor, .slice A5 h.fields.length c5] 43) = V6 := ⟨_, rfl⟩
  have B6 : Hid (Below W2.heap.size W2 V6) := Lib.hid (by rw [← hV6]; exact B5.out.alloc B5.out.size _)
  have c0 : V6.cell? ⟨w5.heap.size, 0, none⟩ = some (.string (bs [71, 69, 84])) := by rw [← hV6, World.cell?_alloc_new]; rfl
  have HV6 := Lib.hid hV6
  clear hV6
  go_wp2_with (rw [HV6.out])
  go_ret
  exact ⟨rfl, B6.out⟩
set_option maxRecDepth 100000 in
set_option maxHeartbeats 4000000 in
theorem bounds_010 (M : Int) (W2 : World) (hm : W2.cell? ⟨0, 0, none⟩ = some (.int .i64 M)) :
    Calls Tryd.prog 11 #[.int .i64 0, .bool true, .bool false] W2 fun e w' => e = .returned (.bool true) ∧ Below W2.heap.size W2 w' := by
  have AN := Lib.hid (anchor8_c M W2 hm)
  have HM := Lib.hid hm
  clear hm
  have BL := fun w => Lib.hid (bline_c 1087 (by decide) w)
  obtain ⟨T, hT⟩ : ∃ T, ((ByteArray.mk #[71, 69, 84, 32, 47]) ++ bs (aas 1087) ++ ByteArray.mk #[32, 72, 84, 84, 80, 47, 49, 46, 49]) = T := ⟨_, rfl⟩
  have tT : T.data.toList = sL0 1087 := by rw [← hT]; exact t0_text 1087
  have HT := Lib.hid hT
  clear hT
  go_enter Tryd.func11, Tryd.ntmps11
  go_wp2_with fail
  refine AN.out.mono ?_
  rintro e' w1 ⟨rfl, hb1⟩
  have B1 := Lib.hid hb1
  have M1 := Lib.hid (cell_below hb1 HM.out)
  clear hb1
  go_wp2_with fail
  refine (BL _).out.mono ?_
  rintro e' w2 ⟨rfl, hb2⟩
  have B2 := Lib.hid (below_then B1.out hb2)
  have M2 := Lib.hid (cell_below B2.out HM.out)
  clear hb2 BL
  have sT : T.size = 1101 := by rw [← size_list, tT]; exact getL_length _
  have l1 : T.data.toList = (sL0 1087) := by exact tT
  have z1 : T.size = 1101 := by rw [← size_list, l1, ← tT, size_list, sT]
  have R1 := fun w h => Lib.hid (request_h T M w (by rw [z1]; decide) h)
  rw [l1, b0_long 1087 (by decide)] at R1
  unfold ReadPost hdv at R1
  simp only [List.length_nil] at R1
  clear l1 z1 tT
  go_wp2_with (rw [HT.out])
  refine (R1 _ M2.out).out.mono ?_
  rintro e' w3 ⟨A, c, rfl, hA, ho, hb3⟩
  have B3 := Lib.hid (below_then B2.out hb3)
  clear hb3 hA ho
  go_wp2_with fail
  go_ret
  exact ⟨rfl, B3.out.alloc B3.out.size _⟩
set_option maxRecDepth 100000 in
set_option maxHeartbeats 4000000 in
theorem bounds_011 (M : Int) (W2 : World) (hm : W2.cell? ⟨0, 0, none⟩ = some (.int .i64 M)) :
    Calls Tryd.prog 11 #[.int .i64 0, .bool true, .bool true] W2 fun e w' => e = .returned (.bool true) ∧ Below W2.heap.size W2 w' := by
  have AN := Lib.hid (anchor8_c M W2 hm)
  have HM := Lib.hid hm
  clear hm
  have BL := fun w => Lib.hid (bline_c 1087 (by decide) w)
  obtain ⟨T, hT⟩ : ∃ T, ((ByteArray.mk #[71, 69, 84, 32, 47]) ++ bs (aas 1087) ++ ByteArray.mk #[32, 72, 84, 84, 80, 47, 49, 46, 49]) = T := ⟨_, rfl⟩
  have tT : T.data.toList = sL0 1087 := by rw [← hT]; exact t0_text 1087
  have HT := Lib.hid hT
  clear hT
  go_enter Tryd.func11, Tryd.ntmps11
  go_wp2_with fail
  refine AN.out.mono ?_
  rintro e' w1 ⟨rfl, hb1⟩
  have B1 := Lib.hid hb1
  have M1 := Lib.hid (cell_below hb1 HM.out)
  clear hb1
  go_wp2_with fail
  refine (BL _).out.mono ?_
  rintro e' w2 ⟨rfl, hb2⟩
  have B2 := Lib.hid (below_then B1.out hb2)
  have M2 := Lib.hid (cell_below B2.out HM.out)
  clear hb2 BL
  have sT : T.size = 1101 := by rw [← size_list, tT]; exact getL_length _
  have l1 : (T ++ ByteArray.mk #[13, 10]).data.toList = (sL0 1087 ++ [13, 10]) := by rw [app_list, tT]
  have z1 : (T ++ ByteArray.mk #[13, 10]).size = 1103 := by rw [← size_list, l1, List.length_append, ← tT, size_list, sT]; rfl
  have R1 := fun w h => Lib.hid (request_h (T ++ ByteArray.mk #[13, 10]) M w (by rw [z1]; decide) h)
  rw [l1, b0_longE 1087 (by decide)] at R1
  unfold ReadPost hdv at R1
  simp only [List.length_nil] at R1
  clear l1 z1 tT
  go_wp2_with (rw [HT.out])
  refine (R1 _ M2.out).out.mono ?_
  rintro e' w3 ⟨A, c, rfl, hA, ho, hb3⟩
  have B3 := Lib.hid (below_then B2.out hb3)
  clear hb3 hA ho
  go_wp2_with fail
  go_ret
  exact ⟨rfl, B3.out.alloc B3.out.size _⟩
set_option maxRecDepth 100000 in
set_option maxHeartbeats 4000000 in
theorem bounds_100 (M : Int) (W2 : World) (hm : W2.cell? ⟨0, 0, none⟩ = some (.int .i64 M)) :
    Calls Tryd.prog 11 #[.int .i64 1, .bool false, .bool false] W2 fun e w' => e = .returned (.bool true) ∧ Below W2.heap.size W2 w' := by
  have AN := Lib.hid (anchor8_c M W2 hm)
  have HM := Lib.hid hm
  clear hm
  have BL := fun w => Lib.hid (bline_c 510 (by decide) w)
  obtain ⟨T, hT⟩ : ∃ T, ((ByteArray.mk #[71, 69, 84, 32, 47, 32, 72, 84, 84, 80, 47, 49, 46, 49, 13, 10, 88, 58]) ++ bs (aas 510)) = T := ⟨_, rfl⟩
  have tT : T.data.toList = sL1 510 := by rw [← hT]; exact t1_text 510
  have HT := Lib.hid hT
  clear hT
  go_enter Tryd.func11, Tryd.ntmps11
  go_wp2_with fail
  refine AN.out.mono ?_
  rintro e' w1 ⟨rfl, hb1⟩
  have B1 := Lib.hid hb1
  have M1 := Lib.hid (cell_below hb1 HM.out)
  clear hb1
  go_wp2_with fail
  refine (BL _).out.mono ?_
  rintro e' w2 ⟨rfl, hb2⟩
  have B2 := Lib.hid (below_then B1.out hb2)
  have M2 := Lib.hid (cell_below B2.out HM.out)
  clear hb2 BL
  have sT : T.size = 528 := by rw [← size_list, tT]; simp [sL1, getL, httpE, xf, aas]
  have l1 : T.data.toList = (sL1 510) := by exact tT
  have z1 : T.size = 528 := by rw [← size_list, l1, ← tT, size_list, sT]
  have R1 := fun w h => Lib.hid (request_h T M w (by rw [z1]; decide) h)
  rw [l1, b1_part] at R1
  unfold ReadPost hdv at R1
  simp only [List.length_nil] at R1
  have l2 : (T ++ ByteArray.mk #[13, 10] ++ ByteArray.mk #[13, 10]).data.toList = sL1 510 ++ [13, 10] ++ [13, 10] := by rw [app_list, app_list, tT]
  have z0 : (T ++ ByteArray.mk #[13, 10]).size = 530 := by rw [← size_list, app_list, List.length_append, size_list, sT]; rfl
  have z2 : (T ++ ByteArray.mk #[13, 10] ++ ByteArray.mk #[13, 10]).size = 532 := by rw [← size_list, l2, List.length_append, List.length_append, ← tT, size_list, sT]; rfl
  have R2 := fun w h => Lib.hid (request_h (T ++ ByteArray.mk #[13, 10] ++ ByteArray.mk #[13, 10]) M w (by rw [z2]; decide) h)
  obtain ⟨h, hme, hfew, hr⟩ := b1_whole
  rw [l2, hr] at R2
  unfold ReadPost hdv at R2
  simp only at R2
  rw [hme] at R2
  have hmt : (bs [71, 69, 84]).toList = [71, 69, 84] := by rw [Lib.toList_data]
  clear hr hme hfew
  clear l2 z2
  clear l1 z1 tT
  go_wp2_with (rw [HT.out])
  refine (R1 _ M2.out).out.mono ?_
  rintro e' w3 ⟨A, c, rfl, hA, ho, hb3⟩
  have B3 := Lib.hid (below_then B2.out hb3)
  clear hb3 hA ho
  obtain ⟨V3, hV3⟩ : ∃ V3, w3.alloc (.cells #[.string (bs []), .string (bs []), .int .i64 0, .string (bs []), .int .i64 0, .slice A 0 c] 43) = V3 := ⟨_, rfl⟩
  have B4 : Hid (Below W2.heap.size W2 V3) := Lib.hid (by rw [← hV3]; exact B3.out.alloc B3.out.size _)
  have M4 := Lib.hid (cell_below B4.out HM.out)
  have HV3 := Lib.hid hV3
  clear hV3
  go_wp2_with fail
  rw [HV3.out]
  refine (R2 _ M4.out).out.mono ?_
  rintro e' w5 ⟨A5, c5, rfl, hA, ho, hb5⟩
  have B5 := Lib.hid (below_then B4.out hb5)
  clear hb5 hA ho
  obtain ⟨V6, hV6⟩ : ∃ V6, w5.alloc (.cells #[.string (bs [71, 69, 84]), .string (bs h.target), .int .i64 h.status, .string (bs h.reason), .int .i64 h.minor, .slice A5 h.fields.length c5] 43) = V6 := ⟨_, rfl⟩
  have B6 : Hid (Below W2.heap.size W2 V6) := Lib.hid (by rw [← hV6]; exact B5.out.alloc B5.out.size _)
  have c0 : V6.cell? ⟨w5.heap.size, 0, none⟩ = some (.string (bs [71, 69, 84])) := by rw [← hV6, World.cell?_alloc_new]; rfl
  have HV6 := Lib.hid hV6
  clear hV6
  go_wp2_with (rw [HV6.out])
  go_ret
  exact ⟨rfl, B6.out⟩
set_option maxRecDepth 100000 in
set_option maxHeartbeats 4000000 in
theorem bounds_101 (M : Int) (W2 : World) (hm : W2.cell? ⟨0, 0, none⟩ = some (.int .i64 M)) :
    Calls Tryd.prog 11 #[.int .i64 1, .bool false, .bool true] W2 fun e w' => e = .returned (.bool true) ∧ Below W2.heap.size W2 w' := by
  have AN := Lib.hid (anchor8_c M W2 hm)
  have HM := Lib.hid hm
  clear hm
  have BL := fun w => Lib.hid (bline_c 510 (by decide) w)
  obtain ⟨T, hT⟩ : ∃ T, ((ByteArray.mk #[71, 69, 84, 32, 47, 32, 72, 84, 84, 80, 47, 49, 46, 49, 13, 10, 88, 58]) ++ bs (aas 510)) = T := ⟨_, rfl⟩
  have tT : T.data.toList = sL1 510 := by rw [← hT]; exact t1_text 510
  have HT := Lib.hid hT
  clear hT
  go_enter Tryd.func11, Tryd.ntmps11
  go_wp2_with fail
  refine AN.out.mono ?_
  rintro e' w1 ⟨rfl, hb1⟩
  have B1 := Lib.hid hb1
  have M1 := Lib.hid (cell_below hb1 HM.out)
  clear hb1
  go_wp2_with fail
  refine (BL _).out.mono ?_
  rintro e' w2 ⟨rfl, hb2⟩
  have B2 := Lib.hid (below_then B1.out hb2)
  have M2 := Lib.hid (cell_below B2.out HM.out)
  clear hb2 BL
  have sT : T.size = 528 := by rw [← size_list, tT]; simp [sL1, getL, httpE, xf, aas]
  have l1 : (T ++ ByteArray.mk #[13, 10]).data.toList = (sL1 510 ++ [13, 10]) := by rw [app_list, tT]
  have z1 : (T ++ ByteArray.mk #[13, 10]).size = 530 := by rw [← size_list, l1, List.length_append, ← tT, size_list, sT]; rfl
  have R1 := fun w h => Lib.hid (request_h (T ++ ByteArray.mk #[13, 10]) M w (by rw [z1]; decide) h)
  rw [l1, b1_partE] at R1
  unfold ReadPost hdv at R1
  simp only [List.length_nil] at R1
  have l2 : (T ++ ByteArray.mk #[13, 10] ++ ByteArray.mk #[13, 10]).data.toList = sL1 510 ++ [13, 10] ++ [13, 10] := by rw [app_list, app_list, tT]
  have z0 : (T ++ ByteArray.mk #[13, 10]).size = 530 := by rw [← size_list, app_list, List.length_append, size_list, sT]; rfl
  have z2 : (T ++ ByteArray.mk #[13, 10] ++ ByteArray.mk #[13, 10]).size = 532 := by rw [← size_list, l2, List.length_append, List.length_append, ← tT, size_list, sT]; rfl
  have R2 := fun w h => Lib.hid (request_h (T ++ ByteArray.mk #[13, 10] ++ ByteArray.mk #[13, 10]) M w (by rw [z2]; decide) h)
  obtain ⟨h, hme, hfew, hr⟩ := b1_whole
  rw [l2, hr] at R2
  unfold ReadPost hdv at R2
  simp only at R2
  rw [hme] at R2
  have hmt : (bs [71, 69, 84]).toList = [71, 69, 84] := by rw [Lib.toList_data]
  clear hr hme hfew
  clear l2 z2
  clear l1 z1 tT
  go_wp2_with (rw [HT.out])
  refine (R1 _ M2.out).out.mono ?_
  rintro e' w3 ⟨A, c, rfl, hA, ho, hb3⟩
  have B3 := Lib.hid (below_then B2.out hb3)
  clear hb3 hA ho
  obtain ⟨V3, hV3⟩ : ∃ V3, w3.alloc (.cells #[.string (bs []), .string (bs []), .int .i64 0, .string (bs []), .int .i64 0, .slice A 0 c] 43) = V3 := ⟨_, rfl⟩
  have B4 : Hid (Below W2.heap.size W2 V3) := Lib.hid (by rw [← hV3]; exact B3.out.alloc B3.out.size _)
  have M4 := Lib.hid (cell_below B4.out HM.out)
  have HV3 := Lib.hid hV3
  clear hV3
  go_wp2_with fail
  rw [HV3.out]
  refine (R2 _ M4.out).out.mono ?_
  rintro e' w5 ⟨A5, c5, rfl, hA, ho, hb5⟩
  have B5 := Lib.hid (below_then B4.out hb5)
  clear hb5 hA ho
  obtain ⟨V6, hV6⟩ : ∃ V6, w5.alloc (.cells #[.string (bs [71, 69, 84]), .string (bs h.target), .int .i64 h.status, .string (bs h.reason), .int .i64 h.minor, .slice A5 h.fields.length c5] 43) = V6 := ⟨_, rfl⟩
  have B6 : Hid (Below W2.heap.size W2 V6) := Lib.hid (by rw [← hV6]; exact B5.out.alloc B5.out.size _)
  have c0 : V6.cell? ⟨w5.heap.size, 0, none⟩ = some (.string (bs [71, 69, 84])) := by rw [← hV6, World.cell?_alloc_new]; rfl
  have HV6 := Lib.hid hV6
  clear hV6
  go_wp2_with (rw [HV6.out])
  go_ret
  exact ⟨rfl, B6.out⟩
set_option maxRecDepth 100000 in
set_option maxHeartbeats 4000000 in
theorem bounds_110 (M : Int) (W2 : World) (hm : W2.cell? ⟨0, 0, none⟩ = some (.int .i64 M)) :
    Calls Tryd.prog 11 #[.int .i64 1, .bool true, .bool false] W2 fun e w' => e = .returned (.bool true) ∧ Below W2.heap.size W2 w' := by
  have AN := Lib.hid (anchor8_c M W2 hm)
  have HM := Lib.hid hm
  clear hm
  have BL := fun w => Lib.hid (bline_c 511 (by decide) w)
  obtain ⟨T, hT⟩ : ∃ T, ((ByteArray.mk #[71, 69, 84, 32, 47, 32, 72, 84, 84, 80, 47, 49, 46, 49, 13, 10, 88, 58]) ++ bs (aas 511)) = T := ⟨_, rfl⟩
  have tT : T.data.toList = sL1 511 := by rw [← hT]; exact t1_text 511
  have HT := Lib.hid hT
  clear hT
  go_enter Tryd.func11, Tryd.ntmps11
  go_wp2_with fail
  refine AN.out.mono ?_
  rintro e' w1 ⟨rfl, hb1⟩
  have B1 := Lib.hid hb1
  have M1 := Lib.hid (cell_below hb1 HM.out)
  clear hb1
  go_wp2_with fail
  refine (BL _).out.mono ?_
  rintro e' w2 ⟨rfl, hb2⟩
  have B2 := Lib.hid (below_then B1.out hb2)
  have M2 := Lib.hid (cell_below B2.out HM.out)
  clear hb2 BL
  have sT : T.size = 529 := by rw [← size_list, tT]; simp [sL1, getL, httpE, xf, aas]
  have l1 : T.data.toList = (sL1 511) := by exact tT
  have z1 : T.size = 529 := by rw [← size_list, l1, ← tT, size_list, sT]
  have R1 := fun w h => Lib.hid (request_h T M w (by rw [z1]; decide) h)
  rw [l1, b1_long 511 (by decide)] at R1
  unfold ReadPost hdv at R1
  simp only [List.length_nil] at R1
  clear l1 z1 tT
  go_wp2_with (rw [HT.out])
  refine (R1 _ M2.out).out.mono ?_
  rintro e' w3 ⟨A, c, rfl, hA, ho, hb3⟩
  have B3 := Lib.hid (below_then B2.out hb3)
  clear hb3 hA ho
  go_wp2_with fail
  go_ret
  exact ⟨rfl, B3.out.alloc B3.out.size _⟩
set_option maxRecDepth 100000 in
set_option maxHeartbeats 4000000 in
theorem bounds_111 (M : Int) (W2 : World) (hm : W2.cell? ⟨0, 0, none⟩ = some (.int .i64 M)) :
    Calls Tryd.prog 11 #[.int .i64 1, .bool true, .bool true] W2 fun e w' => e = .returned (.bool true) ∧ Below W2.heap.size W2 w' := by
  have AN := Lib.hid (anchor8_c M W2 hm)
  have HM := Lib.hid hm
  clear hm
  have BL := fun w => Lib.hid (bline_c 511 (by decide) w)
  obtain ⟨T, hT⟩ : ∃ T, ((ByteArray.mk #[71, 69, 84, 32, 47, 32, 72, 84, 84, 80, 47, 49, 46, 49, 13, 10, 88, 58]) ++ bs (aas 511)) = T := ⟨_, rfl⟩
  have tT : T.data.toList = sL1 511 := by rw [← hT]; exact t1_text 511
  have HT := Lib.hid hT
  clear hT
  go_enter Tryd.func11, Tryd.ntmps11
  go_wp2_with fail
  refine AN.out.mono ?_
  rintro e' w1 ⟨rfl, hb1⟩
  have B1 := Lib.hid hb1
  have M1 := Lib.hid (cell_below hb1 HM.out)
  clear hb1
  go_wp2_with fail
  refine (BL _).out.mono ?_
  rintro e' w2 ⟨rfl, hb2⟩
  have B2 := Lib.hid (below_then B1.out hb2)
  have M2 := Lib.hid (cell_below B2.out HM.out)
  clear hb2 BL
  have sT : T.size = 529 := by rw [← size_list, tT]; simp [sL1, getL, httpE, xf, aas]
  have l1 : (T ++ ByteArray.mk #[13, 10]).data.toList = (sL1 511 ++ [13, 10]) := by rw [app_list, tT]
  have z1 : (T ++ ByteArray.mk #[13, 10]).size = 531 := by rw [← size_list, l1, List.length_append, ← tT, size_list, sT]; rfl
  have R1 := fun w h => Lib.hid (request_h (T ++ ByteArray.mk #[13, 10]) M w (by rw [z1]; decide) h)
  rw [l1, b1_longE 511 (by decide)] at R1
  unfold ReadPost hdv at R1
  simp only [List.length_nil] at R1
  clear l1 z1 tT
  go_wp2_with (rw [HT.out])
  refine (R1 _ M2.out).out.mono ?_
  rintro e' w3 ⟨A, c, rfl, hA, ho, hb3⟩
  have B3 := Lib.hid (below_then B2.out hb3)
  clear hb3 hA ho
  go_wp2_with fail
  go_ret
  exact ⟨rfl, B3.out.alloc B3.out.size _⟩
set_option maxRecDepth 100000 in
set_option maxHeartbeats 4000000 in
theorem bounds_200 (M : Int) (W2 : World) (hm : W2.cell? ⟨0, 0, none⟩ = some (.int .i64 M)) :
    Calls Tryd.prog 11 #[.int .i64 2, .bool false, .bool false] W2 fun e w' => e = .returned (.bool true) ∧ Below W2.heap.size W2 w' := by
  have AN := Lib.hid (anchor8_c M W2 hm)
  have HM := Lib.hid hm
  clear hm
  have HN := Lib.hid (True.intro)
  go_enter Tryd.func11, Tryd.ntmps11
  go_wp2_with fail
  refine AN.out.mono ?_
  rintro e' w1 ⟨rfl, hb1⟩
  have B1 := Lib.hid hb1
  have M1 := Lib.hid (cell_below hb1 HM.out)
  clear hb1
  go_wp2_with fail
  go_loop [8, 10] (fun v i => ∃ (k : Nat) (a : ByteArray), k ≤ 31 ∧ i = .int .i64 k ∧ v = .string a ∧ a.data.toList = getL (aas 0) ++ 13 :: 10 :: xys k) (fun _ i => 31 - (intOf i).toNat)
  case atStart => exact ⟨0, _, Nat.zero_le _, rfl, rfl, t2_start⟩
  case round =>
    obtain ⟨k, a, hk, rfl, rfl, ha⟩ := hrel
    have HA := Lib.hid ha
    clear ha
    have hsz : a.size = 16 + 5 * k := by rw [← size_list, HA.out, List.length_append, getL_length, List.length_cons, List.length_cons, xys_length]; omega
    by_cases hlt : k < 31
    · have q1 : (k : Int) < 31 := by omega
      go_wp2_with fail
      go_round
      case rel => exact ⟨k + 1, a ++ ⟨#[88, 58, 121, 13, 10]⟩, by omega, by go_num, rfl, by rw [app_list, HA.out, ← xys_snoc]; simp⟩
      case measure => simp [intOf]; omega
    · obtain rfl : k = 31 := by omega
      obtain ⟨T, hT⟩ : ∃ T, a ++ ByteArray.mk #[88, 58, 121] = T := ⟨_, rfl⟩
      have tT : T.data.toList = sL2 31 := by rw [← hT, app_list, HA.out]; unfold sL2; simp [xf]
      have HT := Lib.hid hT
      clear hT
      have B2 := B1
      have M2 := M1
      have sT : T.size = 174 := by rw [← size_list, tT]; simp [sL2, getL, httpE, xf, aas, xys_length]
      have l1 : T.data.toList = (sL2 31) := by exact tT
      have z1 : T.size = 174 := by rw [← size_list, l1, ← tT, size_list, sT]
      have R1 := fun w h => Lib.hid (request_h T M w (by rw [z1]; decide) h)
      rw [l1, b2_part] at R1
      unfold ReadPost hdv at R1
      simp only [List.length_nil] at R1
      have l2 : (T ++ ByteArray.mk #[13, 10] ++ ByteArray.mk #[13, 10]).data.toList = sL2 31 ++ [13, 10] ++ [13, 10] := by rw [app_list, app_list, tT]
      have z0 : (T ++ ByteArray.mk #[13, 10]).size = 176 := by rw [← size_list, app_list, List.length_append, size_list, sT]; rfl
      have z2 : (T ++ ByteArray.mk #[13, 10] ++ ByteArray.mk #[13, 10]).size = 178 := by rw [← size_list, l2, List.length_append, List.length_append, ← tT, size_list, sT]; rfl
      have R2 := fun w h => Lib.hid (request_h (T ++ ByteArray.mk #[13, 10] ++ ByteArray.mk #[13, 10]) M w (by rw [z2]; decide) h)
      obtain ⟨h, hme, hfew, hr⟩ := b2_whole
      rw [l2, hr] at R2
      unfold ReadPost hdv at R2
      simp only at R2
      rw [hme] at R2
      have hmt : (bs [71, 69, 84]).toList = [71, 69, 84] := by rw [Lib.toList_data]
      clear hr hme hfew
      clear l2 z2
      clear l1 z1 tT
      go_wp2_with (rw [HT.out])
      refine (R1 _ M2.out).out.mono ?_
      rintro e' w3 ⟨A, c, rfl, hA, ho, hb3⟩
      have B3 := Lib.hid (below_then B2.out hb3)
      clear hb3 hA ho
      obtain ⟨V3, hV3⟩ : ∃ V3, w3.alloc (.cells #[.string (bs []), .string (bs []), .int .i64 0, .string (bs []), .int .i64 0, .slice A 0 c] 43) = V3 := ⟨_, rfl⟩
      have B4 : Hid (Below W2.heap.size W2 V3) := Lib.hid (by rw [← hV3]; exact B3.out.alloc B3.out.size _)
      have M4 := Lib.hid (cell_below B4.out HM.out)
      have HV3 := Lib.hid hV3
      clear hV3
      go_wp2_with fail
      rw [HV3.out]
      refine (R2 _ M4.out).out.mono ?_
      rintro e' w5 ⟨A5, c5, rfl, hA, ho, hb5⟩
      have B5 := Lib.hid (below_then B4.out hb5)
      clear hb5 hA ho
      obtain ⟨V6, hV6⟩ : ∃ V6, w5.alloc (.cells #[.string (bs [71, 69, 84]), .string (bs h.target), .int .i64 h.status, .string (bs h.reason), .int .i64 h.minor, .slice A5 h.fields.length c5] 43) = V6 := ⟨_, rfl⟩
      have B6 : Hid (Below W2.heap.size W2 V6) := Lib.hid (by rw [← hV6]; exact B5.out.alloc B5.out.size _)
      have c0 : V6.cell? ⟨w5.heap.size, 0, none⟩ = some (.string (bs [71, 69, 84])) := by rw [← hV6, World.cell?_alloc_new]; rfl
      have HV6 := Lib.hid hV6
      clear hV6
      go_wp2_with (rw [HV6.out])
      go_ret
      exact ⟨rfl, B6.out⟩
set_option maxRecDepth 100000 in
set_option maxHeartbeats 4000000 in
theorem bounds_201 (M : Int) (W2 : World) (hm : W2.cell? ⟨0, 0, none⟩ = some (.int .i64 M)) :
    Calls Tryd.prog 11 #[.int .i64 2, .bool false, .bool true] W2 fun e w' => e = .returned (.bool true) ∧ Below W2.heap.size W2 w' := by
  have AN := Lib.hid (anchor8_c M W2 hm)
  have HM := Lib.hid hm
  clear hm
  have HN := Lib.hid (True.intro)
  go_enter Tryd.func11, Tryd.ntmps11
  go_wp2_with fail
  refine AN.out.mono ?_
  rintro e' w1 ⟨rfl, hb1⟩
  have B1 := Lib.hid hb1
  have M1 := Lib.hid (cell_below hb1 HM.out)
  clear hb1
  go_wp2_with fail
  go_loop [8, 10] (fun v i => ∃ (k : Nat) (a : ByteArray), k ≤ 31 ∧ i = .int .i64 k ∧ v = .string a ∧ a.data.toList = getL (aas 0) ++ 13 :: 10 :: xys k) (fun _ i => 31 - (intOf i).toNat)
  case atStart => exact ⟨0, _, Nat.zero_le _, rfl, rfl, t2_start⟩
  case round =>
    obtain ⟨k, a, hk, rfl, rfl, ha⟩ := hrel
    have HA := Lib.hid ha
    clear ha
    have hsz : a.size = 16 + 5 * k := by rw [← size_list, HA.out, List.length_append, getL_length, List.length_cons, List.length_cons, xys_length]; omega
    by_cases hlt : k < 31
    · have q1 : (k : Int) < 31 := by omega
      go_wp2_with fail
      go_round
      case rel => exact ⟨k + 1, a ++ ⟨#[88, 58, 121, 13, 10]⟩, by omega, by go_num, rfl, by rw [app_list, HA.out, ← xys_snoc]; simp⟩
      case measure => simp [intOf]; omega
    · obtain rfl : k = 31 := by omega
      obtain ⟨T, hT⟩ : ∃ T, a ++ ByteArray.mk #[88, 58, 121] = T := ⟨_, rfl⟩
      have tT : T.data.toList = sL2 31 := by rw [← hT, app_list, HA.out]; unfold sL2; simp [xf]
      have HT := Lib.hid hT
      clear hT
      have B2 := B1
      have M2 := M1
      have sT : T.size = 174 := by rw [← size_list, tT]; simp [sL2, getL, httpE, xf, aas, xys_length]
      have l1 : (T ++ ByteArray.mk #[13, 10]).data.toList = (sL2 31 ++ [13, 10]) := by rw [app_list, tT]
      have z1 : (T ++ ByteArray.mk #[13, 10]).size = 176 := by rw [← size_list, l1, List.length_append, ← tT, size_list, sT]; rfl
      have R1 := fun w h => Lib.hid (request_h (T ++ ByteArray.mk #[13, 10]) M w (by rw [z1]; decide) h)
      rw [l1, b2_partE] at R1
      unfold ReadPost hdv at R1
      simp only [List.length_nil] at R1
      have l2 : (T ++ ByteArray.mk #[13, 10] ++ ByteArray.mk #[13, 10]).data.toList = sL2 31 ++ [13, 10] ++ [13, 10] := by rw [app_list, app_list, tT]
      have z0 : (T ++ ByteArray.mk #[13, 10]).size = 176 := by rw [← size_list, app_list, List.length_append, size_list, sT]; rfl
      have z2 : (T ++ ByteArray.mk #[13, 10] ++ ByteArray.mk #[13, 10]).size = 178 := by rw [← size_list, l2, List.length_append, List.length_append, ← tT, size_list, sT]; rfl
      have R2 := fun w h => Lib.hid (request_h (T ++ ByteArray.mk #[13, 10] ++ ByteArray.mk #[13, 10]) M w (by rw [z2]; decide) h)
      obtain ⟨h, hme, hfew, hr⟩ := b2_whole
      rw [l2, hr] at R2
      unfold ReadPost hdv at R2
      simp only at R2
      rw [hme] at R2
      have hmt : (bs [71, 69, 84]).toList = [71, 69, 84] := by rw [Lib.toList_data]
      clear hr hme hfew
      clear l2 z2
      clear l1 z1 tT
      go_wp2_with (rw [HT.out])
      refine (R1 _ M2.out).out.mono ?_
      rintro e' w3 ⟨A, c, rfl, hA, ho, hb3⟩
      have B3 := Lib.hid (below_then B2.out hb3)
      clear hb3 hA ho
      obtain ⟨V3, hV3⟩ : ∃ V3, w3.alloc (.cells #[.string (bs []), .string (bs []), .int .i64 0, .string (bs []), .int .i64 0, .slice A 0 c] 43) = V3 := ⟨_, rfl⟩
      have B4 : Hid (Below W2.heap.size W2 V3) := Lib.hid (by rw [← hV3]; exact B3.out.alloc B3.out.size _)
      have M4 := Lib.hid (cell_below B4.out HM.out)
      have HV3 := Lib.hid hV3
      clear hV3
      go_wp2_with fail
      rw [HV3.out]
      refine (R2 _ M4.out).out.mono ?_
      rintro e' w5 ⟨A5, c5, rfl, hA, ho, hb5⟩
      have B5 := Lib.hid (below_then B4.out hb5)
      clear hb5 hA ho
      obtain ⟨V6, hV6⟩ : ∃ V6, w5.alloc (.cells #[.string (bs [71, 69, 84]), .string (bs h.target), .int .i64 h.status, .string (bs h.reason), .int .i64 h.minor, .slice A5 h.fields.length c5] 43) = V6 := ⟨_, rfl⟩
      have B6 : Hid (Below W2.heap.size W2 V6) := Lib.hid (by rw [← hV6]; exact B5.out.alloc B5.out.size _)
      have c0 : V6.cell? ⟨w5.heap.size, 0, none⟩ = some (.string (bs [71, 69, 84])) := by rw [← hV6, World.cell?_alloc_new]; rfl
      have HV6 := Lib.hid hV6
      clear hV6
      go_wp2_with (rw [HV6.out])
      go_ret
      exact ⟨rfl, B6.out⟩
set_option maxRecDepth 100000 in
set_option maxHeartbeats 4000000 in
theorem bounds_210 (M : Int) (W2 : World) (hm : W2.cell? ⟨0, 0, none⟩ = some (.int .i64 M)) :
    Calls Tryd.prog 11 #[.int .i64 2, .bool true, .bool false] W2 fun e w' => e = .returned (.bool true) ∧ Below W2.heap.size W2 w' := by
  have AN := Lib.hid (anchor8_c M W2 hm)
  have HM := Lib.hid hm
  clear hm
  have HN := Lib.hid (True.intro)
  go_enter Tryd.func11, Tryd.ntmps11
  go_wp2_with fail
  refine AN.out.mono ?_
  rintro e' w1 ⟨rfl, hb1⟩
  have B1 := Lib.hid hb1
  have M1 := Lib.hid (cell_below hb1 HM.out)
  clear hb1
  go_wp2_with fail
  go_loop [8, 10] (fun v i => ∃ (k : Nat) (a : ByteArray), k ≤ 32 ∧ i = .int .i64 k ∧ v = .string a ∧ a.data.toList = getL (aas 0) ++ 13 :: 10 :: xys k) (fun _ i => 32 - (intOf i).toNat)
  case atStart => exact ⟨0, _, Nat.zero_le _, rfl, rfl, t2_start⟩
  case round =>
    obtain ⟨k, a, hk, rfl, rfl, ha⟩ := hrel
    have HA := Lib.hid ha
    clear ha
    have hsz : a.size = 16 + 5 * k := by rw [← size_list, HA.out, List.length_append, getL_length, List.length_cons, List.length_cons, xys_length]; omega
    by_cases hlt : k < 32
    · have q1 : (k : Int) < 32 := by omega
      go_wp2_with fail
      go_round
      case rel => exact ⟨k + 1, a ++ ⟨#[88, 58, 121, 13, 10]⟩, by omega, by go_num, rfl, by rw [app_list, HA.out, ← xys_snoc]; simp⟩
      case measure => simp [intOf]; omega
    · obtain rfl : k = 32 := by omega
      obtain ⟨T, hT⟩ : ∃ T, a ++ ByteArray.mk #[88, 58, 121] = T := ⟨_, rfl⟩
      have tT : T.data.toList = sL2 32 := by rw [← hT, app_list, HA.out]; unfold sL2; simp [xf]
      have HT := Lib.hid hT
      clear hT
      have B2 := B1
      have M2 := M1
      have sT : T.size = 179 := by rw [← size_list, tT]; simp [sL2, getL, httpE, xf, aas, xys_length]
      have l1 : T.data.toList = (sL2 32) := by exact tT
      have z1 : T.size = 179 := by rw [← size_list, l1, ← tT, size_list, sT]
      have R1 := fun w h => Lib.hid (request_h T M w (by rw [z1]; decide) h)
      rw [l1, b2_over] at R1
      unfold ReadPost hdv at R1
      simp only [List.length_nil] at R1
      have l2 : (T ++ ByteArray.mk #[13, 10] ++ ByteArray.mk #[13, 10]).data.toList = sL2 32 ++ [13, 10] ++ [13, 10] := by rw [app_list, app_list, tT]
      have z0 : (T ++ ByteArray.mk #[13, 10]).size = 181 := by rw [← size_list, app_list, List.length_append, size_list, sT]; rfl
      have z2 : (T ++ ByteArray.mk #[13, 10] ++ ByteArray.mk #[13, 10]).size = 183 := by rw [← size_list, l2, List.length_append, List.length_append, ← tT, size_list, sT]; rfl
      have R2 := fun w h => Lib.hid (request_h (T ++ ByteArray.mk #[13, 10] ++ ByteArray.mk #[13, 10]) M w (by rw [z2]; decide) h)
      rw [l2, b2_overEE] at R2
      unfold ReadPost hdv at R2
      simp only [List.length_nil] at R2
      clear l2 z2
      clear l1 z1 tT
      go_wp2_with (rw [HT.out])
      refine (R1 _ M2.out).out.mono ?_
      rintro e' w3 ⟨A, c, rfl, hA, ho, hb3⟩
      have B3 := Lib.hid (below_then B2.out hb3)
      clear hb3 hA ho
      obtain ⟨V3, hV3⟩ : ∃ V3, w3.alloc (.cells #[.string (bs []), .string (bs []), .int .i64 0, .string (bs []), .int .i64 0, .slice A 0 c] 43) = V3 := ⟨_, rfl⟩
      have B4 : Hid (Below W2.heap.size W2 V3) := Lib.hid (by rw [← hV3]; exact B3.out.alloc B3.out.size _)
      have M4 := Lib.hid (cell_below B4.out HM.out)
      have HV3 := Lib.hid hV3
      clear hV3
      go_wp2_with fail
      rw [HV3.out]
      refine (R2 _ M4.out).out.mono ?_
      rintro e' w5 ⟨A5, c5, rfl, hA, ho, hb5⟩
      have B5 := Lib.hid (below_then B4.out hb5)
      clear hb5 hA ho
      go_wp2_with fail
      go_ret
      exact ⟨rfl, B5.out.alloc B5.out.size _⟩
set_option maxRecDepth 100000 in
set_option maxHeartbeats 4000000 in
theorem bounds_211 (M : Int) (W2 : World) (hm : W2.cell? ⟨0, 0, none⟩ = some (.int .i64 M)) :
    Calls Tryd.prog 11 #[.int .i64 2, .bool true, .bool true] W2 fun e w' => e = .returned (.bool true) ∧ Below W2.heap.size W2 w' := by
  have AN := Lib.hid (anchor8_c M W2 hm)
  have HM := Lib.hid hm
  clear hm
  have HN := Lib.hid (True.intro)
  go_enter Tryd.func11, Tryd.ntmps11
  go_wp2_with fail
  refine AN.out.mono ?_
  rintro e' w1 ⟨rfl, hb1⟩
  have B1 := Lib.hid hb1
  have M1 := Lib.hid (cell_below hb1 HM.out)
  clear hb1
  go_wp2_with fail
  go_loop [8, 10] (fun v i => ∃ (k : Nat) (a : ByteArray), k ≤ 32 ∧ i = .int .i64 k ∧ v = .string a ∧ a.data.toList = getL (aas 0) ++ 13 :: 10 :: xys k) (fun _ i => 32 - (intOf i).toNat)
  case atStart => exact ⟨0, _, Nat.zero_le _, rfl, rfl, t2_start⟩
  case round =>
    obtain ⟨k, a, hk, rfl, rfl, ha⟩ := hrel
    have HA := Lib.hid ha
    clear ha
    have hsz : a.size = 16 + 5 * k := by rw [← size_list, HA.out, List.length_append, getL_length, List.length_cons, List.length_cons, xys_length]; omega
    by_cases hlt : k < 32
    · have q1 : (k : Int) < 32 := by omega
      go_wp2_with fail
      go_round
      case rel => exact ⟨k + 1, a ++ ⟨#[88, 58, 121, 13, 10]⟩, by omega, by go_num, rfl, by rw [app_list, HA.out, ← xys_snoc]; simp⟩
      case measure => simp [intOf]; omega
    · obtain rfl : k = 32 := by omega
      obtain ⟨T, hT⟩ : ∃ T, a ++ ByteArray.mk #[88, 58, 121] = T := ⟨_, rfl⟩
      have tT : T.data.toList = sL2 32 := by rw [← hT, app_list, HA.out]; unfold sL2; simp [xf]
      have HT := Lib.hid hT
      clear hT
      have B2 := B1
      have M2 := M1
      have sT : T.size = 179 := by rw [← size_list, tT]; simp [sL2, getL, httpE, xf, aas, xys_length]
      have l1 : (T ++ ByteArray.mk #[13, 10]).data.toList = (sL2 32 ++ [13, 10]) := by rw [app_list, tT]
      have z1 : (T ++ ByteArray.mk #[13, 10]).size = 181 := by rw [← size_list, l1, List.length_append, ← tT, size_list, sT]; rfl
      have R1 := fun w h => Lib.hid (request_h (T ++ ByteArray.mk #[13, 10]) M w (by rw [z1]; decide) h)
      rw [l1, b2_overE] at R1
      unfold ReadPost hdv at R1
      simp only [List.length_nil] at R1
      clear l1 z1 tT
      go_wp2_with (rw [HT.out])
      refine (R1 _ M2.out).out.mono ?_
      rintro e' w3 ⟨A, c, rfl, hA, ho, hb3⟩
      have B3 := Lib.hid (below_then B2.out hb3)
      clear hb3 hA ho
      go_wp2_with fail
      go_ret
      exact ⟨rfl, B3.out.alloc B3.out.size _⟩
theorem bounds_walk {W : World} (which : Int) (hw : (Lit.int .i64 which).wf = true) (past fin : Bool) (M : Int) (W2 : World) (hW : W2 = W) (hm : W2.cell? ⟨0, 0, none⟩ = some (.int .i64 M)) :
    Calls Tryd.prog 11 #[.int .i64 which, .bool past, .bool fin] W2 fun e w' => e = .returned (.bool true) ∧ Below W2.heap.size W2 w' := by
  subst hW
  by_cases hin : 0 ≤ which ∧ which ≤ 2
  · rcases (by omega : which = 0 ∨ which = 1 ∨ which = 2) with rfl | rfl | rfl <;> cases past <;> cases fin
    · exact bounds_000 M W2 hm
    · exact bounds_001 M W2 hm
    · exact bounds_010 M W2 hm
    · exact bounds_011 M W2 hm
    · exact bounds_100 M W2 hm
    · exact bounds_101 M W2 hm
    · exact bounds_110 M W2 hm
    · exact bounds_111 M W2 hm
    · exact bounds_200 M W2 hm
    · exact bounds_201 M W2 hm
    · exact bounds_210 M W2 hm
    · exact bounds_211 M W2 hm
  · have hq : which < 0 ∨ (¬ which < 0 ∧ 2 < which) := by omega
    have AN := Lib.hid (anchor8_c M W2 hm)
    clear hin hm
    rcases hq with q1 | ⟨q1, q2⟩
    all_goals
      go_enter Tryd.func11, Tryd.ntmps11
      go_wp2_with fail
      refine AN.out.mono ?_
      rintro e' w1 ⟨rfl, hb1⟩
      have B1 := Lib.hid hb1
      clear hb1
      go_wp2
      go_ret
      exact ⟨rfl, B1.out⟩
end Go.Proofs.YtjbmipbjlhcooaaDoor
