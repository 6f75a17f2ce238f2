/- The texts OutT in one. -/
import Derived.Test.YtgmjkkiahanekaaDoorM32
import Derived.Test.YtgmjkkiahanekaaDoorM25
import Derived.Test.YtgmjkkiahanekaaDoorM33
import Derived.Test.YtgmjkkiahanekaaDoorM34
/- The walk over OutflowBack. -/
set_option linter.unusedVariables false
set_option linter.unusedSimpArgs false
namespace Go.Proofs.YtgmjkkiahanekaaDoor
open Go.RowKit Lex

theorem well_c (w : World) (s b : ByteArray) (M : Int) {x : List UInt8} (hl : x.length ≤ 4194304) (hW : Well (toldR getM [x] true) b.data.toList) (hx : s.data.toList = x) (hm : w.cell? ⟨0, 0, none⟩ = some (.int .i64 M)) :
    Calls Tryd.prog 9 #[.string ⟨#[71, 69, 84]⟩, .slice (some ⟨w.heap.size, 0, none⟩) 1 1, .bool true] (w.alloc (.cells #[.string s] 9)) fun e w' => e = .returned (.tuple #[.int .i64 200, .string b, .bool true, .int .i64 0, .bool true]) ∧ Below w.heap.size w w' := by
  have M2 := cell_below ((Below.refl _ w).alloc (Nat.le_refl _) (.cells #[.string s] 9)) hm
  refine (told_c ⟨#[71, 69, 84]⟩ _ 1 [x] true M _ (told_one w s x hx 9) (by simpa using hl) (by simp) M2).mono ?_
  rintro e w' ⟨rfl, hb⟩
  have e1 : (⟨#[71, 69, 84]⟩ : ByteArray).data.toList = getM := rfl
  refine ⟨?_, below_then ((Below.refl _ w).alloc (Nat.le_refl _) _) hb⟩
  rw [e1, hW.status, hW.body, hW.ended, hW.err, list_bs]
theorem short_c (w : World) (s : ByteArray) (M : Int) {x : List UInt8} (hl : x.length ≤ 4194304) (hW : Short (toldR getM [x] true)) (hx : s.data.toList = x) (hm : w.cell? ⟨0, 0, none⟩ = some (.int .i64 M)) :
    Calls Tryd.prog 9 #[.string ⟨#[71, 69, 84]⟩, .slice (some ⟨w.heap.size, 0, none⟩) 1 1, .bool true] (w.alloc (.cells #[.string s] 9)) fun e w' => (∃ a b, e = .returned (.tuple #[.int .i64 a, .string b, .bool false, .int .i64 121, .bool true])) ∧ Below w.heap.size w w' := by
  have M2 := cell_below ((Below.refl _ w).alloc (Nat.le_refl _) (.cells #[.string s] 9)) hm
  refine (told_c ⟨#[71, 69, 84]⟩ _ 1 [x] true M _ (told_one w s x hx 9) (by simpa using hl) (by simp) M2).mono ?_
  rintro e w' ⟨rfl, hb⟩
  have e1 : (⟨#[71, 69, 84]⟩ : ByteArray).data.toList = getM := rfl
  refine ⟨⟨(toldR getM [x] true).1, bs (toldR getM [x] true).2.1, ?_⟩, below_then ((Below.refl _ w).alloc (Nat.le_refl _) _) hb⟩
  rw [e1, hW.ended, hW.err]
theorem cut_last (s : ByteArray) (h : 0 < s.size) : (s.extract 0 (s.size - 1)).data.toList = s.data.toList.dropLast := by
  rw [ext_list, List.drop_zero, List.dropLast_eq_take, size_list]; rfl
theorem drop_snoc (a : List UInt8) (b : List UInt8) (h : b ≠ []) : (a ++ b).dropLast = a ++ b.dropLast := List.dropLast_append_of_ne_nil h
set_option maxRecDepth 100000 in
set_option maxHeartbeats 8000000 in
theorem back_walk2 {W2 : World} (body more : ByteArray) (hs : body.size ≤ 10000) (hmo : more.size ≤ 1048576) (M : Int) (hm : W2.cell? ⟨0, 0, none⟩ = some (.int .i64 M)) :
    Calls Tryd.prog 4 #[.string body, .int .i64 2, .string more] W2 fun e w' => e = .returned (.bool true) ∧ Below W2.heap.size W2 w' := by
  have AN := Lib.hid (anchor12_c M W2 hm)
  have HM := Lib.hid hm
  have hbl : body.data.toList.length = body.size := rfl
  have TW := fun w s hx hm => Lib.hid (well_c w s body M (x := endHead ++ body.data.toList) (by rw [List.length_append, hbl]; unfold endHead okLine; simp; omega) (back_end _) hx hm)
  have TWW := Lib.hid TW
  clear hm TW hbl
  go_enter Tryd.func4, Tryd.ntmps4
  go_wp2_with fail
  refine AN.out.mono ?_
  rintro e w1 ⟨rfl, hb1⟩
  have B1 := Lib.hid hb1
  have M1 := Lib.hid (cell_below hb1 HM.out)
  clear hb1
  go_wp2_with fail
  refine (TWW.out _ _ (by simp [ByteArray.data_append, endHead, okLine]) M1.out).out.mono ?_
  rintro e w2 ⟨rfl, hb2⟩
  have B2 := Lib.hid (below_then B1.out hb2)
  clear hb2
  go_wp2
  go_ret
  exact ⟨rfl, B2.out⟩
theorem hxs_len : ∀ k n, (hexR.hxs k n).length = k
  | 0, _ => rfl
  | k + 1, n => by rw [hexR.hxs, List.length_cons, hxs_len k n]
theorem hexR_len : ∀ k n, (hexR k n).length ≤ k
  | 0, _ => Nat.le_refl _
  | k + 1, n => by
    unfold hexR
    split
    · exact Nat.le_succ_of_le (hexR_len k n)
    · rw [hxs_len]; exact Nat.le_refl _
theorem encL_len (b : List UInt8) : (encL b).length ≤ b.length + 12 := by
  unfold encL
  split
  · simp
  · have := hexR_len 8 b.length
    simp only [List.length_append, List.length_cons, List.length_nil]; omega
theorem last_ne {b : List UInt8} (h : 0 < b.length) : b ≠ [] := List.length_pos_iff.1 h
set_option maxRecDepth 100000 in
set_option maxHeartbeats 8000000 in
theorem back_walk1 {W2 : World} (body more : ByteArray) (hs : body.size ≤ 10000) (hmo : more.size ≤ 1048576) (M : Int) (hm : W2.cell? ⟨0, 0, none⟩ = some (.int .i64 M)) :
    Calls Tryd.prog 4 #[.string body, .int .i64 1, .string more] W2 fun e w' => e = .returned (.bool true) ∧ Below W2.heap.size W2 w' := by
  have AN := Lib.hid (anchor12_c M W2 hm)
  have HM := Lib.hid hm
  obtain ⟨n, hn⟩ : ∃ n, body.size = n := ⟨_, rfl⟩
  have hbl : body.data.toList.length = n := hn
  rw [hn] at hs
  have hml : more.data.toList.length = more.size := rfl
  have hll : (lenHead n).length ≤ 100 := by unfold lenHead okLine; have := dig_len 5 n; simp only [List.length_append, List.length_cons, List.length_nil]; omega
  have hwell := back_len n hs (body.data.toList ++ more.data.toList) (by rw [List.length_append]; omega)
  have htk : (body.data.toList ++ more.data.toList).take n = body.data.toList := by rw [List.take_append_of_le_length (by omega), List.take_of_length_le (by omega)]
  rw [htk] at hwell
  have TW := fun w s hx hm => Lib.hid (well_c w s body M (x := lenHead n ++ (body.data.toList ++ more.data.toList)) (by rw [List.length_append, List.length_append]; omega) hwell hx hm)
  have TWW := Lib.hid TW
  have DG := fun w => Lib.hid (digits_c 5 n w (by decide) (by omega) (by omega))
  have hd2 : (bs (digF 5 n)).size ≤ 6 := by rw [bs_size]; exact dig_len 5 n
  obtain ⟨S, hS⟩ : ∃ S, (⟨#[72, 84, 84, 80, 47, 49, 46, 49, 32, 50, 48, 48, 32, 79, 75, 13, 10]⟩ : ByteArray) ++ ((⟨#[67, 111, 110, 116, 101, 110, 116, 45, 76, 101, 110, 103, 116, 104, 58, 32]⟩ : ByteArray) ++ bs (digF 5 n) ++ (⟨#[13, 10, 13, 10]⟩ : ByteArray) ++ body) = S := ⟨_, rfl⟩
  have hSl : S.data.toList = lenHead n ++ body.data.toList := by rw [← hS]; simp [ByteArray.data_append, lenHead, okLine, bs]
  have hSm : ∀ m : ByteArray, (S ++ m).data.toList = lenHead n ++ (body.data.toList ++ m.data.toList) := fun m => by simp [ByteArray.data_append, hSl]
  have hSz : S.size = (lenHead n).length + n := by rw [← size_list, hSl, List.length_append, hbl]
  have hSp : 0 < S.size ∧ S.size ≤ 10100 := by have := lenHead_pos n; omega
  have HS := Lib.hid hS
  have HSL := Lib.hid hSl
  have HSM := Lib.hid hSm
  have HBL := Lib.hid hbl
  clear hm TW hwell htk hml hbl hS hSl hSm hSz
  generalize bs (digF 5 n) = D at *
  have hsi : (S.size : Int) - 1 ≤ 10100 ∧ 0 ≤ (S.size : Int) - 1 := by omega
  by_cases hz : n = 0
  · have hze : body.toList = [] := empty_toList (hn.trans hz)
    subst hz
    go_enter Tryd.func4, Tryd.ntmps4
    go_wp2_with fail
    refine AN.out.mono ?_
    rintro e w1 ⟨rfl, hb1⟩
    have B1 := Lib.hid hb1
    have M1 := Lib.hid (cell_below hb1 HM.out)
    clear hb1
    go_wp2_with fail
    refine (DG _).out.mono ?_
    rintro e w2 ⟨rfl, hb2⟩
    have B2 := Lib.hid (below_then B1.out hb2)
    have M2 := Lib.hid (cell_below hb2 M1.out)
    clear hb2
    go_wp2_with fail
    rw [HS.out]
    refine (TWW.out _ _ (HSM.out more) M2.out).out.mono ?_
    rintro e w3 ⟨rfl, hb3⟩
    have B3 := Lib.hid (below_then B2.out hb3)
    clear hb3
    go_wp2
    go_ret
    exact ⟨rfl, B3.out⟩
  · have hze : body.toList.isEmpty = false := nonempty_toList (by rw [hn]; exact hz)
    have hsh := back_len_short n hs body.data.toList.dropLast (by have := HBL.out; rw [List.length_dropLast]; omega)
    have hcut : (S.extract 0 (S.size - 1)).data.toList = lenHead n ++ body.data.toList.dropLast := by
      rw [cut_last S hSp.1, HSL.out, drop_snoc _ _ (last_ne (by rw [HBL.out]; omega))]
    have TS := fun w s hx hm => Lib.hid (short_c w s M (x := lenHead n ++ body.data.toList.dropLast) (by have := HBL.out; rw [List.length_append, List.length_dropLast]; omega) hsh hx hm)
    have TSS := Lib.hid TS
    have HCUT := Lib.hid hcut
    clear TS hcut hsh
    go_enter Tryd.func4, Tryd.ntmps4
    go_wp2_with fail
    refine AN.out.mono ?_
    rintro e w1 ⟨rfl, hb1⟩
    have B1 := Lib.hid hb1
    have M1 := Lib.hid (cell_below hb1 HM.out)
    clear hb1
    go_wp2_with fail
    refine (DG _).out.mono ?_
    rintro e w2 ⟨rfl, hb2⟩
    have B2 := Lib.hid (below_then B1.out hb2)
    have M2 := Lib.hid (cell_below hb2 M1.out)
    clear hb2
    go_wp2_with fail
    rw [HS.out]
    refine (TWW.out _ _ (HSM.out more) M2.out).out.mono ?_
    rintro e w3 ⟨rfl, hb3⟩
    have B3 := Lib.hid (below_then B2.out hb3)
    have M3 := Lib.hid (cell_below hb3 M2.out)
    clear hb3
    go_wp2_with fail
    refine (TSS.out _ _ HCUT.out M3.out).out.mono ?_
    rintro e w4 ⟨⟨u, v, rfl⟩, hb4⟩
    have B4 := Lib.hid (below_then B3.out hb4)
    clear hb4
    go_wp2
    go_ret
    exact ⟨rfl, B4.out⟩
set_option maxRecDepth 100000 in
set_option maxHeartbeats 8000000 in
theorem back_walk0 {W2 : World} (body more : ByteArray) (hs : body.size ≤ 10000) (hmo : more.size ≤ 1048576) (M : Int) (hm : W2.cell? ⟨0, 0, none⟩ = some (.int .i64 M)) :
    Calls Tryd.prog 4 #[.string body, .int .i64 0, .string more] W2 fun e w' => e = .returned (.bool true) ∧ Below W2.heap.size W2 w' := by
  have AN := Lib.hid (anchor12_c M W2 hm)
  have HM := Lib.hid hm
  have hbl : body.data.toList.length ≤ 10000 := hs
  have hml : more.data.toList.length = more.size := rfl
  have hel := encL_len body.data.toList
  have hll : chHead.length ≤ 100 := by decide
  have hwell := back_ch body.data.toList hs more.data.toList
  have TW := fun w s hx hm => Lib.hid (well_c w s body M (x := chHead ++ (encL body.data.toList ++ [48, 13, 10, 13, 10] ++ more.data.toList)) (by simp only [List.length_append, List.length_cons, List.length_nil]; omega) hwell hx hm)
  have TWW := Lib.hid TW
  have TS := fun w s hx hm => Lib.hid (short_c w s M (x := chHead ++ (encL body.data.toList ++ [48, 13, 10, 13])) (by simp only [List.length_append, List.length_cons, List.length_nil]; omega) (back_ch_short body.data.toList hs) hx hm)
  have TSS := Lib.hid TS
  have EN := fun w => Lib.hid (encode_c body hs w)
  have hd2 : (bs (encL body.data.toList)).size ≤ 10012 := by rw [bs_size]; omega
  obtain ⟨S, hS⟩ : ∃ S, (⟨#[72, 84, 84, 80, 47, 49, 46, 49, 32, 50, 48, 48, 32, 79, 75, 13, 10]⟩ : ByteArray) ++ ((⟨#[84, 114, 97, 110, 115, 102, 101, 114, 45, 69, 110, 99, 111, 100, 105, 110, 103, 58, 32, 99, 104, 117, 110, 107, 101, 100, 13, 10, 13, 10]⟩ : ByteArray) ++ bs (encL body.data.toList) ++ (⟨#[48, 13, 10, 13, 10]⟩ : ByteArray)) = S := ⟨_, rfl⟩
  have hSl : S.data.toList = chHead ++ (encL body.data.toList ++ [48, 13, 10, 13, 10]) := by rw [← hS]; simp [ByteArray.data_append, chHead, okLine, bs]
  have hSm : ∀ m : ByteArray, (S ++ m).data.toList = chHead ++ (encL body.data.toList ++ [48, 13, 10, 13, 10] ++ m.data.toList) := fun m => by simp [ByteArray.data_append, hSl]
  have hSz : S.size = chHead.length + ((encL body.data.toList).length + 5) := by rw [← size_list, hSl]; simp only [List.length_append, List.length_cons, List.length_nil]
  have hSp : 0 < S.size ∧ S.size ≤ 10200 := by omega
  have hcut : (S.extract 0 (S.size - 1)).data.toList = chHead ++ (encL body.data.toList ++ [48, 13, 10, 13]) := by
    rw [cut_last S hSp.1, hSl, drop_snoc _ _ (by simp), drop_snoc _ _ (by simp)]; rfl
  have CV := fun w base n v h => Lib.hid (own_string8 (w := w) (base := base) (n := n) (v := v) (xs := byteI (encL body.data.toList)) h)
  simp only [strOf_bytes] at CV
  have HS := Lib.hid hS
  have HSM := Lib.hid hSm
  have HCUT := Lib.hid hcut
  have hsi : (S.size : Int) - 1 ≤ 10200 ∧ 0 ≤ (S.size : Int) - 1 := by omega
  clear hm TW TS hwell hml hbl hS hSl hSm hSz hcut hel
  generalize bs (encL body.data.toList) = D at *
  go_enter Tryd.func4, Tryd.ntmps4
  go_wp2_with fail
  refine AN.out.mono ?_
  rintro e w1 ⟨rfl, hb1⟩
  have B1 := Lib.hid hb1
  have M1 := Lib.hid (cell_below hb1 HM.out)
  clear hb1
  go_wp2_with fail
  refine (EN _).out.mono ?_
  rintro e w2 ⟨v, rfl, ho2, hb2⟩
  have B2 := Lib.hid (below_then B1.out hb2)
  have M2 := Lib.hid (cell_below hb2 M1.out)
  have hcv := (CV _ _ _ _ ho2).out
  clear hb2 ho2
  go_wp2_with fail
  rw [HS.out]
  refine (TWW.out _ _ (HSM.out more) M2.out).out.mono ?_
  rintro e w3 ⟨rfl, hb3⟩
  have B3 := Lib.hid (below_then B2.out hb3)
  have M3 := Lib.hid (cell_below hb3 M2.out)
  clear hb3 hcv
  go_wp2_with fail
  refine (TSS.out _ _ HCUT.out M3.out).out.mono ?_
  rintro e w4 ⟨⟨u, v2, rfl⟩, hb4⟩
  have B4 := Lib.hid (below_then B3.out hb4)
  clear hb4
  go_wp2
  go_ret
  exact ⟨rfl, B4.out⟩
set_option maxRecDepth 100000 in
set_option maxHeartbeats 8000000 in
theorem back_walk {W : World} (body : ByteArray) (hbd : body.size ≤ 1048576) (kind : Int) (wk : (Lit.int .i64 kind).wf = true) (more : ByteArray) (hmo : more.size ≤ 1048576) (M : Int) (W2 : World) (hW : W2 = W) (hm : W2.cell? ⟨0, 0, none⟩ = some (.int .i64 M)) :
    Calls Tryd.prog 4 #[.string body, .int .i64 kind, .string more] W2 fun e w' => e = .returned (.bool true) ∧ Below W2.heap.size W2 w' := by
  subst hW
  by_cases hs : body.size ≤ 10000
  · by_cases k0 : kind = 0
    · subst k0; exact back_walk0 body more hs hmo M hm
    by_cases k1 : kind = 1
    · subst k1; exact back_walk1 body more hs hmo M hm
    by_cases k2 : kind = 2
    · subst k2; exact back_walk2 body more hs hmo M hm
    have AN := Lib.hid (anchor12_c M W2 hm)
    have hsi : (body.size : Int) ≤ 10000 := by omega
    have hk : kind < 0 ∨ 2 < kind := by omega
    clear hm k0 k1 k2 wk
    go_enter Tryd.func4, Tryd.ntmps4
    go_wp2_with fail
    refine AN.out.mono ?_
    rintro e w1 ⟨rfl, hb1⟩
    have B1 := Lib.hid hb1
    clear hb1
    rcases hk with hk | hk
    · go_wp2
      go_ret
      exact ⟨rfl, B1.out⟩
    · have hk0 : ¬ kind < 0 := by omega
      go_wp2
      go_ret
      exact ⟨rfl, B1.out⟩
  · have AN := Lib.hid (anchor12_c M W2 hm)
    have hsi : (10000 : Int) < (body.size : Int) := by omega
    clear hm wk
    go_enter Tryd.func4, Tryd.ntmps4
    go_wp2_with fail
    refine AN.out.mono ?_
    rintro e w1 ⟨rfl, hb1⟩
    have B1 := Lib.hid hb1
    clear hb1
    go_wp2
    go_ret
    exact ⟨rfl, B1.out⟩
end Go.Proofs.YtgmjkkiahanekaaDoor

