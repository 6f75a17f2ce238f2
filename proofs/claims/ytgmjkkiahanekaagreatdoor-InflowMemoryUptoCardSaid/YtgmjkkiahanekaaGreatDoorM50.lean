/- The texts WrC in one. -/
import Derived.Test.YtgmjkkiahanekaaGreatDoorM48
import Derived.Test.YtgmjkkiahanekaaGreatDoorM49
import Derived.Test.YtgmjkkiahanekaaGreatDoorM11
import Derived.Test.YtgmjkkiahanekaaGreatDoorM21
/- The contract of the laws' written (layer 11). -/
set_option linter.unusedVariables false
set_option linter.unusedSimpArgs false
namespace Go.Proofs.YtgmjkkiahanekaaGreatDoor
open Go.RowKit Lex

theorem hxs11_len : ∀ k n, (hexR.hxs k n).length = k
  | 0, _ => rfl
  | k + 1, n => by rw [hexR.hxs, List.length_cons, hxs11_len k n]
theorem hexR11_len : ∀ k n, (hexR k n).length ≤ k
  | 0, _ => Nat.le_refl _
  | k + 1, n => by
    unfold hexR
    split
    · exact Nat.le_succ_of_le (hexR11_len k n)
    · rw [hxs11_len]; exact Nat.le_refl _
theorem enc11_len (b : List UInt8) : (encL b).length ≤ b.length + 12 := by
  unfold encL
  split
  · simp
  · have := hexR11_len 8 b.length
    simp only [List.length_append, List.length_cons, List.length_nil]; omega
theorem chunks_fuel {z : Nat} (hz : 0 < z) : ∀ (f : Nat) (r : List UInt8) (g : Nat), r.length ≤ f → r.length ≤ g → chunksF z f r = chunksF z g r := by
  intro f
  induction f with
  | zero =>
    intro r g h _
    have : r = [] := List.eq_nil_of_length_eq_zero (by omega)
    subst this
    rw [chunks_nil, chunks_nil]
  | succ f ih =>
    intro r g h1 h2
    by_cases h0 : r = []
    · subst h0; rw [chunks_nil, chunks_nil]
    · have hp := List.length_pos_iff.2 h0
      obtain ⟨g, rfl⟩ : ∃ g', g = g' + 1 := ⟨g - 1, by omega⟩
      rw [chunksF, if_neg h0, chunksF, if_neg h0, ih (r.drop z) g (by rw [List.length_drop]; omega) (by rw [List.length_drop]; omega)]
theorem chunks_next {z : Nat} (hz : 0 < z) {r : List UInt8} (h0 : r ≠ []) : chunksF z r.length r = encL (r.take z) ++ chunksF z (r.drop z).length (r.drop z) := by
  have hp := List.length_pos_iff.2 h0
  obtain ⟨f, hf⟩ : ∃ f, r.length = f + 1 := ⟨r.length - 1, by omega⟩
  rw [hf, chunksF, if_neg h0, chunks_fuel hz f (r.drop z) (r.drop z).length (by rw [List.length_drop]; omega) (Nat.le_refl _)]
def headT (me pa : List UInt8) : List UInt8 := wfirst me pa ++ 13 :: 10 :: (fline1 (hostU, [104]) ++ [13, 10])
theorem wr_len {me pa body : List UInt8} {size : Int} (h : size < 1) : wrL me pa body size = headT me pa ++ (clU ++ [58, 32]) ++ digF 5 body.length ++ [13, 10, 13, 10] ++ body := by
  unfold wrL headT
  rw [if_pos h]
  simp [lenFs, flines1, fline1]
theorem wr_ch {me pa body : List UInt8} {size : Int} (h : ¬ size < 1) : wrL me pa body size = headT me pa ++ (teU ++ [58, 32] ++ chV ++ [13, 10, 13, 10]) ++ chunksF size.toNat body.length body ++ [48, 13, 10, 13, 10] := by
  unfold wrL headT
  rw [if_neg h]
  simp [chFs, flines1, fline1]
theorem bs_cat (a b : List UInt8) : bs a ++ bs b = bs (a ++ b) := by
  rw [← list_bs (bs a ++ bs b)]; congr 1
theorem wr_t0 (me pa : ByteArray) : ((me ++ ⟨#[32]⟩) ++ pa) ++ ⟨#[32, 72, 84, 84, 80, 47, 49, 46, 49, 13, 10, 72, 111, 115, 116, 58, 32, 104, 13, 10]⟩ = bs (headT me.data.toList pa.data.toList) := by
  refine bytes_ext ?_
  simp [headT, wfirst, httpE, fline1, hostU]
theorem bs_dropx (l : List UInt8) (a : Nat) : (bs l).extract a l.length = bs (l.drop a) := by
  rw [← list_bs ((bs l).extract a l.length), ext_list, bs_list, List.take_of_length_le (by rw [List.length_drop]; exact Nat.le_refl _)]
theorem bs_takex (l : List UInt8) (a : Nat) : (bs l).extract 0 a = bs (l.take a) := by
  rw [← list_bs ((bs l).extract 0 a), ext_list, bs_list, List.drop_zero, Nat.sub_zero]
theorem headT_len (me pa : List UInt8) : (headT me pa).length = me.length + pa.length + 21 := by
  unfold headT
  rw [List.length_append, wfirst_length]
  simp only [fline1, hostU, List.length_cons, List.length_append, List.length_nil]
set_option maxRecDepth 100000 in
set_option maxHeartbeats 4000000 in
theorem written_c (me pa body : ByteArray) (size : Int) (w : World) (hme : me.size ≤ 100) (hpa : pa.size ≤ 1100) (hb : body.size < 3200) (hsz : size ≤ 9223372036854775807) :
    Calls Tryz.prog 27 #[.string me, .string pa, .string body, .int .i64 size] w fun e w' => e = .returned (.string (bs (wrL me.data.toList pa.data.toList body.data.toList size))) ∧ Below w.heap.size w w' := by
  have T0 := Lib.hid (wr_t0 me pa)
  have hbl : body.data.toList.length = body.size := size_list body
  have hhl := headT_len me.data.toList pa.data.toList
  rw [size_list, size_list] at hhl
  by_cases hs : size < 1
  · have DG := fun w => Lib.hid (digits11_c 5 body.size w (by decide) (by omega) (by omega))
    have hd2 : (bs (digF 5 body.size)).size ≤ 6 := by rw [bs_size]; exact dig_len 5 _
    have E : Hid ((((bs (headT me.data.toList pa.data.toList) ++ ⟨#[67, 111, 110, 116, 101, 110, 116, 45, 76, 101, 110, 103, 116, 104, 58, 32]⟩) ++ bs (digF 5 body.size)) ++ ⟨#[13, 10, 13, 10]⟩) ++ body = bs (wrL me.data.toList pa.data.toList body.data.toList size)) := Lib.hid (by
      rw [wr_len hs, hbl, ← list_bs body, bs_list, show (⟨#[67, 111, 110, 116, 101, 110, 116, 45, 76, 101, 110, 103, 116, 104, 58, 32]⟩ : ByteArray) = bs (clU ++ [58, 32]) from rfl, show (⟨#[13, 10, 13, 10]⟩ : ByteArray) = bs [13, 10, 13, 10] from rfl]
      simp only [bs_cat])
    have hxz : (bs (headT me.data.toList pa.data.toList)).size ≤ 1300 := by rw [bs_size, hhl]; omega
    generalize bs (headT me.data.toList pa.data.toList) = x at *
    generalize bs (wrL me.data.toList pa.data.toList body.data.toList size) = y at *
    generalize bs (digF 5 body.size) = D at *
    clear hbl hhl
    go_enter Tryz.func27, Tryz.ntmps27
    go_wp2_with fail
    rw [T0.out]
    refine (DG _).out.mono ?_
    rintro e w1 ⟨rfl, hb1⟩
    have B1 := Lib.hid hb1
    clear hb1
    go_wp2
    go_ret
    exact ⟨by rw [← E.out] <;> rfl, B1.out⟩
  · obtain ⟨z, rfl⟩ : ∃ z : Nat, size = (z : Int) := ⟨size.toNat, by omega⟩
    have hz : 0 < z := by omega
    obtain ⟨H, hH⟩ : ∃ H, headT me.data.toList pa.data.toList ++ (teU ++ [58, 32] ++ chV ++ [13, 10, 13, 10]) = H := ⟨_, rfl⟩
    have hHl : H.length ≤ 1400 := by
      rw [← hH, List.length_append, hhl]
      simp only [teU, chV, List.length_append, List.length_cons, List.length_nil]
      omega
    have E0 : Hid (bs (headT me.data.toList pa.data.toList) ++ ⟨#[84, 114, 97, 110, 115, 102, 101, 114, 45, 69, 110, 99, 111, 100, 105, 110, 103, 58, 32, 99, 104, 117, 110, 107, 101, 100, 13, 10, 13, 10]⟩ = bs (H ++ [])) := Lib.hid (by
      rw [List.append_nil, ← hH, ← bs_cat]
      rfl)
    have E1 : Hid (wrL me.data.toList pa.data.toList body.data.toList (z : Int) = H ++ chunksF z body.data.toList.length body.data.toList ++ [48, 13, 10, 13, 10]) := Lib.hid (by rw [wr_ch hs, hH]; rfl)
    have E2 := fun l => Lib.hid (bs_cat l [48, 13, 10, 13, 10])
    have hxz : (bs (headT me.data.toList pa.data.toList)).size ≤ 1300 := by rw [bs_size, hhl]; omega
    obtain ⟨b, hbb⟩ : ∃ b, body.data.toList = b := ⟨_, rfl⟩
    have hby : body = bs b := bytes_ext hbb
    rw [hbb] at E1 hbl ⊢
    obtain ⟨W, hW⟩ : ∃ W, wrL me.data.toList pa.data.toList b (z : Int) = W := ⟨_, rfl⟩
    rw [hW] at E1 ⊢
    generalize bs (headT me.data.toList pa.data.toList) = x at *
    subst hby
    have HHL := Lib.hid hHl
    have HZ := Lib.hid hz
    have hbl3 : b.length < 3200 := by omega
    have HBL := Lib.hid hbl3
    clear hH hHl hbl hhl hbb hW hb hz hbl3
    have z1 : ¬ (z : Int) < 1 := hs
    have h0z : (0 : Int) ≤ (z : Int) := by omega
    clear hs
    go_enter Tryz.func27, Tryz.ntmps27
    go_wp2_with fail
    go_loopw [9, 10] (fun s r wr => ∃ (R C : List UInt8), r = .string (bs R) ∧ s = .string (bs (H ++ C)) ∧ C ++ chunksF z R.length R = chunksF z b.length b ∧ R.length ≤ b.length ∧ C.length + 13 * R.length ≤ 13 * b.length ∧ Below w.heap.size w wr) (fun _ r _ => match r with | .string x => x.size | _ => 0)
    case atStart =>
      exact ⟨b, [], rfl, by rw [T0.out, E0.out], rfl, Nat.le_refl _, by simp, Below.refl _ _⟩
    case round =>
      obtain ⟨R, C, rfl, rfl, hC, hR, hCl, hB⟩ := hrel
      have HC := Lib.hid hC
      have HB := Lib.hid hB
      clear hC hB
      have hRz : (bs R).size = R.length := bs_size R
      have hSz : (bs (H ++ C)).size ≤ 50000 := by rw [bs_size, List.length_append]; have := HHL.out; have := HBL.out; omega
      by_cases h0 : R = []
      · have hW : bs (H ++ C) ++ ⟨#[48, 13, 10, 13, 10]⟩ = bs W := by
          have h1 := HC.out
          rw [h0, chunks_nil, List.append_nil] at h1
          rw [E1.out, ← h1, ← (E2 (H ++ C)).out]
          try rfl
        subst h0
        have HWW := Lib.hid hW
        clear hW hRz
        generalize bs (H ++ C) = y at *
        go_wp2_with fail
        go_ret
        exact ⟨by rw [← HWW.out] <;> rfl, HB.out⟩
      · have hie : R.isEmpty = false := by
          cases hR : R with
          | nil => exact absurd hR h0
          | cons a b => rfl
        have hp : 0 < R.length := List.length_pos_iff.2 h0
        have hz := HZ.out
        have hbl3 := HBL.out
        have hel := enc11_len (R.take z)
        rw [List.length_take] at hel
        have EN := Lib.hid (fun w => encode_c (bs (R.take z)) (by rw [bs_size, List.length_take]; omega) w)
        simp only [bs_list] at EN
        have CV := fun w base n v h => Lib.hid (own_string8 (w := w) (base := base) (n := n) (v := v) (xs := byteI (encL (R.take z))) h)
        simp only [strOf_bytes] at CV
        have HCAT : Hid (bs (H ++ C) ++ bs (encL (R.take z)) = bs (H ++ (C ++ encL (R.take z)))) := Lib.hid (by rw [bs_cat, List.append_assoc])
        have HN : Hid ((C ++ encL (R.take z)) ++ chunksF z (R.drop z).length (R.drop z) = chunksF z b.length b) := Lib.hid (by rw [← HC.out, chunks_next hz h0, List.append_assoc])
        have HL : Hid ((R.drop z).length ≤ b.length ∧ (C ++ encL (R.take z)).length + 13 * (R.drop z).length ≤ 13 * b.length) := Lib.hid ⟨by rw [List.length_drop]; omega, by rw [List.length_append, List.length_drop]; omega⟩
        have hed : (bs (encL (R.take z))).size ≤ 4000 := by rw [bs_size]; omega
        have HM : Hid ((bs (R.drop z)).size < (bs R).size) := Lib.hid (by rw [bs_size, bs_size, List.length_drop]; omega)
        have hR3 : R.length < 3200 := by omega
        clear h0 hz hbl3 hel
        by_cases hzl : z ≤ R.length
        · have hzi : (z : Int) ≤ (R.length : Int) := by omega
          have hzm : min (z : Int) (R.length : Int) = (z : Int) := by omega
          have hxe : (bs R).extract 0 z = bs (R.take z) := bs_takex R z
          have hxd : (bs R).extract z R.length = bs (R.drop z) := bs_dropx R z
          have HXE := Lib.hid hxe
          have HXD := Lib.hid hxd
          clear hxe hxd
          go_wp2_with fail
          rw [HXE.out]
          refine (EN.out _).mono ?_
          rintro e w2 ⟨v, rfl, ho, hb2⟩
          have B2 := Lib.hid (below_then HB.out hb2)
          have hcv := (CV _ _ _ _ ho).out
          clear ho hb2
          go_wp2_with fail
          go_roundw
          case rel => exact ⟨R.drop z, C ++ encL (R.take z), by rw [HXD.out], by rw [HCAT.out], HN.out, HL.out.1, HL.out.2, B2.out⟩
          case measure =>
            rw [HXD.out]
            exact HM.out
        · have hzi : ¬ (z : Int) ≤ (R.length : Int) := by omega
          have hzm : min (z : Int) (R.length : Int) = (R.length : Int) := by omega
          have hxe : (bs R).extract 0 R.length = bs (R.take z) := by rw [bs_takex, List.take_of_length_le (Nat.le_refl _), List.take_of_length_le (by omega)]
          have hxd : ByteArray.empty = bs (R.drop z) := by rw [List.drop_of_length_le (by omega)]; rfl
          have HXE := Lib.hid hxe
          have HXD := Lib.hid hxd
          clear hxe hxd
          go_wp2_with fail
          rw [HXE.out]
          refine (EN.out _).mono ?_
          rintro e w2 ⟨v, rfl, ho, hb2⟩
          have B2 := Lib.hid (below_then HB.out hb2)
          have hcv := (CV _ _ _ _ ho).out
          clear ho hb2
          go_wp2_with fail
          go_roundw
          case rel => exact ⟨R.drop z, C ++ encL (R.take z), by rw [HXD.out], by rw [HCAT.out], HN.out, HL.out.1, HL.out.2, B2.out⟩
          case measure =>
            rw [HXD.out]
            exact HM.out
end Go.Proofs.YtgmjkkiahanekaaGreatDoor

