/- The walk over PathSteps. -/
import Derived.Test.YtmlmgpphkiikaaaDoorPathO
set_option linter.unusedVariables false
set_option linter.unusedSimpArgs false
namespace Go.Proofs.YtmlmgpphkiikaaaDoor
open Go.RowKit Lex

theorem ba_size (a b : ByteArray) : (a ++ b).size = a.size + b.size := ByteArray.size_append
theorem last_at (pb : ByteArray) (n : Nat) (h : pb.size = n + 1) : pb.data.toList.getLast? = some (pb[n]'(by omega)) := by
  have e : pb.size - 1 = n := by omega
  rw [List.getLast?_eq_getElem?, size_list, e, List.getElem?_eq_getElem (by rw [size_list]; omega)]
  rfl

set_option maxRecDepth 100000 in
set_option maxHeartbeats 4000000 in
theorem steps_walk (s : ByteArray) (hs : s.size ≤ 1048576) (x : ByteArray) (hx : x.size ≤ 1048576) (m : Int) (W : World) {w : World} (hW : W = w) (hm : W.cell? ⟨0, 0, none⟩ = some (.int .i64 m)) :
    Calls Tryd.prog 9 #[.string s, .string x] W fun e w' => e = .returned (.bool true) ∧ Below W.heap.size W w' := by
  subst hW
  have A := Lib.hid (anchor5_c m W hm)
  have N1 := fun w hm => Lib.hid (normal_c s m w (by omega) hm)
  cases hn : normal s.data.toList with
  | none =>
    rw [hn] at N1
    simp only [normVal] at N1
    clear hn
    go_enter Tryd.func9, Tryd.ntmps9
    go_wp2_with fail
    refine A.out.mono ?_
    rintro e w1 ⟨rfl, hb1⟩
    have hm1 := cell_after hb1 hm
    go_wp2_with fail
    refine (N1 _ hm1).out.mono ?_
    rintro e w2 ⟨rfl, hb2⟩
    go_wp2
    go_ret
    exact ⟨rfl, below_then hb1 hb2⟩
  | some p =>
    have ST := Lib.hid (fun hx => steps (x := x.data.toList) hn hx)
    obtain ⟨pb, hpb⟩ : ∃ pb, bs p = pb := ⟨_, rfl⟩
    have hpd : p = pb.data.toList := by rw [← hpb, bs_list]
    rw [hn] at N1
    simp only [normVal, Option.getD_some, Option.isSome_some, if_true, hpb] at N1
    subst hpd
    clear hpb hn
    go_enter Tryd.func9, Tryd.ntmps9
    go_wp2_with fail
    refine A.out.mono ?_
    rintro e w1 ⟨rfl, hb1⟩
    have hm1 := cell_after hb1 hm
    go_wp2_with fail
    refine (N1 _ hm1).out.mono ?_
    rintro e w2 ⟨rfl, hb2⟩
    have hm2 := cell_after hb2 hm1
    have hB := below_then hb1 hb2
    clear hb1 hb2 A N1 hm1
    go_wp2
    go_loopw [28] (fun i wr => ∃ k : Nat, k ≤ x.size ∧ i = .int .i64 k ∧ wr = w2 ∧ ∀ j (h : j < x.size), j < k → 97 ≤ (x[j].toNat : Int) ∧ (x[j].toNat : Int) ≤ 122) (fun i _ => x.size - (intOf i).toNat)
    case atStart => exact ⟨0, Nat.zero_le _, rfl, rfl, fun j _ h => absurd h (Nat.not_lt_zero _)⟩
    case round =>
      obtain ⟨k, hk, rfl, rfl, hall⟩ := hrel
      have HA := Lib.hid hall
      clear hall
      by_cases hlt : k < x.size
      · by_cases h1 : (x[k].toNat : Int) < 97
        · go_wp2
          go_ret
          exact ⟨rfl, hB⟩
        · by_cases h2 : 122 < (x[k].toNat : Int)
          · go_wp2
            go_ret
            exact ⟨rfl, hB⟩
          · have HN := Lib.hid (show ∀ j (h : j < x.size), j < k + 1 → 97 ≤ (x[j].toNat : Int) ∧ (x[j].toNat : Int) ≤ 122 from fun j hj hl => by
              by_cases he : j = k
              · subst he; omega
              · exact HA.out j hj (by omega))
            go_wp2
            go_roundw
            case rel => exact ⟨k + 1, by omega, by go_num, by first | rfl | trivial, HN.out⟩
            case measure => simp [intOf]; omega
      · have hall : ∀ c ∈ x.data.toList, 97 ≤ (c.toNat : Int) ∧ (c.toNat : Int) ≤ 122 := fun c hc => by
          obtain ⟨j, hj, rfl⟩ := List.getElem_of_mem hc
          have hj' : j < x.size := by rw [size_list] at hj; exact hj
          exact HA.out j hj' (by omega)
        obtain ⟨want, hwant, hpl, hp0, s1, s2, s3⟩ := ST.out hall
        clear hall HA
        rw [size_list] at hpl hp0
        rw [size_list] at hpl
        obtain ⟨n, hsz⟩ : ∃ n, pb.size = n + 1 := ⟨pb.size - 1, by omega⟩
        rw [last_at pb n hsz] at hwant
        have e1 : (pb ++ ⟨#[47, 120]⟩ ++ x ++ ⟨#[47, 46, 46]⟩ : ByteArray).data.toList = pb.data.toList ++ ([47, 120] ++ x.data.toList ++ [47, 46, 46]) := by simp [ByteArray.data_append]
        have e2 : (pb ++ ⟨#[47, 46]⟩ : ByteArray).data.toList = pb.data.toList ++ [47, 46] := by simp [ByteArray.data_append]
        have e3 : (pb ++ ⟨#[47, 47, 37, 50, 101, 47, 120]⟩ ++ x : ByteArray).data.toList = pb.data.toList ++ ([47, 47, 37, 50, 101, 47, 120] ++ x.data.toList) := by simp [ByteArray.data_append]
        have k1 : (⟨#[47, 120]⟩ : ByteArray).size = 2 := rfl
        have k2 : (⟨#[47, 46, 46]⟩ : ByteArray).size = 3 := rfl
        have k3 : (⟨#[47, 46]⟩ : ByteArray).size = 2 := rfl
        have k4 : (⟨#[47, 47, 37, 50, 101, 47, 120]⟩ : ByteArray).size = 7 := rfl
        have k5 : (⟨#[47]⟩ : ByteArray).size = 1 := rfl
        have k6 : (⟨#[120]⟩ : ByteArray).size = 1 := rfl
        have M1 := fun w hm => Lib.hid (normal_c (pb ++ ⟨#[47, 120]⟩ ++ x ++ ⟨#[47, 46, 46]⟩) m w (by rw [ba_size, ba_size, ba_size]; omega) hm)
        have M2 := fun w hm => Lib.hid (normal_c (pb ++ ⟨#[47, 46]⟩) m w (by rw [ba_size]; omega) hm)
        have M3 := fun w hm => Lib.hid (normal_c (pb ++ ⟨#[47, 47, 37, 50, 101, 47, 120]⟩ ++ x) m w (by rw [ba_size, ba_size]; omega) hm)
        rw [e1, s1] at M1
        rw [e2, s2] at M2
        rw [e3, s3] at M3
        simp only [normVal, Option.getD_some, Option.isSome_some, if_true] at M1 M2 M3
        have z1 : pb.size + (⟨#[47, 120]⟩ : ByteArray).size ≤ 9223372036854775807 := by omega
        have z2 : (pb ++ ⟨#[47, 120]⟩ : ByteArray).size + x.size ≤ 9223372036854775807 := by rw [ba_size]; omega
        have z3 : (pb ++ ⟨#[47, 120]⟩ ++ x : ByteArray).size + (⟨#[47, 46, 46]⟩ : ByteArray).size ≤ 9223372036854775807 := by rw [ba_size, ba_size]; omega
        have z4 : pb.size + (⟨#[47, 46]⟩ : ByteArray).size ≤ 9223372036854775807 := by omega
        have z5 : pb.size + (⟨#[47, 47, 37, 50, 101, 47, 120]⟩ : ByteArray).size ≤ 9223372036854775807 := by omega
        have z6 : (pb ++ ⟨#[47, 47, 37, 50, 101, 47, 120]⟩ : ByteArray).size + x.size ≤ 9223372036854775807 := by rw [ba_size]; omega
        have z7 : pb.size + (⟨#[47]⟩ : ByteArray).size ≤ 9223372036854775807 := by omega
        clear e1 e2 e3 s1 s2 s3 k2 k3 k4
        rcases hwant with ⟨hl, hw⟩ | ⟨hl, hw⟩
        · have z8 : pb.size + (⟨#[120]⟩ : ByteArray).size ≤ 9223372036854775807 := by omega
          have z9 : (pb ++ ⟨#[120]⟩ : ByteArray).size + x.size ≤ 9223372036854775807 := by rw [ba_size]; omega
          rw [show bs want = pb by rw [hw, list_bs]] at M1 M2
          rw [show bs (want ++ 120 :: x.data.toList) = pb ++ ⟨#[120]⟩ ++ x from bytes_ext (by simp [hw, bs, ByteArray.data_append])] at M3
          have g : ((pb[n].toNat : Int) != 47) = false := by
            have : pb[n] = 47 := by simpa using hl
            rw [this]; rfl
          clear hl hw k1 k5 k6
          go_wp2_with fail
          refine (M1 _ hm2).out.mono ?_
          rintro e w3 ⟨rfl, hb3⟩
          have hm3 := cell_after hb3 hm2
          go_wp2_with fail
          refine (M2 _ hm3).out.mono ?_
          rintro e w4 ⟨rfl, hb4⟩
          have hm4 := cell_after hb4 hm3
          go_wp2_with fail
          refine (M3 _ hm4).out.mono ?_
          rintro e w5 ⟨rfl, hb5⟩
          go_wp2
          go_ret
          exact ⟨rfl, below_then (below_then (below_then hB hb3) hb4) hb5⟩
        · have z8 : (pb ++ ⟨#[47]⟩ : ByteArray).size + (⟨#[120]⟩ : ByteArray).size ≤ 9223372036854775807 := by rw [ba_size]; omega
          have z9 : (pb ++ ⟨#[47]⟩ ++ ⟨#[120]⟩ : ByteArray).size + x.size ≤ 9223372036854775807 := by rw [ba_size, ba_size]; omega
          rw [show bs want = pb ++ ⟨#[47]⟩ from bytes_ext (by simp [hw, bs, ByteArray.data_append])] at M1 M2
          rw [show bs (want ++ 120 :: x.data.toList) = pb ++ ⟨#[47]⟩ ++ ⟨#[120]⟩ ++ x from bytes_ext (by simp [hw, bs, ByteArray.data_append])] at M3
          have g : ((pb[n].toNat : Int) != 47) = true := by
            rw [bne_iff_ne]; intro h; apply hl
            rw [show pb[n] = 47 from UInt8.toNat_inj.1 (by have : (47 : UInt8).toNat = 47 := rfl; omega)]
          clear hl hw k1 k5 k6
          go_wp2_with fail
          refine (M1 _ hm2).out.mono ?_
          rintro e w3 ⟨rfl, hb3⟩
          have hm3 := cell_after hb3 hm2
          go_wp2_with fail
          refine (M2 _ hm3).out.mono ?_
          rintro e w4 ⟨rfl, hb4⟩
          have hm4 := cell_after hb4 hm3
          go_wp2_with fail
          refine (M3 _ hm4).out.mono ?_
          rintro e w5 ⟨rfl, hb5⟩
          go_wp2
          go_ret
          exact ⟨rfl, below_then (below_then (below_then hB hb3) hb4) hb5⟩
end Go.Proofs.YtmlmgpphkiikaaaDoor
