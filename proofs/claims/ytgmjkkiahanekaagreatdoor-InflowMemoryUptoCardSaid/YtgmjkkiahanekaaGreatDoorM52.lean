/- The texts InN, TrC in one. -/
import Derived.Test.YtgmjkkiahanekaaGreatDoorM17
import Derived.Test.YtgmjkkiahanekaaGreatDoorM21
/- The contract of the reader's Begun (layer 11). -/
set_option linter.unusedVariables false
set_option linter.unusedSimpArgs false
namespace Go.Proofs.YtgmjkkiahanekaaGreatDoor
open Go.RowKit Lex

def begunL (b : List UInt8) : Bool := decide (b.drop (2 * ahead b) ≠ []) && decide (b.drop (2 * ahead b) ≠ [13])
theorem bs_ext (l : List UInt8) (a : Nat) : (bs l).extract a (bs l).size = bs (l.drop a) := by
  rw [← list_bs ((bs l).extract a (bs l).size), ext_list, bs_list, List.take_of_length_le (by rw [List.length_drop, bs_size]; exact Nat.le_refl _)]
set_option maxRecDepth 100000 in
set_option maxHeartbeats 4000000 in
theorem ibegun_c (R : Nat) (r : In) (F : Nat → Prop) (w : World) (h : InAt w R r F) (hb : r.buf.length ≤ 4294967296) :
    Calls Tryz.prog 31 #[.pointer (some ⟨R, 0, none⟩)] w fun e w' => e = .returned (.bool (begunL r.buf)) ∧ w = w' := by
  have c2 := h.three.c2
  have HP := fun x w => Lib.hid (Tryz.strings_HasPrefix (bs x) ⟨#[13, 10]⟩ w)
  simp only [bs_list, show (ByteArray.mk #[13, 10]).data.toList = [13, 10] from rfl] at HP
  obtain ⟨b, hbb⟩ : ∃ b, r.buf = b := ⟨_, rfl⟩
  rw [hbb] at c2 hb ⊢
  have EX := fun l a => Lib.hid (bs_ext l a)
  have BL : Hid (begunL b = (decide (b.drop (2 * ahead b) ≠ []) && decide (b.drop (2 * ahead b) ≠ [13]))) := Lib.hid rfl
  clear h hbb
  go_enter Tryz.func31, Tryz.ntmps31
  go_wp2_with fail
  go_loop [3] (fun s => ∃ a j : Nat, a = 2 * j ∧ a ≤ b.length ∧ s = .string (bs (b.drop a)) ∧ ahead b = j + ahead (b.drop a)) (fun s => match s with | .string x => x.size | _ => 0)
  case atStart => exact ⟨0, 0, rfl, Nat.zero_le _, rfl, by simp⟩
  case round =>
    obtain ⟨a, j, ha, hal, rfl, hah⟩ := hrel
    have HAH := Lib.hid hah
    have HA := Lib.hid ha
    have hsz : (bs (b.drop a)).size = b.length - a := by rw [bs_size, List.length_drop]
    have HPP := fun w => HP (b.drop a) w
    by_cases hpre : Lib.hasPrefix (b.drop a) [13, 10] = true
    · obtain ⟨t, ht⟩ := (crlf_prefix _).1 hpre
      have hlen : a + 2 ≤ b.length := by
        have := congrArg List.length ht
        rw [List.length_drop, List.length_cons, List.length_cons] at this; omega
      have HN : Hid (ahead b = j + 1 + ahead (b.drop (a + 2))) := Lib.hid (by
        rw [HAH.out, ← List.drop_drop, ht, ahead_cons2]
        show _ = _ + ahead t
        omega)
      rw [hpre] at HPP
      have E2 := (EX (b.drop a) 2).out
      rw [List.drop_drop, hsz] at E2
      have hs2 : (bs (b.drop (a + 2))).size = b.length - (a + 2) := by rw [bs_size, List.length_drop]
      have HS2 := Lib.hid hs2
      clear hpre ht hah ha hs2
      generalize hx : bs (b.drop a) = x at *
      clear hx
      go_wp2_with fail
      refine (HPP _).out.mono ?_
      rintro e w1 ⟨rfl, hw⟩
      rw [hw]
      go_wp2_with fail
      try rw [E2]
      go_round
      case rel => exact ⟨a + 2, j + 1, by have := HA.out; omega, hlen, rfl, HN.out⟩
      case measure =>
        simp only
        rw [HS2.out]; omega
    · have h0 : ahead (b.drop a) = 0 := fresh_iff.2 (fun t ht => hpre ((crlf_prefix _).2 ⟨t, ht⟩))
      rw [Bool.eq_false_iff.2 hpre] at HPP
      have haa : a = 2 * ahead b := by have := HA.out; have := HAH.out; omega
      have BL2 := BL.out
      rw [← haa] at BL2
      have B2 := Lib.hid BL2
      clear hpre hah ha hsz h0 BL2 haa
      go_wp2_with fail
      refine (HPP _).out.mono ?_
      rintro e w1 ⟨rfl, hw⟩
      rw [hw]
      go_wp2
      · go_ret
        refine ⟨?_, rfl⟩
        rw [B2.out]
        show Ending.returned (Value.bool (!(b.drop a).isEmpty && !(b.drop a == [13]))) = _
        generalize b.drop a = y
        cases y with
        | nil => rfl
        | cons c y =>
          have h1 : (c == 13) = decide (c = 13) := by rw [Bool.eq_iff_iff, beq_iff_eq, decide_eq_true_eq]
          cases y <;> simp [h1]
      · rename_i hge
        go_ret
        refine ⟨?_, rfl⟩
        rw [B2.out, List.drop_of_length_le (by omega)]
        rfl
end Go.Proofs.YtgmjkkiahanekaaGreatDoor

/- The contract of the laws' trimmed (layer 11). -/
set_option linter.unusedVariables false
set_option linter.unusedSimpArgs false
namespace Go.Proofs.YtgmjkkiahanekaaGreatDoor
open Go.RowKit Lex

def trimL (b : List UInt8) : List UInt8 := if b.drop (2 * ahead b) = [13] then [] else b.drop (2 * ahead b)
theorem begun_trim (b : List UInt8) : begunL b = decide (trimL b ≠ []) := by
  unfold begunL trimL
  by_cases h : b.drop (2 * ahead b) = [13]
  · rw [if_pos h, h]; rfl
  · rw [if_neg h, decide_eq_true h, Bool.and_true]
theorem trim_at {b : List UInt8} {a j : Nat} {R : List UInt8} (hR : b.drop a = R) (ha : a = 2 * j) (hah : ahead b = j + ahead R) (h0 : ahead R = 0) : trimL b = if R = [13] then [] else R := by
  unfold trimL
  rw [show 2 * ahead b = a by omega, hR]
set_option maxRecDepth 100000 in
set_option maxHeartbeats 4000000 in
theorem trimmed_c (b : List UInt8) (w : World) (hb : b.length ≤ 4294967296) : Calls Tryz.prog 35 #[.string (bs b)] w fun e w' => e = .returned (.string (bs (trimL b))) ∧ w = w' := by
  go_enter Tryz.func35, Tryz.ntmps35
  go_wp2_with fail
  go_loop [0] (fun s => ∃ a j : Nat, a = 2 * j ∧ a ≤ b.length ∧ s = .string (bs (b.drop a)) ∧ ahead b = j + ahead (b.drop a)) (fun s => match s with | .string x => x.size | _ => 0)
  case atStart => exact ⟨0, 0, rfl, Nat.zero_le _, rfl, by simp⟩
  case round =>
    obtain ⟨a, j, ha, hal, rfl, hah⟩ := hrel
    obtain ⟨R, hR⟩ : ∃ R, b.drop a = R := ⟨_, rfl⟩
    rw [hR] at hah ⊢
    have hRl : R.length = b.length - a := by rw [← hR, List.length_drop]
    have HAH := Lib.hid hah
    have HA := Lib.hid ha
    have HR := Lib.hid hR
    have HRL := Lib.hid hRl
    clear hah ha hR hRl
    have hsz : (bs R).size = R.length := bs_size R
    cases R with
    | nil =>
      have h0 := trim_at HR.out HA.out HAH.out rfl
      have H0 := Lib.hid h0
      clear h0 hsz
      go_wp2_with fail
      go_ret
      exact ⟨by rw [H0.out] <;> rfl, rfl⟩
    | cons c t =>
      cases t with
      | nil =>
        have h0 := trim_at HR.out HA.out HAH.out (fresh_iff.2 (fun t ht => by injection ht with _ h; cases h))
        have H0 := Lib.hid h0
        clear h0
        by_cases hc : c = 13
        · subst hc
          go_wp2_with fail
          go_ret
          exact ⟨by rw [H0.out] <;> rfl, rfl⟩
        · have hcb : (c == 13) = false := by rw [beq_eq_false_iff_ne]; exact hc
          rw [if_neg (fun h => hc (by injection h))] at H0
          go_wp2_with fail
          go_ret
          exact ⟨by rw [H0.out] <;> rfl, rfl⟩
      | cons d t =>
        by_cases hcd : c = 13 ∧ d = 10
        · obtain ⟨rfl, rfl⟩ := hcd
          have hx : (bs (13 :: 10 :: t)).extract 2 (t.length + 1 + 1) = bs t := by
            have h := bs_ext (13 :: 10 :: t) 2
            rw [bs_size] at h
            exact h
          have hd : b.drop (a + 2) = t := by rw [← List.drop_drop, HR.out]; rfl
          have HX := Lib.hid hx
          have HD := Lib.hid hd
          have HN : Hid (ahead b = j + 1 + ahead t) := Lib.hid (by have := HAH.out; rw [ahead_cons2] at this; omega)
          have HL : Hid (a + 2 ≤ b.length) := Lib.hid (by have := HRL.out; simp only [List.length_cons] at this; omega)
          clear hx hd
          go_wp2_with fail
          go_round
          case rel => exact ⟨a + 2, j + 1, by have := HA.out; omega, HL.out, by rw [HX.out, HD.out], by rw [HD.out]; exact HN.out⟩
          case measure =>
            rw [HX.out]
            simp only [bs_size, List.length_cons]
            omega
        · have h0 := trim_at HR.out HA.out HAH.out (fresh_iff.2 (fun t2 ht => hcd (by injection ht with h1 h2; injection h2 with h2 _; exact ⟨h1, h2⟩)))
          rw [if_neg (fun h => by injection h with _ h; cases h)] at h0
          have H0 := Lib.hid h0
          have HCD := Lib.hid hcd
          clear h0 hcd
          by_cases hc : c = 13
          · have hd : d ≠ 10 := fun h => HCD.out ⟨hc, h⟩
            subst hc
            have e1 : (((bs (13 :: d :: t))[1]'(by rw [bs_size]; simp)).toNat == 10) = false := by
              have : (bs (13 :: d :: t))[1]'(by rw [bs_size]; simp) = d := rfl
              rw [this, beq_eq_false_iff_ne]
              intro h
              exact hd (UInt8.toNat_inj.1 h)
            have HE := Lib.hid hd
            clear hd
            go_wp2_with fail
            all_goals first
              | (go_ret
                 exact ⟨by rw [H0.out] <;> rfl, rfl⟩)
              | (exfalso
                 have hh : ((d.toNat : Nat) : Int) = 10 := by assumption
                 exact HE.out (UInt8.toNat_inj.1 (by show d.toNat = 10; omega)))
          · have HE := Lib.hid hc
            clear hc
            go_wp2_with fail
            all_goals first
              | (go_ret
                 exact ⟨by rw [H0.out] <;> rfl, rfl⟩)
              | (exfalso
                 have hh : ((c.toNat : Nat) : Int) = 13 := by assumption
                 exact HE.out (UInt8.toNat_inj.1 (by show c.toNat = 13; omega)))
end Go.Proofs.YtgmjkkiahanekaaGreatDoor

