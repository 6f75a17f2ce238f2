/- The texts LexC, LexD in one. -/
import Derived.Test.YtgmjkkiahanekaaGreatDoorM0
import Derived.Laws.BitsAllLaws
import Derived.Shelf.Strings.SlTrimAscii
import Derived.ShutString
/- The contracts of lex.Decimal, lex.Hex and the document's number, Decimal and Hex: each reads what the plain 'number' reads, for every text and every bound of digits; the world is as it was. -/
set_option linter.unusedVariables false
set_option linter.unusedSimpArgs false
namespace Go.Proofs.YtgmjkkiahanekaaGreatDoor
open Go.RowKit Lex

theorem pow_le17 (base : Int) (k : Nat) (h : (base = 10 ∧ k ≤ 17) ∨ (base = 16 ∧ k ≤ 14)) : base ^ k ≤ 100000000000000000 := by
  rcases h with ⟨rfl, h⟩ | ⟨rfl, h⟩
  · have e : (10 : Int) ^ k = ((10 ^ k : Nat) : Int) := by simp
    have := Nat.pow_le_pow_right (n := 10) (by omega) h
    rw [e]; exact Int.le_trans (Int.ofNat_le.2 this) (by decide)
  · have e : (16 : Int) ^ k = ((16 ^ k : Nat) : Int) := by simp
    have := Nat.pow_le_pow_right (n := 16) (by omega) h
    rw [e]; exact Int.le_trans (Int.ofNat_le.2 this) (by decide)

/-- What is known of a number that has been read so far. -/
structure Num (base : Int) (s : ByteArray) (k : Nat) (n : Int) : Prop where
  is : n = num base (s.data.toList.take k)
  all : ((s.data.toList.take k).all fun c => decide (worth c < base)) = true
theorem Num.zero (base : Int) (s : ByteArray) : Num base s 0 0 := ⟨by simp [num], by simp⟩
theorem Num.bound {base : Int} {s : ByteArray} {k : Nat} {n : Int} (h : Num base s k n) (hk : (base = 10 ∧ k ≤ 17) ∨ (base = 16 ∧ k ≤ 14)) : 0 ≤ n ∧ n < 100000000000000000 := by
  have h1 := num_bound base (by omega) _ h.all
  rw [← h.is] at h1
  have h2 : base ^ (s.data.toList.take k).length ≤ 100000000000000000 := pow_le17 base _ (by have := List.length_take_le k s.data.toList; omega)
  omega
theorem Num.snoc {base : Int} {s : ByteArray} {k : Nat} {n : Int} (h : Num base s k n) (hk : k < s.size) (hw : worth s[k] < base) : Num base s (k + 1) (n * base + worth s[k]) := by
  refine ⟨?_, ?_⟩
  · rw [take_snoc s k hk, num_snoc, h.is]
  · exact all_take_snoc _ s k hk h.all (by simpa using hw)
theorem Num.whole {base : Int} {s : ByteArray} {k : Nat} {n digits : Int} (h : Num base s k n) (hk : ¬ k < s.size) (h0 : s.size ≠ 0) (hd : (s.size : Int) ≤ digits) : number base s.data.toList digits = (n, true) := by
  have h1 := h.is
  have h2 := h.all
  rw [take_all s k hk] at h1 h2
  unfold number
  rw [if_neg (by rw [size_list, h2]; intro hh; rcases hh with hh | hh | hh; · exact h0 (by rw [← size_list, hh]; rfl)
                 · omega
                 · cases hh), h1]
theorem number_bad {base : Int} {s : ByteArray} {k : Nat} {digits : Int} (hk : k < s.size) (hw : ¬ worth s[k] < base) : number base s.data.toList digits = (0, false) := by
  unfold number
  rw [if_pos (.inr (.inr (all_of_take _ s k hk (by simpa using hw))))]
theorem number_empty {base : Int} {s : ByteArray} {digits : Int} (h : s.size = 0) : number base s.data.toList digits = (0, false) := by
  unfold number
  rw [if_pos (.inl (List.eq_nil_of_length_eq_zero (by rw [size_list]; exact h)))]
theorem number_long {base : Int} {s : ByteArray} {digits : Int} (h : digits < s.size) : number base s.data.toList digits = (0, false) := by
  unfold number
  rw [if_pos (.inr (.inl (by rw [size_list]; exact h)))]

theorem ret_num {a : Int × Bool} {n : Int} {b : Bool} (h : a = (n, b)) : Ending.returned (.tuple #[.int .i64 n, .bool b]) = .returned (.tuple #[.int .i64 a.1, .bool a.2]) := by rw [h]

set_option maxRecDepth 100000 in
set_option maxHeartbeats 2000000 in
theorem rnumber_c (base : Int) (s : ByteArray) (digits : Int) (w : World) (hb : (base = 10 ∧ digits ≤ 18) ∨ (base = 16 ∧ digits ≤ 15)) :
    Calls Tryz.prog 106 #[.string s, .int .i64 digits, .int .i64 base] w fun e w' => e = .returned (.tuple #[.int .i64 (number base s.data.toList digits).1, .bool (number base s.data.toList digits).2]) ∧ w = w' := by
  have hd18 : digits ≤ 18 := by omega
  by_cases h0 : s.size = 0
  · have HB := Lib.hid hb
    have H0 := Lib.hid h0
    clear hb
    go_enter Tryz.func106, Tryz.ntmps106
    go_wp2
    go_ret2
    exact ⟨ret_num (number_empty H0.out), rfl⟩
  by_cases hl : digits < s.size
  · have HB := Lib.hid hb
    clear hb
    go_enter Tryz.func106, Tryz.ntmps106
    go_wp2
    go_ret2
    exact ⟨ret_num (number_long hl), rfl⟩
  have HB := Lib.hid hb
  have hb2 : base ≤ 16 := by omega
  have hb1 : 10 ≤ base := by omega
  have hs : s.size ≤ 18 := by omega
  clear hb
  go_enter Tryz.func106, Tryz.ntmps106
  go_wp2
  go_loop [8, 9] (fun n i => ∃ (k : Nat) (m : Int), k ≤ s.size ∧ i = .int .i64 k ∧ n = .int .i64 m ∧ Num base s k m) (fun _ i => s.size - (intOf i).toNat)
  case atStart => exact ⟨0, 0, Nat.zero_le _, rfl, rfl, Num.zero _ _⟩
  case round =>
    obtain ⟨k, m, hk, rfl, rfl, hN⟩ := hrel
    have HN := Lib.hid hN
    clear hN
    by_cases hlt : k < s.size
    · obtain ⟨m0, m1⟩ := HN.out.bound (by have := HB.out; omega)
      have w0 := worth_0 s[k]
      have HS := Lib.hid (HN.out.snoc (k := k) hlt)
      have HF := Lib.hid (number_bad (base := base) (digits := digits) hlt)
      obtain ⟨w0, w1⟩ := w0
      have hwd : (48 ≤ (s[k].toNat : Int) ∧ (s[k].toNat : Int) ≤ 57 ∧ worth s[k] = s[k].toNat - 48) ∨ (65 ≤ (s[k].toNat : Int) ∧ (s[k].toNat : Int) ≤ 70 ∧ worth s[k] = s[k].toNat - 55) ∨ (97 ≤ (s[k].toNat : Int) ∧ (s[k].toNat : Int) ≤ 102 ∧ worth s[k] = s[k].toNat - 87) ∨
          (¬ (48 ≤ (s[k].toNat : Int) ∧ (s[k].toNat : Int) ≤ 57) ∧ ¬ (65 ≤ (s[k].toNat : Int) ∧ (s[k].toNat : Int) ≤ 70) ∧ ¬ (97 ≤ (s[k].toNat : Int) ∧ (s[k].toNat : Int) ≤ 102) ∧ worth s[k] = 99) := by
        unfold worth
        split
        · left; omega
        · split
          · right; left; omega
          · split
            · right; right; left; omega
            · right; right; right; omega
      have c0 : (s[k].toNat : Int) ≤ 255 := by have := s[k].toNat_lt; omega
      generalize hc : (s[k].toNat : Int) = c at *
      generalize worth s[k] = d at *
      rcases hwd with ⟨a, b, e⟩ | ⟨a, b, e⟩ | ⟨a, b, e⟩ | ⟨a1, a2, a3, e⟩
      · subst e
        have HC := Lib.hid hc
        by_cases hdb : c - 48 < base
        · have hp0 : 0 ≤ base * m := Int.mul_nonneg (by omega) m0
          have hp1 : base * m ≤ 16 * 100000000000000000 := Int.mul_le_mul hb2 (by omega) m0 (by omega)
          have HK := Lib.hid (HS.out hdb)
          clear HS HF
          go_wp2
          go_round
          case rel => exact ⟨k + 1, _, by omega, by go_num, rfl, by rw [Int.mul_comm base m]; exact HK.out⟩
          case measure => simp [intOf]; omega
        · have HK := Lib.hid (HF.out hdb)
          clear HS HF
          go_wp2
          all_goals go_ret2
          all_goals exact ⟨ret_num HK.out, rfl⟩
      · subst e
        by_cases hdb : c - 55 < base
        · have hp0 : 0 ≤ base * m := Int.mul_nonneg (by omega) m0
          have hp1 : base * m ≤ 16 * 100000000000000000 := Int.mul_le_mul hb2 (by omega) m0 (by omega)
          have HK := Lib.hid (HS.out hdb)
          clear HS HF
          go_wp2
          go_round
          case rel => exact ⟨k + 1, _, by omega, by go_num, rfl, by rw [Int.mul_comm base m]; exact HK.out⟩
          case measure => simp [intOf]; omega
        · have HK := Lib.hid (HF.out hdb)
          clear HS HF
          go_wp2
          all_goals go_ret2
          all_goals exact ⟨ret_num HK.out, rfl⟩
      · subst e
        by_cases hdb : c - 87 < base
        · have hp0 : 0 ≤ base * m := Int.mul_nonneg (by omega) m0
          have hp1 : base * m ≤ 16 * 100000000000000000 := Int.mul_le_mul hb2 (by omega) m0 (by omega)
          have HK := Lib.hid (HS.out hdb)
          clear HS HF
          go_wp2
          go_round
          case rel => exact ⟨k + 1, _, by omega, by go_num, rfl, by rw [Int.mul_comm base m]; exact HK.out⟩
          case measure => simp [intOf]; omega
        · have HK := Lib.hid (HF.out hdb)
          clear HS HF
          go_wp2
          all_goals go_ret2
          all_goals exact ⟨ret_num HK.out, rfl⟩
      · subst e
        have HK := Lib.hid (HF.out (by omega))
        have g1 : (decide (48 ≤ c) && decide (c ≤ 57)) = false := by simpa using a1
        have g2 : (decide (65 ≤ c) && decide (c ≤ 70)) = false := by simpa using a2
        have g3 : (decide (97 ≤ c) && decide (c ≤ 102)) = false := by simpa using a3
        have A := Lib.hid (And.intro a1 (And.intro a2 a3))
        clear HS HF a1 a2 a3
        go_wp2
        all_goals first | (exfalso; have h := A.out; omega) | skip
        all_goals go_ret2
        all_goals exact ⟨ret_num HK.out, rfl⟩
    · go_wp2
      go_ret2
      exact ⟨ret_num (HN.out.whole hlt h0 (by omega)), rfl⟩

def decimal (l : List UInt8) (digits : Int) : Int × Bool := number 10 l (if 18 < digits then 18 else digits)
def hex (l : List UInt8) (digits : Int) : Int × Bool := number 16 l (if 15 < digits then 15 else digits)

theorem rdecimal_c (s : ByteArray) (digits : Int) (w : World) :
    Calls Tryz.prog 78 #[.string s, .int .i64 digits] w fun e w' => e = .returned (.tuple #[.int .i64 (decimal s.data.toList digits).1, .bool (decimal s.data.toList digits).2]) ∧ w = w' := by
  unfold decimal
  by_cases h : 18 < digits
  · rw [if_pos h]
    have K := Lib.hid (rnumber_c 10 s 18 w (.inl ⟨rfl, by omega⟩))
    go_enter Tryz.func78, Tryz.ntmps78
    go_wp2_with (go_at_call 106; refine K.out.mono ?_; rintro e w' ⟨rfl, rfl⟩)
    go_ret2
    exact ⟨rfl, rfl⟩
  · rw [if_neg h]
    have K := Lib.hid (rnumber_c 10 s digits w (.inl ⟨rfl, by omega⟩))
    go_enter Tryz.func78, Tryz.ntmps78
    go_wp2_with (go_at_call 106; refine K.out.mono ?_; rintro e w' ⟨rfl, rfl⟩)
    go_ret2
    exact ⟨rfl, rfl⟩

theorem rhex_c (s : ByteArray) (digits : Int) (w : World) :
    Calls Tryz.prog 152 #[.string s, .int .i64 digits] w fun e w' => e = .returned (.tuple #[.int .i64 (hex s.data.toList digits).1, .bool (hex s.data.toList digits).2]) ∧ w = w' := by
  unfold hex
  by_cases h : 15 < digits
  · rw [if_pos h]
    have K := Lib.hid (rnumber_c 16 s 15 w (.inr ⟨rfl, by omega⟩))
    go_enter Tryz.func152, Tryz.ntmps152
    go_wp2_with (go_at_call 106; refine K.out.mono ?_; rintro e w' ⟨rfl, rfl⟩)
    go_ret2
    exact ⟨rfl, rfl⟩
  · rw [if_neg h]
    have K := Lib.hid (rnumber_c 16 s digits w (.inr ⟨rfl, by omega⟩))
    go_enter Tryz.func152, Tryz.ntmps152
    go_wp2_with (go_at_call 106; refine K.out.mono ?_; rintro e w' ⟨rfl, rfl⟩)
    go_ret2
    exact ⟨rfl, rfl⟩

theorem empty_toList {s : ByteArray} (h : s.size = 0) : s.toList = [] := by
  rw [ByteArray.toList_eq]; exact List.eq_nil_of_length_eq_zero (by rw [size_list]; exact h)
theorem nonempty_toList {s : ByteArray} (h : s.size ≠ 0) : s.toList.isEmpty = false := by
  rw [ByteArray.toList_eq, isEmpty_size]; simpa using h

theorem worth_digit {c : UInt8} (h : digitI c.toNat = true) : worth c = c.toNat - 48 ∧ 48 ≤ (c.toNat : Int) ∧ (c.toNat : Int) ≤ 57 := by
  simp [digitI] at h
  unfold worth
  rw [if_pos (by omega)]
  omega
theorem worth_nodigit {c : UInt8} (h : digitI c.toNat = false) : ¬ worth c < 10 := by
  simp [digitI] at h
  unfold worth
  rw [if_neg (by omega)]
  split
  · omega
  · split <;> omega

set_option maxHeartbeats 1000000 in
theorem decimal_c (s : ByteArray) (digits : Int) (w : World) :
    Calls Tryz.prog 128 #[.string s, .int .i64 digits] w fun e w' => e = .returned (.tuple #[.int .i64 (decimal s.data.toList digits).1, .bool (decimal s.data.toList digits).2]) ∧ w = w' := by
  unfold decimal
  by_cases h0 : s.size = 0
  · have he := empty_toList h0
    have H0 := Lib.hid h0
    clear h0
    go_enter Tryz.func128, Tryz.ntmps128
    go_wp2
    all_goals go_ret2
    all_goals exact ⟨ret_num (number_empty H0.out), rfl⟩
  have he := nonempty_toList h0
  obtain ⟨D, hD, hD18⟩ : ∃ D, (if 18 < digits then 18 else digits) = D ∧ D ≤ 18 := ⟨_, rfl, by split <;> omega⟩
  rw [hD]
  have key : ∀ (_ : (18 < digits ∧ D = 18) ∨ (¬ 18 < digits ∧ D = digits)), Calls Tryz.prog 128 #[.string s, .int .i64 digits] w fun e w' => e = .returned (.tuple #[.int .i64 (number 10 s.data.toList D).1, .bool (number 10 s.data.toList D).2]) ∧ w = w' := by
    intro hcase
    have HC := Lib.hid hcase
    clear hD
    by_cases hl : D < s.size
    · rcases hcase with ⟨h18, hd⟩ | ⟨h18, hd⟩ <;>
      · subst hd
        go_enter Tryz.func128, Tryz.ntmps128
        go_wp2
        all_goals go_ret2
        all_goals exact ⟨ret_num (number_long hl), rfl⟩
    · have hs : s.size ≤ 18 := by omega
      rcases hcase with ⟨h18, hd⟩ | ⟨h18, hd⟩ <;>
      · subst hd
        go_enter Tryz.func128, Tryz.ntmps128
        go_wp2
        go_loop [6, 19] (fun n i => ∃ (k : Nat) (m : Int), k ≤ s.size ∧ i = .int .i64 k ∧ n = .int .i64 m ∧ Num 10 s k m) (fun _ i => s.size - (intOf i).toNat)
        case atStart => exact ⟨0, 0, Nat.zero_le _, rfl, rfl, Num.zero _ _⟩
        case round =>
          obtain ⟨k, m, hk, rfl, rfl, hN⟩ := hrel
          have HN := Lib.hid hN
          clear hN
          by_cases hlt : k < s.size
          · obtain ⟨m0, m1⟩ := HN.out.bound (.inl ⟨rfl, by omega⟩)
            cases hd : digitI s[k].toNat with
            | true =>
              obtain ⟨e1, e2, e3⟩ := worth_digit hd
              have HS := HN.out.snoc (k := k) hlt (by omega)
              rw [e1] at HS
              have HK := Lib.hid HS
              have HE := Lib.hid e1
              clear HS e1
              go_wp2_with (go_at_call 154; refine (digit_c _ _).mono ?_; rintro e w' ⟨rfl, rfl⟩)
              go_round
              case rel => exact ⟨k + 1, _, by omega, by go_num, rfl, HK.out⟩
              case measure => simp [intOf]; omega
            | false =>
              have HK := fun D => Lib.hid (number_bad (base := 10) (digits := D) hlt (worth_nodigit hd))
              go_wp2_with (go_at_call 154; refine (digit_c _ _).mono ?_; rintro e w' ⟨rfl, rfl⟩)
              go_ret2
              exact ⟨ret_num (HK _).out, rfl⟩
          · go_wp2
            go_ret2
            exact ⟨ret_num (HN.out.whole hlt h0 (by omega)), rfl⟩
  exact key (by rw [← hD]; split <;> rename_i h; · exact .inl ⟨h, rfl⟩
                · exact .inr ⟨h, rfl⟩)

theorem or32_table : ∀ n : Nat, n < 256 → (n < 65 → ¬ (97 ≤ n ||| 32 ∧ n ||| 32 ≤ 102)) ∧ (65 ≤ n → n ≤ 70 → n ||| 32 = n + 32) ∧ (70 < n → n < 97 → ¬ (97 ≤ n ||| 32 ∧ n ||| 32 ≤ 102)) ∧ (97 ≤ n → n ≤ 102 → n ||| 32 = n) ∧ (102 < n → ¬ (97 ≤ n ||| 32 ∧ n ||| 32 ≤ 102)) := by
  decide +kernel
theorem or32 (c : UInt8) : bits .or .u8 (c.toNat : Int) 32 = ((c.toNat ||| 32 : Nat) : Int) := u8_or_nat c.toNat 32 c.toNat_lt (by omega)
theorem or16 (m d : Int) (h0 : 0 ≤ m) (h1 : m < 576460752303423488) (d0 : 0 ≤ d) (d1 : d < 16) : bits .or .i64 (m * 16) d = m * 16 + d :=
  bits_join .i64 63 (by decide) (fun n a b => by rw [IntKind.wrap_i64]; omega) 4 (m * 16) d (by omega) (by omega) (by omega) d0 (by omega) (by omega)

theorem hexcase (c : UInt8) (hd : digitI c.toNat = false) :
    (65 ≤ (c.toNat : Int) ∧ (c.toNat : Int) ≤ 70 ∧ bits .or .u8 (c.toNat : Int) 32 = c.toNat + 32 ∧ worth c = c.toNat - 55) ∨
    (97 ≤ (c.toNat : Int) ∧ (c.toNat : Int) ≤ 102 ∧ bits .or .u8 (c.toNat : Int) 32 = c.toNat ∧ worth c = c.toNat - 87) ∨
    (∃ q : Int, bits .or .u8 (c.toNat : Int) 32 = q ∧ (q < 97 ∨ 102 < q) ∧ worth c = 99) := by
  simp [digitI] at hd
  have hw : ¬ (48 ≤ (c.toNat : Int) ∧ (c.toNat : Int) ≤ 57) := by omega
  obtain ⟨t1, t2, t3, t4, t5⟩ := or32_table c.toNat c.toNat_lt
  have ho := or32 c
  by_cases h1 : 65 ≤ c.toNat ∧ c.toNat ≤ 70
  · left
    refine ⟨by omega, by omega, by rw [ho, t2 h1.1 h1.2]; omega, ?_⟩
    unfold worth
    rw [if_neg hw, if_pos (by omega)]
  · by_cases h2 : 97 ≤ c.toNat ∧ c.toNat ≤ 102
    · right; left
      refine ⟨by omega, by omega, by rw [ho, t4 h2.1 h2.2], ?_⟩
      unfold worth
      rw [if_neg hw, if_neg (by omega), if_pos (by omega)]
    · right; right
      refine ⟨_, ho, ?_, ?_⟩
      · rcases Nat.lt_or_ge c.toNat 65 with h | h
        · have := t1 h; omega
        · rcases Nat.lt_or_ge c.toNat 97 with h' | h'
          · have := t3 (by omega) h'; omega
          · have := t5 (by omega); omega
      · unfold worth
        rw [if_neg hw, if_neg (by omega), if_neg (by omega)]

set_option maxHeartbeats 2000000 in
theorem hex_c (s : ByteArray) (digits : Int) (w : World) :
    Calls Tryz.prog 185 #[.string s, .int .i64 digits] w fun e w' => e = .returned (.tuple #[.int .i64 (hex s.data.toList digits).1, .bool (hex s.data.toList digits).2]) ∧ w = w' := by
  unfold hex
  by_cases h0 : s.size = 0
  · have he := empty_toList h0
    have H0 := Lib.hid h0
    clear h0
    go_enter Tryz.func185, Tryz.ntmps185
    go_wp2
    all_goals go_ret2
    all_goals exact ⟨ret_num (number_empty H0.out), rfl⟩
  have he := nonempty_toList h0
  obtain ⟨D, hD, hD15⟩ : ∃ D, (if 15 < digits then 15 else digits) = D ∧ D ≤ 15 := ⟨_, rfl, by split <;> omega⟩
  rw [hD]
  have key : ∀ (_ : (15 < digits ∧ D = 15) ∨ (¬ 15 < digits ∧ D = digits)), Calls Tryz.prog 185 #[.string s, .int .i64 digits] w fun e w' => e = .returned (.tuple #[.int .i64 (number 16 s.data.toList D).1, .bool (number 16 s.data.toList D).2]) ∧ w = w' := by
    intro hcase
    have HC := Lib.hid hcase
    clear hD
    by_cases hl : D < s.size
    · rcases hcase with ⟨h18, hd⟩ | ⟨h18, hd⟩ <;>
      · subst hd
        go_enter Tryz.func185, Tryz.ntmps185
        go_wp2
        all_goals go_ret2
        all_goals exact ⟨ret_num (number_long hl), rfl⟩
    · have hs : s.size ≤ 15 := by omega
      rcases hcase with ⟨h18, hd⟩ | ⟨h18, hd⟩ <;>
      · subst hd
        go_enter Tryz.func185, Tryz.ntmps185
        go_wp2
        go_loop [6, 20] (fun n i => ∃ (k : Nat) (m : Int), k ≤ s.size ∧ i = .int .i64 k ∧ n = .int .i64 m ∧ Num 16 s k m) (fun _ i => s.size - (intOf i).toNat)
        case atStart => exact ⟨0, 0, Nat.zero_le _, rfl, rfl, Num.zero _ _⟩
        case round =>
          obtain ⟨k, m, hk, rfl, rfl, hN⟩ := hrel
          have HN := Lib.hid hN
          clear hN
          by_cases hlt : k < s.size
          · obtain ⟨m0, m1⟩ := HN.out.bound (.inr ⟨rfl, by omega⟩)
            cases hd : digitI s[k].toNat with
            | true =>
              obtain ⟨e1, e2, e3⟩ := worth_digit hd
              have HS := HN.out.snoc (k := k) hlt (by omega)
              rw [e1] at HS
              have HK := Lib.hid HS
              have HE := Lib.hid e1
              clear HS e1
              go_wp2_with (go_at_call 154; refine (digit_c _ _).mono ?_; rintro e w' ⟨rfl, rfl⟩)
              go_round
              case rel => exact ⟨k + 1, _, by omega, by go_num, rfl, by rw [or16 m _ m0 (by omega) (by omega) (by omega)]; exact HK.out⟩
              case measure => simp [intOf]; omega
            | false =>
              rcases hexcase s[k] hd with ⟨c0, c1, ho, e⟩ | ⟨c0, c1, ho, e⟩ | ⟨q, ho, hq, e⟩
              · have HS := HN.out.snoc (k := k) hlt (by omega)
                rw [e] at HS
                have HK := Lib.hid HS
                clear HS e
                go_wp2_with (go_at_call 154; refine (digit_c _ _).mono ?_; rintro e w' ⟨rfl, rfl⟩)
                go_round
                case rel => exact ⟨k + 1, _, by omega, by go_num, rfl, by rw [or16 m _ m0 (by omega) (by omega) (by omega), show (s[k].toNat : Int) + 32 - 97 + 10 = s[k].toNat - 55 from by omega]; exact HK.out⟩
                case measure => simp [intOf]; omega
              · have HS := HN.out.snoc (k := k) hlt (by omega)
                rw [e] at HS
                have HK := Lib.hid HS
                clear HS e
                go_wp2_with (go_at_call 154; refine (digit_c _ _).mono ?_; rintro e w' ⟨rfl, rfl⟩)
                go_round
                case rel => exact ⟨k + 1, _, by omega, by go_num, rfl, by rw [or16 m _ m0 (by omega) (by omega) (by omega), show (s[k].toNat : Int) - 97 + 10 = s[k].toNat - 87 from by omega]; exact HK.out⟩
                case measure => simp [intOf]; omega
              · have HK := fun D => Lib.hid (number_bad (base := 16) (digits := D) hlt (by omega))
                clear e
                rcases hq with hq | hq
                · go_wp2_with (go_at_call 154; refine (digit_c _ _).mono ?_; rintro e w' ⟨rfl, rfl⟩)
                  go_ret2
                  exact ⟨ret_num (HK _).out, rfl⟩
                · go_wp2_with (go_at_call 154; refine (digit_c _ _).mono ?_; rintro e w' ⟨rfl, rfl⟩)
                  go_ret2
                  exact ⟨ret_num (HK _).out, rfl⟩
          · go_wp2
            go_ret2
            exact ⟨ret_num (HN.out.whole hlt h0 (by omega)), rfl⟩
  exact key (by rw [← hD]; split <;> rename_i h; · exact .inl ⟨h, rfl⟩
                · exact .inr ⟨h, rfl⟩)

end Go.Proofs.YtgmjkkiahanekaaGreatDoor

/- The contract of lex.Trim; the laws' anchor; the walks over LexNumbers and LexShifts, for every text. -/
set_option linter.unusedVariables false
set_option linter.unusedSimpArgs false
namespace Go.Proofs.YtgmjkkiahanekaaGreatDoor
open Go.RowKit Lex



theorem trim_c (s : ByteArray) (w : World) (hs : s.size ≤ 9223372036854775807) : Calls Tryz.prog 131 #[.string s] w fun e w' => e = .returned (.string (bs (trim s.data.toList))) ∧ Below w.heap.size w w' := by
  have K := Lib.hid (Go.Proofs.Any.strings_Trim_laid Tryz.lays160 (by kernel_rfl) s ⟨#[32, 9]⟩ w hs (by decide) (Go.Proofs.ascii_of_all (by decide)))
  go_enter Tryz.func131, Tryz.ntmps131
  go_wp2_with (go_at_call 156; refine K.out.mono ?_; rintro e w' ⟨rfl, hb⟩)
  go_ret
  exact ⟨rfl, hb⟩

/-! ### LexShifts -/
theorem decimal_snoc (l : List UInt8) (c : UInt8) (hd : digitI c.toNat = true) {n : Int} (h : decimal l 17 = (n, true)) : decimal (l ++ [c]) 18 = (n * 10 + (c.toNat - 48), true) := by
  unfold decimal number at *
  rw [if_neg (by omega : ¬ (18 : Int) < 17)] at h
  rw [if_neg (by omega : ¬ (18 : Int) < 18)]
  split at h
  · cases h
  · rename_i hc
    have hw := worth_digit hd
    rw [if_neg ?_]
    · injection h with h1 _
      rw [num_snoc, h1, hw.1]
    · intro hh
      rcases hh with hh | hh | hh
      · simp at hh
      · apply hc; right; left; simp at hh; omega
      · apply hc; right; right
        rw [List.all_append] at hh
        have : ([c].all fun c => decide (worth c < 10)) = true := by simp; omega
        rw [this, Bool.and_true] at hh
        exact hh
theorem hex_snoc (l : List UInt8) (c : UInt8) (hd : digitI c.toNat = true) {n : Int} (h : hex l 14 = (n, true)) : hex (l ++ [c]) 15 = (n * 16 + (c.toNat - 48), true) := by
  unfold hex number at *
  rw [if_neg (by omega : ¬ (15 : Int) < 14)] at h
  rw [if_neg (by omega : ¬ (15 : Int) < 15)]
  split at h
  · cases h
  · rename_i hc
    have hw := worth_digit hd
    rw [if_neg ?_]
    · injection h with h1 _
      rw [num_snoc, h1, hw.1]
    · intro hh
      rcases hh with hh | hh | hh
      · simp at hh
      · apply hc; right; left; simp at hh; omega
      · apply hc; right; right
        rw [List.all_append] at hh
        have : ([c].all fun c => decide (worth c < 16)) = true := by simp; omega
        rw [this, Bool.and_true] at hh
        exact hh
theorem decimal_hex {l : List UInt8} {n : Int} (h : decimal l 17 = (n, true)) (hl : l.length ≤ 14) : (hex l 14).2 = true := by
  unfold decimal hex number at *
  rw [if_neg (by omega : ¬ (18 : Int) < 17)] at h
  rw [if_neg (by omega : ¬ (15 : Int) < 14)]
  split at h
  · cases h
  · rename_i hc
    rw [if_neg ?_]
    intro hh
    rcases hh with hh | hh | hh
    · exact hc (.inl hh)
    · omega
    · apply hc; right; right
      rw [← Bool.not_eq_true] at hh ⊢
      intro ha
      apply hh
      rw [List.all_eq_true] at ha ⊢
      intro c hm
      have := ha c hm
      simp at this ⊢
      omega
theorem decimal_bound {l : List UInt8} {n : Int} (h : decimal l 17 = (n, true)) : 0 ≤ n ∧ n < 100000000000000000 := by
  unfold decimal number at h
  rw [if_neg (by omega : ¬ (18 : Int) < 17)] at h
  split at h
  · cases h
  · rename_i hc
    injection h with h1 _
    have ha : (l.all fun c => decide (worth c < 10)) = true := by rw [← Bool.not_eq_false]; exact fun hh => hc (.inr (.inr hh))
    have hl : l.length ≤ 17 := by have : ¬ (17 : Int) < l.length := fun hh => hc (.inr (.inl hh)); omega
    have h1' := num_bound 10 (by omega) l ha
    have := pow_le17 10 l.length (.inl ⟨rfl, hl⟩)
    omega
theorem hex_bound {l : List UInt8} {n : Int} (h : hex l 14 = (n, true)) : 0 ≤ n ∧ n < 100000000000000000 := by
  unfold hex number at h
  rw [if_neg (by omega : ¬ (15 : Int) < 14)] at h
  split at h
  · cases h
  · rename_i hc
    injection h with h1 _
    have ha : (l.all fun c => decide (worth c < 16)) = true := by rw [← Bool.not_eq_false]; exact fun hh => hc (.inr (.inr hh))
    have hl : l.length ≤ 14 := by have : ¬ (14 : Int) < l.length := fun hh => hc (.inr (.inl hh)); omega
    have h1' := num_bound 16 (by omega) l ha
    have := pow_le17 16 l.length (.inr ⟨rfl, hl⟩)
    omega

end Go.Proofs.YtgmjkkiahanekaaGreatDoor

