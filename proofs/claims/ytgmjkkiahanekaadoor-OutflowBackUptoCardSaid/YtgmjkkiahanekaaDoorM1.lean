/- The texts LexC, LexD, LexF, LexG, PathB, PathC, PathD, PathE, LexH in one. -/
import Derived.Test.YtgmjkkiahanekaaDoorM0
import Derived.Laws.BitsAllLaws
import Derived.Shelf.Strings.SlTrimAscii
import Derived.ShutString
import Derived.Lib.ConvBytes
import Derived.Laws.BytesArg
import Derived.Laws.OwnMore
import Derived.OwnWalk
import Derived.Laws.AppendOwn
import Derived.StillTailTactics
import Derived.Deep.RegionLaw
import Derived.Deep.AppendLies
import Derived.BigRegion
import Derived.IntWalk
import Derived.Deep.QuietTactic
import Derived.BigQuiet
/- The contracts of lex.Decimal, lex.Hex and the document's number, Decimal and Hex: each reads what the plain 'number' reads, for every text and every bound of digits; the world is as it was. -/
set_option linter.unusedVariables false
set_option linter.unusedSimpArgs false
namespace Go.Proofs.YtgmjkkiahanekaaDoor
open Go.RowKit Lex

theorem pow_le17 (base : Int) (k : Nat) (h : (base = 10 ∧ k ≤ 17) ∨ (base = 16 ∧ k ≤ 14)) : base ^ k ≤ 100000000000000000 := by
  rcases h with ⟨rfl, h⟩ | ⟨rfl, h⟩
  · have e : (10 : Int) ^ k = ((10 ^ k : Nat) : Int) := by simp
    have := Nat.pow_le_pow_right (n := 10) (by omega) h
    rw [e]; exact Int.le_trans (Int.ofNat_le.2 this) (by decide)
  · have e : (16 : Int) ^ k = ((16 ^ k : Nat) : Int) := by simp
    have := Nat.pow_le_pow_right (n := 16) (by omega) h
    rw [e]; exact Int.le_trans (Int.ofNat_le.2 this) (by decide)

/-- What is known of a number that has been read so far. -/
structure Num (base : Int) (s : ByteArray) (k : Nat) (n : Int) : Prop where
  is : n = num base (s.data.toList.take k)
  all : ((s.data.toList.take k).all fun c => decide (worth c < base)) = true
theorem Num.zero (base : Int) (s : ByteArray) : Num base s 0 0 := ⟨by simp [num], by simp⟩
theorem Num.bound {base : Int} {s : ByteArray} {k : Nat} {n : Int} (h : Num base s k n) (hk : (base = 10 ∧ k ≤ 17) ∨ (base = 16 ∧ k ≤ 14)) : 0 ≤ n ∧ n < 100000000000000000 := by
  have h1 := num_bound base (by omega) _ h.all
  rw [← h.is] at h1
  have h2 : base ^ (s.data.toList.take k).length ≤ 100000000000000000 := pow_le17 base _ (by have := List.length_take_le k s.data.toList; omega)
  omega
theorem Num.snoc {base : Int} {s : ByteArray} {k : Nat} {n : Int} (h : Num base s k n) (hk : k < s.size) (hw : worth s[k] < base) : Num base s (k + 1) (n * base + worth s[k]) := by
  refine ⟨?_, ?_⟩
  · rw [take_snoc s k hk, num_snoc, h.is]
  · exact all_take_snoc _ s k hk h.all (by simpa using hw)
theorem Num.whole {base : Int} {s : ByteArray} {k : Nat} {n digits : Int} (h : Num base s k n) (hk : ¬ k < s.size) (h0 : s.size ≠ 0) (hd : (s.size : Int) ≤ digits) : number base s.data.toList digits = (n, true) := by
  have h1 := h.is
  have h2 := h.all
  rw [take_all s k hk] at h1 h2
  unfold number
  rw [if_neg (by rw [size_list, h2]; intro hh; rcases hh with hh | hh | hh; · exact h0 (by rw [← size_list, hh]; rfl)
                 · omega
                 · cases hh), h1]
theorem number_bad {base : Int} {s : ByteArray} {k : Nat} {digits : Int} (hk : k < s.size) (hw : ¬ worth s[k] < base) : number base s.data.toList digits = (0, false) := by
  unfold number
  rw [if_pos (.inr (.inr (all_of_take _ s k hk (by simpa using hw))))]
theorem number_empty {base : Int} {s : ByteArray} {digits : Int} (h : s.size = 0) : number base s.data.toList digits = (0, false) := by
  unfold number
  rw [if_pos (.inl (List.eq_nil_of_length_eq_zero (by rw [size_list]; exact h)))]
theorem number_long {base : Int} {s : ByteArray} {digits : Int} (h : digits < s.size) : number base s.data.toList digits = (0, false) := by
  unfold number
  rw [if_pos (.inr (.inl (by rw [size_list]; exact h)))]

theorem ret_num {a : Int × Bool} {n : Int} {b : Bool} (h : a = (n, b)) : Ending.returned (.tuple #[.int .i64 n, .bool b]) = .returned (.tuple #[.int .i64 a.1, .bool a.2]) := by rw [h]

def decimal (l : List UInt8) (digits : Int) : Int × Bool := number 10 l (if 18 < digits then 18 else digits)
def hex (l : List UInt8) (digits : Int) : Int × Bool := number 16 l (if 15 < digits then 15 else digits)

theorem empty_toList {s : ByteArray} (h : s.size = 0) : s.toList = [] := by
  rw [ByteArray.toList_eq]; exact List.eq_nil_of_length_eq_zero (by rw [size_list]; exact h)
theorem nonempty_toList {s : ByteArray} (h : s.size ≠ 0) : s.toList.isEmpty = false := by
  rw [ByteArray.toList_eq, isEmpty_size]; simpa using h

theorem worth_digit {c : UInt8} (h : digitI c.toNat = true) : worth c = c.toNat - 48 ∧ 48 ≤ (c.toNat : Int) ∧ (c.toNat : Int) ≤ 57 := by
  simp [digitI] at h
  unfold worth
  rw [if_pos (by omega)]
  omega
theorem worth_nodigit {c : UInt8} (h : digitI c.toNat = false) : ¬ worth c < 10 := by
  simp [digitI] at h
  unfold worth
  rw [if_neg (by omega)]
  split
  · omega
  · split <;> omega

set_option maxHeartbeats 1000000 in
theorem decimal_c (s : ByteArray) (digits : Int) (w : World) :
    Calls Tryd.prog 41 #[.string s, .int .i64 digits] w fun e w' => e = .returned (.tuple #[.int .i64 (decimal s.data.toList digits).1, .bool (decimal s.data.toList digits).2]) ∧ w = w' := by
  unfold decimal
  by_cases h0 : s.size = 0
  · have he := empty_toList h0
    have H0 := Lib.hid h0
    clear h0
    go_enter Tryd.func41, Tryd.ntmps41
    go_wp2
    all_goals go_ret2
    all_goals exact ⟨ret_num (number_empty H0.out), rfl⟩
  have he := nonempty_toList h0
  obtain ⟨D, hD, hD18⟩ : ∃ D, (if 18 < digits then 18 else digits) = D ∧ D ≤ 18 := ⟨_, rfl, by split <;> omega⟩
  rw [hD]
  have key : ∀ (_ : (18 < digits ∧ D = 18) ∨ (¬ 18 < digits ∧ D = digits)), Calls Tryd.prog 41 #[.string s, .int .i64 digits] w fun e w' => e = .returned (.tuple #[.int .i64 (number 10 s.data.toList D).1, .bool (number 10 s.data.toList D).2]) ∧ w = w' := by
    intro hcase
    have HC := Lib.hid hcase
    clear hD
    by_cases hl : D < s.size
    · rcases hcase with ⟨h18, hd⟩ | ⟨h18, hd⟩ <;>
      · subst hd
        go_enter Tryd.func41, Tryd.ntmps41
        go_wp2
        all_goals go_ret2
        all_goals exact ⟨ret_num (number_long hl), rfl⟩
    · have hs : s.size ≤ 18 := by omega
      rcases hcase with ⟨h18, hd⟩ | ⟨h18, hd⟩ <;>
      · subst hd
        go_enter Tryd.func41, Tryd.ntmps41
        go_wp2
        go_loop [6, 19] (fun n i => ∃ (k : Nat) (m : Int), k ≤ s.size ∧ i = .int .i64 k ∧ n = .int .i64 m ∧ Num 10 s k m) (fun _ i => s.size - (intOf i).toNat)
        case atStart => exact ⟨0, 0, Nat.zero_le _, rfl, rfl, Num.zero _ _⟩
        case round =>
          obtain ⟨k, m, hk, rfl, rfl, hN⟩ := hrel
          have HN := Lib.hid hN
          clear hN
          by_cases hlt : k < s.size
          · obtain ⟨m0, m1⟩ := HN.out.bound (.inl ⟨rfl, by omega⟩)
            cases hd : digitI s[k].toNat with
            | true =>
              obtain ⟨e1, e2, e3⟩ := worth_digit hd
              have HS := HN.out.snoc (k := k) hlt (by omega)
              rw [e1] at HS
              have HK := Lib.hid HS
              have HE := Lib.hid e1
              clear HS e1
              go_wp2_with (go_at_call 57; refine (digit_c _ _).mono ?_; rintro e w' ⟨rfl, rfl⟩)
              go_round
              case rel => exact ⟨k + 1, _, by omega, by go_num, rfl, HK.out⟩
              case measure => simp [intOf]; omega
            | false =>
              have HK := fun D => Lib.hid (number_bad (base := 10) (digits := D) hlt (worth_nodigit hd))
              go_wp2_with (go_at_call 57; refine (digit_c _ _).mono ?_; rintro e w' ⟨rfl, rfl⟩)
              go_ret2
              exact ⟨ret_num (HK _).out, rfl⟩
          · go_wp2
            go_ret2
            exact ⟨ret_num (HN.out.whole hlt h0 (by omega)), rfl⟩
  exact key (by rw [← hD]; split <;> rename_i h; · exact .inl ⟨h, rfl⟩
                · exact .inr ⟨h, rfl⟩)

theorem or32_table : ∀ n : Nat, n < 256 → (n < 65 → ¬ (97 ≤ n ||| 32 ∧ n ||| 32 ≤ 102)) ∧ (65 ≤ n → n ≤ 70 → n ||| 32 = n + 32) ∧ (70 < n → n < 97 → ¬ (97 ≤ n ||| 32 ∧ n ||| 32 ≤ 102)) ∧ (97 ≤ n → n ≤ 102 → n ||| 32 = n) ∧ (102 < n → ¬ (97 ≤ n ||| 32 ∧ n ||| 32 ≤ 102)) := by
  decide +kernel
theorem or32 (c : UInt8) : bits .or .u8 (c.toNat : Int) 32 = ((c.toNat ||| 32 : Nat) : Int) := u8_or_nat c.toNat 32 c.toNat_lt (by omega)
theorem or16 (m d : Int) (h0 : 0 ≤ m) (h1 : m < 576460752303423488) (d0 : 0 ≤ d) (d1 : d < 16) : bits .or .i64 (m * 16) d = m * 16 + d :=
  bits_join .i64 63 (by decide) (fun n a b => by rw [IntKind.wrap_i64]; omega) 4 (m * 16) d (by omega) (by omega) (by omega) d0 (by omega) (by omega)

theorem hexcase (c : UInt8) (hd : digitI c.toNat = false) :
    (65 ≤ (c.toNat : Int) ∧ (c.toNat : Int) ≤ 70 ∧ bits .or .u8 (c.toNat : Int) 32 = c.toNat + 32 ∧ worth c = c.toNat - 55) ∨
    (97 ≤ (c.toNat : Int) ∧ (c.toNat : Int) ≤ 102 ∧ bits .or .u8 (c.toNat : Int) 32 = c.toNat ∧ worth c = c.toNat - 87) ∨
    (∃ q : Int, bits .or .u8 (c.toNat : Int) 32 = q ∧ (q < 97 ∨ 102 < q) ∧ worth c = 99) := by
  simp [digitI] at hd
  have hw : ¬ (48 ≤ (c.toNat : Int) ∧ (c.toNat : Int) ≤ 57) := by omega
  obtain ⟨t1, t2, t3, t4, t5⟩ := or32_table c.toNat c.toNat_lt
  have ho := or32 c
  by_cases h1 : 65 ≤ c.toNat ∧ c.toNat ≤ 70
  · left
    refine ⟨by omega, by omega, by rw [ho, t2 h1.1 h1.2]; omega, ?_⟩
    unfold worth
    rw [if_neg hw, if_pos (by omega)]
  · by_cases h2 : 97 ≤ c.toNat ∧ c.toNat ≤ 102
    · right; left
      refine ⟨by omega, by omega, by rw [ho, t4 h2.1 h2.2], ?_⟩
      unfold worth
      rw [if_neg hw, if_neg (by omega), if_pos (by omega)]
    · right; right
      refine ⟨_, ho, ?_, ?_⟩
      · rcases Nat.lt_or_ge c.toNat 65 with h | h
        · have := t1 h; omega
        · rcases Nat.lt_or_ge c.toNat 97 with h' | h'
          · have := t3 (by omega) h'; omega
          · have := t5 (by omega); omega
      · unfold worth
        rw [if_neg hw, if_neg (by omega), if_neg (by omega)]

set_option maxHeartbeats 2000000 in
theorem hex_c (s : ByteArray) (digits : Int) (w : World) :
    Calls Tryd.prog 91 #[.string s, .int .i64 digits] w fun e w' => e = .returned (.tuple #[.int .i64 (hex s.data.toList digits).1, .bool (hex s.data.toList digits).2]) ∧ w = w' := by
  unfold hex
  by_cases h0 : s.size = 0
  · have he := empty_toList h0
    have H0 := Lib.hid h0
    clear h0
    go_enter Tryd.func91, Tryd.ntmps91
    go_wp2
    all_goals go_ret2
    all_goals exact ⟨ret_num (number_empty H0.out), rfl⟩
  have he := nonempty_toList h0
  obtain ⟨D, hD, hD15⟩ : ∃ D, (if 15 < digits then 15 else digits) = D ∧ D ≤ 15 := ⟨_, rfl, by split <;> omega⟩
  rw [hD]
  have key : ∀ (_ : (15 < digits ∧ D = 15) ∨ (¬ 15 < digits ∧ D = digits)), Calls Tryd.prog 91 #[.string s, .int .i64 digits] w fun e w' => e = .returned (.tuple #[.int .i64 (number 16 s.data.toList D).1, .bool (number 16 s.data.toList D).2]) ∧ w = w' := by
    intro hcase
    have HC := Lib.hid hcase
    clear hD
    by_cases hl : D < s.size
    · rcases hcase with ⟨h18, hd⟩ | ⟨h18, hd⟩ <;>
      · subst hd
        go_enter Tryd.func91, Tryd.ntmps91
        go_wp2
        all_goals go_ret2
        all_goals exact ⟨ret_num (number_long hl), rfl⟩
    · have hs : s.size ≤ 15 := by omega
      rcases hcase with ⟨h18, hd⟩ | ⟨h18, hd⟩ <;>
      · subst hd
        go_enter Tryd.func91, Tryd.ntmps91
        go_wp2
        go_loop [6, 20] (fun n i => ∃ (k : Nat) (m : Int), k ≤ s.size ∧ i = .int .i64 k ∧ n = .int .i64 m ∧ Num 16 s k m) (fun _ i => s.size - (intOf i).toNat)
        case atStart => exact ⟨0, 0, Nat.zero_le _, rfl, rfl, Num.zero _ _⟩
        case round =>
          obtain ⟨k, m, hk, rfl, rfl, hN⟩ := hrel
          have HN := Lib.hid hN
          clear hN
          by_cases hlt : k < s.size
          · obtain ⟨m0, m1⟩ := HN.out.bound (.inr ⟨rfl, by omega⟩)
            cases hd : digitI s[k].toNat with
            | true =>
              obtain ⟨e1, e2, e3⟩ := worth_digit hd
              have HS := HN.out.snoc (k := k) hlt (by omega)
              rw [e1] at HS
              have HK := Lib.hid HS
              have HE := Lib.hid e1
              clear HS e1
              go_wp2_with (go_at_call 57; refine (digit_c _ _).mono ?_; rintro e w' ⟨rfl, rfl⟩)
              go_round
              case rel => exact ⟨k + 1, _, by omega, by go_num, rfl, by rw [or16 m _ m0 (by omega) (by omega) (by omega)]; exact HK.out⟩
              case measure => simp [intOf]; omega
            | false =>
              rcases hexcase s[k] hd with ⟨c0, c1, ho, e⟩ | ⟨c0, c1, ho, e⟩ | ⟨q, ho, hq, e⟩
              · have HS := HN.out.snoc (k := k) hlt (by omega)
                rw [e] at HS
                have HK := Lib.hid HS
                clear HS e
                go_wp2_with (go_at_call 57; refine (digit_c _ _).mono ?_; rintro e w' ⟨rfl, rfl⟩)
                go_round
                case rel => exact ⟨k + 1, _, by omega, by go_num, rfl, by rw [or16 m _ m0 (by omega) (by omega) (by omega), show (s[k].toNat : Int) + 32 - 97 + 10 = s[k].toNat - 55 from by omega]; exact HK.out⟩
                case measure => simp [intOf]; omega
              · have HS := HN.out.snoc (k := k) hlt (by omega)
                rw [e] at HS
                have HK := Lib.hid HS
                clear HS e
                go_wp2_with (go_at_call 57; refine (digit_c _ _).mono ?_; rintro e w' ⟨rfl, rfl⟩)
                go_round
                case rel => exact ⟨k + 1, _, by omega, by go_num, rfl, by rw [or16 m _ m0 (by omega) (by omega) (by omega), show (s[k].toNat : Int) - 97 + 10 = s[k].toNat - 87 from by omega]; exact HK.out⟩
                case measure => simp [intOf]; omega
              · have HK := fun D => Lib.hid (number_bad (base := 16) (digits := D) hlt (by omega))
                clear e
                rcases hq with hq | hq
                · go_wp2_with (go_at_call 57; refine (digit_c _ _).mono ?_; rintro e w' ⟨rfl, rfl⟩)
                  go_ret2
                  exact ⟨ret_num (HK _).out, rfl⟩
                · go_wp2_with (go_at_call 57; refine (digit_c _ _).mono ?_; rintro e w' ⟨rfl, rfl⟩)
                  go_ret2
                  exact ⟨ret_num (HK _).out, rfl⟩
          · go_wp2
            go_ret2
            exact ⟨ret_num (HN.out.whole hlt h0 (by omega)), rfl⟩
  exact key (by rw [← hD]; split <;> rename_i h; · exact .inl ⟨h, rfl⟩
                · exact .inr ⟨h, rfl⟩)

end Go.Proofs.YtgmjkkiahanekaaDoor

/- The contract of lex.Trim; the laws' anchor; the walks over LexNumbers and LexShifts, for every text. -/
set_option linter.unusedVariables false
set_option linter.unusedSimpArgs false
namespace Go.Proofs.YtgmjkkiahanekaaDoor
open Go.RowKit Lex



theorem trim_c (s : ByteArray) (w : World) (hs : s.size ≤ 9223372036854775807) : Calls Tryd.prog 47 #[.string s] w fun e w' => e = .returned (.string (bs (trim s.data.toList))) ∧ Below w.heap.size w w' := by
  have K := Lib.hid (Go.Proofs.Any.strings_Trim_laid Tryd.lays160 (by kernel_rfl) s ⟨#[32, 9]⟩ w hs (by decide) (Go.Proofs.ascii_of_all (by decide)))
  go_enter Tryd.func47, Tryd.ntmps47
  go_wp2_with (go_at_call 62; refine K.out.mono ?_; rintro e w' ⟨rfl, hb⟩)
  go_ret
  exact ⟨rfl, hb⟩

/-! ### LexShifts -/
theorem decimal_snoc (l : List UInt8) (c : UInt8) (hd : digitI c.toNat = true) {n : Int} (h : decimal l 17 = (n, true)) : decimal (l ++ [c]) 18 = (n * 10 + (c.toNat - 48), true) := by
  unfold decimal number at *
  rw [if_neg (by omega : ¬ (18 : Int) < 17)] at h
  rw [if_neg (by omega : ¬ (18 : Int) < 18)]
  split at h
  · cases h
  · rename_i hc
    have hw := worth_digit hd
    rw [if_neg ?_]
    · injection h with h1 _
      rw [num_snoc, h1, hw.1]
    · intro hh
      rcases hh with hh | hh | hh
      · simp at hh
      · apply hc; right; left; simp at hh; omega
      · apply hc; right; right
        rw [List.all_append] at hh
        have : ([c].all fun c => decide (worth c < 10)) = true := by simp; omega
        rw [this, Bool.and_true] at hh
        exact hh
theorem hex_snoc (l : List UInt8) (c : UInt8) (hd : digitI c.toNat = true) {n : Int} (h : hex l 14 = (n, true)) : hex (l ++ [c]) 15 = (n * 16 + (c.toNat - 48), true) := by
  unfold hex number at *
  rw [if_neg (by omega : ¬ (15 : Int) < 14)] at h
  rw [if_neg (by omega : ¬ (15 : Int) < 15)]
  split at h
  · cases h
  · rename_i hc
    have hw := worth_digit hd
    rw [if_neg ?_]
    · injection h with h1 _
      rw [num_snoc, h1, hw.1]
    · intro hh
      rcases hh with hh | hh | hh
      · simp at hh
      · apply hc; right; left; simp at hh; omega
      · apply hc; right; right
        rw [List.all_append] at hh
        have : ([c].all fun c => decide (worth c < 16)) = true := by simp; omega
        rw [this, Bool.and_true] at hh
        exact hh
theorem decimal_hex {l : List UInt8} {n : Int} (h : decimal l 17 = (n, true)) (hl : l.length ≤ 14) : (hex l 14).2 = true := by
  unfold decimal hex number at *
  rw [if_neg (by omega : ¬ (18 : Int) < 17)] at h
  rw [if_neg (by omega : ¬ (15 : Int) < 14)]
  split at h
  · cases h
  · rename_i hc
    rw [if_neg ?_]
    intro hh
    rcases hh with hh | hh | hh
    · exact hc (.inl hh)
    · omega
    · apply hc; right; right
      rw [← Bool.not_eq_true] at hh ⊢
      intro ha
      apply hh
      rw [List.all_eq_true] at ha ⊢
      intro c hm
      have := ha c hm
      simp at this ⊢
      omega
theorem decimal_bound {l : List UInt8} {n : Int} (h : decimal l 17 = (n, true)) : 0 ≤ n ∧ n < 100000000000000000 := by
  unfold decimal number at h
  rw [if_neg (by omega : ¬ (18 : Int) < 17)] at h
  split at h
  · cases h
  · rename_i hc
    injection h with h1 _
    have ha : (l.all fun c => decide (worth c < 10)) = true := by rw [← Bool.not_eq_false]; exact fun hh => hc (.inr (.inr hh))
    have hl : l.length ≤ 17 := by have : ¬ (17 : Int) < l.length := fun hh => hc (.inr (.inl hh)); omega
    have h1' := num_bound 10 (by omega) l ha
    have := pow_le17 10 l.length (.inl ⟨rfl, hl⟩)
    omega
theorem hex_bound {l : List UInt8} {n : Int} (h : hex l 14 = (n, true)) : 0 ≤ n ∧ n < 100000000000000000 := by
  unfold hex number at h
  rw [if_neg (by omega : ¬ (15 : Int) < 14)] at h
  split at h
  · cases h
  · rename_i hc
    injection h with h1 _
    have ha : (l.all fun c => decide (worth c < 16)) = true := by rw [← Bool.not_eq_false]; exact fun hh => hc (.inr (.inr hh))
    have hl : l.length ≤ 14 := by have : ¬ (14 : Int) < l.length := fun hh => hc (.inr (.inl hh)); omega
    have h1' := num_bound 16 (by omega) l ha
    have := pow_le17 16 l.length (.inr ⟨rfl, hl⟩)
    omega

end Go.Proofs.YtgmjkkiahanekaaDoor

/- The contracts of lex.Value, Lower, Alike and of the document's Blank, Value, Trim, Lower: each answers what the plain words say, for every text. -/
set_option linter.unusedVariables false
set_option linter.unusedSimpArgs false
namespace Go.Proofs.YtgmjkkiahanekaaDoor
open Go.RowKit Lex

theorem okv_true {c : UInt8} (h : okv c = true) : (c.toNat : Int) = 9 ∨ (¬ (c.toNat : Int) = 9 ∧ ¬ (c.toNat : Int) < 32 ∧ ¬ (c.toNat : Int) = 127) := by
  simp [okv] at h; omega
theorem okv_false {c : UInt8} (h : okv c = false) : ¬ (c.toNat : Int) = 9 ∧ ((c.toNat : Int) < 32 ∨ (¬ (c.toNat : Int) < 32 ∧ (c.toNat : Int) = 127)) := by
  simp [okv] at h; omega

theorem beq_nat {c : UInt8} {n : Int} : ((c.toNat : Int) == n) = decide ((c.toNat : Int) = n) := rfl

theorem value_c (s : ByteArray) (w : World) (hs : s.size ≤ 9223372036854775807) : Calls Tryd.prog 56 #[.string s] w fun e w' => e = .returned (.bool (value s.data.toList)) ∧ Below w.heap.size w w' := by
  have T := fun w => Lib.hid (trim_c s w hs)
  go_enter Tryd.func56, Tryd.ntmps56
  go_wp2
  go_loop [7] (fun i => ∃ k : Nat, k ≤ s.size ∧ i = .int .i64 k ∧ (s.data.toList.take k).all okv = true) (fun i => s.size - (intOf i).toNat)
  case atStart => exact ⟨0, Nat.zero_le _, rfl, by simp⟩
  case round =>
    obtain ⟨k, hk, rfl, ha⟩ := hrel
    have HA := Lib.hid ha
    clear ha
    by_cases hlt : k < s.size
    · cases hm : okv s[k] with
      | true =>
        have HM := Lib.hid hm
        have hc := okv_true hm
        clear hm
        rcases hc with h | ⟨h1, h2, h3⟩
        · have g : (((s[k].toNat : Int)) == 9) = true := by simpa using h
          have g' : (((s[k].toNat : Int)) != 9) = false := by simpa using h
          have HH := Lib.hid h
          clear h
          go_wp2
          go_round
          case rel => exact ⟨k + 1, by omega, by go_num, all_take_snoc _ s k hlt HA.out HM.out⟩
          case measure => simp [intOf]; omega
        · have g : (((s[k].toNat : Int)) == 9) = false := by simpa using h1
          have g' : (((s[k].toNat : Int)) != 9) = true := by simpa using h1
          have g2 : (((s[k].toNat : Int)) == 127) = false := by simpa using h3
          go_wp2
          go_round
          case rel => exact ⟨k + 1, by omega, by go_num, all_take_snoc _ s k hlt HA.out HM.out⟩
          case measure => simp [intOf]; omega
      | false =>
        have HM := Lib.hid (all_of_take okv s k hlt hm)
        obtain ⟨h1, hc⟩ := okv_false hm
        clear hm
        have g : (((s[k].toNat : Int)) == 9) = false := by simpa using h1
        have g' : (((s[k].toNat : Int)) != 9) = true := by simpa using h1
        rcases hc with h | ⟨h2, h⟩
        · go_wp2
          go_ret
          exact ⟨ret_bool (by unfold value; rw [HM.out]; rfl), Below.refl _ _⟩
        · have g2 : (((s[k].toNat : Int)) == 127) = true := by simpa using h
          have HH := Lib.hid h
          clear h
          go_wp2
          go_ret
          exact ⟨ret_bool (by unfold value; rw [HM.out]; rfl), Below.refl _ _⟩
    · go_wp2_with (go_at_call 47; refine (T _).out.mono ?_; rintro e w1 ⟨rfl, hb⟩)
      go_ret
      exact ⟨ret_bool (by
        have h := HA.out; rw [take_all s k hlt] at h; unfold value; rw [h, Bool.true_and]
        simp [Lib.toList_data, bs]), hb⟩

theorem get_at (s : ByteArray) (k : Nat) (h : k < s.size) : s.data.toList[k]? = some s[k] := by
  rw [List.getElem?_eq_getElem (by rw [size_list]; exact h)]; rfl

theorem ret_str {a b : ByteArray} (h : a = b) : Ending.returned (.string a) = .returned (.string b) := by rw [h]
theorem drop_blank (s : ByteArray) (t : Nat) (h0 : 0 < t) (ht : t ≤ s.size) (hb : (s.data.toList.drop t).all blankB = true) (h : blankB (s[t - 1]'(by omega)) = true) : (s.data.toList.drop (t - 1)).all blankB = true := by
  rw [List.drop_eq_getElem_cons (i := t - 1) (by rw [size_list]; omega), show t - 1 + 1 = t from by omega, List.all_cons, hb, Bool.and_true]
  exact h

/-! ### Lower -/
theorem or32_upper (c : UInt8) (h : 65 ≤ (c.toNat : Int)) (h' : (c.toNat : Int) ≤ 90) : bits .or .u8 (c.toNat : Int) 32 = low c.toNat := by
  have key : ∀ n : Nat, n < 256 → 65 ≤ n → n ≤ 90 → n ||| 32 = n + 32 := by decide +kernel
  rw [or32 c, key c.toNat c.toNat_lt (by omega) (by omega)]
  unfold low
  rw [if_pos ⟨h, h'⟩]
  omega

/-- The new row of Lower behind k rounds: block B, the first k bytes made small. -/
structure LowAt (w0 wr : World) (s : ByteArray) (k : Nat) : Prop where
  below : Below w0.heap.size w0 wr
  size : w0.heap.size < wr.heap.size
  done : ∀ j, (h : j < s.size) → j < k → wr.cell? ⟨w0.heap.size, j, none⟩ = some (.int .u8 (low s[j].toNat))
  rest : ∀ j, (h : j < s.size) → k ≤ j → wr.cell? ⟨w0.heap.size, j, none⟩ = some (.int .u8 s[j].toNat)
  free : ∀ j, j < s.size → wr.frozen? ⟨w0.heap.size, j, none⟩ = false

theorem lowAt_start (w : World) (e : TypeId) (s : ByteArray) : LowAt w (Lib.bytesWorld w e s) s 0 := by
  refine ⟨⟨rfl, rfl, rfl, by rw [Lib.bytesWorld_size]; omega, fun k hk => Lib.bytesWorld_at_old w e s k hk⟩, by rw [Lib.bytesWorld_size]; omega, fun j _ h => absurd h (by omega), fun j h _ => ?_, fun j h => ?_⟩
  · rw [Lib.bytesWorld_cell w e s j h]
    rw [List.getD_eq_getElem?_getD, get_at s j h]; rfl
  · simp only [World.frozen?, Lib.bytesWorld_at_new]
    have : s.size ≤ (Lib.bytesCells w e s).size := by
      have e : s.data.size = s.size := rfl
      simp only [Lib.bytesCells, Array.size_append, Array.size_map, Array.size_replicate]
      omega
    simp
    omega

theorem LowAt.keep {w0 wr : World} {s : ByteArray} {k : Nat} (h : LowAt w0 wr s k) (hk : k < s.size) (hl : ¬ (65 ≤ (s[k].toNat : Int) ∧ (s[k].toNat : Int) ≤ 90)) : LowAt w0 wr s (k + 1) :=
  ⟨h.below, h.size, fun j hj hjk => by
    by_cases e : j = k
    · subst e; rw [h.rest j hj (Nat.le_refl _)]; unfold low; rw [if_neg hl]
    · exact h.done j hj (by omega), fun j hj hjk => h.rest j hj (by omega), h.free⟩

theorem LowAt.set {w0 wr : World} {s : ByteArray} {k : Nat} (h : LowAt w0 wr s k) (hk : k < s.size) : LowAt w0 (wr.setCell ⟨w0.heap.size, k, none⟩ (.int .u8 (low s[k].toNat))) s (k + 1) :=
  ⟨h.below.setCell (Nat.le_refl _) _, by simpa using h.size, fun j hj hjk => by
    by_cases e : j = k
    · subst e; rw [World.cell?_setCell_same _ _ _ (h.rest j hj (Nat.le_refl _))]
    · rw [World.cell?_setCell_other _ _ _ _ (by simp only [ne_eq, Addr.mk.injEq, not_and]; omega)]; exact h.done j hj (by omega), fun j hj hjk => by
      rw [World.cell?_setCell_other _ _ _ _ (by simp only [ne_eq, Addr.mk.injEq, not_and]; omega)]; exact h.rest j hj (by omega), fun j hj => by simpa using h.free j hj⟩

def lowNums (s : ByteArray) : List Int := s.data.toList.map fun c => low c.toNat
theorem strOf_low (s : ByteArray) : strOfNums (lowNums s) = bs (lower s.data.toList) := by
  simp [strOfNums, lowNums, bs, lower, lowB, Function.comp_def]
theorem lowNums_length (s : ByteArray) : (lowNums s).length = s.size := by unfold lowNums; rw [List.length_map, size_list]
theorem lowNums_at (s : ByteArray) (j : Nat) (h : j < s.size) : (lowNums s).getD j 0 = low s[j].toNat := by
  rw [List.getD_eq_getElem?_getD]
  unfold lowNums
  rw [List.getElem?_map, get_at s j h]; rfl

theorem lower_c (s : ByteArray) (w : World) (hs : s.size ≤ 9223372036854775807) : Calls Tryd.prog 60 #[.string s] w fun e w' => e = .returned (.string (bs (lower s.data.toList))) ∧ Below w.heap.size w w' := by
  have hcv := fun (w : World) => Lib.run_convert_string_bytes w 9 28 5 s Tryd.underlying9 Tryd.underlying28 Tryd.underlying5
  have hst := lowAt_start w 5 s
  have HS := Lib.hid hst
  clear hst
  go_enter Tryd.func60, Tryd.ntmps60
  go_wp2
  have HC := Lib.hid hcv
  clear hcv
  go_loopw [10] (fun i wr => ∃ k : Nat, k ≤ s.size ∧ i = .int .i64 k ∧ LowAt w wr s k) (fun i _ => s.size - (intOf i).toNat)
  case atStart => exact ⟨0, Nat.zero_le _, rfl, HS.out⟩
  case round =>
    obtain ⟨k, hk, rfl, hA⟩ := hrel
    have HA := Lib.hid hA
    by_cases hlt : k < s.size
    · have c0 := hA.rest k hlt (Nat.le_refl _)
      have f0 := hA.free k hlt
      clear hA
      by_cases hl : 65 ≤ (s[k].toNat : Int) ∧ (s[k].toNat : Int) ≤ 90
      · have hb := or32_upper s[k] hl.1 hl.2
        have HL := Lib.hid (HA.out.set hlt)
        obtain ⟨l1, l2⟩ := hl
        go_wp2
        go_roundw
        case rel => exact ⟨k + 1, by omega, by go_num, HL.out⟩
        case measure => simp [intOf]; omega
      · have HL := Lib.hid (HA.out.keep hlt hl)
        have hl2 : (s[k].toNat : Int) < 65 ∨ (65 ≤ (s[k].toNat : Int) ∧ 90 < (s[k].toNat : Int)) := by omega
        clear hl
        rcases hl2 with h1 | ⟨h1, h2⟩
        · go_wp2
          go_roundw
          case rel => exact ⟨k + 1, by omega, by go_num, HL.out⟩
          case measure => simp [intOf]; omega
        · go_wp2
          go_roundw
          case rel => exact ⟨k + 1, by omega, by go_num, HL.out⟩
          case measure => simp [intOf]; omega
    · have hcv2 := run_convert_bytes_arg (P := Tryd.prog) wr 28 5 Tryd.underlying28 Tryd.underlying5 w.heap.size 0 s.size (grownCap w s.size 0 5) (lowNums s) (lowNums_length s) (fun i hi => by
        rw [Nat.zero_add, HA.out.done i hi (by omega), lowNums_at s i hi]) 9 Tryd.underlying9
      rw [strOf_low] at hcv2
      clear hA
      go_wp2
      go_ret
      exact ⟨rfl, HA.out.below⟩

theorem alike_c (a b : ByteArray) (w : World) (ha : a.size ≤ 9223372036854775807) (hb : b.size ≤ 9223372036854775807) :
    Calls Tryd.prog 45 #[.string a, .string b] w fun e w' => e = .returned (.bool (alike a.data.toList b.data.toList)) ∧ Below w.heap.size w w' := by
  have L1 := fun w => Lib.hid (lower_c a w ha)
  have L2 := fun w => Lib.hid (lower_c b w hb)
  by_cases hl : a.size = b.size
  · have g : (((a.size : Int)) == b.size) = true := by rw [beq_iff_eq]; omega
    have HL := Lib.hid hl
    clear hl
    go_enter Tryd.func45, Tryd.ntmps45
    go_wp2_with fail
    refine (L1 _).out.mono ?_
    rintro e w1 ⟨rfl, hb1⟩
    go_wp2_with fail
    refine (L2 _).out.mono ?_
    rintro e w2 ⟨rfl, hb2⟩
    go_wp2
    go_ret
    exact ⟨ret_bool (by unfold alike; simp [Lib.toList_data, bs]), hb1.trans (hb2.mono hb1.size)⟩
  · have g : (((a.size : Int)) == b.size) = false := by rw [beq_eq_false_iff_ne]; omega
    have HL := Lib.hid hl
    clear hl
    go_enter Tryd.func45, Tryd.ntmps45
    go_wp2
    go_ret
    exact ⟨ret_bool (alike_length (by rw [size_list, size_list]; exact HL.out)).symm, Below.refl _ _⟩

end Go.Proofs.YtgmjkkiahanekaaDoor

/- The contract of the document's Lower (append byte by byte); the walks over LexTexts and LexCase, for all texts. -/
set_option linter.unusedVariables false
set_option linter.unusedSimpArgs false
namespace Go.Proofs.YtgmjkkiahanekaaDoor
open Go.RowKit Lex

theorem info_u8 : (Tryd.prog.info? 5).map (fun i => (i.zero, i.size, i.bytes)) = some (some (.int .u8 0), 1, 1) := by kernel_rfl

def nums8 (xs : List Int) : List Value := xs.map (Value.int .u8)

/-- A row of bytes of the call's own, made a string. -/
theorem own_string8 {w : World} {base n : Nat} {v : Value} {xs : List Int} (h : w.ownsRow base 5 1 v n (nums8 xs)) : (convert 28 9 v).run Tryd.prog w = .ok (.string (strOfNums xs)) w := by
  have hl : xs.length = n := by have := h.1; simpa [nums8] using this
  rcases h.2 with ⟨rfl, h0⟩ | ⟨g, cap, cur, rfl, _⟩
  · subst h0
    obtain rfl : xs = [] := List.eq_nil_of_length_eq_zero hl
    exact run_convert_bytes_nil w 28 5 Tryd.underlying28 Tryd.underlying5 0 0 9 Tryd.underlying9
  · refine run_convert_bytes_arg w 28 5 Tryd.underlying28 Tryd.underlying5 g 0 n cap xs hl (fun i hi => ?_) 9 Tryd.underlying9
    have hc := h.cells (g := g) rfl i (.int .u8 (xs.getD i 0)) (by simp [nums8, List.getElem?_eq_getElem (show i < xs.length by omega), List.getD_eq_getElem?_getD])
    have ha : (⟨g, 0, none⟩ : Addr).add i = ⟨g, 0 + i, none⟩ := by unfold Addr.add; split <;> simp_all
    rw [← ha]; exact hc

theorem lowNums_snoc (s : ByteArray) (k : Nat) (h : k < s.size) : nums8 ((lowNums s).take (k + 1)) = nums8 ((lowNums s).take k) ++ [.int .u8 (low s[k].toNat)] := by
  unfold nums8
  rw [List.take_succ_eq_append_getElem (by rw [lowNums_length]; exact h), List.map_append]
  congr 1
  simp only [List.map_cons, List.map_nil]
  congr 2
  have := lowNums_at s k h
  rw [List.getD_eq_getElem?_getD, List.getElem?_eq_getElem (by rw [lowNums_length]; exact h)] at this
  exact this

end Go.Proofs.YtgmjkkiahanekaaDoor

/- The contracts of path.plain, escape, unescape, Decode and the document's Plain, At, Escapes, Decode: each answers what the plain words of PathA say. -/
set_option linter.unusedVariables false
set_option linter.unusedSimpArgs false
namespace Go.Proofs.YtgmjkkiahanekaaDoor
open Go.RowKit Lex

theorem hex_pair (a b : UInt8) : hex [a, b] 2 = (match pair a b with | some n => ((n.toNat : Int), true) | none => (0, false)) := by
  have wa := worth_0 a
  have wb := worth_0 b
  unfold hex number pair
  rw [if_neg (by omega : ¬ (15 : Int) < 2)]
  by_cases h : worth a < 16 ∧ worth b < 16
  · rw [if_pos h, if_neg (by simp; omega)]
    simp only
    rw [UInt8.toNat_ofNat_of_lt' (by rw [UInt8.size]; omega)]
    simp [num]
    omega
  · rw [if_neg h, if_pos (by right; right; simp; omega)]

/-- What an escape at a text's begin is. -/
def escB : List UInt8 → UInt8 × Bool
  | _ :: a :: b :: _ => match pair a b with | some n => (n, true) | none => (0, false)
  | _ => (0, false)

theorem three (s : ByteArray) (h : ¬ s.size < 3) : ∃ c a b r, s.data.toList = c :: a :: b :: r ∧ (s.extract 1 3).data.toList = [a, b] := by
  have hl : 3 ≤ s.data.toList.length := by rw [size_list]; omega
  rw [Lib.extract_data]
  match s.data.toList, hl with
  | c :: a :: b :: r, _ => exact ⟨c, a, b, r, rfl, rfl⟩

theorem ret_esc {a b : Int} {q : Bool} (h : a = b) : Ending.returned (.tuple #[.int .u8 a, .bool q]) = .returned (.tuple #[.int .u8 b, .bool q]) := by rw [h]

theorem plainMarks_c (c : UInt8) (w : World) :
    Calls Tryd.prog 69 #[.string ⟨#[45, 46, 95, 126]⟩, .int .u8 c.toNat] w fun e w' => e = .returned (.int .i64 (Lib.indexByte [45, 46, 95, 126] c)) ∧ w = w' :=
  (Tryd.strings_IndexByte ⟨#[45, 46, 95, 126]⟩ c.toNat w).mono fun e w' ⟨he, hw⟩ => ⟨by rw [he]; simp, hw.symm⟩

/-- What is left of a text, as a text. -/
theorem rest_data (s : ByteArray) (k : Nat) : (s.extract k s.size).data.toList = s.data.toList.drop k := Lib.extract_to_end s k
theorem drop_at (s : ByteArray) (k : Nat) (h : k < s.size) : s.data.toList.drop k = s[k] :: s.data.toList.drop (k + 1) := by
  rw [List.drop_eq_getElem_cons (by rw [size_list]; exact h)]; rfl

theorem large_at (n : Nat) (h : n < 16) : (⟨#[48, 49, 50, 51, 52, 53, 54, 55, 56, 57, 65, 66, 67, 68, 69, 70]⟩ : ByteArray)[n]'h = large n := by
  have key : ∀ n : Fin 16, (⟨#[48, 49, 50, 51, 52, 53, 54, 55, 56, 57, 65, 66, 67, 68, 69, 70]⟩ : ByteArray)[n.val]'n.isLt = large n.val := by decide +kernel
  exact key ⟨n, h⟩

def nat8 (l : List UInt8) : List Int := l.map fun c => (c.toNat : Int)
theorem nat8_str (l : List UInt8) : strOfNums (nat8 l) = bs l := by
  simp [strOfNums, nat8, Function.comp_def]

/-- What holds of unescape (bad, enc) between two rounds: i bytes gone through, o told. -/
structure Gone (bad : UInt8 → Bool) (enc : UInt8 → List UInt8) (s : ByteArray) (i : Nat) (o : List UInt8) : Prop where
  left : walkE bad enc s.data.toList = (walkE bad enc (s.data.toList.drop i)).map (o ++ ·)
  len : o.length ≤ i
theorem Gone.start {bad enc} (s : ByteArray) : Gone bad enc s 0 [] := ⟨by simp, by simp⟩
theorem Gone.plain {bad enc} {s : ByteArray} {i : Nat} {o : List UInt8} (h : Gone bad enc s i o) (hi : i < s.size) (hb : bad s[i] = false) (hp : s[i] ≠ 37) : Gone bad enc s (i + 1) (o ++ [s[i]]) :=
  ⟨by rw [h.left, drop_at s i hi, walkE_plain hb hp, Option.map_map]; congr 1; funext x; simp, by simp; exact h.len⟩
theorem Gone.bad {bad enc} {s : ByteArray} {i : Nat} {o : List UInt8} (h : Gone bad enc s i o) (hi : i < s.size) (hb : bad s[i] = true) : walkE bad enc s.data.toList = none := by
  rw [h.left, drop_at s i hi, walkE_bad hb]; rfl
theorem Gone.esc {bad enc} {s : ByteArray} {i : Nat} {o : List UInt8} (h : Gone bad enc s i o) (hi : i < s.size) (hb : bad 37 = false) (hp : s[i] = 37) (n : UInt8) (he : escB (s.data.toList.drop i) = (n, true)) (hn : (enc n).length ≤ 3) :
    i + 2 < s.size ∧ Gone bad enc s (i + 3) (o ++ enc n) := by
  have hl := h.left
  have hd := drop_at s i hi
  rw [hp] at hd
  rw [hd] at he hl
  match hr : s.data.toList.drop (i + 1), he with
  | [], he => simp [hr, escB] at he
  | [_], he => simp [hr, escB] at he
  | a :: b :: r, he =>
    have hlen := congrArg List.length hr
    simp [ByteArray.size_data] at hlen
    have hr3 : s.data.toList.drop (i + 3) = r := by
      have : s.data.toList.drop (i + 1 + 2) = (s.data.toList.drop (i + 1)).drop 2 := by rw [List.drop_drop]
      rw [show i + 3 = i + 1 + 2 from rfl, this, hr]; rfl
    rw [hr] at hl
    simp only [escB] at he
    cases hpr : pair a b with
    | none => rw [hpr] at he; cases he
    | some m =>
      rw [hpr] at he
      injection he with he _
      subst he
      rw [walkE_some hb hpr, Option.map_map] at hl
      refine ⟨by omega, ⟨?_, ?_⟩⟩
      · rw [hl, hr3]; congr 1; funext x; simp
      · have := h.len; simp; omega
theorem Gone.stop {bad enc} {s : ByteArray} {i : Nat} {o : List UInt8} (h : Gone bad enc s i o) (hi : i < s.size) (hp : s[i] = 37) (he : (escB (s.data.toList.drop i)).2 = false) : walkE bad enc s.data.toList = none := by
  have hl := h.left
  have hd := drop_at s i hi
  rw [hp] at hd
  rw [hd] at he hl
  match hr : s.data.toList.drop (i + 1), he with
  | [], he => rw [hr, walkE_short (by simp)] at hl; exact hl
  | [_], he => rw [hr, walkE_short (by simp)] at hl; exact hl
  | a :: b :: r, he =>
    rw [hr] at hl
    simp only [escB] at he
    cases hpr : pair a b with
    | none => rw [walkE_none hpr] at hl; exact hl
    | some m => rw [hpr] at he; cases he
theorem Gone.whole {bad enc} {s : ByteArray} {i : Nat} {o : List UInt8} (h : Gone bad enc s i o) (hi : s.size ≤ i) : walkE bad enc s.data.toList = some o := by
  rw [h.left, List.drop_of_length_le (by rw [size_list]; exact hi), walkE_nil]; simp

end Go.Proofs.YtgmjkkiahanekaaDoor

/- The contracts of path.unescape and path.Decode: the plain walks over escapes, for every text. -/
set_option linter.unusedVariables false
set_option linter.unusedSimpArgs false
namespace Go.Proofs.YtgmjkkiahanekaaDoor
open Go.RowKit Lex

theorem nat8_snoc (o : List UInt8) (l : List UInt8) : nums8 (nat8 (o ++ l)) = nums8 (nat8 o) ++ l.map fun c => Value.int .u8 (c.toNat : Int) := by
  simp [nums8, nat8, Function.comp_def]

theorem badU_cases {c : UInt8} (h : badU c = true) : (c.toNat : Int) < 33 ∨ (¬ (c.toNat : Int) < 33 ∧ 126 < (c.toNat : Int)) ∨ (¬ (c.toNat : Int) < 33 ∧ ¬ 126 < (c.toNat : Int) ∧ (c.toNat : Int) = 63) ∨ (¬ (c.toNat : Int) < 33 ∧ ¬ 126 < (c.toNat : Int) ∧ ¬ (c.toNat : Int) = 63 ∧ (c.toNat : Int) = 35) := by
  simp [badU] at h; omega
theorem badU_not {c : UInt8} (h : badU c = false) : ¬ (c.toNat : Int) < 33 ∧ ¬ 126 < (c.toNat : Int) ∧ ¬ (c.toNat : Int) = 63 ∧ ¬ (c.toNat : Int) = 35 := by
  simp [badU] at h; omega
theorem ne37 {c : UInt8} : c ≠ 37 ↔ ¬ (c.toNat : Int) = 37 := by
  rw [ne_eq, ← UInt8.toNat_inj]; simp; omega

def optStr (o : Option (List UInt8)) : Value := .tuple #[.string (bs (o.getD [])), .bool o.isSome]

theorem own_drew {w : World} {B : Nat} {e : TypeId} {z : Nat} {v : Value} {n : Nat} {xs : List Value} (h : w.ownsRow B e z v n xs) : w.drew.ownsRow B e z v n xs := h
theorem news3 (w : World) (a b c : Value) (e : TypeId) : ∀ j u, [a, b, c][j]? = some u → (w.alloc (.cells #[a, b, c] e)).drew.cell? ((⟨w.heap.size, 0, none⟩ : Addr).add j) = some u := fun j u hu =>
  World.news_of_block (w := (w.alloc (.cells #[a, b, c] e)).drew) (cs := #[a, b, c]) (t := e) (fr := (0, 0)) (heap_alloc_new w _) j u hu
theorem ones3 (k : IntKind) (a b c : Int) : ∀ u ∈ [Value.int k a, Value.int k b, Value.int k c], u.oneCell' = true := by
  intro u hu; simp at hu; rcases hu with rfl | rfl | rfl <;> rfl

end Go.Proofs.YtgmjkkiahanekaaDoor

/- The contracts of path.Decode and the document's At, Decode: the plain walks over escapes, for every text. -/
set_option linter.unusedVariables false
set_option linter.unusedSimpArgs false
namespace Go.Proofs.YtgmjkkiahanekaaDoor
open Go.RowKit Lex

/-! ### the document's -/
def atI (p : UInt8 × Bool) : Int := if p.2 then p.1.toNat else -1

end Go.Proofs.YtgmjkkiahanekaaDoor

/- The contracts of path.Under and Cut and of the document's Under, for every text. -/
set_option linter.unusedVariables false
set_option linter.unusedSimpArgs false
namespace Go.Proofs.YtgmjkkiahanekaaDoor
open Go.RowKit Lex

def underB (p q : List UInt8) : Bool := q.isPrefixOf p && (decide (p.length = q.length) || p[q.length]? == some 47 || q.getLast? == some 47)

theorem suffix_one (q : List UInt8) (c : UInt8) : Lib.hasSuffix q [c] = (q.getLast? == some c) := by
  unfold Lib.hasSuffix
  rw [Bool.eq_iff_iff, List.isSuffixOf_iff_suffix, beq_iff_eq]
  constructor
  · rintro ⟨a, rfl⟩; simp
  · intro h
    rw [List.getLast?_eq_some_iff] at h
    obtain ⟨a, rfl⟩ := h
    exact ⟨a, rfl⟩

/-! ### Cut -/
/-- What stands ahead of the first c, what behind it, and whether there is one. -/
def cutB (l : List UInt8) (c : UInt8) : List UInt8 × List UInt8 × Bool :=
  if 0 ≤ Lib.indexByte l c then (l.take (Lib.indexByte l c).toNat, l.drop ((Lib.indexByte l c).toNat + 1), true) else (l, [], false)

def cutVal (x : List UInt8 × List UInt8 × Bool) : Value := .tuple #[.string (bs x.1), .string (bs x.2.1), .bool x.2.2]

theorem indexByte_lt (l : List UInt8) (c : UInt8) (h : 0 ≤ Lib.indexByte l c) : Lib.indexByte l c < l.length := by
  induction l with
  | nil => simp [Lib.indexByte] at h
  | cons b l ih =>
    simp only [Lib.indexByte] at h ⊢
    split
    · simp
    · rename_i hb
      rw [if_neg hb] at h
      split
      · rename_i h1; rw [if_pos h1] at h; omega
      · rename_i h1; rw [if_neg h1] at h
        have h2 : Lib.indexByte l c ≠ -1 := by simpa using h1
        have := ih (by omega)
        simp; omega

theorem indexByte_ge (l : List UInt8) (c : UInt8) : -1 ≤ Lib.indexByte l c := by
  induction l with
  | nil => simp [Lib.indexByte]
  | cons b l ih => simp only [Lib.indexByte]; split; · omega
                   split <;> omega

theorem ret_cut {a b : ByteArray} {q : Bool} {x : List UInt8 × List UInt8 × Bool} (ha : a.data.toList = x.1) (hb : b.data.toList = x.2.1) (hq : q = x.2.2) : Ending.returned (.tuple #[.string a, .string b, .bool q]) = .returned (cutVal x) := by
  unfold cutVal
  rw [← ha, ← hb, hq, list_bs, list_bs]
theorem Drawn.below {w : World} {n : Nat} : Below w.heap.size w (w.drewN n) := ⟨rfl, rfl, rfl, Nat.le_refl _, fun _ _ => rfl⟩
theorem cell_below {w w1 : World} {a : Addr} {v : Value} (hb : Below w.heap.size w w1) (hc : w.cell? a = some v) : w1.cell? a = some v :=
  (hb.cell (World.block_lt_of_cell? w _ hc)).trans hc
theorem scut_c (s : ByteArray) (c : UInt8) (w : World) (hs : s.size ≤ 140737488351232) : Calls Tryd.prog 67 #[.string s, .string ⟨#[c]⟩] w fun e w' => e = .returned (cutVal (cutB s.data.toList c)) ∧ Below w.heap.size w w' := by
  have K := fun w => Lib.hid ((Tryd.stringslite_Index_one s c w))
  have hge := indexByte_ge s.data.toList c
  have hlt := indexByte_lt s.data.toList c
  rw [size_list] at hlt
  unfold cutB
  generalize Lib.indexByte s.data.toList c = i at *
  by_cases h : 0 ≤ i
  · rw [if_pos h]
    obtain ⟨k, rfl⟩ := Int.eq_ofNat_of_zero_le h
    have hlt := hlt h
    clear hge h
    go_enter Tryd.func67, Tryd.ntmps67
    go_wp2_with (go_at_call 83; refine (K _).out.mono ?_; rintro e w' ⟨rfl, rfl⟩)
    have hw : IntKind.i64.wrap ((k : Int) + 1) = (k : Int) + 1 := IntWalk.i64_in _ (by omega)
    have hk1 : ((k : Int) + 1).toNat = k + 1 := by omega
    have hk2 : 0 ≤ (k : Int) + 1 := by omega
    have hk3 : (k : Int) + 1 ≤ s.size := by omega
    go_quiet (fail)
    clear hw hk1
    go_wp2
    go_ret3
    exact ⟨ret_cut (by rw [Lib.extract_data]; simp) (by rw [Lib.extract_to_end]; simp) rfl, Drawn.below⟩
  · rw [if_neg h]
    have h' : i < 0 := by omega
    clear hge hlt h
    go_enter Tryd.func67, Tryd.ntmps67
    go_wp2_with (go_at_call 83; refine (K _).out.mono ?_; rintro e w' ⟨rfl, rfl⟩)
    go_ret3
    exact ⟨ret_cut rfl rfl rfl, Below.refl _ _⟩

theorem cut_c (s : ByteArray) (c : UInt8) (w : World) (hs : s.size ≤ 140737488351232) : Calls Tryd.prog 54 #[.string s, .string ⟨#[c]⟩] w fun e w' => e = .returned (cutVal (cutB s.data.toList c)) ∧ Below w.heap.size w w' := by
  have K := fun w => Lib.hid (scut_c s c w hs)
  generalize cutB s.data.toList c = x at *
  obtain ⟨a, b, q⟩ := x
  go_enter Tryd.func54, Tryd.ntmps54
  go_wp2_with (go_at_call 67; refine (K _).out.mono ?_; rintro e w' ⟨rfl, hb⟩; simp only [cutVal])
  go_ret3
  exact ⟨rfl, hb⟩

end Go.Proofs.YtgmjkkiahanekaaDoor

/- The walks over LexTexts and LexCase, for all texts. -/
set_option linter.unusedVariables false
set_option linter.unusedSimpArgs false
namespace Go.Proofs.YtgmjkkiahanekaaDoor
open Go.RowKit Lex

theorem below_then {W w1 w2 : World} (h : Below W.heap.size W w1) (k : Below w1.heap.size w1 w2) : Below W.heap.size W w2 := h.trans (k.mono h.size)
theorem bs_sz (l : List UInt8) : (bs l).size = l.length := rfl

end Go.Proofs.YtgmjkkiahanekaaDoor

