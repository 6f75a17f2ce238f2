/- The contract of lex.Trim; the laws' anchor; the walks over LexNumbers and LexShifts, for every text. -/
import Derived.Test.YthaphfedogmliaaLexC
import Derived.Test.YthaphfedogmliaaLexP
import Derived.Shelf.Strings.SlTrimAscii
import Derived.ShutString
set_option linter.unusedVariables false
set_option linter.unusedSimpArgs false
namespace Go.Proofs.Ythaphfedogmliaa
open Go.RowKit Lex



/-! ### LexShifts -/
theorem decimal_snoc (l : List UInt8) (c : UInt8) (hd : digitI c.toNat = true) {n : Int} (h : decimal l 17 = (n, true)) : decimal (l ++ [c]) 18 = (n * 10 + (c.toNat - 48), true) := by
  unfold decimal number at *
  rw [if_neg (by omega : ¬ (18 : Int) < 17)] at h
  rw [if_neg (by omega : ¬ (18 : Int) < 18)]
  split at h
  · cases h
  · rename_i hc
    have hw := worth_digit hd
    rw [if_neg ?_]
    · injection h with h1 _
      rw [num_snoc, h1, hw.1]
    · intro hh
      rcases hh with hh | hh | hh
      · simp at hh
      · apply hc; right; left; simp at hh; omega
      · apply hc; right; right
        rw [List.all_append] at hh
        have : ([c].all fun c => decide (worth c < 10)) = true := by simp; omega
        rw [this, Bool.and_true] at hh
        exact hh
theorem hex_snoc (l : List UInt8) (c : UInt8) (hd : digitI c.toNat = true) {n : Int} (h : hex l 14 = (n, true)) : hex (l ++ [c]) 15 = (n * 16 + (c.toNat - 48), true) := by
  unfold hex number at *
  rw [if_neg (by omega : ¬ (15 : Int) < 14)] at h
  rw [if_neg (by omega : ¬ (15 : Int) < 15)]
  split at h
  · cases h
  · rename_i hc
    have hw := worth_digit hd
    rw [if_neg ?_]
    · injection h with h1 _
      rw [num_snoc, h1, hw.1]
    · intro hh
      rcases hh with hh | hh | hh
      · simp at hh
      · apply hc; right; left; simp at hh; omega
      · apply hc; right; right
        rw [List.all_append] at hh
        have : ([c].all fun c => decide (worth c < 16)) = true := by simp; omega
        rw [this, Bool.and_true] at hh
        exact hh
theorem decimal_hex {l : List UInt8} {n : Int} (h : decimal l 17 = (n, true)) (hl : l.length ≤ 14) : (hex l 14).2 = true := by
  unfold decimal hex number at *
  rw [if_neg (by omega : ¬ (18 : Int) < 17)] at h
  rw [if_neg (by omega : ¬ (15 : Int) < 14)]
  split at h
  · cases h
  · rename_i hc
    rw [if_neg ?_]
    intro hh
    rcases hh with hh | hh | hh
    · exact hc (.inl hh)
    · omega
    · apply hc; right; right
      rw [← Bool.not_eq_true] at hh ⊢
      intro ha
      apply hh
      rw [List.all_eq_true] at ha ⊢
      intro c hm
      have := ha c hm
      simp at this ⊢
      omega
theorem decimal_bound {l : List UInt8} {n : Int} (h : decimal l 17 = (n, true)) : 0 ≤ n ∧ n < 100000000000000000 := by
  unfold decimal number at h
  rw [if_neg (by omega : ¬ (18 : Int) < 17)] at h
  split at h
  · cases h
  · rename_i hc
    injection h with h1 _
    have ha : (l.all fun c => decide (worth c < 10)) = true := by rw [← Bool.not_eq_false]; exact fun hh => hc (.inr (.inr hh))
    have hl : l.length ≤ 17 := by have : ¬ (17 : Int) < l.length := fun hh => hc (.inr (.inl hh)); omega
    have h1' := num_bound 10 (by omega) l ha
    have := pow_le17 10 l.length (.inl ⟨rfl, hl⟩)
    omega
theorem hex_bound {l : List UInt8} {n : Int} (h : hex l 14 = (n, true)) : 0 ≤ n ∧ n < 100000000000000000 := by
  unfold hex number at h
  rw [if_neg (by omega : ¬ (15 : Int) < 14)] at h
  split at h
  · cases h
  · rename_i hc
    injection h with h1 _
    have ha : (l.all fun c => decide (worth c < 16)) = true := by rw [← Bool.not_eq_false]; exact fun hh => hc (.inr (.inr hh))
    have hl : l.length ≤ 14 := by have : ¬ (14 : Int) < l.length := fun hh => hc (.inr (.inl hh)); omega
    have h1' := num_bound 16 (by omega) l ha
    have := pow_le17 16 l.length (.inr ⟨rfl, hl⟩)
    omega

end Go.Proofs.Ythaphfedogmliaa
