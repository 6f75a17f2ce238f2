/- The contract of lex.Trim; the laws' anchor; the walks over LexNumbers and LexShifts, for every text. -/
import Derived.Test.YtmlmgpphkiikaaaDoorLexC
import Derived.Test.YtmlmgpphkiikaaaDoorLexP
import Derived.Shelf.Strings.SlTrimAscii
import Derived.ShutString
set_option linter.unusedVariables false
set_option linter.unusedSimpArgs false
namespace Go.Proofs.YtmlmgpphkiikaaaDoor
open Go.RowKit Lex



theorem trim_c (s : ByteArray) (w : World) (hs : s.size ≤ 9223372036854775807) : Calls Tryd.prog 23 #[.string s] w fun e w' => e = .returned (.string (bs (trim s.data.toList))) ∧ Below w.heap.size w w' := by
  have K := Lib.hid (Go.Proofs.Any.strings_Trim_laid Tryd.lays160 (by kernel_rfl) s ⟨#[32, 9]⟩ w hs (by decide) (Go.Proofs.ascii_of_all (by decide)))
  go_enter Tryd.func23, Tryd.ntmps23
  go_wp2_with (go_at_call 48; refine K.out.mono ?_; rintro e w' ⟨rfl, hb⟩)
  go_ret
  exact ⟨rfl, hb⟩

theorem anchor_c (w : World) : Calls Tryd.prog 14 #[] w fun e w' => e = .returned (.bool true) ∧ Below w.heap.size w w' := by
  have HX := fun w => Lib.hid (hex_c ⟨#[102, 70]⟩ 8 w)
  have e0 : hex (⟨#[102, 70]⟩ : ByteArray).data.toList 8 = (255, true) := by decide
  rw [e0] at HX
  have T1 := fun w => Lib.hid (token_c ⟨#[71, 69, 84]⟩ w (by decide))
  have e1 : token (⟨#[71, 69, 84]⟩ : ByteArray).data.toList = true := by decide
  rw [e1] at T1
  have T2 := fun w => Lib.hid (token_c ⟨#[97, 32, 98]⟩ w (by decide))
  have e2 : token (⟨#[97, 32, 98]⟩ : ByteArray).data.toList = false := by decide
  rw [e2] at T2
  have T3 := fun w => Lib.hid (trim_c ⟨#[32, 97, 9]⟩ w (by decide))
  have e3 : trim (⟨#[32, 97, 9]⟩ : ByteArray).data.toList = [97] := by decide
  rw [e3] at T3
  clear e0 e1 e2 e3
  go_enter Tryd.func14, Tryd.ntmps14
  go_wp2_with fail
  refine (HX _).out.mono ?_
  rintro e w1 ⟨rfl, rfl⟩
  go_wp2_with fail
  refine (T1 _).out.mono ?_
  rintro e w1 ⟨rfl, rfl⟩
  go_wp2_with fail
  refine (T2 _).out.mono ?_
  rintro e w1 ⟨rfl, rfl⟩
  go_wp2_with fail
  refine (T3 _).out.mono ?_
  rintro e w1 ⟨rfl, hb⟩
  go_wp2
  go_ret
  exact ⟨rfl, hb⟩

theorem numbers_walk (s : ByteArray) (_ : s.size ≤ 140737488351232) (d : Int) (_ : (Lit.int .i64 d).wf = true) (W : World) {w : World} (hW : W = w) :
    Calls Tryd.prog 3 #[.string s, .int .i64 d] W fun e w' => e = .returned (.bool true) ∧ Below W.heap.size W w' := by
  subst hW
  have A := fun w => Lib.hid (anchor_c w)
  have K1 := fun w => Lib.hid (decimal_c s d w)
  have K2 := fun w => Lib.hid (rdecimal_c s d w)
  have K3 := fun w => Lib.hid (hex_c s d w)
  have K4 := fun w => Lib.hid (rhex_c s d w)
  generalize decimal s.data.toList d = x at *
  generalize hex s.data.toList d = y at *
  obtain ⟨x1, x2⟩ := x
  obtain ⟨y1, y2⟩ := y
  simp only at K1 K2 K3 K4
  go_enter Tryd.func3, Tryd.ntmps3
  go_wp2_with fail
  refine (A _).out.mono ?_
  rintro e w1 ⟨rfl, hb⟩
  go_wp2_with fail
  refine (K1 _).out.mono ?_
  rintro e w2 ⟨rfl, rfl⟩
  go_wp2_with fail
  refine (K2 _).out.mono ?_
  rintro e w2 ⟨rfl, rfl⟩
  go_wp2_with fail
  refine (K3 _).out.mono ?_
  rintro e w2 ⟨rfl, rfl⟩
  go_wp2_with fail
  refine (K4 _).out.mono ?_
  rintro e w2 ⟨rfl, rfl⟩
  go_wp2
  go_ret
  exact ⟨ret_bool (by simp), hb⟩

/-! ### LexShifts -/
theorem decimal_snoc (l : List UInt8) (c : UInt8) (hd : digitI c.toNat = true) {n : Int} (h : decimal l 17 = (n, true)) : decimal (l ++ [c]) 18 = (n * 10 + (c.toNat - 48), true) := by
  unfold decimal number at *
  rw [if_neg (by omega : ¬ (18 : Int) < 17)] at h
  rw [if_neg (by omega : ¬ (18 : Int) < 18)]
  split at h
  · cases h
  · rename_i hc
    have hw := worth_digit hd
    rw [if_neg ?_]
    · injection h with h1 _
      rw [num_snoc, h1, hw.1]
    · intro hh
      rcases hh with hh | hh | hh
      · simp at hh
      · apply hc; right; left; simp at hh; omega
      · apply hc; right; right
        rw [List.all_append] at hh
        have : ([c].all fun c => decide (worth c < 10)) = true := by simp; omega
        rw [this, Bool.and_true] at hh
        exact hh
theorem hex_snoc (l : List UInt8) (c : UInt8) (hd : digitI c.toNat = true) {n : Int} (h : hex l 14 = (n, true)) : hex (l ++ [c]) 15 = (n * 16 + (c.toNat - 48), true) := by
  unfold hex number at *
  rw [if_neg (by omega : ¬ (15 : Int) < 14)] at h
  rw [if_neg (by omega : ¬ (15 : Int) < 15)]
  split at h
  · cases h
  · rename_i hc
    have hw := worth_digit hd
    rw [if_neg ?_]
    · injection h with h1 _
      rw [num_snoc, h1, hw.1]
    · intro hh
      rcases hh with hh | hh | hh
      · simp at hh
      · apply hc; right; left; simp at hh; omega
      · apply hc; right; right
        rw [List.all_append] at hh
        have : ([c].all fun c => decide (worth c < 16)) = true := by simp; omega
        rw [this, Bool.and_true] at hh
        exact hh
theorem decimal_hex {l : List UInt8} {n : Int} (h : decimal l 17 = (n, true)) (hl : l.length ≤ 14) : (hex l 14).2 = true := by
  unfold decimal hex number at *
  rw [if_neg (by omega : ¬ (18 : Int) < 17)] at h
  rw [if_neg (by omega : ¬ (15 : Int) < 14)]
  split at h
  · cases h
  · rename_i hc
    rw [if_neg ?_]
    intro hh
    rcases hh with hh | hh | hh
    · exact hc (.inl hh)
    · omega
    · apply hc; right; right
      rw [← Bool.not_eq_true] at hh ⊢
      intro ha
      apply hh
      rw [List.all_eq_true] at ha ⊢
      intro c hm
      have := ha c hm
      simp at this ⊢
      omega
theorem decimal_bound {l : List UInt8} {n : Int} (h : decimal l 17 = (n, true)) : 0 ≤ n ∧ n < 100000000000000000 := by
  unfold decimal number at h
  rw [if_neg (by omega : ¬ (18 : Int) < 17)] at h
  split at h
  · cases h
  · rename_i hc
    injection h with h1 _
    have ha : (l.all fun c => decide (worth c < 10)) = true := by rw [← Bool.not_eq_false]; exact fun hh => hc (.inr (.inr hh))
    have hl : l.length ≤ 17 := by have : ¬ (17 : Int) < l.length := fun hh => hc (.inr (.inl hh)); omega
    have h1' := num_bound 10 (by omega) l ha
    have := pow_le17 10 l.length (.inl ⟨rfl, hl⟩)
    omega
theorem hex_bound {l : List UInt8} {n : Int} (h : hex l 14 = (n, true)) : 0 ≤ n ∧ n < 100000000000000000 := by
  unfold hex number at h
  rw [if_neg (by omega : ¬ (15 : Int) < 14)] at h
  split at h
  · cases h
  · rename_i hc
    injection h with h1 _
    have ha : (l.all fun c => decide (worth c < 16)) = true := by rw [← Bool.not_eq_false]; exact fun hh => hc (.inr (.inr hh))
    have hl : l.length ≤ 14 := by have : ¬ (14 : Int) < l.length := fun hh => hc (.inr (.inl hh)); omega
    have h1' := num_bound 16 (by omega) l ha
    have := pow_le17 16 l.length (.inr ⟨rfl, hl⟩)
    omega

end Go.Proofs.YtmlmgpphkiikaaaDoor
