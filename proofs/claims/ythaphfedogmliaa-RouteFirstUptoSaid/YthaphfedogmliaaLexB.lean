/- The contracts of lex.letter, digit, Token, Decimal and Hex, and of the document's Marks, Token, number, Decimal and Hex: each answers what the plain words of LexA say, for every text; the world is as it was. -/
import Derived.Test.YthaphfedogmliaaLexA
import Derived.Lib.Bytealg
import Derived.Lib.IndexMore
import Derived.Lib.Split
import Derived.Test.YthaphfedogmliaaShelf
import Derived.WalkKit
import Derived.WalkLawsBesides
import Derived.WalkSpells
import Derived.Tactics
import Derived.Tactics2
import Derived.LoopTactic
import Derived.Outline
import Derived.Below
import Derived.Lib.Hide
set_option linter.unusedVariables false
set_option linter.unusedSimpArgs false
namespace Go.Proofs.Ythaphfedogmliaa
open Go.RowKit Lex

theorem ret_int {k : IntKind} {a b : Int} (h : a = b) : Ending.returned (.int k a) = .returned (.int k b) := by rw [h]
theorem ret_bool {a b : Bool} (h : a = b) : Ending.returned (.bool a) = .returned (.bool b) := by rw [h]

theorem indexByte_neg (l : List UInt8) (c : UInt8) : (Lib.indexByte l c < 0) ↔ l.contains c = false := by
  induction l with
  | nil => simp [Lib.indexByte]
  | cons b l ih =>
    simp only [Lib.indexByte]
    by_cases hb : b = c
    · subst hb; simp
    · have h1 : (b == c) = false := by simpa using hb
      have h2 : (c == b) = false := by simpa using fun h => hb h.symm
      rw [if_neg (by simp [h1])]
      have e : (b :: l).contains c = l.contains c := by rw [List.contains_cons, h2, Bool.false_or]
      rw [e, ← ih]
      have hge : Lib.indexByte l c = -1 ∨ 0 ≤ Lib.indexByte l c := by
        clear ih e
        induction l with
        | nil => left; rfl
        | cons d l ih =>
          simp only [Lib.indexByte]
          split
          · right; omega
          · split
            · left; rfl
            · right; rcases ih with h | h
              · rename_i h3; rw [h] at h3; simp at h3
              · omega
      split
      · rename_i h; have : Lib.indexByte l c = -1 := by simpa using h
        omega
      · rename_i h
        have : Lib.indexByte l c ≠ -1 := by simpa using h
        omega

/-! ### the document's -/
theorem rmarks_c (c : UInt8) (w : World) : Calls Try.prog 41 #[.int .u8 c.toNat] w fun e w' => e = .returned (.bool (tmark c)) ∧ w = w' := by
  have hc := c.toNat_lt
  have hm : tmark c = (letterI c.toNat || digitI c.toNat || decide ((c.toNat : Int) = 33 ∨ (c.toNat : Int) = 35 ∨ (c.toNat : Int) = 36 ∨ (c.toNat : Int) = 37 ∨ (c.toNat : Int) = 38 ∨ (c.toNat : Int) = 39 ∨ (c.toNat : Int) = 42 ∨ (c.toNat : Int) = 43 ∨ (c.toNat : Int) = 45 ∨ (c.toNat : Int) = 46 ∨ (c.toNat : Int) = 94 ∨ (c.toNat : Int) = 95 ∨ (c.toNat : Int) = 96 ∨ (c.toNat : Int) = 124 ∨ (c.toNat : Int) = 126)) := by
    unfold tmark letter digit
    congr 1
    rw [Bool.eq_iff_iff]
    simp only [marks, List.contains_cons, List.contains_nil, Bool.or_false, Bool.or_eq_true, beq_iff_eq, decide_eq_true_eq, ← UInt8.toNat_inj]
    simp only [UInt8.reduceToNat]
    omega
  have HM := Lib.hid hm
  clear hm hc
  generalize tmark c = q at *
  generalize (c.toNat : Int) = n at *
  go_enter Try.func41, Try.ntmps41
  go_wp2
  all_goals go_ret
  all_goals exact ⟨ret_bool (by
    rw [HM.out, Bool.eq_iff_iff]
    simp only [beq_iff_eq, beq_eq_false_iff_ne, ne_eq] at *
    simp [letterI, digitI] <;> omega), rfl⟩

theorem rtoken_c (s : ByteArray) (w : World) (hs : s.size ≤ 9223372036854775807) : Calls Try.prog 28 #[.string s] w fun e w' => e = .returned (.bool (token s.data.toList)) ∧ w = w' := by
  go_enter Try.func28, Try.ntmps28
  go_wp2
  go_loop [3] (fun i => ∃ k : Nat, k ≤ s.size ∧ i = .int .i64 k ∧ (s.data.toList.take k).all tmark = true) (fun i => s.size - (intOf i).toNat)
  case atStart => exact ⟨0, Nat.zero_le _, rfl, by simp⟩
  case round =>
    obtain ⟨k, hk, rfl, ha⟩ := hrel
    have HA := Lib.hid ha
    clear ha
    by_cases hlt : k < s.size
    · cases hm : tmark s[k] with
      | true =>
        go_wp2_with (go_at_call 41; refine (rmarks_c _ _).mono ?_; rintro e w' ⟨rfl, rfl⟩)
        go_round
        case rel => exact ⟨k + 1, by omega, by go_num, all_take_snoc _ s k hlt HA.out hm⟩
        case measure => simp [intOf]; omega
      | false =>
        have HM := Lib.hid (all_of_take tmark s k hlt hm)
        go_wp2_with (go_at_call 41; refine (rmarks_c _ _).mono ?_; rintro e w' ⟨rfl, rfl⟩)
        go_ret
        exact ⟨ret_bool (by unfold token; rw [HM.out]; simp), rfl⟩
    · go_wp2
      go_ret
      exact ⟨ret_bool (by
        have h := HA.out; rw [take_all s k hlt] at h; unfold token; rw [h]
        rw [isEmpty_size, Bool.and_true, Bool.eq_iff_iff]; simp only [decide_eq_true_eq, Bool.not_eq_true', decide_eq_false_iff_not]; omega), rfl⟩

end Go.Proofs.Ythaphfedogmliaa
