/- The contracts of lex.letter, digit, Token, Decimal and Hex, and of the document's Marks, Token, number, Decimal and Hex: each answers what the plain words of LexA say, for every text; the world is as it was. -/
import Derived.Test.YtbjcbdgkgbjaiaaDoorLexA
import Derived.Test.YtbjcbdgkgbjaiaaDoorShelf
import Derived.WalkKit
import Derived.WalkLawsBesides
import Derived.WalkSpells
import Derived.Tactics
import Derived.Tactics2
import Derived.LoopTactic
import Derived.Outline
import Derived.Below
import Derived.Lib.Hide
set_option linter.unusedVariables false
set_option linter.unusedSimpArgs false
namespace Go.Proofs.YtbjcbdgkgbjaiaaDoor
open Go.RowKit Lex

theorem ret_int {k : IntKind} {a b : Int} (h : a = b) : Ending.returned (.int k a) = .returned (.int k b) := by rw [h]
theorem ret_bool {a b : Bool} (h : a = b) : Ending.returned (.bool a) = .returned (.bool b) := by rw [h]

theorem digit_c (n : Int) (w : World) : Calls Tryd.prog 46 #[.int .u8 n] w fun e w' => e = .returned (.bool (digitI n)) ∧ w = w' := by
  go_enter Tryd.func46, Tryd.ntmps46
  go_wp2
  all_goals
    go_ret
    exact ⟨ret_bool (by unfold digitI; rw [Bool.eq_iff_iff]; simp <;> omega), rfl⟩

theorem indexByte_neg (l : List UInt8) (c : UInt8) : (Lib.indexByte l c < 0) ↔ l.contains c = false := by
  induction l with
  | nil => simp [Lib.indexByte]
  | cons b l ih =>
    simp only [Lib.indexByte]
    by_cases hb : b = c
    · subst hb; simp
    · have h1 : (b == c) = false := by simpa using hb
      have h2 : (c == b) = false := by simpa using fun h => hb h.symm
      rw [if_neg (by simp [h1])]
      have e : (b :: l).contains c = l.contains c := by rw [List.contains_cons, h2, Bool.false_or]
      rw [e, ← ih]
      have hge : Lib.indexByte l c = -1 ∨ 0 ≤ Lib.indexByte l c := by
        clear ih e
        induction l with
        | nil => left; rfl
        | cons d l ih =>
          simp only [Lib.indexByte]
          split
          · right; omega
          · split
            · left; rfl
            · right; rcases ih with h | h
              · rename_i h3; rw [h] at h3; simp at h3
              · omega
      split
      · rename_i h; have : Lib.indexByte l c = -1 := by simpa using h
        omega
      · rename_i h
        have : Lib.indexByte l c ≠ -1 := by simpa using h
        omega

theorem marks_c (c : UInt8) (w : World) :
    Calls Tryd.prog 76 #[.string ⟨#[33, 35, 36, 37, 38, 39, 42, 43, 45, 46, 94, 95, 124, 126, 96]⟩, .int .u8 c.toNat] w fun e w' => e = .returned (.int .i64 (Lib.indexByte marks c)) ∧ w = w' :=
  (Tryd.strings_IndexByte ⟨#[33, 35, 36, 37, 38, 39, 42, 43, 45, 46, 94, 95, 124, 126, 96]⟩ c.toNat w).mono fun e w' ⟨he, hw⟩ => ⟨by rw [he]; simp [marks], hw.symm⟩

/-! ### the document's -/
end Go.Proofs.YtbjcbdgkgbjaiaaDoor
