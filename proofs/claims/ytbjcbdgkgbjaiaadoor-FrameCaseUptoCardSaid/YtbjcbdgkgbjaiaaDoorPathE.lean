/- The contracts of path.Under and Cut and of the document's Under, for every text. -/
import Derived.Test.YtbjcbdgkgbjaiaaDoorPathD
import Derived.IntWalk
import Derived.Deep.QuietTactic
import Derived.BigQuiet
set_option linter.unusedVariables false
set_option linter.unusedSimpArgs false
namespace Go.Proofs.YtbjcbdgkgbjaiaaDoor
open Go.RowKit Lex

def underB (p q : List UInt8) : Bool := q.isPrefixOf p && (decide (p.length = q.length) || p[q.length]? == some 47 || q.getLast? == some 47)

theorem suffix_one (q : List UInt8) (c : UInt8) : Lib.hasSuffix q [c] = (q.getLast? == some c) := by
  unfold Lib.hasSuffix
  rw [Bool.eq_iff_iff, List.isSuffixOf_iff_suffix, beq_iff_eq]
  constructor
  · rintro ⟨a, rfl⟩; simp
  · intro h
    rw [List.getLast?_eq_some_iff] at h
    obtain ⟨a, rfl⟩ := h
    exact ⟨a, rfl⟩

/-! ### Cut -/
/-- What stands ahead of the first c, what behind it, and whether there is one. -/
def cutB (l : List UInt8) (c : UInt8) : List UInt8 × List UInt8 × Bool :=
  if 0 ≤ Lib.indexByte l c then (l.take (Lib.indexByte l c).toNat, l.drop ((Lib.indexByte l c).toNat + 1), true) else (l, [], false)

def cutVal (x : List UInt8 × List UInt8 × Bool) : Value := .tuple #[.string (bs x.1), .string (bs x.2.1), .bool x.2.2]

theorem indexByte_lt (l : List UInt8) (c : UInt8) (h : 0 ≤ Lib.indexByte l c) : Lib.indexByte l c < l.length := by
  induction l with
  | nil => simp [Lib.indexByte] at h
  | cons b l ih =>
    simp only [Lib.indexByte] at h ⊢
    split
    · simp
    · rename_i hb
      rw [if_neg hb] at h
      split
      · rename_i h1; rw [if_pos h1] at h; omega
      · rename_i h1; rw [if_neg h1] at h
        have h2 : Lib.indexByte l c ≠ -1 := by simpa using h1
        have := ih (by omega)
        simp; omega

theorem indexByte_ge (l : List UInt8) (c : UInt8) : -1 ≤ Lib.indexByte l c := by
  induction l with
  | nil => simp [Lib.indexByte]
  | cons b l ih => simp only [Lib.indexByte]; split; · omega
                   split <;> omega

theorem ret_cut {a b : ByteArray} {q : Bool} {x : List UInt8 × List UInt8 × Bool} (ha : a.data.toList = x.1) (hb : b.data.toList = x.2.1) (hq : q = x.2.2) : Ending.returned (.tuple #[.string a, .string b, .bool q]) = .returned (cutVal x) := by
  unfold cutVal
  rw [← ha, ← hb, hq, list_bs, list_bs]
theorem Drawn.below {w : World} {n : Nat} : Below w.heap.size w (w.drewN n) := ⟨rfl, rfl, rfl, Nat.le_refl _, fun _ _ => rfl⟩
theorem cell_below {w w1 : World} {a : Addr} {v : Value} (hb : Below w.heap.size w w1) (hc : w.cell? a = some v) : w1.cell? a = some v :=
  (hb.cell (World.block_lt_of_cell? w _ hc)).trans hc
end Go.Proofs.YtbjcbdgkgbjaiaaDoor
