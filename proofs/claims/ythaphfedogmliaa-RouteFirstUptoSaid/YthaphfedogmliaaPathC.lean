/- The contracts of path.unescape and path.Decode: the plain walks over escapes, for every text. -/
import Derived.Test.YthaphfedogmliaaPathB
import Derived.Deep.RegionLaw
import Derived.Deep.AppendLies
import Derived.BigRegion
set_option linter.unusedVariables false
set_option linter.unusedSimpArgs false
namespace Go.Proofs.Ythaphfedogmliaa
open Go.RowKit Lex

theorem nat8_snoc (o : List UInt8) (l : List UInt8) : nums8 (nat8 (o ++ l)) = nums8 (nat8 o) ++ l.map fun c => Value.int .u8 (c.toNat : Int) := by
  simp [nums8, nat8, Function.comp_def]

theorem badU_cases {c : UInt8} (h : badU c = true) : (c.toNat : Int) < 33 ∨ (¬ (c.toNat : Int) < 33 ∧ 126 < (c.toNat : Int)) ∨ (¬ (c.toNat : Int) < 33 ∧ ¬ 126 < (c.toNat : Int) ∧ (c.toNat : Int) = 63) ∨ (¬ (c.toNat : Int) < 33 ∧ ¬ 126 < (c.toNat : Int) ∧ ¬ (c.toNat : Int) = 63 ∧ (c.toNat : Int) = 35) := by
  simp [badU] at h; omega
theorem badU_not {c : UInt8} (h : badU c = false) : ¬ (c.toNat : Int) < 33 ∧ ¬ 126 < (c.toNat : Int) ∧ ¬ (c.toNat : Int) = 63 ∧ ¬ (c.toNat : Int) = 35 := by
  simp [badU] at h; omega
theorem ne37 {c : UInt8} : c ≠ 37 ↔ ¬ (c.toNat : Int) = 37 := by
  rw [ne_eq, ← UInt8.toNat_inj]; simp; omega

def optStr (o : Option (List UInt8)) : Value := .tuple #[.string (bs (o.getD [])), .bool o.isSome]

theorem own_drew {w : World} {B : Nat} {e : TypeId} {z : Nat} {v : Value} {n : Nat} {xs : List Value} (h : w.ownsRow B e z v n xs) : w.drew.ownsRow B e z v n xs := h
theorem news3 (w : World) (a b c : Value) (e : TypeId) : ∀ j u, [a, b, c][j]? = some u → (w.alloc (.cells #[a, b, c] e)).drew.cell? ((⟨w.heap.size, 0, none⟩ : Addr).add j) = some u := fun j u hu =>
  World.news_of_block (w := (w.alloc (.cells #[a, b, c] e)).drew) (cs := #[a, b, c]) (t := e) (fr := (0, 0)) (heap_alloc_new w _) j u hu
theorem ones3 (k : IntKind) (a b c : Int) : ∀ u ∈ [Value.int k a, Value.int k b, Value.int k c], u.oneCell' = true := by
  intro u hu; simp at hu; rcases hu with rfl | rfl | rfl <;> rfl

end Go.Proofs.Ythaphfedogmliaa
