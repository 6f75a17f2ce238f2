/- The contracts of the document's Plain, hex and Escapes, for every text. -/
import Derived.Test.YtbjcbdgkgbjaiaaDoorPathI
import Derived.Deep.RegionLaw
import Derived.Deep.AppendLies
import Derived.BigRegion
set_option linter.unusedVariables false
set_option linter.unusedSimpArgs false
namespace Go.Proofs.YtbjcbdgkgbjaiaaDoor
open Go.RowKit Lex

def plainI (z : Int) : Bool := decide (z = 45 ∨ z = 46 ∨ z = 95 ∨ z = 126 ∨ (48 ≤ z ∧ z ≤ 57) ∨ (65 ≤ z ∧ z ≤ 90) ∨ (97 ≤ z ∧ z ≤ 122))
theorem plainB_int (n : UInt8) : plainB n = plainI n.toNat := by
  have key : ∀ n : Fin 256, plainB (UInt8.ofNat n.val) = plainI (UInt8.ofNat n.val).toNat := by decide +kernel
  have h := key ⟨n.toNat, n.toNat_lt⟩
  simpa using h

def escapes (l : List UInt8) : Option (List UInt8) := if l.head? = some 47 then unesc l else none

end Go.Proofs.YtbjcbdgkgbjaiaaDoor
