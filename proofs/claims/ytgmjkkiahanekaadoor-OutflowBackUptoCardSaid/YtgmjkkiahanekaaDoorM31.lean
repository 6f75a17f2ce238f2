/- The texts EncA in one. -/
import Derived.Test.YtgmjkkiahanekaaDoorM0
/- The words for an encoded chunk: its size in hexadecimal digits, the line's end, the bytes, the line's end. -/
set_option linter.unusedVariables false
namespace Go.Proofs.YtgmjkkiahanekaaDoor
open Lex

def hx (n : Nat) : UInt8 := if n < 10 then UInt8.ofNat (48 + n) else UInt8.ofNat (87 + n)
/-- The digits of k + 1 rounds, without those that lead with nothing. -/
def hexR : Nat → Nat → List UInt8
  | 0, _ => []
  | k + 1, n => if n / 16 ^ k % 16 = 0 ∧ n / 16 ^ k / 16 = 0 then hexR k n else hxs (k + 1) n
where hxs : Nat → Nat → List UInt8
  | 0, _ => []
  | k + 1, n => hx (n / 16 ^ k % 16) :: hxs k n
def encL (b : List UInt8) : List UInt8 := if b = [] then [] else hexR 8 b.length ++ [13, 10] ++ b ++ [13, 10]
end Go.Proofs.YtgmjkkiahanekaaDoor

