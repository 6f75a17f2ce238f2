/- The texts OutM in one. -/
import Derived.Test.YtgmjkkiahanekaaDoorM28
/- The plain law of OutflowBack: a body framed by its length or up to the end comes out as it is. -/
set_option linter.unusedVariables false
set_option linter.unusedSimpArgs false
namespace Go.Proofs.YtgmjkkiahanekaaDoor
open Lex

def okLine : List UInt8 := [72, 84, 84, 80, 47, 49, 46, 49, 32, 50, 48, 48, 32, 79, 75, 13, 10]
def getM : List UInt8 := [71, 69, 84]
def lenHead (n : Nat) : List UInt8 := okLine ++ ([67, 111, 110, 116, 101, 110, 116, 45, 76, 101, 110, 103, 116, 104, 58, 32] ++ digF 5 n ++ [13, 10, 13, 10])
def endHead : List UInt8 := okLine ++ [13, 10]
def chHead : List UInt8 := okLine ++ [84, 114, 97, 110, 115, 102, 101, 114, 45, 69, 110, 99, 111, 100, 105, 110, 103, 58, 32, 99, 104, 117, 110, 107, 101, 100, 13, 10, 13, 10]
/-- The head reads whole, its status is 200, its body is framed so. -/
def framed (B : List UInt8) (k l : Int) : Bool :=
  decide ((readAt statusL B).2.2 = 0) && decide ((readAt statusL B).2.1 = B.length) && decide ((readAt statusL B).1.status = 200)
   && decide (respF getM (readAt statusL B).1.status (readAt statusL B).1.minor (readAt statusL B).1.fields = (k, l, 0))
theorem framed_end : framed endHead 4 0 = true := by decide +kernel
theorem framed_ch : framed chHead 3 0 = true := by decide +kernel
def framedTo (a : Nat) : Bool := (List.range 100).all fun b => framed (lenHead (a * 100 + b)) 2 ((a * 100 + b : Nat) : Int)
def framedK (i : Nat) : Bool := (List.range 10).all fun a => framedTo (i * 10 + a)
theorem framed_0 : framedK 0 = true := by kernel_rfl
theorem framed_1 : framedK 1 = true := by kernel_rfl
theorem framed_2 : framedK 2 = true := by kernel_rfl
theorem framed_3 : framedK 3 = true := by kernel_rfl
theorem framed_4 : framedK 4 = true := by kernel_rfl
theorem framed_5 : framedK 5 = true := by kernel_rfl
theorem framed_6 : framedK 6 = true := by kernel_rfl
theorem framed_7 : framedK 7 = true := by kernel_rfl
theorem framed_8 : framedK 8 = true := by kernel_rfl
theorem framed_9 : framedK 9 = true := by kernel_rfl
theorem framed_10 : framedK 10 = true := by kernel_rfl
theorem framedK_all (i : Nat) (h : i ≤ 10) : framedK i = true := by
  rcases (by omega : i = 0 ∨ i = 1 ∨ i = 2 ∨ i = 3 ∨ i = 4 ∨ i = 5 ∨ i = 6 ∨ i = 7 ∨ i = 8 ∨ i = 9 ∨ i = 10) with rfl | rfl | rfl | rfl | rfl | rfl | rfl | rfl | rfl | rfl | rfl
  · exact framed_0
  · exact framed_1
  · exact framed_2
  · exact framed_3
  · exact framed_4
  · exact framed_5
  · exact framed_6
  · exact framed_7
  · exact framed_8
  · exact framed_9
  · exact framed_10
theorem framed_len (n : Nat) (h : n ≤ 10000) : framed (lenHead n) 2 (n : Int) = true := by
  have h0 := List.all_eq_true.1 (framedK_all (n / 1000) (by omega)) (n / 100 % 10) (List.mem_range.2 (by omega))
  have h2 := List.all_eq_true.1 h0 (n % 100) (List.mem_range.2 (by omega))
  rwa [show (n / 1000 * 10 + n / 100 % 10) * 100 + n % 100 = n by omega] at h2
end Go.Proofs.YtgmjkkiahanekaaDoor

