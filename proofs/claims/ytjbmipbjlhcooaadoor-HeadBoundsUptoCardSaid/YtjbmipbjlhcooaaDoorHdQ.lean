/- The texts of HeadBounds, case by case; no program in sight. -/
import Derived.Test.YtjbmipbjlhcooaaDoorHdM
set_option linter.unusedVariables false
set_option linter.unusedSimpArgs false
namespace Go.Proofs.YtjbmipbjlhcooaaDoor
open Lex

def sL0 (n : Nat) : List UInt8 := getL (aas n)
def sL1 (n : Nat) : List UInt8 := getL (aas 0) ++ 13 :: 10 :: xf (aas n)
def sL2 (k : Nat) : List UInt8 := getL (aas 0) ++ 13 :: 10 :: (xys k ++ xf [121])
theorem aas_lb (n : Nat) : (aas n).all lb = true := all_aas (by decide) n
theorem aas_okv (n : Nat) : (aas n).all okv = true := all_aas (by decide) n
theorem b0_long (n : Nat) (h : 1086 < n) : readL true startL (sL0 n) = ({}, 0, 82) := by
  have := first_long n [] h; rw [List.append_nil] at this; exact this
theorem b0_longE (n : Nat) (h : 1086 < n) : readL true startL (sL0 n ++ [13, 10]) = ({}, 0, 82) := first_long n [13, 10] h
theorem b0_part : readL true startL (sL0 1086) = ({}, 0, 0) := first_part 1086 (Nat.le_refl _)
theorem b0_partE : readL true startL (sL0 1086 ++ [13, 10]) = ({}, 0, 0) := first_fields 1086 [] (Nat.le_refl _) 0 (fields_nil 32)
theorem b0_whole : ∃ h : Hd, h.method = [71, 69, 84] ∧ h.fields.length ≤ 32 ∧ readL true startL (sL0 1086 ++ [13, 10] ++ [13, 10]) = (h, 1104, 0) :=
  ⟨_, rfl, Nat.zero_le _, by rw [List.append_assoc]; exact first_whole 1086 [13, 10] (Nat.le_refl _) [] 2 0 (fields_end 32 [])⟩
theorem s1_app (n : Nat) (t : List UInt8) : sL1 n ++ t = getL (aas 0) ++ 13 :: 10 :: (xf (aas n) ++ t) := by unfold sL1; rw [List.append_assoc]; rfl
theorem b1_long (n : Nat) (h : 510 < n) : readL true startL (sL1 n) = ({}, 0, 83) := by
  refine first_fields 0 _ (by decide) 83 ?_
  have := xf_long (room := 32) (v := aas n) [] (aas_lb n) (by rw [aas_length]; exact h)
  rw [List.append_nil] at this; exact this
theorem b1_longE (n : Nat) (h : 510 < n) : readL true startL (sL1 n ++ [13, 10]) = ({}, 0, 83) := by
  rw [s1_app]
  exact first_fields 0 _ (by decide) 83 (xf_long _ (aas_lb n) (by rw [aas_length]; exact h))
theorem b1_part : readL true startL (sL1 510) = ({}, 0, 0) := first_fields 0 _ (by decide) 0 (xf_part (aas_lb _) (by rw [aas_length]; exact Nat.le_refl _))
theorem b1_step (r : List UInt8) : fieldsL 32 (xf (aas 510) ++ 13 :: 10 :: r) = ((fieldsL 31 r).1.map fun x => (([88], aas 510) :: x.1, x.2 + 514), (fieldsL 31 r).2) := by
  have := xf_step (room := 31) r (aas_lb 510) (by rw [aas_length]; exact Nat.le_refl _) (aas_trim 510) (aas_okv 510)
  rw [aas_length] at this
  exact this
theorem b1_partE : readL true startL (sL1 510 ++ [13, 10]) = ({}, 0, 0) := by
  rw [s1_app]
  refine first_fields 0 _ (by decide) 0 ?_
  rw [b1_step, fields_nil]; rfl
theorem b1_whole : ∃ h : Hd, h.method = [71, 69, 84] ∧ h.fields.length ≤ 32 ∧ readL true startL (sL1 510 ++ [13, 10] ++ [13, 10]) = (h, 532, 0) := by
  refine ⟨{ hdG 0 with fields := [([88], aas 510)] }, rfl, by show 1 ≤ 32; decide, ?_⟩
  rw [List.append_assoc, s1_app]
  exact first_whole 0 _ (by decide) [([88], aas 510)] 516 0 (by show fieldsL 32 (xf (aas 510) ++ 13 :: 10 :: [13, 10]) = _; rw [b1_step, fields_end]; rfl)
theorem s2_app (k : Nat) (t : List UInt8) : sL2 k ++ t = getL (aas 0) ++ 13 :: 10 :: (xys k ++ (xf [121] ++ t)) := by unfold sL2; simp
theorem b2_step (r : List UInt8) : fieldsL 1 (xf [121] ++ 13 :: 10 :: r) = ((fieldsL 0 r).1.map fun x => (([88], [121]) :: x.1, x.2 + 5), (fieldsL 0 r).2) :=
  xf_step (room := 0) r (by decide) (by decide) (by decide) (by decide)
theorem b2_part : readL true startL (sL2 31) = ({}, 0, 0) := by
  refine first_fields 0 _ (by decide) 0 ?_
  rw [show (32 : Nat) = 31 + 1 from rfl, xys_fields, xf_part (by decide) (by decide)]; rfl
theorem b2_partE : readL true startL (sL2 31 ++ [13, 10]) = ({}, 0, 0) := by
  rw [s2_app]
  refine first_fields 0 _ (by decide) 0 ?_
  rw [show (32 : Nat) = 31 + 1 from rfl, xys_fields, b2_step, fields_nil]; rfl
theorem b2_whole : ∃ h : Hd, h.method = [71, 69, 84] ∧ h.fields.length ≤ 32 ∧ readL true startL (sL2 31 ++ [13, 10] ++ [13, 10]) = (h, 178, 0) := by
  refine ⟨{ hdG 0 with fields := List.replicate 31 ([88], [121]) ++ [([88], [121])] }, rfl, by simp, ?_⟩
  rw [List.append_assoc, s2_app]
  exact first_whole 0 _ (by decide) (List.replicate 31 ([88], [121]) ++ [([88], [121])]) 162 0 (by
    rw [show (32 : Nat) = 31 + 1 from rfl, xys_fields]
    rw [show (xf [121] ++ ([13, 10] ++ [13, 10]) : List UInt8) = xf [121] ++ 13 :: 10 :: [13, 10] from rfl, b2_step, fields_end]; rfl)
theorem b2_over : readL true startL (sL2 32) = ({}, 0, 0) := by
  refine first_fields 0 _ (by decide) 0 ?_
  rw [show (32 : Nat) = 32 + 0 from rfl, xys_fields, xf_part (by decide) (by decide)]; rfl
theorem b2_overE : readL true startL (sL2 32 ++ [13, 10]) = ({}, 0, 83) := by
  rw [s2_app]
  refine first_fields 0 _ (by decide) 83 ?_
  rw [show (32 : Nat) = 32 + 0 from rfl, xys_fields, show (xf [121] ++ [13, 10] : List UInt8) = xf [121] ++ 13 :: 10 :: [] from rfl, xf_large _ (by decide) (by decide)]; rfl
theorem b2_overEE : readL true startL (sL2 32 ++ [13, 10] ++ [13, 10]) = ({}, 0, 83) := by
  rw [List.append_assoc, s2_app]
  refine first_fields 0 _ (by decide) 83 ?_
  rw [show (32 : Nat) = 32 + 0 from rfl, xys_fields, show (xf [121] ++ ([13, 10] ++ [13, 10]) : List UInt8) = xf [121] ++ 13 :: 10 :: [13, 10] from rfl, xf_large _ (by decide) (by decide)]; rfl
/-! ### the texts as the program makes them -/
theorem t0_text (n : Nat) : ((ByteArray.mk #[71, 69, 84, 32, 47]) ++ bs (aas n) ++ ByteArray.mk #[32, 72, 84, 84, 80, 47, 49, 46, 49]).data.toList = sL0 n := by
  simp [sL0, getL, httpE, bs]
theorem t1_text (n : Nat) : ((ByteArray.mk #[71, 69, 84, 32, 47, 32, 72, 84, 84, 80, 47, 49, 46, 49, 13, 10, 88, 58]) ++ bs (aas n)).data.toList = sL1 n := by
  simp [sL1, getL, httpE, bs, xf, aas]
theorem t2_start : (ByteArray.mk #[71, 69, 84, 32, 47, 32, 72, 84, 84, 80, 47, 49, 46, 49, 13, 10]).data.toList = getL (aas 0) ++ 13 :: 10 :: xys 0 := rfl
end Go.Proofs.YtjbmipbjlhcooaaDoor
