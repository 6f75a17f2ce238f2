/- Plain words of layer 4 over lists of bytes: letters, digits, tokens, numbers; no program in sight. -/
import Derived.Lib.SlTrimSet
set_option linter.unusedVariables false
namespace Go.Proofs.Ythaphfedogmliaa.Lex

/-- The bytes of a text as a text. -/
abbrev bs (l : List UInt8) : ByteArray := ⟨l.toArray⟩
theorem bs_list (l : List UInt8) : (bs l).data.toList = l := rfl
theorem list_bs (s : ByteArray) : bs s.data.toList = s := by simp [bs]
theorem bs_size (l : List UInt8) : (bs l).size = l.length := rfl
theorem size_list (s : ByteArray) : s.data.toList.length = s.size := rfl

def letterI (n : Int) : Bool := decide (97 ≤ n) && decide (n ≤ 122) || decide (65 ≤ n) && decide (n ≤ 90)
def digitI (n : Int) : Bool := decide (48 ≤ n) && decide (n ≤ 57)
def letter (c : UInt8) : Bool := letterI c.toNat
def digit (c : UInt8) : Bool := digitI c.toNat
def marks : List UInt8 := [33, 35, 36, 37, 38, 39, 42, 43, 45, 46, 94, 95, 124, 126, 96]
def tmark (c : UInt8) : Bool := letter c || digit c || marks.contains c
def token (l : List UInt8) : Bool := !l.isEmpty && l.all tmark

theorem isEmpty_size (s : ByteArray) : s.data.toList.isEmpty = decide (s.size = 0) := by
  cases h : s.data.toList with
  | nil => have : s.size = 0 := by rw [← size_list, h]; rfl
           simp [this]
  | cons a l => have : s.size = l.length + 1 := by rw [← size_list, h]; rfl
                simp [this]
theorem take_snoc (s : ByteArray) (k : Nat) (h : k < s.size) : s.data.toList.take (k + 1) = s.data.toList.take k ++ [s[k]] := by
  rw [List.take_succ_eq_append_getElem (by simpa using h)]; rfl
theorem take_all (s : ByteArray) (k : Nat) (h : ¬ k < s.size) : s.data.toList.take k = s.data.toList :=
  List.take_of_length_le (by rw [size_list]; omega)
theorem all_of_take (p : UInt8 → Bool) (s : ByteArray) (k : Nat) (h : k < s.size) (hp : p s[k] = false) : s.data.toList.all p = false := by
  have : s[k] ∈ s.data.toList := by
    have := List.getElem_mem (l := s.data.toList) (n := k) (by rw [size_list]; exact h)
    exact this
  rw [Bool.eq_false_iff]
  intro ha
  rw [List.all_eq_true] at ha
  rw [ha _ this] at hp
  cases hp
theorem all_take_snoc (p : UInt8 → Bool) (s : ByteArray) (k : Nat) (h : k < s.size) (ha : (s.data.toList.take k).all p = true) (hp : p s[k] = true) : (s.data.toList.take (k + 1)).all p = true := by
  rw [take_snoc s k h, List.all_append, ha]; simp [hp]

/-! ### numbers -/
/-- A digit's worth, in a base up to 16; 99: none. -/
def worth (c : UInt8) : Int :=
  if 48 ≤ (c.toNat : Int) ∧ (c.toNat : Int) ≤ 57 then c.toNat - 48
  else if 65 ≤ (c.toNat : Int) ∧ (c.toNat : Int) ≤ 70 then c.toNat - 55
  else if 97 ≤ (c.toNat : Int) ∧ (c.toNat : Int) ≤ 102 then c.toNat - 87 else 99
theorem worth_0 (c : UInt8) : 0 ≤ worth c ∧ worth c ≤ 99 := by unfold worth; split <;> (try split) <;> (try split) <;> omega
def num (base : Int) (l : List UInt8) : Int := l.foldl (fun n c => n * base + worth c) 0
theorem num_snoc (base : Int) (l : List UInt8) (c : UInt8) : num base (l ++ [c]) = num base l * base + worth c := by simp [num, List.foldl_append]
theorem snoc_ind {α : Type} {P : List α → Prop} (h0 : P []) (h1 : ∀ l c, P l → P (l ++ [c])) (l : List α) : P l := by
  rw [← List.reverse_reverse l]
  induction l.reverse with
  | nil => exact h0
  | cons c l ih => rw [List.reverse_cons]; exact h1 _ _ ih
theorem num_bound (base : Int) (hb : 1 ≤ base) : ∀ l : List UInt8, (l.all fun c => decide (worth c < base)) = true → 0 ≤ num base l ∧ num base l < base ^ l.length := by
  intro l
  induction l using snoc_ind with
  | h0 => simp [num]
  | h1 l c ih =>
    intro h
    rw [List.all_append] at h
    simp at h
    obtain ⟨h1, h2⟩ := h
    obtain ⟨i1, i2⟩ := ih (by simpa using h1)
    rw [num_snoc]
    have hw := worth_0 c
    have p0 : 0 ≤ num base l * base := Int.mul_nonneg i1 (by omega)
    refine ⟨by omega, ?_⟩
    have p1 : (num base l + 1) * base ≤ base ^ l.length * base := Int.mul_le_mul_of_nonneg_right (by omega) (by omega)
    rw [Int.add_mul, Int.one_mul] at p1
    simp only [List.length_append, List.length_singleton, Int.pow_succ]
    omega
/-- What Decimal (base 10, at most 18 digits) and Hex (base 16, at most 15) read. -/
def number (base : Int) (l : List UInt8) (digits : Int) : Int × Bool :=
  if l = [] ∨ digits < l.length ∨ (l.all fun c => decide (worth c < base)) = false then (0, false) else (num base l, true)

end Go.Proofs.Ythaphfedogmliaa.Lex
