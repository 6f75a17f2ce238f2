/- The contracts of path.plain, escape, unescape, Decode and the document's Plain, At, Escapes, Decode: each answers what the plain words of PathA say. -/
import Derived.Test.YthaphfedogmliaaPathA
import Derived.Test.YthaphfedogmliaaLexG
import Derived.StillTailTactics
set_option linter.unusedVariables false
set_option linter.unusedSimpArgs false
namespace Go.Proofs.Ythaphfedogmliaa
open Go.RowKit Lex

theorem hex_pair (a b : UInt8) : hex [a, b] 2 = (match pair a b with | some n => ((n.toNat : Int), true) | none => (0, false)) := by
  have wa := worth_0 a
  have wb := worth_0 b
  unfold hex number pair
  rw [if_neg (by omega : ¬ (15 : Int) < 2)]
  by_cases h : worth a < 16 ∧ worth b < 16
  · rw [if_pos h, if_neg (by simp; omega)]
    simp only
    rw [UInt8.toNat_ofNat_of_lt' (by rw [UInt8.size]; omega)]
    simp [num]
    omega
  · rw [if_neg h, if_pos (by right; right; simp; omega)]

/-- What an escape at a text's begin is. -/
def escB : List UInt8 → UInt8 × Bool
  | _ :: a :: b :: _ => match pair a b with | some n => (n, true) | none => (0, false)
  | _ => (0, false)

theorem three (s : ByteArray) (h : ¬ s.size < 3) : ∃ c a b r, s.data.toList = c :: a :: b :: r ∧ (s.extract 1 3).data.toList = [a, b] := by
  have hl : 3 ≤ s.data.toList.length := by rw [size_list]; omega
  rw [Lib.extract_data]
  match s.data.toList, hl with
  | c :: a :: b :: r, _ => exact ⟨c, a, b, r, rfl, rfl⟩

theorem ret_esc {a b : Int} {q : Bool} (h : a = b) : Ending.returned (.tuple #[.int .u8 a, .bool q]) = .returned (.tuple #[.int .u8 b, .bool q]) := by rw [h]

/-- What is left of a text, as a text. -/
theorem rest_data (s : ByteArray) (k : Nat) : (s.extract k s.size).data.toList = s.data.toList.drop k := Lib.extract_to_end s k
theorem drop_at (s : ByteArray) (k : Nat) (h : k < s.size) : s.data.toList.drop k = s[k] :: s.data.toList.drop (k + 1) := by
  rw [List.drop_eq_getElem_cons (by rw [size_list]; exact h)]; rfl

theorem large_at (n : Nat) (h : n < 16) : (⟨#[48, 49, 50, 51, 52, 53, 54, 55, 56, 57, 65, 66, 67, 68, 69, 70]⟩ : ByteArray)[n]'h = large n := by
  have key : ∀ n : Fin 16, (⟨#[48, 49, 50, 51, 52, 53, 54, 55, 56, 57, 65, 66, 67, 68, 69, 70]⟩ : ByteArray)[n.val]'n.isLt = large n.val := by decide +kernel
  exact key ⟨n, h⟩

def nat8 (l : List UInt8) : List Int := l.map fun c => (c.toNat : Int)
theorem nat8_str (l : List UInt8) : strOfNums (nat8 l) = bs l := by
  simp [strOfNums, nat8, Function.comp_def]

/-- What holds of unescape (bad, enc) between two rounds: i bytes gone through, o told. -/
structure Gone (bad : UInt8 → Bool) (enc : UInt8 → List UInt8) (s : ByteArray) (i : Nat) (o : List UInt8) : Prop where
  left : walkE bad enc s.data.toList = (walkE bad enc (s.data.toList.drop i)).map (o ++ ·)
  len : o.length ≤ i
theorem Gone.start {bad enc} (s : ByteArray) : Gone bad enc s 0 [] := ⟨by simp, by simp⟩
theorem Gone.plain {bad enc} {s : ByteArray} {i : Nat} {o : List UInt8} (h : Gone bad enc s i o) (hi : i < s.size) (hb : bad s[i] = false) (hp : s[i] ≠ 37) : Gone bad enc s (i + 1) (o ++ [s[i]]) :=
  ⟨by rw [h.left, drop_at s i hi, walkE_plain hb hp, Option.map_map]; congr 1; funext x; simp, by simp; exact h.len⟩
theorem Gone.bad {bad enc} {s : ByteArray} {i : Nat} {o : List UInt8} (h : Gone bad enc s i o) (hi : i < s.size) (hb : bad s[i] = true) : walkE bad enc s.data.toList = none := by
  rw [h.left, drop_at s i hi, walkE_bad hb]; rfl
theorem Gone.esc {bad enc} {s : ByteArray} {i : Nat} {o : List UInt8} (h : Gone bad enc s i o) (hi : i < s.size) (hb : bad 37 = false) (hp : s[i] = 37) (n : UInt8) (he : escB (s.data.toList.drop i) = (n, true)) (hn : (enc n).length ≤ 3) :
    i + 2 < s.size ∧ Gone bad enc s (i + 3) (o ++ enc n) := by
  have hl := h.left
  have hd := drop_at s i hi
  rw [hp] at hd
  rw [hd] at he hl
  match hr : s.data.toList.drop (i + 1), he with
  | [], he => simp [hr, escB] at he
  | [_], he => simp [hr, escB] at he
  | a :: b :: r, he =>
    have hlen := congrArg List.length hr
    simp [ByteArray.size_data] at hlen
    have hr3 : s.data.toList.drop (i + 3) = r := by
      have : s.data.toList.drop (i + 1 + 2) = (s.data.toList.drop (i + 1)).drop 2 := by rw [List.drop_drop]
      rw [show i + 3 = i + 1 + 2 from rfl, this, hr]; rfl
    rw [hr] at hl
    simp only [escB] at he
    cases hpr : pair a b with
    | none => rw [hpr] at he; cases he
    | some m =>
      rw [hpr] at he
      injection he with he _
      subst he
      rw [walkE_some hb hpr, Option.map_map] at hl
      refine ⟨by omega, ⟨?_, ?_⟩⟩
      · rw [hl, hr3]; congr 1; funext x; simp
      · have := h.len; simp; omega
theorem Gone.stop {bad enc} {s : ByteArray} {i : Nat} {o : List UInt8} (h : Gone bad enc s i o) (hi : i < s.size) (hp : s[i] = 37) (he : (escB (s.data.toList.drop i)).2 = false) : walkE bad enc s.data.toList = none := by
  have hl := h.left
  have hd := drop_at s i hi
  rw [hp] at hd
  rw [hd] at he hl
  match hr : s.data.toList.drop (i + 1), he with
  | [], he => rw [hr, walkE_short (by simp)] at hl; exact hl
  | [_], he => rw [hr, walkE_short (by simp)] at hl; exact hl
  | a :: b :: r, he =>
    rw [hr] at hl
    simp only [escB] at he
    cases hpr : pair a b with
    | none => rw [walkE_none hpr] at hl; exact hl
    | some m => rw [hpr] at he; cases he
theorem Gone.whole {bad enc} {s : ByteArray} {i : Nat} {o : List UInt8} (h : Gone bad enc s i o) (hi : s.size ≤ i) : walkE bad enc s.data.toList = some o := by
  rw [h.left, List.drop_of_length_le (by rw [size_list]; exact hi), walkE_nil]; simp

end Go.Proofs.Ythaphfedogmliaa
