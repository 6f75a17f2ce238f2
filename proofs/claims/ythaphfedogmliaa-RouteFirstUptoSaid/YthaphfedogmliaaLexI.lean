/- The contracts of lex.Elements, the document's Elements and Same; the walk over LexLists. -/
import Derived.Test.YthaphfedogmliaaPathK
import Derived.Test.YthaphfedogmliaaLexH
set_option linter.unusedVariables false
set_option linter.unusedSimpArgs false
namespace Go.Proofs.Ythaphfedogmliaa
open Go.RowKit Lex

def elemsOf (ps : List (List UInt8)) : List (List UInt8) := (ps.map trim).filter fun x => !x.isEmpty
def elems (l : List UInt8) : List (List UInt8) := elemsOf (pieces 44 l)
theorem elemsOf_nil : elemsOf [] = [] := rfl
theorem elemsOf_skip {x : List UInt8} {r : List (List UInt8)} (h : trim x = []) : elemsOf (x :: r) = elemsOf r := by simp [elemsOf, h]
theorem elemsOf_take {x : List UInt8} {r : List (List UInt8)} (h : trim x ≠ []) : elemsOf (x :: r) = trim x :: elemsOf r := by
  have : (trim x).isEmpty = false := by cases hq : trim x with
    | nil => exact absurd hq h
    | cons => rfl
  simp [elemsOf, this]
theorem elemsOf_append (a b : List (List UInt8)) : elemsOf (a ++ b) = elemsOf a ++ elemsOf b := by simp [elemsOf]
theorem elemsOf_length (ps : List (List UInt8)) : (elemsOf ps).length ≤ ps.length := by
  unfold elemsOf
  exact Nat.le_trans (List.length_filter_le _ _) (by simp)
theorem elems_mem {l : List UInt8} : ∀ x ∈ elems l, x ≠ [] ∧ trim x = x ∧ (∀ c ∈ x, c ≠ 44) ∧ x.length ≤ l.length := by
  intro x hx
  unfold elems elemsOf at hx
  rw [List.mem_filter] at hx
  obtain ⟨h1, h2⟩ := hx
  obtain ⟨p, hp, rfl⟩ := List.mem_map.1 h1
  obtain ⟨h3, h4⟩ := pieces_mem 44 l p hp
  refine ⟨by intro e; rw [e] at h2; simp at h2, trim_trim p, fun c hc => ?_, Nat.le_trans (trim_length p) h3⟩
  obtain ⟨a, m, b, rfl, ha, hb, h5, h6⟩ := trim_parts p
  rw [trim_mid ha hb h5 h6] at hc
  exact h4 c (by simp [hc])

/-- A row of the call's own, in a later world. -/
theorem own_below {w w' : World} {base : Nat} {e : TypeId} {z n : Nat} {v : Value} {xs : List Value} (h : w.ownsRow base e z v n xs) (hb : Below w.heap.size w w') : w'.ownsRow base e z v n xs :=
  h.kept (row := none) ⟨hb.os, hb.tape, hb.output, hb.size, fun k hk _ => hb.block k hk⟩ (by
    cases v.ownBlock with
    | none => exact .inl rfl
    | some k => exact .inr (by simp))

theorem own_from {w : World} {base base' : Nat} {e : TypeId} {z n : Nat} {v : Value} {xs : List Value} (h : w.ownsRow base e z v n xs) (hb : base' ≤ base) : w.ownsRow base' e z v n xs := by
  obtain ⟨h1, h2⟩ := h
  refine ⟨h1, ?_⟩
  rcases h2 with h2 | ⟨g, cap, cur, he, a, rest⟩
  · exact .inl h2
  · exact .inr ⟨g, cap, cur, he, by omega, rest⟩

/-- What is still to come. -/
structure Coming (ps kept : List (List UInt8)) (R : List (List UInt8)) (k : Nat) : Prop where
  all : elemsOf ps = kept ++ elemsOf R
  len : kept.length ≤ k
theorem Coming.skip {ps kept R : List (List UInt8)} {x : List UInt8} {k : Nat} (h : Coming ps kept (x :: R) k) (hx : trim x = []) : Coming ps kept R (k + 1) :=
  ⟨by rw [h.all, elemsOf_skip hx], by have := h.len; omega⟩
theorem Coming.take {ps kept R : List (List UInt8)} {x : List UInt8} {k : Nat} (h : Coming ps kept (x :: R) k) (hx : trim x ≠ []) : Coming ps (kept ++ [trim x]) R (k + 1) :=
  ⟨by rw [h.all, elemsOf_take hx]; simp, by have := h.len; simp; omega⟩

/-! ### the document's -/
def AtC (pb : ByteArray) (f i : Nat) (R : List (List UInt8)) : Prop :=
  (f ≤ i ∧ i ≤ pb.size ∧ (∀ j (h : j < pb.size), f ≤ j → j < i → pb[j] ≠ 44) ∧ R = pieces 44 (pb.data.toList.drop f)) ∨ (i = pb.size + 1 ∧ R = [])
theorem AtC.start (pb : ByteArray) : AtC pb 0 0 (pieces 44 pb.data.toList) := .inl ⟨Nat.le_refl _, Nat.zero_le _, fun j _ _ h => absurd h (Nat.not_lt_zero _), rfl⟩
theorem AtC.next {pb : ByteArray} {f i : Nat} {R : List (List UInt8)} (h : AtC pb f i R) (hi : i < pb.size) (hc : pb[i] ≠ 44) : AtC pb f (i + 1) R := by
  rcases h with ⟨h2, h3, h4, h5⟩ | ⟨h, _⟩
  · refine .inl ⟨by omega, by omega, fun j hj hf hlt => ?_, h5⟩
    by_cases he : j = i
    · subst he; exact hc
    · exact h4 j hj hf (by omega)
  · omega
theorem AtC.from_le {pb : ByteArray} {f i : Nat} {R : List (List UInt8)} (h : AtC pb f i R) (hi : i ≤ pb.size) : f ≤ i := by
  rcases h with ⟨h2, _⟩ | ⟨h, _⟩ <;> omega
theorem AtC.done {pb : ByteArray} {f i : Nat} {R : List (List UInt8)} (h : AtC pb f i R) (hi : ¬ i ≤ pb.size) : R = [] := by
  rcases h with ⟨_, h2, _⟩ | ⟨_, h⟩
  · exact absurd h2 hi
  · exact h
theorem AtC.cut {pb : ByteArray} {f i : Nat} {R : List (List UInt8)} (h : AtC pb f i R) (hi : i ≤ pb.size) (hc : ∀ h : i < pb.size, pb[i] = 44) :
    ∃ R', R = (pb.extract f i).data.toList :: R' ∧ AtC pb (i + 1) (i + 1) R' := by
  rcases h with ⟨h2, h3, h4, h5⟩ | ⟨h, _⟩
  · have hx : (pb.extract f i).data.toList = (pb.data.toList.drop f).take (i - f) := Lib.extract_data pb f i
    have hno : ∀ x ∈ (pb.data.toList.drop f).take (i - f), x ≠ 44 := by
      intro x hx
      obtain ⟨j, hj, rfl⟩ := List.getElem_of_mem hx
      have hj1 : j < i - f := by rw [List.length_take] at hj; omega
      have hj2 : f + j < pb.size := by rw [List.length_take, List.length_drop, size_list] at hj; omega
      have := h4 (f + j) hj2 (by omega) (by omega)
      rw [List.getElem_take, List.getElem_drop]
      exact this
    rw [hx]
    by_cases hlt : i < pb.size
    · refine ⟨pieces 44 (pb.data.toList.drop (i + 1)), ?_, .inl ⟨Nat.le_refl _, by omega, fun j _ _ _ => by omega, rfl⟩⟩
      have e : pb.data.toList.drop f = (pb.data.toList.drop f).take (i - f) ++ 44 :: pb.data.toList.drop (i + 1) := by
        have h1 : (pb.data.toList.drop f).drop (i - f) = 44 :: pb.data.toList.drop (i + 1) := by
          rw [List.drop_drop, show f + (i - f) = i by omega, drop_at pb i hlt, hc hlt]
        rw [← h1, List.take_append_drop]
      rw [h5]
      conv => lhs; rw [e]
      rw [pieces_at _ hno]
    · have ht : (pb.data.toList.drop f).take (i - f) = pb.data.toList.drop f := List.take_of_length_le (by rw [List.length_drop, size_list]; omega)
      rw [ht] at hno ⊢
      exact ⟨[], by rw [h5]; exact pieces_no hno, .inr ⟨by omega, rfl⟩⟩
  · omega

end Go.Proofs.Ythaphfedogmliaa
