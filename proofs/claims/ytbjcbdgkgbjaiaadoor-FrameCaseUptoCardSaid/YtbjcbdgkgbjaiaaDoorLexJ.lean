/- The contract of Same; the walk over LexLists. -/
import Derived.Test.YtbjcbdgkgbjaiaaDoorLexI
import Derived.Deep.QuietTactic
import Derived.BigQuiet
set_option linter.unusedVariables false
set_option linter.unusedSimpArgs false
namespace Go.Proofs.YtbjcbdgkgbjaiaaDoor
open Go.RowKit Lex

theorem ba_size' (a b : ByteArray) : (a ++ b).size = a.size + b.size := ByteArray.size_append
/-- A slice's texts, read in a world. -/
def Texts (w : World) (A : Option Addr) (l : List (List UInt8)) : Prop := ∀ j (h : j < l.length), ∃ g, A = some ⟨g, 0, none⟩ ∧ w.cell? ⟨g, j, none⟩ = some (.string (bs l[j]))
theorem texts_of {w : World} {base : Nat} {e : TypeId} {A : Option Addr} {c : Nat} {l : List (List UInt8)} (h : w.ownsRow base e 1 (.slice A l.length c) l.length (strs l)) : Texts w A l := by
  intro j hj
  rcases h.2 with ⟨h1, h2⟩ | ⟨g, cap, cur, he, a, b, _⟩
  · omega
  · injection he with e1 e2 e3
    subst e1
    have := World.ownsRow.cells h (g := g) rfl j (.string (bs l[j])) (by simp [strs, hj])
    refine ⟨g, rfl, ?_⟩
    by_cases hj0 : j = 0
    · subst hj0; simpa [Addr.add] using this
    · simpa [Addr.add, hj0] using this
theorem Texts.below {w w' : World} {A : Option Addr} {l : List (List UInt8)} (h : Texts w A l) (hb : Below w.heap.size w w') : Texts w' A l := by
  intro j hj
  obtain ⟨g, e, hc⟩ := h j hj
  exact ⟨g, e, (hb.cell (World.block_lt_of_cell? w _ hc)).trans hc⟩

/-- The text that LexLists builds. -/
def built (l : List (List UInt8)) : List UInt8 := l.flatMap fun x => 32 :: 44 :: (x ++ [9, 44])
theorem built_snoc (l : List (List UInt8)) (k : Nat) (h : k < l.length) : built (l.take (k + 1)) = built (l.take k) ++ (32 :: 44 :: (l[k] ++ [9, 44])) := by
  unfold built
  rw [List.take_succ_eq_append_getElem h, List.flatMap_append]
  simp only [List.flatMap_cons, List.flatMap_nil, List.append_nil]
theorem built_length (l : List (List UInt8)) : (built l).length = (slashed l).length + 3 * l.length := by
  induction l with
  | nil => rfl
  | cons x r ih => 
    have e1 : (built (x :: r)).length = x.length + 4 + (built r).length := by simp [built]; omega
    have e2 : (slashed (x :: r)).length = x.length + 1 + (slashed r).length := by simp [slashed]; omega
    rw [e1, e2, ih, List.length_cons]; omega
theorem slashed_elems (ps : List (List UInt8)) : (slashed (elemsOf ps)).length ≤ (slashed ps).length := by
  induction ps with
  | nil => exact Nat.le_refl _
  | cons x r ih =>
    have e : ∀ (a : List UInt8) (q : List (List UInt8)), (slashed (a :: q)).length = a.length + 1 + (slashed q).length := fun a q => by simp [slashed]; omega
    by_cases h : trim x = []
    · rw [elemsOf_skip h, e]; omega
    · rw [elemsOf_take h, e, e]
      have := trim_length x
      omega
theorem slashed_pieces' (c : UInt8) (t : List UInt8) : (slashed (pieces c t)).length = t.length + 1 := by
  induction t with
  | nil => rfl
  | cons b t ih =>
    have e : ∀ (a : List UInt8) (q : List (List UInt8)), (slashed (a :: q)).length = a.length + 1 + (slashed q).length := fun a q => by simp [slashed]; omega
    simp only [pieces]
    split
    · rw [e, ih]; simp; omega
    · cases hq : pieces c t with
      | nil => exact absurd hq (pieces_ne c t)
      | cons p ps =>
        rw [hq, e] at ih
        simp only [e, List.length_cons]; omega
theorem built_elems (l : List UInt8) : (built (elems l)).length ≤ 4 * (l.length + 1) ∧ (elems l).length ≤ l.length + 1 := by
  have h1 := slashed_elems (pieces 44 l)
  rw [slashed_pieces'] at h1
  have h2 := elemsOf_length (pieces 44 l)
  have h3 := pieces_length 44 l
  have h4 := built_length (elems l)
  unfold elems at *
  omega
theorem elems_built {l : List (List UInt8)} (h : ∀ x ∈ l, x ≠ [] ∧ trim x = x ∧ ∀ c ∈ x, c ≠ (44 : UInt8)) : elems (built l) = l := by
  induction l with
  | nil => decide
  | cons x r ih =>
    obtain ⟨h1, h2, h3⟩ := h x (by simp)
    have e : built (x :: r) = [32] ++ 44 :: ((x ++ [9]) ++ 44 :: built r) := by simp [built]
    obtain ⟨h4, h5⟩ := (trim_self x).1 h2
    have ht : trim (x ++ [9]) = x := by
      have := trim_mid (a := []) (m := x) (b := [9]) rfl (by decide) h4 h5
      simpa using this
    unfold elems
    rw [e, pieces_at _ (by decide), pieces_at _ (by
      intro c hc
      rcases List.mem_append.1 hc with hc | hc
      · exact h3 c hc
      · simp at hc; subst hc; decide)]
    rw [elemsOf_skip (by decide), elemsOf_take (by rw [ht]; exact h1), ht]
    congr 1
    exact ih (fun y hy => h y (by simp [hy]))

end Go.Proofs.YtbjcbdgkgbjaiaaDoor
