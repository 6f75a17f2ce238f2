/- The walk over FieldsMemory. -/
import Derived.Test.YtnoolehpooidjaaDoorFldL
import Derived.Test.YtnoolehpooidjaaDoorFldM
import Derived.Deep.AppendLies
set_option linter.unusedVariables false
set_option linter.unusedSimpArgs false
namespace Go.Proofs.YtnoolehpooidjaaDoor
open Go.RowKit Lex

/-- A list of fields is as it was where another row alone has turned. -/
theorem Flds.grown {w w' : World} {A : Option Addr} {l : List Fd} {row : Option Nat} (h : Flds w A l) (hg : w.grownBy w' row) (hn : ∀ g o, A = some ⟨g, o, none⟩ → some g ≠ row) : Flds w' A l := by
  intro j hj
  obtain ⟨g, o, e, c1, c2⟩ := h j hj
  exact ⟨g, o, e, (hg.cell_far _ (World.block_lt_of_cell? w _ c1) (hn g o e)).trans c1, (hg.cell_far _ (World.block_lt_of_cell? w _ c2) (hn g o e)).trans c2⟩

/-- A row of the call's own: its value written out, its block between two bounds. -/
structure Row (w : World) (lo hi n : Nat) (a : Option Addr) (c : Nat) (xs : List Value) : Prop where
  own : w.ownsRow lo 30 2 (.slice a n c) n xs
  lt : ∀ g o, a = some ⟨g, o, none⟩ → lo ≤ g ∧ g < hi ∧ o = 0
theorem row_of {w : World} {lo n : Nat} {v : Value} {xs : List Value} (h : w.ownsRow lo 30 2 v n xs) : ∃ a c, v = .slice a n c ∧ (a = none → c = 0) ∧ Row w lo w.heap.size n a c xs := by
  have hl := h.lt
  rcases h.2 with ⟨rfl, h0⟩ | ⟨g, cap, cur, rfl, _⟩
  · exact ⟨none, 0, by rw [h0], fun _ => rfl, by rw [h0]; rw [h0] at h; exact h, fun g o e => by cases e⟩
  · refine ⟨some ⟨g, 0, none⟩, cap, rfl, (fun e => by cases e), h, fun g' o e => ?_⟩
    injection e with e; injection e with e1 e2
    subst e1
    obtain ⟨h1, h2⟩ := hl g rfl
    exact ⟨h1, h2, e2.symm⟩
theorem Row.below {w w' : World} {lo hi n c : Nat} {a : Option Addr} {xs : List Value} (h : Row w lo hi n a c xs) (hb : Below w.heap.size w w') : Row w' lo hi n a c xs := ⟨own_below h.own hb, h.lt⟩
theorem Row.block {w : World} {lo hi n c : Nat} {a : Option Addr} {xs : List Value} (h : Row w lo hi n a c xs) : ∀ g, (Value.slice a n c).ownBlock = some g → lo ≤ g ∧ g < hi := by
  intro g e
  rcases h.own.2 with ⟨he, _⟩ | ⟨g', cap, cur, he, _⟩
  · rw [he] at e; simp [Value.ownBlock] at e
  · injection he with e1 _ _
    have e2 : g' = g := by rw [e1] at e; simpa [Value.ownBlock] using e
    subst e2
    obtain ⟨x, y, _⟩ := h.lt g' 0 e1
    exact ⟨x, y⟩
theorem Row.grown {w w' : World} {lo hi n c : Nat} {a : Option Addr} {xs : List Value} {row : Option Nat} (h : Row w lo hi n a c xs) (hg : w.grownBy w' row) (hr : ∀ g, row = some g → g < lo ∨ hi ≤ g) : Row w' lo hi n a c xs :=
  ⟨h.own.kept hg (by
    cases hb : (Value.slice a n c).ownBlock with
    | none => exact .inl rfl
    | some g =>
      refine .inr fun e => ?_
      obtain ⟨h1, h2⟩ := h.block g hb
      rcases hr g e.symm with h3 | h3 <;> omega), h.lt⟩
theorem Row.flds {w : World} {lo hi c : Nat} {a : Option Addr} {l : List Fd} (h : Row w lo hi l.length a c (fvals l)) : Flds w a l := flds_own h.own

/-- Stores into a row, one field after the other. -/
theorem Row.stored {w : World} {lo hi n c g : Nat} {xs : List Value} (h : Row w lo hi n (some ⟨g, 0, none⟩) c xs) (k : Nat) (u v : Value) :
    (∃ xs', Row ((w.setCell ⟨g, k * 2, none⟩ u).setCell ⟨g, k * 2 + 1, none⟩ v) lo hi n (some ⟨g, 0, none⟩) c xs') ∧ w.grownBy ((w.setCell ⟨g, k * 2, none⟩ u).setCell ⟨g, k * 2 + 1, none⟩ v) (some g) := by
  obtain ⟨o1, g1⟩ := h.own.stored (k * 2) u
  obtain ⟨o2, g2⟩ := o1.stored (k * 2 + 1) v
  exact ⟨⟨_, o2, h.lt⟩, g1.trans g2⟩
theorem Row.cell {w : World} {lo hi n c g : Nat} {xs : List Value} (h : Row w lo hi n (some ⟨g, 0, none⟩) c xs) {j : Nat} (hj : j < n * 2) : (∃ u, w.cell? ⟨g, j, none⟩ = some u) ∧ w.frozen? ⟨g, j, none⟩ = false := by
  refine ⟨?_, h.own.frozenAt j⟩
  rw [h.own.cellAt j hj]
  have : j < xs.length := by rw [h.own.1]; exact hj
  exact ⟨_, List.getElem?_eq_getElem this⟩
end Go.Proofs.YtnoolehpooidjaaDoor
