/- A struct of two cells in a block of its own. -/
import Derived.Test.YtjbmipbjlhcooaaDoorPathE
import Derived.WalkKit
import Derived.Below
set_option linter.unusedVariables false
set_option linter.unusedSimpArgs false
namespace Go.Proofs.YtjbmipbjlhcooaaDoor
open Go.RowKit Lex

structure Box2 (w : World) (B : Nat) (v0 v1 : Value) : Prop where
  c0 : w.cell? ⟨B, 0, none⟩ = some v0
  c1 : w.cell? ⟨B, 1, none⟩ = some v1
  fz : ∀ j, w.frozen? ⟨B, j, none⟩ = false
theorem box2_new (w : World) (v0 v1 : Value) (T : TypeId) : Box2 (w.alloc (.cells #[v0, v1] T)) w.heap.size v0 v1 := by
  refine ⟨?_, ?_, fun j => by rw [World.frozen?_alloc_new]⟩ <;> (rw [World.cell?_alloc_new]; rfl)
theorem Box2.below {w w' : World} {B : Nat} {v0 v1 : Value} (h : Box2 w B v0 v1) (hb : Below w.heap.size w w') : Box2 w' B v0 v1 := by
  have hlt := World.block_lt_of_cell? w _ h.c0
  exact ⟨cell_below hb h.c0, cell_below hb h.c1, fun j => (hb.frozen (p := ⟨B, j, none⟩) hlt).trans (h.fz j)⟩
theorem Box2.alloc {w : World} {B : Nat} {v0 v1 : Value} (h : Box2 w B v0 v1) (o : Obj) : Box2 (w.alloc o) B v0 v1 := h.below ((Below.refl _ w).alloc (Nat.le_refl _) o)
theorem Box2.stored {w : World} {B : Nat} {v0 v1 : Value} (h : Box2 w B v0 v1) (u0 u1 : Value) : Box2 ((w.setCell ⟨B, 0, none⟩ u0).setCell ⟨B, 1, none⟩ u1) B u0 u1 where
  c0 := by
    rw [World.cell?_setCell_other _ _ _ _ (fun e => by injection e with _ e2 _; exact absurd e2 (by decide))]
    exact World.cell?_setCell_same w _ u0 h.c0
  c1 := by
    have e : (w.setCell ⟨B, 0, none⟩ u0).cell? ⟨B, 1, none⟩ = some v1 := by
      rw [World.cell?_setCell_other _ _ _ _ (fun e => by injection e with _ e2 _; exact absurd e2 (by decide))]
      exact h.c1
    exact World.cell?_setCell_same _ _ u1 e
  fz := fun j => by rw [World.frozen?_setCell, World.frozen?_setCell]; exact h.fz j
end Go.Proofs.YtjbmipbjlhcooaaDoor
