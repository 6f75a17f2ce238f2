/- A struct of six cells in a block of its own. -/
import Derived.Test.YtjbmipbjlhcooaaDoorPathE
import Derived.WalkKit
import Derived.Below
set_option linter.unusedVariables false
set_option linter.unusedSimpArgs false
namespace Go.Proofs.YtjbmipbjlhcooaaDoor
open Go.RowKit Lex

/-- A struct of six cells in a block of its own. -/
structure Box6 (w : World) (B : Nat) (v0 v1 v2 v3 v4 v5 : Value) : Prop where
  c0 : w.cell? ⟨B, 0, none⟩ = some v0
  c1 : w.cell? ⟨B, 1, none⟩ = some v1
  c2 : w.cell? ⟨B, 2, none⟩ = some v2
  c3 : w.cell? ⟨B, 3, none⟩ = some v3
  c4 : w.cell? ⟨B, 4, none⟩ = some v4
  c5 : w.cell? ⟨B, 5, none⟩ = some v5
  fz : ∀ j, w.frozen? ⟨B, j, none⟩ = false
theorem frozen_new (w : World) (cs : Array Value) (T : TypeId) (j : Nat) : (w.alloc (.cells cs T)).frozen? ⟨w.heap.size, j, none⟩ = false := by
  rw [World.frozen?_alloc_new]
theorem box6_new (w : World) (v0 v1 v2 v3 v4 v5 : Value) (T : TypeId) : Box6 (w.alloc (.cells #[v0, v1, v2, v3, v4, v5] T)) w.heap.size v0 v1 v2 v3 v4 v5 := by
  refine ⟨?_, ?_, ?_, ?_, ?_, ?_, frozen_new w _ T⟩ <;> (rw [World.cell?_alloc_new]; rfl)
theorem Box6.below {w w' : World} {B : Nat} {v0 v1 v2 v3 v4 v5 : Value} (h : Box6 w B v0 v1 v2 v3 v4 v5) (hb : Below w.heap.size w w') : Box6 w' B v0 v1 v2 v3 v4 v5 := by
  have hlt := World.block_lt_of_cell? w _ h.c0
  exact ⟨cell_below hb h.c0, cell_below hb h.c1, cell_below hb h.c2, cell_below hb h.c3, cell_below hb h.c4, cell_below hb h.c5, fun j => (hb.frozen (p := ⟨B, j, none⟩) hlt).trans (h.fz j)⟩
theorem Box6.alloc {w : World} {B : Nat} {v0 v1 v2 v3 v4 v5 : Value} (h : Box6 w B v0 v1 v2 v3 v4 v5) (o : Obj) : Box6 (w.alloc o) B v0 v1 v2 v3 v4 v5 := h.below ((Below.refl _ w).alloc (Nat.le_refl _) o)

theorem setO (w : World) (B i j : Nat) (u : Value) (h : i ≠ j) : (w.setCell ⟨B, i, none⟩ u).cell? ⟨B, j, none⟩ = w.cell? ⟨B, j, none⟩ :=
  World.cell?_setCell_other w ⟨B, i, none⟩ ⟨B, j, none⟩ u (fun e => by injection e with _ e2 _; exact h e2)
theorem setS {w : World} {B j : Nat} {v : Value} (u : Value) (h : w.cell? ⟨B, j, none⟩ = some v) : (w.setCell ⟨B, j, none⟩ u).cell? ⟨B, j, none⟩ = some u := World.cell?_setCell_same w ⟨B, j, none⟩ u h
theorem Box6.stored {w : World} {B : Nat} {v0 v1 v2 v3 v4 v5 : Value} (h : Box6 w B v0 v1 v2 v3 v4 v5) (u0 u1 u2 u3 u4 u5 : Value) :
    Box6 ((((((w.setCell ⟨B, 0, none⟩ u0).setCell ⟨B, 1, none⟩ u1).setCell ⟨B, 2, none⟩ u2).setCell ⟨B, 3, none⟩ u3).setCell ⟨B, 4, none⟩ u4).setCell ⟨B, 5, none⟩ u5) B u0 u1 u2 u3 u4 u5 where
  c0 := by
    rw [setO _ _ 5 0 _ (by decide)]
    rw [setO _ _ 4 0 _ (by decide)]
    rw [setO _ _ 3 0 _ (by decide)]
    rw [setO _ _ 2 0 _ (by decide)]
    rw [setO _ _ 1 0 _ (by decide)]
    refine setS _ (v := v0) ?_
    exact h.c0
  c1 := by
    rw [setO _ _ 5 1 _ (by decide)]
    rw [setO _ _ 4 1 _ (by decide)]
    rw [setO _ _ 3 1 _ (by decide)]
    rw [setO _ _ 2 1 _ (by decide)]
    refine setS _ (v := v1) ?_
    rw [setO _ _ 0 1 _ (by decide)]
    exact h.c1
  c2 := by
    rw [setO _ _ 5 2 _ (by decide)]
    rw [setO _ _ 4 2 _ (by decide)]
    rw [setO _ _ 3 2 _ (by decide)]
    refine setS _ (v := v2) ?_
    rw [setO _ _ 1 2 _ (by decide)]
    rw [setO _ _ 0 2 _ (by decide)]
    exact h.c2
  c3 := by
    rw [setO _ _ 5 3 _ (by decide)]
    rw [setO _ _ 4 3 _ (by decide)]
    refine setS _ (v := v3) ?_
    rw [setO _ _ 2 3 _ (by decide)]
    rw [setO _ _ 1 3 _ (by decide)]
    rw [setO _ _ 0 3 _ (by decide)]
    exact h.c3
  c4 := by
    rw [setO _ _ 5 4 _ (by decide)]
    refine setS _ (v := v4) ?_
    rw [setO _ _ 3 4 _ (by decide)]
    rw [setO _ _ 2 4 _ (by decide)]
    rw [setO _ _ 1 4 _ (by decide)]
    rw [setO _ _ 0 4 _ (by decide)]
    exact h.c4
  c5 := by
    refine setS _ (v := v5) ?_
    rw [setO _ _ 4 5 _ (by decide)]
    rw [setO _ _ 3 5 _ (by decide)]
    rw [setO _ _ 2 5 _ (by decide)]
    rw [setO _ _ 1 5 _ (by decide)]
    rw [setO _ _ 0 5 _ (by decide)]
    exact h.c5
  fz := fun j => by rw [World.frozen?_setCell, World.frozen?_setCell, World.frozen?_setCell, World.frozen?_setCell, World.frozen?_setCell, World.frozen?_setCell]; exact h.fz j
theorem Box6.far {w : World} {B : Nat} {v0 v1 v2 v3 v4 v5 : Value} (h : Box6 w B v0 v1 v2 v3 v4 v5) (p : Addr) (u : Value) (hp : p.block ≠ B) : Box6 (w.setCell p u) B v0 v1 v2 v3 v4 v5 := by
  have k : ∀ j, (w.setCell p u).cell? ⟨B, j, none⟩ = w.cell? ⟨B, j, none⟩ := fun j => World.cell?_setCell_other w p ⟨B, j, none⟩ u (fun e => hp (by rw [e]))
  exact ⟨(k 0).trans h.c0, (k 1).trans h.c1, (k 2).trans h.c2, (k 3).trans h.c3, (k 4).trans h.c4, (k 5).trans h.c5, fun j => (World.frozen?_setCell ..).trans (h.fz j)⟩
theorem Box6.kept {w w' : World} {B n : Nat} {v0 v1 v2 v3 v4 v5 : Value} (h : Box6 w B v0 v1 v2 v3 v4 v5) (hb : Below n w w') (hn : B < n) : Box6 w' B v0 v1 v2 v3 v4 v5 :=
  ⟨(hb.cell (p := ⟨B, 0, none⟩) hn).trans h.c0, (hb.cell (p := ⟨B, 1, none⟩) hn).trans h.c1, (hb.cell (p := ⟨B, 2, none⟩) hn).trans h.c2, (hb.cell (p := ⟨B, 3, none⟩) hn).trans h.c3, (hb.cell (p := ⟨B, 4, none⟩) hn).trans h.c4, (hb.cell (p := ⟨B, 5, none⟩) hn).trans h.c5, fun j => (hb.frozen (p := ⟨B, j, none⟩) hn).trans (h.fz j)⟩
end Go.Proofs.YtjbmipbjlhcooaaDoor
