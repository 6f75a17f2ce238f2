/- The texts ChkA, Box6, ObjA, HdB in one. -/
import Derived.Test.YtgmjkkiahanekaaGreatDoorM6
import Derived.Test.YtgmjkkiahanekaaGreatDoorM1
import Derived.Test.YtgmjkkiahanekaaGreatDoorM3
import Derived.WalkKit
import Derived.Below
import Derived.Test.YtgmjkkiahanekaaGreatDoorM0
import Derived.Test.YtgmjkkiahanekaaGreatDoorM2
import Derived.Test.YtgmjkkiahanekaaGreatDoorShelf
/- Plain words of layer 10 over lists of bytes: the decoder of a body in chunks as a machine that takes one byte after the other; no program in sight. -/
set_option linter.unusedVariables false
set_option linter.unusedSimpArgs false
namespace Go.Proofs.YtgmjkkiahanekaaGreatDoor
open Lex

structure Dec where
  most : Int
  size : Int := 0
  st : Int := 0
  left : Int := 0
  line : List UInt8 := []
  cr : Bool := false
  tr : Int := 0
  err : Int := 0

/-- A byte of what stands behind a size. -/
def extc (c : UInt8) : Bool := decide (c = 9) || (decide (32 ≤ (c.toNat : Int)) && decide ((c.toNat : Int) ≤ 126))
/-- The size that a size line says. -/
def sizeL (l : List UInt8) : Option Int := if (hex (cutB l 59).1 8).2 = true ∧ (cutB l 59).2.1.all extc = true then some (hex (cutB l 59).1 8).1 else none
def sizedD (d : Dec) (l : List UInt8) : Dec × Int :=
  match sizeL l with
  | none => (d, 100)
  | some n => if n = 0 then ({ d with st := 3 }, 0) else if d.most - d.size < n then (d, 101) else ({ d with st := 1, left := n }, 0)
def wholeD (d : Dec) (l : List UInt8) : Dec × Int :=
  if d.st = 0 then sizedD d l
  else if d.st = 2 then ({ d with st := 0 }, 0)
  else if l = [] then ({ d with st := 4 }, 0)
  else ({ d with tr := d.tr + 1 }, if fieldL l = none ∨ 32 < d.tr + 1 then 100 else 0)
def boundD (st : Int) : Nat := if st = 0 then 64 else if st = 3 then 512 else 0
def takeD (d : Dec) (c : UInt8) : Dec × Int :=
  if d.cr = true ∧ c = 10 then wholeD { d with line := [], cr := false } d.line
  else if d.cr = true ∨ c = 10 then (d, 100)
  else if c = 13 then ({ d with cr := true }, 0)
  else if boundD d.st ≤ d.line.length then (d, 100)
  else ({ d with line := d.line ++ [c] }, 0)
/-- One byte: behind it the decoder, and the byte if it is one of the body. -/
def stepD (d : Dec) (c : UInt8) : Dec × List UInt8 :=
  if d.st = 1 then ({ d with size := d.size + 1, left := d.left - 1, st := if d.left = 1 then 2 else 1 }, [c])
  else ({ (takeD d c).1 with err := (takeD d c).2 }, [])
/-- The body's bytes, how many bytes were read, the decoder behind them. -/
def runD : Dec → List UInt8 → List UInt8 × Nat × Dec
  | d, [] => ([], 0, d)
  | d, c :: s => if d.st = 4 ∨ d.err ≠ 0 then ([], 0, d) else
    ((stepD d c).2 ++ (runD (stepD d c).1 s).1, (runD (stepD d c).1 s).2.1 + 1, (runD (stepD d c).1 s).2.2)

theorem runD_stop {d : Dec} (h : d.st = 4 ∨ d.err ≠ 0) (s : List UInt8) : runD d s = ([], 0, d) := by
  cases s with
  | nil => rfl
  | cons c s => rw [runD, if_pos h]
theorem runD_cons {d : Dec} (h : ¬ (d.st = 4 ∨ d.err ≠ 0)) (c : UInt8) (s : List UInt8) : runD d (c :: s) = ((stepD d c).2 ++ (runD (stepD d c).1 s).1, (runD (stepD d c).1 s).2.1 + 1, (runD (stepD d c).1 s).2.2) := by
  rw [runD, if_neg h]
theorem runD_len (d : Dec) (s : List UInt8) : (runD d s).2.1 ≤ s.length := by
  induction s generalizing d with
  | nil => exact Nat.le_refl _
  | cons c s ih =>
    by_cases h : d.st = 4 ∨ d.err ≠ 0
    · rw [runD_stop h]; exact Nat.zero_le _
    · rw [runD_cons h]; have := ih (stepD d c).1; simp only [List.length_cons]; omega
theorem stepD_out (d : Dec) (c : UInt8) : (stepD d c).2.length ≤ 1 := by
  unfold stepD; split <;> simp
theorem runD_out (d : Dec) (s : List UInt8) : (runD d s).1.length ≤ (runD d s).2.1 := by
  induction s generalizing d with
  | nil => exact Nat.le_refl _
  | cons c s ih =>
    by_cases h : d.st = 4 ∨ d.err ≠ 0
    · rw [runD_stop h]; exact Nat.le_refl _
    · rw [runD_cons h]; have := ih (stepD d c).1; have := stepD_out d c; simp only [List.length_append]; omega
/-- Read in two pieces. -/
theorem runD_app (d : Dec) (s t : List UInt8) : runD d (s ++ t) =
    if (runD d s).2.2.st = 4 ∨ (runD d s).2.2.err ≠ 0 then runD d s
    else ((runD d s).1 ++ (runD (runD d s).2.2 t).1, s.length + (runD (runD d s).2.2 t).2.1, (runD (runD d s).2.2 t).2.2) := by
  induction s generalizing d with
  | nil =>
    rw [List.nil_append]
    by_cases h : d.st = 4 ∨ d.err ≠ 0
    · rw [runD_stop h t, runD_stop h [], if_pos h]
    · rw [show runD d [] = ([], 0, d) from rfl, if_neg h]; simp
  | cons c s ih =>
    by_cases h : d.st = 4 ∨ d.err ≠ 0
    · rw [runD_stop h, runD_stop h, if_pos h]
    · rw [List.cons_append, runD_cons h, runD_cons h c s, ih]
      split
      · rfl
      · simp only [List.append_assoc, List.length_cons]; congr 2; omega
/-- What isn't whole and no error has used all. -/
theorem runD_all {d : Dec} {s : List UInt8} (h : ¬ ((runD d s).2.2.st = 4 ∨ (runD d s).2.2.err ≠ 0)) : (runD d s).2.1 = s.length := by
  induction s generalizing d with
  | nil => rfl
  | cons c s ih =>
    by_cases h0 : d.st = 4 ∨ d.err ≠ 0
    · rw [runD_stop h0] at h; exact absurd h0 h
    · rw [runD_cons h0] at h ⊢
      simp only [List.length_cons]
      rw [ih h]
theorem runD_prefix {d : Dec} {s : List UInt8} (k : Nat) (hk : k ≤ s.length) (h : ¬ ((runD d (s.take k)).2.2.st = 4 ∨ (runD d (s.take k)).2.2.err ≠ 0)) :
    runD d s = ((runD d (s.take k)).1 ++ (runD (runD d (s.take k)).2.2 (s.drop k)).1, k + (runD (runD d (s.take k)).2.2 (s.drop k)).2.1, (runD (runD d (s.take k)).2.2 (s.drop k)).2.2) := by
  have e := runD_app d (s.take k) (s.drop k)
  rw [List.take_append_drop, if_neg h, List.length_take, Nat.min_eq_left hk] at e
  exact e

/-- What every decoder keeps that began at New. -/
structure Dec.Ok (d : Dec) : Prop where
  st : 0 ≤ d.st ∧ d.st ≤ 4
  size : 0 ≤ d.size ∧ d.size + d.left ≤ max d.most 0
  left : 0 ≤ d.left ∧ d.left < 4294967296
  data : d.st = 1 → 0 < d.left ∧ d.line = [] ∧ d.cr = false
  line : d.line.length ≤ 512
  tr : 0 ≤ d.tr ∧ d.tr ≤ 33
  wf : -9223372036854775808 ≤ d.most ∧ d.most ≤ 9223372036854775807
  ok : d.err = 0 → d.tr ≤ 32
theorem dec_new (m : Int) (h : -9223372036854775808 ≤ m) (h2 : m ≤ 9223372036854775807) : Dec.Ok { most := m } :=
  ⟨by simp, by simp; omega, by simp, fun h => by simp at h, by simp, by simp, ⟨h, h2⟩, fun _ => by simp⟩
theorem size_bound {l : List UInt8} {n : Int} (h : sizeL l = some n) : 0 ≤ n ∧ n < 4294967296 := by
  unfold sizeL at h
  split at h
  · rename_i hh
    injection h with h
    have h1 := hh.1
    subst h
    unfold hex number at h1 ⊢
    simp only [show ¬ ((15 : Int) < 8) by decide, if_false] at h1 ⊢
    split at h1
    · cases h1
    · rename_i hc
      rw [if_neg hc]
      simp only [not_or, Bool.not_eq_false] at hc
      obtain ⟨hc1, hc2, hc3⟩ := hc
      have hb := num_bound 16 (by decide) (cutB l 59).1 hc3
      have h16 : (16 : Int) ^ (cutB l 59).1.length ≤ 16 ^ 8 := by
        have : (cutB l 59).1.length ≤ 8 := by omega
        exact_mod_cast Nat.pow_le_pow_right (n := 16) (by decide) this
      have e8 : (16 : Int) ^ 8 = 4294967296 := by decide
      show 0 ≤ num 16 (cutB l 59).1 ∧ num 16 (cutB l 59).1 < 4294967296
      omega
  · cases h
/-- Each byte keeps it. -/
theorem ok_whole {d : Dec} (h : d.Ok) (he : d.err = 0) (h4 : d.st ≠ 4) (h1 : d.st ≠ 1) (hcr : d.cr = false) (hl : d.line = []) (l : List UInt8) : Dec.Ok { (wholeD d l).1 with err := (wholeD d l).2 } := by
  obtain ⟨a1, a2, a3, a4, a5, a6, a7, a8⟩ := h
  have a9 := a8 he
  unfold wholeD
  split
  · rename_i h0
    unfold sizedD
    split
    · exact ⟨a1, a2, a3, a4, a5, a6, a7, fun h => by simp at h⟩
    · rename_i n hn
      have hb := size_bound hn
      split
      · exact ⟨by simp, a2, a3, fun h => by simp at h, a5, a6, a7, fun _ => a9⟩
      · split
        · exact ⟨a1, a2, a3, a4, a5, a6, a7, fun h => by simp at h⟩
        · exact ⟨by simp, ⟨a2.1, by show d.size + n ≤ max d.most 0; omega⟩, ⟨hb.1, hb.2⟩, fun _ => ⟨by show 0 < n; omega, hl, hcr⟩, a5, a6, a7, fun _ => a9⟩
  · split
    · exact ⟨by simp, a2, a3, fun h => by simp at h, a5, a6, a7, fun _ => a9⟩
    · split
      · exact ⟨by simp, a2, a3, fun h => by simp at h, a5, a6, a7, fun _ => a9⟩
      · refine ⟨a1, a2, a3, a4, a5, ⟨by show 0 ≤ d.tr + 1; omega, by show d.tr + 1 ≤ 33; omega⟩, a7, fun h => ?_⟩
        show d.tr + 1 ≤ 32
        have h : (if fieldL l = none ∨ 32 < d.tr + 1 then (100 : Int) else 0) = 0 := h
        split at h
        · cases h
        · rename_i hh
          simp only [not_or] at hh
          omega
theorem ok_step {d : Dec} (h : d.Ok) (hn : ¬ (d.st = 4 ∨ d.err ≠ 0)) (c : UInt8) : (stepD d c).1.Ok := by
  simp only [not_or, Decidable.not_not] at hn
  obtain ⟨h4, he⟩ := hn
  unfold stepD
  split
  · rename_i h1
    obtain ⟨a1, a2, a3, a4, a5, a6, a7, a8⟩ := h
    obtain ⟨b1, b2, b3⟩ := a4 h1
    refine ⟨?_, ⟨by show 0 ≤ d.size + 1; omega, by show d.size + 1 + (d.left - 1) ≤ max d.most 0; omega⟩, ⟨by show 0 ≤ d.left - 1; omega, by show d.left - 1 < _; omega⟩, fun hh => ?_, a5, a6, a7, a8⟩
    · show 0 ≤ (if d.left = 1 then (2 : Int) else 1) ∧ (if d.left = 1 then (2 : Int) else 1) ≤ 4
      split <;> decide
    · have hh : (if d.left = 1 then (2 : Int) else 1) = 1 := hh
      split at hh
      · cases hh
      · exact ⟨by show 0 < d.left - 1; omega, b2, b3⟩
  · rename_i h1
    unfold takeD
    split
    · refine ok_whole (d := { d with line := [], cr := false }) ?_ he h4 h1 rfl rfl d.line
      obtain ⟨a1, a2, a3, a4, a5, a6, a7, a8⟩ := h
      exact ⟨a1, a2, a3, fun hh => absurd hh h1, by simp, a6, a7, a8⟩
    · obtain ⟨a1, a2, a3, a4, a5, a6, a7, a8⟩ := h
      have a9 := a8 he
      split
      · exact ⟨a1, a2, a3, a4, a5, a6, a7, fun hh => by simp at hh⟩
      · split
        · exact ⟨a1, a2, a3, fun hh => absurd hh h1, a5, a6, a7, fun _ => a9⟩
        · split
          · exact ⟨a1, a2, a3, a4, a5, a6, a7, fun hh => by simp at hh⟩
          · rename_i hb
            refine ⟨a1, a2, a3, fun hh => absurd hh h1, ?_, a6, a7, fun _ => a9⟩
            show (d.line ++ [c]).length ≤ 512
            rw [List.length_append]
            have : boundD d.st ≤ 512 := by unfold boundD; repeat' (first | decide | split)
            simp; omega
theorem ok_run {d : Dec} (h : d.Ok) (s : List UInt8) : (runD d s).2.2.Ok := by
  induction s generalizing d with
  | nil => exact h
  | cons c s ih =>
    by_cases h0 : d.st = 4 ∨ d.err ≠ 0
    · rw [runD_stop h0]; exact h
    · rw [runD_cons h0]; exact ih (ok_step h h0 c)
theorem run_most (d : Dec) (s : List UInt8) : (runD d s).2.2.most = d.most := by
  induction s generalizing d with
  | nil => rfl
  | cons c s ih =>
    by_cases h0 : d.st = 4 ∨ d.err ≠ 0
    · rw [runD_stop h0]
    · rw [runD_cons h0]
      refine (ih _).trans ?_
      unfold stepD takeD wholeD sizedD
      repeat' (first | rfl | split)
end Go.Proofs.YtgmjkkiahanekaaGreatDoor

/- A struct of six cells in a block of its own. -/
set_option linter.unusedVariables false
set_option linter.unusedSimpArgs false
namespace Go.Proofs.YtgmjkkiahanekaaGreatDoor
open Go.RowKit Lex

/-- A struct of six cells in a block of its own. -/
structure Box6 (w : World) (B : Nat) (v0 v1 v2 v3 v4 v5 : Value) : Prop where
  c0 : w.cell? ⟨B, 0, none⟩ = some v0
  c1 : w.cell? ⟨B, 1, none⟩ = some v1
  c2 : w.cell? ⟨B, 2, none⟩ = some v2
  c3 : w.cell? ⟨B, 3, none⟩ = some v3
  c4 : w.cell? ⟨B, 4, none⟩ = some v4
  c5 : w.cell? ⟨B, 5, none⟩ = some v5
  fz : ∀ j, w.frozen? ⟨B, j, none⟩ = false
theorem frozen_new (w : World) (cs : Array Value) (T : TypeId) (j : Nat) : (w.alloc (.cells cs T)).frozen? ⟨w.heap.size, j, none⟩ = false := by
  rw [World.frozen?_alloc_new]
theorem box6_new (w : World) (v0 v1 v2 v3 v4 v5 : Value) (T : TypeId) : Box6 (w.alloc (.cells #[v0, v1, v2, v3, v4, v5] T)) w.heap.size v0 v1 v2 v3 v4 v5 := by
  refine ⟨?_, ?_, ?_, ?_, ?_, ?_, frozen_new w _ T⟩ <;> (rw [World.cell?_alloc_new]; rfl)
theorem Box6.below {w w' : World} {B : Nat} {v0 v1 v2 v3 v4 v5 : Value} (h : Box6 w B v0 v1 v2 v3 v4 v5) (hb : Below w.heap.size w w') : Box6 w' B v0 v1 v2 v3 v4 v5 := by
  have hlt := World.block_lt_of_cell? w _ h.c0
  exact ⟨cell_below hb h.c0, cell_below hb h.c1, cell_below hb h.c2, cell_below hb h.c3, cell_below hb h.c4, cell_below hb h.c5, fun j => (hb.frozen (p := ⟨B, j, none⟩) hlt).trans (h.fz j)⟩
theorem Box6.alloc {w : World} {B : Nat} {v0 v1 v2 v3 v4 v5 : Value} (h : Box6 w B v0 v1 v2 v3 v4 v5) (o : Obj) : Box6 (w.alloc o) B v0 v1 v2 v3 v4 v5 := h.below ((Below.refl _ w).alloc (Nat.le_refl _) o)

theorem setO (w : World) (B i j : Nat) (u : Value) (h : i ≠ j) : (w.setCell ⟨B, i, none⟩ u).cell? ⟨B, j, none⟩ = w.cell? ⟨B, j, none⟩ :=
  World.cell?_setCell_other w ⟨B, i, none⟩ ⟨B, j, none⟩ u (fun e => by injection e with _ e2 _; exact h e2)
theorem setS {w : World} {B j : Nat} {v : Value} (u : Value) (h : w.cell? ⟨B, j, none⟩ = some v) : (w.setCell ⟨B, j, none⟩ u).cell? ⟨B, j, none⟩ = some u := World.cell?_setCell_same w ⟨B, j, none⟩ u h
theorem Box6.stored {w : World} {B : Nat} {v0 v1 v2 v3 v4 v5 : Value} (h : Box6 w B v0 v1 v2 v3 v4 v5) (u0 u1 u2 u3 u4 u5 : Value) :
    Box6 ((((((w.setCell ⟨B, 0, none⟩ u0).setCell ⟨B, 1, none⟩ u1).setCell ⟨B, 2, none⟩ u2).setCell ⟨B, 3, none⟩ u3).setCell ⟨B, 4, none⟩ u4).setCell ⟨B, 5, none⟩ u5) B u0 u1 u2 u3 u4 u5 where
  c0 := by
    rw [setO _ _ 5 0 _ (by decide)]
    rw [setO _ _ 4 0 _ (by decide)]
    rw [setO _ _ 3 0 _ (by decide)]
    rw [setO _ _ 2 0 _ (by decide)]
    rw [setO _ _ 1 0 _ (by decide)]
    refine setS _ (v := v0) ?_
    exact h.c0
  c1 := by
    rw [setO _ _ 5 1 _ (by decide)]
    rw [setO _ _ 4 1 _ (by decide)]
    rw [setO _ _ 3 1 _ (by decide)]
    rw [setO _ _ 2 1 _ (by decide)]
    refine setS _ (v := v1) ?_
    rw [setO _ _ 0 1 _ (by decide)]
    exact h.c1
  c2 := by
    rw [setO _ _ 5 2 _ (by decide)]
    rw [setO _ _ 4 2 _ (by decide)]
    rw [setO _ _ 3 2 _ (by decide)]
    refine setS _ (v := v2) ?_
    rw [setO _ _ 1 2 _ (by decide)]
    rw [setO _ _ 0 2 _ (by decide)]
    exact h.c2
  c3 := by
    rw [setO _ _ 5 3 _ (by decide)]
    rw [setO _ _ 4 3 _ (by decide)]
    refine setS _ (v := v3) ?_
    rw [setO _ _ 2 3 _ (by decide)]
    rw [setO _ _ 1 3 _ (by decide)]
    rw [setO _ _ 0 3 _ (by decide)]
    exact h.c3
  c4 := by
    rw [setO _ _ 5 4 _ (by decide)]
    refine setS _ (v := v4) ?_
    rw [setO _ _ 3 4 _ (by decide)]
    rw [setO _ _ 2 4 _ (by decide)]
    rw [setO _ _ 1 4 _ (by decide)]
    rw [setO _ _ 0 4 _ (by decide)]
    exact h.c4
  c5 := by
    refine setS _ (v := v5) ?_
    rw [setO _ _ 4 5 _ (by decide)]
    rw [setO _ _ 3 5 _ (by decide)]
    rw [setO _ _ 2 5 _ (by decide)]
    rw [setO _ _ 1 5 _ (by decide)]
    rw [setO _ _ 0 5 _ (by decide)]
    exact h.c5
  fz := fun j => by rw [World.frozen?_setCell, World.frozen?_setCell, World.frozen?_setCell, World.frozen?_setCell, World.frozen?_setCell, World.frozen?_setCell]; exact h.fz j
theorem Box6.far {w : World} {B : Nat} {v0 v1 v2 v3 v4 v5 : Value} (h : Box6 w B v0 v1 v2 v3 v4 v5) (p : Addr) (u : Value) (hp : p.block ≠ B) : Box6 (w.setCell p u) B v0 v1 v2 v3 v4 v5 := by
  have k : ∀ j, (w.setCell p u).cell? ⟨B, j, none⟩ = w.cell? ⟨B, j, none⟩ := fun j => World.cell?_setCell_other w p ⟨B, j, none⟩ u (fun e => hp (by rw [e]))
  exact ⟨(k 0).trans h.c0, (k 1).trans h.c1, (k 2).trans h.c2, (k 3).trans h.c3, (k 4).trans h.c4, (k 5).trans h.c5, fun j => (World.frozen?_setCell ..).trans (h.fz j)⟩
theorem Box6.kept {w w' : World} {B n : Nat} {v0 v1 v2 v3 v4 v5 : Value} (h : Box6 w B v0 v1 v2 v3 v4 v5) (hb : Below n w w') (hn : B < n) : Box6 w' B v0 v1 v2 v3 v4 v5 :=
  ⟨(hb.cell (p := ⟨B, 0, none⟩) hn).trans h.c0, (hb.cell (p := ⟨B, 1, none⟩) hn).trans h.c1, (hb.cell (p := ⟨B, 2, none⟩) hn).trans h.c2, (hb.cell (p := ⟨B, 3, none⟩) hn).trans h.c3, (hb.cell (p := ⟨B, 4, none⟩) hn).trans h.c4, (hb.cell (p := ⟨B, 5, none⟩) hn).trans h.c5, fun j => (hb.frozen (p := ⟨B, j, none⟩) hn).trans (h.fz j)⟩
end Go.Proofs.YtgmjkkiahanekaaGreatDoor

/- Objects in memory: a block known whole, and what a call keeps that writes to some blocks alone. -/
set_option linter.unusedVariables false
set_option linter.unusedSimpArgs false
namespace Go.Proofs.YtgmjkkiahanekaaGreatDoor
open Go.RowKit

/-- But for the blocks of F, what there was is as it was. -/
structure Away (F : Nat → Prop) (w w' : World) : Prop where
  os : w'.os = w.os
  tape : w'.tape = w.tape
  output : w'.output = w.output
  size : w.heap.size ≤ w'.heap.size
  block : ∀ k, k < w.heap.size → ¬ F k → w'.heap[k]? = w.heap[k]?
theorem Away.refl (F : Nat → Prop) (w : World) : Away F w w := ⟨rfl, rfl, rfl, Nat.le_refl _, fun _ _ _ => rfl⟩
theorem Away.mono {F G : Nat → Prop} {w w' : World} (h : Away F w w') (hF : ∀ k, k < w.heap.size → F k → G k) : Away G w w' :=
  ⟨h.os, h.tape, h.output, h.size, fun k hk hG => h.block k hk fun hf => hG (hF k hk hf)⟩
theorem Away.trans {F : Nat → Prop} {a b c : World} (h : Away F a b) (k : Away F b c) : Away F a c :=
  ⟨k.os.trans h.os, k.tape.trans h.tape, k.output.trans h.output, Nat.le_trans h.size k.size, fun i hi hF => (k.block i (Nat.lt_of_lt_of_le hi h.size) hF).trans (h.block i hi hF)⟩
/-- Then what writes to other blocks, too: new ones, or some of F. -/
theorem Away.then {F G : Nat → Prop} {a b c : World} (h : Away F a b) (k : Away G b c) (hG : ∀ i, i < a.heap.size → G i → F i) : Away F a c :=
  ⟨k.os.trans h.os, k.tape.trans h.tape, k.output.trans h.output, Nat.le_trans h.size k.size, fun i hi hF => (k.block i (Nat.lt_of_lt_of_le hi h.size) fun hg => hF (hG i hi hg)).trans (h.block i hi hF)⟩
theorem Away.drew {F : Nat → Prop} {a w : World} (h : Away F a w) : Away F a w.drew := ⟨h.os, h.tape, h.output, h.size, h.block⟩
theorem Away.alloc {F : Nat → Prop} {a w : World} (h : Away F a w) (o : Obj) : Away F a (w.alloc o) :=
  h.then (G := fun _ => False) ⟨rfl, rfl, rfl, by simp, fun k hk _ => Below.heap_alloc _ _ _ hk⟩ (fun _ _ h => h.elim)
theorem Away.setCell {F : Nat → Prop} {a w : World} (h : Away F a w) {p : Addr} (hp : p.block < a.heap.size → F p.block) (u : Value) : Away F a (w.setCell p u) :=
  h.then (G := fun k => k = p.block) ⟨rfl, rfl, rfl, by simp [World.setCell], fun k hk hn => Below.heap_setCell _ _ _ _ hn⟩ (fun i hi e => by subst e; exact hp hi)
theorem Away.put {F : Nat → Prop} {a w : World} (h : Away F a w) {D : Nat} (hD : F D) (i : Nat) (u : Value) : Away F a (w.setCell ⟨D, i, none⟩ u) := h.setCell (p := ⟨D, i, none⟩) (fun _ => hD) u
theorem Away.drewN {F : Nat → Prop} {a w : World} (h : Away F a w) (n : Nat) : Away F a (w.drewN n) := ⟨h.os, h.tape, h.output, h.size, h.block⟩
theorem Away.grown {F : Nat → Prop} {a w w' : World} {row : Option Nat} (h : Away F a w) (hg : w.grownBy w' row) (hr : ∀ k, row = some k → k < a.heap.size → F k) : Away F a w' :=
  h.then (G := fun k => row = some k) ⟨hg.os, hg.tape, hg.output, hg.size, fun k hk hn => hg.block k hk fun e => hn e.symm⟩ (fun i hi e => hr i e hi)
theorem Away.of {F : Nat → Prop} {w w' : World} (h : Below w.heap.size w w') : Away F w w' := ⟨h.os, h.tape, h.output, h.size, fun k hk _ => h.block k hk⟩
theorem Away.low {F : Nat → Prop} {a w w' : World} (h : Away F a w) (hb : Below w.heap.size w w') : Away F a w' := h.trans (Away.of hb)
theorem Away.below {F : Nat → Prop} {B : Nat} {w w' : World} (h : Away F w w') (hB : B ≤ w.heap.size) (hF : ∀ k, F k → B ≤ k) : Below B w w' :=
  ⟨h.os, h.tape, h.output, h.size, fun k hk => h.block k (Nat.lt_of_lt_of_le hk hB) fun hf => by have := hF k hf; omega⟩
theorem Away.cell {F : Nat → Prop} {w w' : World} (h : Away F w w') {p : Addr} {v : Value} (hc : w.cell? p = some v) (hF : ¬ F p.block) : w'.cell? p = some v :=
  (World.cell?_of_block (w := w) (h.block p.block (World.block_lt_of_cell? w _ hc) hF)).trans hc
theorem Away.frozen {F : Nat → Prop} {w w' : World} (h : Away F w w') {p : Addr} (hp : p.block < w.heap.size) (hF : ¬ F p.block) : w'.frozen? p = w.frozen? p :=
  World.frozen?_of_block (w := w) (h.block p.block hp hF)

/-- A block whose cells are known, none of them frozen. -/
structure Blk (w : World) (B : Nat) (vs : List Value) : Prop where
  c : ∀ j v, vs[j]? = some v → w.cell? ⟨B, j, none⟩ = some v
  fz : ∀ j, w.frozen? ⟨B, j, none⟩ = false
theorem Blk.new (w : World) (cs : Array Value) (T : TypeId) (vs : List Value) (h : cs.toList = vs) : Blk (w.alloc (.cells cs T)) w.heap.size vs :=
  ⟨fun j v hj => by rw [World.cell?_alloc_new, ← Array.getElem?_toList, h]; exact hj, frozen_new w cs T⟩
theorem Blk.lt {w : World} {B : Nat} {v : Value} {vs : List Value} (h : Blk w B (v :: vs)) : B < w.heap.size := World.block_lt_of_cell? w _ (h.c 0 v rfl)
theorem Blk.set {w : World} {B : Nat} {vs : List Value} (h : Blk w B vs) (i : Nat) (hi : i < vs.length) (u : Value) : Blk (w.setCell ⟨B, i, none⟩ u) B (vs.set i u) := by
  refine ⟨fun j v hj => ?_, fun j => by rw [World.frozen?_setCell]; exact h.fz j⟩
  by_cases e : i = j
  · subst e
    rw [List.getElem?_set_self hi] at hj
    injection hj with hj
    subst hj
    exact World.cell?_setCell_same w _ u (h.c i vs[i] (List.getElem?_eq_getElem hi))
  · rw [List.getElem?_set_ne e] at hj
    rw [World.cell?_setCell_other _ _ _ _ (fun q => by injection q with _ q2 _; exact e q2)]
    exact h.c j v hj
theorem Blk.away {w w' : World} {B : Nat} {vs : List Value} {F : Nat → Prop} (h : Blk w B vs) (hB : B < w.heap.size) (ha : Away F w w') (hF : ¬ F B) : Blk w' B vs :=
  ⟨fun j v hj => ha.cell (h.c j v hj) hF, fun j => (ha.frozen (p := ⟨B, j, none⟩) hB hF).trans (h.fz j)⟩
theorem Blk.below {w w' : World} {B : Nat} {vs : List Value} (h : Blk w B vs) (hB : B < w.heap.size) (hb : Below w.heap.size w w') : Blk w' B vs := h.away (F := fun _ => False) hB (Away.of hb) id
theorem Blk.far {w : World} {B : Nat} {vs : List Value} (h : Blk w B vs) (p : Addr) (u : Value) (hp : p.block ≠ B) : Blk (w.setCell p u) B vs :=
  ⟨fun j v hj => by rw [World.cell?_setCell_other w p ⟨B, j, none⟩ u (fun e => hp (by rw [e]))]; exact h.c j v hj, fun j => by rw [World.frozen?_setCell]; exact h.fz j⟩
theorem Blk.alloc {w : World} {B : Nat} {vs : List Value} (h : Blk w B vs) (hB : B < w.heap.size) (o : Obj) : Blk (w.alloc o) B vs := h.below hB ((Below.refl _ w).alloc (Nat.le_refl _) o)
theorem Blk.drew {w : World} {B : Nat} {vs : List Value} (h : Blk w B vs) : Blk w.drew B vs := ⟨fun j v hj => h.c j v hj, fun j => h.fz j⟩

/-- A row of the call's own stays, where its block does. -/
theorem own_away {w w' : World} {base : Nat} {e : TypeId} {z n : Nat} {v : Value} {xs : List Value} {F : Nat → Prop} (h : w.ownsRow base e z v n xs) (ha : Away F w w') (hF : ∀ k, v.ownBlock = some k → ¬ F k) : w'.ownsRow base e z v n xs := by
  obtain ⟨h1, h2⟩ := h
  refine ⟨h1, ?_⟩
  rcases h2 with h2 | ⟨g, cap, cur, hv, hg, hh, r⟩
  · exact .inl h2
  · refine .inr ⟨g, cap, cur, hv, hg, ?_, r⟩
    rw [ha.block g (Array.getElem?_eq_some_iff.1 hh).1 (hF g (by rw [hv]; rfl))]
    exact hh
end Go.Proofs.YtgmjkkiahanekaaGreatDoor

/- The contracts of head.line and of the document's End. -/
set_option linter.unusedVariables false
set_option linter.unusedSimpArgs false
namespace Go.Proofs.YtgmjkkiahanekaaGreatDoor
open Go.RowKit Lex

theorem byte_at (s : ByteArray) (k : Nat) (h : k < s.size) : s.data.toList.drop k = s[k] :: s.data.toList.drop (k + 1) := by
  have := List.drop_eq_getElem_cons (l := s.data.toList) (i := k) (by rw [size_list]; exact h)
  rw [this]; rfl
theorem eqN (c d : UInt8) (n : Int) (h : (d.toNat : Int) = n) : ((c.toNat : Int) == n) = decide (c = d) := by
  rw [Bool.eq_iff_iff, beq_iff_eq, decide_eq_true_eq, ← UInt8.toNat_inj]; omega
theorem neN (c d : UInt8) (n : Int) (h : (d.toNat : Int) = n) : ((c.toNat : Int) != n) = !decide (c = d) := by unfold bne; rw [eqN c d n h]
def lineVal (x : Option (List UInt8) × Int) : Value := .tuple #[.string (bs (x.1.getD [])), .bool x.1.isSome, .int .i64 x.2]
theorem line_res {over : Int} {M k : Nat} {L : List UInt8} (h : (L.take k).all lb = true) (hk : k ≤ M) (hl : k ≤ L.length) :
    lineL over M L = ((lineL over (M - k) (L.drop k)).1.map (L.take k ++ ·), (lineL over (M - k) (L.drop k)).2) := by
  have := lineL_app over (L.take k) M (L.drop k) h (by rw [List.length_take]; omega)
  rw [List.take_append_drop] at this
  rw [List.length_take, Nat.min_eq_left hl] at this
  exact this
theorem lb_of {c : UInt8} (h1 : c ≠ 10) (h2 : c ≠ 13) : lb c = true := by simp [lb, h1, h2]

set_option maxRecDepth 100000 in
set_option maxHeartbeats 1000000 in
theorem line_c (s : ByteArray) (M : Nat) (over : Int) (w : World) (hs : s.size ≤ 9223372036854775806) :
    Calls Tryz.prog 126 #[.string s, .int .i64 M, .int .i64 over] w fun e w' => e = .returned (lineVal (lineL over M s.data.toList)) ∧ w = w' := by
  generalize hv : lineL over M s.data.toList = v
  have HV := Lib.hid hv
  clear hv
  go_enter Tryz.func126, Tryz.ntmps126
  go_wp2
  go_loop [9, 12] (fun _ i => ∃ k : Nat, k ≤ s.size ∧ k ≤ M ∧ i = .int .i64 k ∧ (s.data.toList.take k).all lb = true) (fun _ i => s.size - (intOf i).toNat)
  case atStart => exact ⟨0, Nat.zero_le _, Nat.zero_le _, rfl, rfl⟩
  case round =>
    obtain ⟨k, hk, hkM, rfl, ha⟩ := hrel
    have hres := HV.out.symm.trans (line_res (over := over) ha hkM (by rw [size_list]; exact hk))
    have HA := Lib.hid ha
    clear ha
    by_cases hlt : k < s.size
    · rw [byte_at s k hlt] at hres
      have c10 := eqN s[k] 10 10 rfl
      have c13 := eqN s[k] 13 13 rfl
      by_cases h10 : s[k] = 10
      · rw [h10, lineL_10] at hres
        obtain rfl : v = (none, 80) := hres
        rw [decide_eq_true h10] at c10
        clear h10 c13
        go_wp2
        go_ret3
        exact ⟨rfl, rfl⟩
      · rw [decide_eq_false h10] at c10
        by_cases h13 : s[k] = 13
        · rw [h13, lineL_13] at hres
          rw [decide_eq_true h13] at c13
          by_cases hlast : k + 1 = s.size
          · have hd : s.data.toList.drop (k + 1) = [] := List.drop_eq_nil_of_le (by rw [size_list]; omega)
            rw [if_pos hd] at hres
            obtain rfl : v = (none, 0) := hres
            have bl : ((k : Int) + 1 == (s.size : Int)) = true := by rw [beq_iff_eq]; omega
            clear h10 h13 hd
            go_wp2
            go_ret3
            exact ⟨rfl, rfl⟩
          · have hlt2 : k + 1 < s.size := by omega
            have hd := byte_at s (k + 1) hlt2
            rw [hd, if_neg (by simp)] at hres
            have bl : ((k : Int) + 1 == (s.size : Int)) = false := by rw [beq_eq_false_iff_ne]; omega
            have n10 : ((s[k + 1].toNat : Int) != 10) = !decide (s[k + 1] = 10) := neN s[k + 1] 10 10 rfl
            by_cases hn : s[k + 1] = 10
            · simp only [hn, List.head?_cons, if_true, Option.map_some, List.append_nil] at hres
              rw [decide_eq_true hn] at n10
              have e1 : (s.extract 0 k).data.toList = s.data.toList.take k := by rw [Lib.extract_data]; simp
              have hr2 : v = (some (s.extract 0 k).data.toList, 0) := by rw [hres, e1]
              subst hr2
              clear hres h10 h13 hd hn e1
              go_wp2
              go_ret3
              exact ⟨by unfold lineVal; simp only [Option.getD_some, list_bs]; rfl, rfl⟩
            · rw [if_neg (by simpa using hn)] at hres
              obtain rfl : v = (none, 80) := hres
              rw [decide_eq_false hn] at n10
              clear h10 h13 hd hn
              go_wp2
              go_ret3
              exact ⟨rfl, rfl⟩
        · rw [decide_eq_false h13] at c13
          by_cases hM : k = M
          · subst hM
            rw [Nat.sub_self, lineL_over over _ h10 h13] at hres
            obtain rfl : v = (none, over) := hres
            clear h10 h13
            go_wp2
            go_ret3
            exact ⟨rfl, rfl⟩
          · have hkM2 : (k : Int) < (M : Int) := by omega
            have HN := Lib.hid (all_take_snoc lb s k hlt HA.out (lb_of h10 h13))
            clear hres h10 h13
            go_wp2
            go_round
            case rel => exact ⟨k + 1, by omega, by omega, by go_num, HN.out⟩
            case measure => simp [intOf]; omega
    · have hd : s.data.toList.drop k = [] := List.drop_eq_nil_of_le (by rw [size_list]; omega)
      rw [hd, lineL_nil] at hres
      obtain rfl : v = (none, 0) := hres
      clear hd
      go_wp2
      go_ret3
      exact ⟨rfl, rfl⟩

def endVal (a : Nat) (x : Option (List UInt8) × Int) : Value := .tuple #[.int .i64 (match x.1 with | some l => ((a + l.length : Nat) : Int) | none => -1), .int .i64 x.2]
set_option maxRecDepth 100000 in
set_option maxHeartbeats 1000000 in
theorem rend_c (s : ByteArray) (a M : Nat) (over : Int) (w : World) (hs : s.size ≤ 9223372036854775806) (hat : a ≤ s.size) (hM : M ≤ 100000) :
    Calls Tryz.prog 117 #[.string s, .int .i64 a, .int .i64 M, .int .i64 over] w fun e w' => e = .returned (endVal a (lineL over M (s.data.toList.drop a))) ∧ w = w' := by
  generalize hv : lineL over M (s.data.toList.drop a) = v
  have HV := Lib.hid hv
  clear hv
  go_enter Tryz.func117, Tryz.ntmps117
  go_wp2
  go_loop [10] (fun i => ∃ k : Nat, a + k ≤ s.size ∧ k ≤ M ∧ i = .int .i64 (a + k : Nat) ∧ ((s.data.toList.drop a).take k).all lb = true) (fun i => s.size - (intOf i).toNat)
  case atStart => exact ⟨0, hat, Nat.zero_le _, rfl, rfl⟩
  case round =>
    obtain ⟨k, hk, hkM, rfl, ha⟩ := hrel
    have hres := HV.out.symm.trans (line_res (over := over) ha hkM (by rw [List.length_drop, size_list]; omega))
    rw [List.drop_drop] at hres
    have HA := Lib.hid ha
    clear ha
    obtain ⟨i, hi⟩ : ∃ i, a + k = i := ⟨_, rfl⟩
    have hai : (a : Int) ≤ (i : Int) := by omega
    rw [hi] at hres hk ⊢
    by_cases hlt : i < s.size
    · rw [byte_at s i hlt] at hres
      have c10 := eqN s[i] 10 10 rfl
      have c13 := eqN s[i] 13 13 rfl
      by_cases h10 : s[i] = 10
      · rw [h10, lineL_10] at hres
        obtain rfl : v = (none, 80) := hres
        rw [decide_eq_true h10] at c10
        clear h10 c13 hi
        go_wp2
        go_ret2
        exact ⟨rfl, rfl⟩
      · rw [decide_eq_false h10] at c10
        by_cases h13 : s[i] = 13
        · rw [h13, lineL_13] at hres
          rw [decide_eq_true h13] at c13
          by_cases hlast : i + 1 = s.size
          · have hd : s.data.toList.drop (i + 1) = [] := List.drop_eq_nil_of_le (by rw [size_list]; omega)
            rw [if_pos hd] at hres
            obtain rfl : v = (none, 0) := hres
            have bl : (s.size : Int) ≤ (i : Int) + 1 := by omega
            clear h10 h13 hd hi
            go_wp2
            go_ret2
            exact ⟨rfl, rfl⟩
          · have hlt2 : i + 1 < s.size := by omega
            have hd := byte_at s (i + 1) hlt2
            rw [hd, if_neg (by simp)] at hres
            have bl : ¬ (s.size : Int) ≤ (i : Int) + 1 := by omega
            have n10 : ((s[i + 1].toNat : Int) != 10) = !decide (s[i + 1] = 10) := neN s[i + 1] 10 10 rfl
            by_cases hn : s[i + 1] = 10
            · simp only [hn, List.head?_cons, if_true, Option.map_some, List.append_nil] at hres
              rw [decide_eq_true hn] at n10
              have hr2 : v = (some ((s.data.toList.drop a).take k), 0) := by rw [hres]
              have hl : ((s.data.toList.drop a).take k).length = k := by rw [List.length_take, List.length_drop, size_list]; omega
              have HR := Lib.hid (show endVal a v = .tuple #[.int .i64 (i : Int), .int .i64 0] by rw [hr2]; unfold endVal; simp only [hl, hi])
              clear hres h10 h13 hd hn hr2 hl hi
              go_wp2
              go_ret2
              exact ⟨by rw [HR.out]; rfl, rfl⟩
            · rw [if_neg (by simpa using hn)] at hres
              obtain rfl : v = (none, 80) := hres
              rw [decide_eq_false hn] at n10
              clear h10 h13 hd hn hi
              go_wp2
              go_ret2
              exact ⟨rfl, rfl⟩
        · rw [decide_eq_false h13] at c13
          by_cases hM2 : k = M
          · subst hM2
            rw [Nat.sub_self, lineL_over over _ h10 h13] at hres
            obtain rfl : v = (none, over) := hres
            have hge : (k : Int) ≤ (i : Int) - (a : Int) := by omega
            clear h10 h13 hi
            go_wp2
            go_ret2
            exact ⟨rfl, rfl⟩
          · have hlt3 : (i : Int) - (a : Int) < (M : Int) := by omega
            have HN := Lib.hid (show ((s.data.toList.drop a).take (k + 1)).all lb = true by
              rw [List.take_succ_eq_append_getElem (by rw [List.length_drop, size_list]; omega), List.all_append, HA.out]
              have : (s.data.toList.drop a)[k]'(by rw [List.length_drop, size_list]; omega) = s[i] := by
                rw [List.getElem_drop]
                have h2 : s.data.toList[i]'(by rw [size_list]; exact hlt) = s[i] := rfl
                rw [← h2]; congr 1
              rw [this]; simp [lb_of h10 h13])
            have HI := Lib.hid hi
            clear hres h10 h13 hi
            go_wp2
            go_round
            case rel => exact ⟨k + 1, by have := HI.out; omega, by omega, by have := HI.out; rw [show a + (k + 1) = i + 1 by omega]; go_num, HN.out⟩
            case measure => simp [intOf]; omega
    · have hd : s.data.toList.drop i = [] := List.drop_eq_nil_of_le (by rw [size_list]; omega)
      rw [hd, lineL_nil] at hres
      obtain rfl : v = (none, 0) := hres
      clear hd hi
      go_wp2
      go_ret2
      exact ⟨rfl, rfl⟩
end Go.Proofs.YtgmjkkiahanekaaGreatDoor

