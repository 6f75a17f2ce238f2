/- A row of fields of the call's own whose k-th place is being written. -/
import Derived.Test.YtbjcbdgkgbjaiaaDoorFrmM
import Derived.Laws.OwnMore
set_option linter.unusedVariables false
set_option linter.unusedSimpArgs false
namespace Go.Proofs.YtbjcbdgkgbjaiaaDoor
open Go.RowKit Lex

theorem fvals_size (l : List Fd) : (fvals l).length = l.length * 2 := by
  induction l with
  | nil => rfl
  | cons f l ih => rw [show fvals (f :: l) = .string (bs f.1) :: .string (bs f.2) :: fvals l from rfl, List.length_cons, List.length_cons, ih, List.length_cons]; omega
/-- A row whose value is written out, its block between two bounds. -/
structure Row (w : World) (lo hi n : Nat) (a : Option Addr) (c : Nat) (xs : List Value) : Prop where
  own : w.ownsRow lo 34 2 (.slice a n c) n xs
  lt : ∀ g o, a = some ⟨g, o, none⟩ → lo ≤ g ∧ g < hi ∧ o = 0
theorem row_of {w : World} {lo n c : Nat} {a : Option Addr} {xs : List Value} (h : w.ownsRow lo 34 2 (.slice a n c) n xs) : Row w lo w.heap.size n a c xs := by
  have hl := h.lt
  rcases h.2 with ⟨h1, h0⟩ | ⟨g, cap, cur, h1, _⟩
  · exact ⟨h, fun g o e => by injection h1 with h1 _ _; rw [h1] at e; cases e⟩
  · refine ⟨h, fun g' o e => ?_⟩
    injection h1 with h1 _ _
    rw [h1] at e
    injection e with e; injection e with e1 e2
    subst e1
    obtain ⟨h2, h3⟩ := hl g (by rw [h1]; rfl)
    exact ⟨h2, h3, e2.symm⟩
theorem Row.below {w w' : World} {lo hi n c : Nat} {a : Option Addr} {xs : List Value} (h : Row w lo hi n a c xs) (hb : Below w.heap.size w w') : Row w' lo hi n a c xs := ⟨own_below h.own hb, h.lt⟩
theorem Row.addr {w : World} {lo hi n c : Nat} {a : Option Addr} {xs : List Value} (h : Row w lo hi n a c xs) (hn : 0 < n) : ∃ g, a = some ⟨g, 0, none⟩ := by
  rcases h.own.2 with ⟨he, h0⟩ | ⟨g, cap, cur, he, _⟩
  · omega
  · injection he with e1 _ _
    exact ⟨g, e1⟩
/-- The row, whatever its k-th place holds. -/
def Hole (w : World) (lo hi n g c : Nat) (a b : List Fd) : Prop := ∃ x y, Row w lo hi n (some ⟨g, 0, none⟩) c (fvals a ++ [x, y] ++ fvals b)
theorem Row.hole {w : World} {lo hi n g c : Nat} {a b : List Fd} {f : Fd} (h : Row w lo hi n (some ⟨g, 0, none⟩) c (fvals (a ++ f :: b))) : Hole w lo hi n g c a b := by
  rw [fvals_append] at h
  exact ⟨.string (bs f.1), .string (bs f.2), by rw [List.append_assoc]; exact h⟩
theorem Hole.below {w w' : World} {lo hi n g c : Nat} {a b : List Fd} (h : Hole w lo hi n g c a b) (hb : Below w.heap.size w w') : Hole w' lo hi n g c a b := by
  obtain ⟨x, y, h⟩ := h
  exact ⟨x, y, h.below hb⟩
theorem Hole.lt {w : World} {lo hi n g c : Nat} {a b : List Fd} (h : Hole w lo hi n g c a b) : lo ≤ g ∧ g < hi := by
  obtain ⟨x, y, h⟩ := h
  obtain ⟨h1, h2, _⟩ := h.lt g 0 rfl
  exact ⟨h1, h2⟩
theorem Hole.set0 {w : World} {lo hi n g c : Nat} {a b : List Fd} (h : Hole w lo hi n g c a b) {j : Nat} (hj : j = a.length * 2) (u : Value) : Hole (w.setCell ⟨g, j, none⟩ u) lo hi n g c a b := by
  obtain ⟨x, y, h⟩ := h
  have := (h.own.stored j u).1
  rw [List.append_assoc, List.set_append_right _ _ (by rw [fvals_size]; omega), fvals_size, hj, Nat.sub_self] at this
  exact ⟨u, y, by rw [List.append_assoc]; rw [hj]; exact this, h.lt⟩
theorem Hole.set1 {w : World} {lo hi n g c : Nat} {a b : List Fd} (h : Hole w lo hi n g c a b) {j : Nat} (hj : j = a.length * 2 + 1) (u : Value) : Hole (w.setCell ⟨g, j, none⟩ u) lo hi n g c a b := by
  obtain ⟨x, y, h⟩ := h
  have := (h.own.stored j u).1
  rw [List.append_assoc, List.set_append_right _ _ (by rw [fvals_size]; omega), fvals_size, hj, Nat.add_sub_cancel_left] at this
  exact ⟨x, u, by rw [List.append_assoc]; rw [hj]; exact this, h.lt⟩
/-- What a cell holds, as a word that no rule opens. -/
def celN (w : World) (g j : Nat) : Value := (w.cell? ⟨g, j, none⟩).getD undef
theorem cel_some {w : World} {g j : Nat} {v : Value} (h : w.cell? ⟨g, j, none⟩ = some v) : w.cell? ⟨g, j, none⟩ = some (celN w g j) := by unfold celN; rw [h]; rfl
theorem Hole.cell0 {w : World} {lo hi n g c : Nat} {a b : List Fd} (h : Hole w lo hi n g c a b) {j : Nat} (hj : j = a.length * 2) : w.cell? ⟨g, j, none⟩ = some (celN w g j) := by
  obtain ⟨x, y, h⟩ := h
  have hl := h.own.1
  have hlt : j < n * 2 := by rw [← hl, List.length_append, List.length_append, fvals_size]; simp; omega
  refine cel_some (v := x) ?_
  rw [h.own.cellAt j hlt, List.append_assoc, List.getElem?_append_right (by rw [fvals_size]; omega), fvals_size, hj, Nat.sub_self]; rfl
theorem Hole.cell1 {w : World} {lo hi n g c : Nat} {a b : List Fd} (h : Hole w lo hi n g c a b) {j : Nat} (hj : j = a.length * 2 + 1) : w.cell? ⟨g, j, none⟩ = some (celN w g j) := by
  obtain ⟨x, y, h⟩ := h
  have hl := h.own.1
  have hlt : j < n * 2 := by rw [← hl, List.length_append, List.length_append, fvals_size]; simp; omega
  refine cel_some (v := y) ?_
  rw [h.own.cellAt j hlt, List.append_assoc, List.getElem?_append_right (by rw [fvals_size]; omega), fvals_size, hj, Nat.add_sub_cancel_left]; rfl
theorem Hole.frozen {w : World} {lo hi n g c : Nat} {a b : List Fd} (h : Hole w lo hi n g c a b) (j : Nat) : w.frozen? ⟨g, j, none⟩ = false := by
  obtain ⟨x, y, h⟩ := h
  exact h.own.frozenAt j
theorem Hole.fill {w : World} {lo hi n g c : Nat} {a b : List Fd} (h : Hole w lo hi n g c a b) {i j : Nat} (hii : i = a.length * 2) (hj : j = a.length * 2 + 1) {p q : List UInt8} (h0 : w.cell? ⟨g, i, none⟩ = some (.string (bs p))) (h1 : w.cell? ⟨g, j, none⟩ = some (.string (bs q))) :
    Row w lo hi n (some ⟨g, 0, none⟩) c (fvals (a ++ (p, q) :: b)) := by
  obtain ⟨x, y, h⟩ := h
  have hl := h.own.1
  rw [List.length_append, List.length_append, fvals_size, fvals_size] at hl
  simp only [List.length_cons, List.length_nil] at hl
  rw [h.own.cellAt i (by omega), List.append_assoc, List.getElem?_append_right (by rw [fvals_size]; omega), fvals_size, hii, Nat.sub_self] at h0
  rw [h.own.cellAt j (by omega), List.append_assoc, List.getElem?_append_right (by rw [fvals_size]; omega), fvals_size, hj, Nat.add_sub_cancel_left] at h1
  have e0 : x = .string (bs p) := by simpa using h0
  have e1 : y = .string (bs q) := by simpa using h1
  subst e0 e1
  rw [fvals_append, show fvals ((p, q) :: b) = [.string (bs p), .string (bs q)] ++ fvals b from rfl, ← List.append_assoc]
  exact h
theorem FB.low {fs : List Fd} (h : FB fs) : FB (lowFs fs) := by
  refine ⟨by rw [lowFs_length]; exact h.len, fun f hf => ?_, fun f hf => ?_⟩
  · obtain ⟨g, hg, rfl⟩ := List.mem_map.1 hf
    rw [lower_length]; exact h.nm g hg
  · obtain ⟨g, hg, rfl⟩ := List.mem_map.1 hf
    rw [lower_length]; exact h.vl g hg
theorem low_split (l : List Fd) (k : Nat) (h : k < l.length) : lowFs (l.take k) ++ l.drop k = lowFs (l.take k) ++ l[k] :: l.drop (k + 1) := by rw [List.drop_eq_getElem_cons h]
theorem low_next (l : List Fd) (k : Nat) (h : k < l.length) : lowFs (l.take k) ++ (lower l[k].1, lower l[k].2) :: l.drop (k + 1) = lowFs (l.take (k + 1)) ++ l.drop (k + 1) := by
  rw [List.take_succ_eq_append_getElem h]
  unfold lowFs
  rw [List.map_append, List.append_assoc]; rfl
theorem low_take_len (l : List Fd) (k : Nat) (h : k ≤ l.length) : (lowFs (l.take k)).length = k := by rw [lowFs_length, List.length_take]; omega
/-- What stays true while the k-th place is written. -/
abbrev SLow (X : World → Prop) (L V g n c k : Nat) (p q : ByteArray) (lo hi : Nat) (A B : List Fd) (w' : World) : Prop :=
  X w' ∧ Hole w' lo hi n g c A B ∧ w'.cell? ⟨L, 5, none⟩ = some (.slice (some ⟨g, 0, none⟩) n c) ∧ w'.cell? ⟨V, 0, none⟩ = some (.string p) ∧ w'.cell? ⟨V, 1, none⟩ = some (.string q) ∧
    w'.cell? ⟨g, k * 2, none⟩ = some (celN w' g (k * 2)) ∧ w'.cell? ⟨g, k * 2 + 1, none⟩ = some (celN w' g (k * 2 + 1)) ∧ w'.frozen? ⟨g, k * 2, none⟩ = false ∧ w'.frozen? ⟨g, k * 2 + 1, none⟩ = false
theorem slow_of {X : World → Prop} {L V g n c k : Nat} {p q : ByteArray} {lo hi : Nat} {A B : List Fd} {w : World} (hX : X w) (hH : Hole w lo hi n g c A B) (hA : A.length = k)
    (h1 : w.cell? ⟨L, 5, none⟩ = some (.slice (some ⟨g, 0, none⟩) n c)) (h2 : w.cell? ⟨V, 0, none⟩ = some (.string p)) (h3 : w.cell? ⟨V, 1, none⟩ = some (.string q)) : SLow X L V g n c k p q lo hi A B w :=
  ⟨hX, hH, h1, h2, h3, hH.cell0 (by rw [hA]), hH.cell1 (by rw [hA]), hH.frozen _, hH.frozen _⟩
theorem slow_below {X : World → Prop} {L V g n c k : Nat} {p q : ByteArray} {lo hi : Nat} {A B : List Fd} {w w' : World} (h : SLow X L V g n c k p q lo hi A B w) (hb : Below w.heap.size w w') (hX : ∀ w w', X w → Below w.heap.size w w' → X w') (hA : A.length = k) :
    SLow X L V g n c k p q lo hi A B w' := by
  obtain ⟨x, hH, h1, h2, h3, _⟩ := h
  exact slow_of (hX _ _ x hb) (hH.below hb) hA (cell_below hb h1) (cell_below hb h2) (cell_below hb h3)
theorem cell_far {w : World} {g j : Nat} {a : Addr} {v : Value} (h : w.cell? a = some v) (hn : a.block ≠ g) (u : Value) : (w.setCell ⟨g, j, none⟩ u).cell? a = some v := by
  rw [World.cell?_setCell_other _ _ _ _ (by intro e; exact hn (by rw [← e]))]; exact h
theorem slow_stored {X : World → Prop} {L V g n c k : Nat} {p q : ByteArray} {lo hi : Nat} {A B : List Fd} {w : World} (h : SLow X L V g n c k p q lo hi A B w) (hX : ∀ w j u, X w → X (w.setCell ⟨g, j, none⟩ u)) (hA : A.length = k) (hL : hi ≤ L) (hV : hi ≤ V) (u v : Value) :
    SLow X L V g n c k p q lo hi A B ((w.setCell ⟨g, k * 2, none⟩ u).setCell ⟨g, k * 2 + 1, none⟩ v) := by
  obtain ⟨x, hH, h1, h2, h3, _⟩ := h
  have hg := hH.lt
  exact slow_of (hX _ _ _ (hX _ _ _ x)) ((hH.set0 (by rw [hA]) u).set1 (by rw [hA]) v) hA (cell_far (cell_far h1 (by simp only; omega) u) (by simp only; omega) v) (cell_far (cell_far h2 (by simp only; omega) u) (by simp only; omega) v) (cell_far (cell_far h3 (by simp only; omega) u) (by simp only; omega) v)
theorem slow_done {X : World → Prop} {L V g n c k : Nat} {p q : ByteArray} {lo hi : Nat} {A B : List Fd} {w : World} (h : SLow X L V g n c k p q lo hi A B w) (hA : A.length = k) (p' q' : List UInt8) :
    Row ((w.setCell ⟨g, k * 2, none⟩ (.string (bs p'))).setCell ⟨g, k * 2 + 1, none⟩ (.string (bs q'))) lo hi n (some ⟨g, 0, none⟩) c (fvals (A ++ (p', q') :: B)) := by
  obtain ⟨x, hH, h1, h2, h3, c0, c1, _⟩ := h
  refine Hole.fill ((hH.set0 (by rw [hA]) _).set1 (by rw [hA]) _) (i := k * 2) (j := k * 2 + 1) (by rw [hA]) (by rw [hA]) ?_ ?_
  · rw [World.cell?_setCell_other _ _ _ _ (by simp)]
    exact World.cell?_setCell_same _ _ _ c0
  · refine World.cell?_setCell_same _ _ _ (u := celN w g (k * 2 + 1)) ?_
    rw [World.cell?_setCell_other _ _ _ _ (by simp)]
    exact c1
end Go.Proofs.YtbjcbdgkgbjaiaaDoor
