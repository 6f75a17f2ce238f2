/- The texts Box6, ObjA, HdB, HdC, Box2, PathL, PathM in one. -/
import Derived.Test.YtgmjkkiahanekaaDoorM1
import Derived.WalkKit
import Derived.Below
import Derived.Test.YtgmjkkiahanekaaDoorM3
import Derived.Test.YtgmjkkiahanekaaDoorM0
import Derived.Test.YtgmjkkiahanekaaDoorShelf
import Derived.Test.YtgmjkkiahanekaaDoorM6
import Derived.Test.YtgmjkkiahanekaaDoorM2
/- A struct of six cells in a block of its own. -/
set_option linter.unusedVariables false
set_option linter.unusedSimpArgs false
namespace Go.Proofs.YtgmjkkiahanekaaDoor
open Go.RowKit Lex

/-- A struct of six cells in a block of its own. -/
structure Box6 (w : World) (B : Nat) (v0 v1 v2 v3 v4 v5 : Value) : Prop where
  c0 : w.cell? ⟨B, 0, none⟩ = some v0
  c1 : w.cell? ⟨B, 1, none⟩ = some v1
  c2 : w.cell? ⟨B, 2, none⟩ = some v2
  c3 : w.cell? ⟨B, 3, none⟩ = some v3
  c4 : w.cell? ⟨B, 4, none⟩ = some v4
  c5 : w.cell? ⟨B, 5, none⟩ = some v5
  fz : ∀ j, w.frozen? ⟨B, j, none⟩ = false
theorem frozen_new (w : World) (cs : Array Value) (T : TypeId) (j : Nat) : (w.alloc (.cells cs T)).frozen? ⟨w.heap.size, j, none⟩ = false := by
  rw [World.frozen?_alloc_new]
theorem box6_new (w : World) (v0 v1 v2 v3 v4 v5 : Value) (T : TypeId) : Box6 (w.alloc (.cells #[v0, v1, v2, v3, v4, v5] T)) w.heap.size v0 v1 v2 v3 v4 v5 := by
  refine ⟨?_, ?_, ?_, ?_, ?_, ?_, frozen_new w _ T⟩ <;> (rw [World.cell?_alloc_new]; rfl)
theorem Box6.below {w w' : World} {B : Nat} {v0 v1 v2 v3 v4 v5 : Value} (h : Box6 w B v0 v1 v2 v3 v4 v5) (hb : Below w.heap.size w w') : Box6 w' B v0 v1 v2 v3 v4 v5 := by
  have hlt := World.block_lt_of_cell? w _ h.c0
  exact ⟨cell_below hb h.c0, cell_below hb h.c1, cell_below hb h.c2, cell_below hb h.c3, cell_below hb h.c4, cell_below hb h.c5, fun j => (hb.frozen (p := ⟨B, j, none⟩) hlt).trans (h.fz j)⟩
theorem Box6.alloc {w : World} {B : Nat} {v0 v1 v2 v3 v4 v5 : Value} (h : Box6 w B v0 v1 v2 v3 v4 v5) (o : Obj) : Box6 (w.alloc o) B v0 v1 v2 v3 v4 v5 := h.below ((Below.refl _ w).alloc (Nat.le_refl _) o)

theorem setO (w : World) (B i j : Nat) (u : Value) (h : i ≠ j) : (w.setCell ⟨B, i, none⟩ u).cell? ⟨B, j, none⟩ = w.cell? ⟨B, j, none⟩ :=
  World.cell?_setCell_other w ⟨B, i, none⟩ ⟨B, j, none⟩ u (fun e => by injection e with _ e2 _; exact h e2)
theorem setS {w : World} {B j : Nat} {v : Value} (u : Value) (h : w.cell? ⟨B, j, none⟩ = some v) : (w.setCell ⟨B, j, none⟩ u).cell? ⟨B, j, none⟩ = some u := World.cell?_setCell_same w ⟨B, j, none⟩ u h
theorem Box6.stored {w : World} {B : Nat} {v0 v1 v2 v3 v4 v5 : Value} (h : Box6 w B v0 v1 v2 v3 v4 v5) (u0 u1 u2 u3 u4 u5 : Value) :
    Box6 ((((((w.setCell ⟨B, 0, none⟩ u0).setCell ⟨B, 1, none⟩ u1).setCell ⟨B, 2, none⟩ u2).setCell ⟨B, 3, none⟩ u3).setCell ⟨B, 4, none⟩ u4).setCell ⟨B, 5, none⟩ u5) B u0 u1 u2 u3 u4 u5 where
  c0 := by
    rw [setO _ _ 5 0 _ (by decide)]
    rw [setO _ _ 4 0 _ (by decide)]
    rw [setO _ _ 3 0 _ (by decide)]
    rw [setO _ _ 2 0 _ (by decide)]
    rw [setO _ _ 1 0 _ (by decide)]
    refine setS _ (v := v0) ?_
    exact h.c0
  c1 := by
    rw [setO _ _ 5 1 _ (by decide)]
    rw [setO _ _ 4 1 _ (by decide)]
    rw [setO _ _ 3 1 _ (by decide)]
    rw [setO _ _ 2 1 _ (by decide)]
    refine setS _ (v := v1) ?_
    rw [setO _ _ 0 1 _ (by decide)]
    exact h.c1
  c2 := by
    rw [setO _ _ 5 2 _ (by decide)]
    rw [setO _ _ 4 2 _ (by decide)]
    rw [setO _ _ 3 2 _ (by decide)]
    refine setS _ (v := v2) ?_
    rw [setO _ _ 1 2 _ (by decide)]
    rw [setO _ _ 0 2 _ (by decide)]
    exact h.c2
  c3 := by
    rw [setO _ _ 5 3 _ (by decide)]
    rw [setO _ _ 4 3 _ (by decide)]
    refine setS _ (v := v3) ?_
    rw [setO _ _ 2 3 _ (by decide)]
    rw [setO _ _ 1 3 _ (by decide)]
    rw [setO _ _ 0 3 _ (by decide)]
    exact h.c3
  c4 := by
    rw [setO _ _ 5 4 _ (by decide)]
    refine setS _ (v := v4) ?_
    rw [setO _ _ 3 4 _ (by decide)]
    rw [setO _ _ 2 4 _ (by decide)]
    rw [setO _ _ 1 4 _ (by decide)]
    rw [setO _ _ 0 4 _ (by decide)]
    exact h.c4
  c5 := by
    refine setS _ (v := v5) ?_
    rw [setO _ _ 4 5 _ (by decide)]
    rw [setO _ _ 3 5 _ (by decide)]
    rw [setO _ _ 2 5 _ (by decide)]
    rw [setO _ _ 1 5 _ (by decide)]
    rw [setO _ _ 0 5 _ (by decide)]
    exact h.c5
  fz := fun j => by rw [World.frozen?_setCell, World.frozen?_setCell, World.frozen?_setCell, World.frozen?_setCell, World.frozen?_setCell, World.frozen?_setCell]; exact h.fz j
theorem Box6.far {w : World} {B : Nat} {v0 v1 v2 v3 v4 v5 : Value} (h : Box6 w B v0 v1 v2 v3 v4 v5) (p : Addr) (u : Value) (hp : p.block ≠ B) : Box6 (w.setCell p u) B v0 v1 v2 v3 v4 v5 := by
  have k : ∀ j, (w.setCell p u).cell? ⟨B, j, none⟩ = w.cell? ⟨B, j, none⟩ := fun j => World.cell?_setCell_other w p ⟨B, j, none⟩ u (fun e => hp (by rw [e]))
  exact ⟨(k 0).trans h.c0, (k 1).trans h.c1, (k 2).trans h.c2, (k 3).trans h.c3, (k 4).trans h.c4, (k 5).trans h.c5, fun j => (World.frozen?_setCell ..).trans (h.fz j)⟩
theorem Box6.kept {w w' : World} {B n : Nat} {v0 v1 v2 v3 v4 v5 : Value} (h : Box6 w B v0 v1 v2 v3 v4 v5) (hb : Below n w w') (hn : B < n) : Box6 w' B v0 v1 v2 v3 v4 v5 :=
  ⟨(hb.cell (p := ⟨B, 0, none⟩) hn).trans h.c0, (hb.cell (p := ⟨B, 1, none⟩) hn).trans h.c1, (hb.cell (p := ⟨B, 2, none⟩) hn).trans h.c2, (hb.cell (p := ⟨B, 3, none⟩) hn).trans h.c3, (hb.cell (p := ⟨B, 4, none⟩) hn).trans h.c4, (hb.cell (p := ⟨B, 5, none⟩) hn).trans h.c5, fun j => (hb.frozen (p := ⟨B, j, none⟩) hn).trans (h.fz j)⟩
end Go.Proofs.YtgmjkkiahanekaaDoor

/- Objects in memory: a block known whole, and what a call keeps that writes to some blocks alone. -/
set_option linter.unusedVariables false
set_option linter.unusedSimpArgs false
namespace Go.Proofs.YtgmjkkiahanekaaDoor
open Go.RowKit

/-- But for the blocks of F, what there was is as it was. -/
structure Away (F : Nat → Prop) (w w' : World) : Prop where
  os : w'.os = w.os
  tape : w'.tape = w.tape
  output : w'.output = w.output
  size : w.heap.size ≤ w'.heap.size
  block : ∀ k, k < w.heap.size → ¬ F k → w'.heap[k]? = w.heap[k]?
theorem Away.refl (F : Nat → Prop) (w : World) : Away F w w := ⟨rfl, rfl, rfl, Nat.le_refl _, fun _ _ _ => rfl⟩
theorem Away.mono {F G : Nat → Prop} {w w' : World} (h : Away F w w') (hF : ∀ k, k < w.heap.size → F k → G k) : Away G w w' :=
  ⟨h.os, h.tape, h.output, h.size, fun k hk hG => h.block k hk fun hf => hG (hF k hk hf)⟩
theorem Away.trans {F : Nat → Prop} {a b c : World} (h : Away F a b) (k : Away F b c) : Away F a c :=
  ⟨k.os.trans h.os, k.tape.trans h.tape, k.output.trans h.output, Nat.le_trans h.size k.size, fun i hi hF => (k.block i (Nat.lt_of_lt_of_le hi h.size) hF).trans (h.block i hi hF)⟩
/-- Then what writes to other blocks, too: new ones, or some of F. -/
theorem Away.then {F G : Nat → Prop} {a b c : World} (h : Away F a b) (k : Away G b c) (hG : ∀ i, i < a.heap.size → G i → F i) : Away F a c :=
  ⟨k.os.trans h.os, k.tape.trans h.tape, k.output.trans h.output, Nat.le_trans h.size k.size, fun i hi hF => (k.block i (Nat.lt_of_lt_of_le hi h.size) fun hg => hF (hG i hi hg)).trans (h.block i hi hF)⟩
theorem Away.drew {F : Nat → Prop} {a w : World} (h : Away F a w) : Away F a w.drew := ⟨h.os, h.tape, h.output, h.size, h.block⟩
theorem Away.alloc {F : Nat → Prop} {a w : World} (h : Away F a w) (o : Obj) : Away F a (w.alloc o) :=
  h.then (G := fun _ => False) ⟨rfl, rfl, rfl, by simp, fun k hk _ => Below.heap_alloc _ _ _ hk⟩ (fun _ _ h => h.elim)
theorem Away.setCell {F : Nat → Prop} {a w : World} (h : Away F a w) {p : Addr} (hp : p.block < a.heap.size → F p.block) (u : Value) : Away F a (w.setCell p u) :=
  h.then (G := fun k => k = p.block) ⟨rfl, rfl, rfl, by simp [World.setCell], fun k hk hn => Below.heap_setCell _ _ _ _ hn⟩ (fun i hi e => by subst e; exact hp hi)
theorem Away.put {F : Nat → Prop} {a w : World} (h : Away F a w) {D : Nat} (hD : F D) (i : Nat) (u : Value) : Away F a (w.setCell ⟨D, i, none⟩ u) := h.setCell (p := ⟨D, i, none⟩) (fun _ => hD) u
theorem Away.drewN {F : Nat → Prop} {a w : World} (h : Away F a w) (n : Nat) : Away F a (w.drewN n) := ⟨h.os, h.tape, h.output, h.size, h.block⟩
theorem Away.grown {F : Nat → Prop} {a w w' : World} {row : Option Nat} (h : Away F a w) (hg : w.grownBy w' row) (hr : ∀ k, row = some k → k < a.heap.size → F k) : Away F a w' :=
  h.then (G := fun k => row = some k) ⟨hg.os, hg.tape, hg.output, hg.size, fun k hk hn => hg.block k hk fun e => hn e.symm⟩ (fun i hi e => hr i e hi)
theorem Away.of {F : Nat → Prop} {w w' : World} (h : Below w.heap.size w w') : Away F w w' := ⟨h.os, h.tape, h.output, h.size, fun k hk _ => h.block k hk⟩
theorem Away.low {F : Nat → Prop} {a w w' : World} (h : Away F a w) (hb : Below w.heap.size w w') : Away F a w' := h.trans (Away.of hb)
theorem Away.below {F : Nat → Prop} {B : Nat} {w w' : World} (h : Away F w w') (hB : B ≤ w.heap.size) (hF : ∀ k, F k → B ≤ k) : Below B w w' :=
  ⟨h.os, h.tape, h.output, h.size, fun k hk => h.block k (Nat.lt_of_lt_of_le hk hB) fun hf => by have := hF k hf; omega⟩
theorem Away.cell {F : Nat → Prop} {w w' : World} (h : Away F w w') {p : Addr} {v : Value} (hc : w.cell? p = some v) (hF : ¬ F p.block) : w'.cell? p = some v :=
  (World.cell?_of_block (w := w) (h.block p.block (World.block_lt_of_cell? w _ hc) hF)).trans hc
theorem Away.frozen {F : Nat → Prop} {w w' : World} (h : Away F w w') {p : Addr} (hp : p.block < w.heap.size) (hF : ¬ F p.block) : w'.frozen? p = w.frozen? p :=
  World.frozen?_of_block (w := w) (h.block p.block hp hF)

/-- A block whose cells are known, none of them frozen. -/
structure Blk (w : World) (B : Nat) (vs : List Value) : Prop where
  c : ∀ j v, vs[j]? = some v → w.cell? ⟨B, j, none⟩ = some v
  fz : ∀ j, w.frozen? ⟨B, j, none⟩ = false
theorem Blk.new (w : World) (cs : Array Value) (T : TypeId) (vs : List Value) (h : cs.toList = vs) : Blk (w.alloc (.cells cs T)) w.heap.size vs :=
  ⟨fun j v hj => by rw [World.cell?_alloc_new, ← Array.getElem?_toList, h]; exact hj, frozen_new w cs T⟩
theorem Blk.lt {w : World} {B : Nat} {v : Value} {vs : List Value} (h : Blk w B (v :: vs)) : B < w.heap.size := World.block_lt_of_cell? w _ (h.c 0 v rfl)
theorem Blk.set {w : World} {B : Nat} {vs : List Value} (h : Blk w B vs) (i : Nat) (hi : i < vs.length) (u : Value) : Blk (w.setCell ⟨B, i, none⟩ u) B (vs.set i u) := by
  refine ⟨fun j v hj => ?_, fun j => by rw [World.frozen?_setCell]; exact h.fz j⟩
  by_cases e : i = j
  · subst e
    rw [List.getElem?_set_self hi] at hj
    injection hj with hj
    subst hj
    exact World.cell?_setCell_same w _ u (h.c i vs[i] (List.getElem?_eq_getElem hi))
  · rw [List.getElem?_set_ne e] at hj
    rw [World.cell?_setCell_other _ _ _ _ (fun q => by injection q with _ q2 _; exact e q2)]
    exact h.c j v hj
theorem Blk.away {w w' : World} {B : Nat} {vs : List Value} {F : Nat → Prop} (h : Blk w B vs) (hB : B < w.heap.size) (ha : Away F w w') (hF : ¬ F B) : Blk w' B vs :=
  ⟨fun j v hj => ha.cell (h.c j v hj) hF, fun j => (ha.frozen (p := ⟨B, j, none⟩) hB hF).trans (h.fz j)⟩
theorem Blk.below {w w' : World} {B : Nat} {vs : List Value} (h : Blk w B vs) (hB : B < w.heap.size) (hb : Below w.heap.size w w') : Blk w' B vs := h.away (F := fun _ => False) hB (Away.of hb) id
theorem Blk.far {w : World} {B : Nat} {vs : List Value} (h : Blk w B vs) (p : Addr) (u : Value) (hp : p.block ≠ B) : Blk (w.setCell p u) B vs :=
  ⟨fun j v hj => by rw [World.cell?_setCell_other w p ⟨B, j, none⟩ u (fun e => hp (by rw [e]))]; exact h.c j v hj, fun j => by rw [World.frozen?_setCell]; exact h.fz j⟩
theorem Blk.alloc {w : World} {B : Nat} {vs : List Value} (h : Blk w B vs) (hB : B < w.heap.size) (o : Obj) : Blk (w.alloc o) B vs := h.below hB ((Below.refl _ w).alloc (Nat.le_refl _) o)
theorem Blk.drew {w : World} {B : Nat} {vs : List Value} (h : Blk w B vs) : Blk w.drew B vs := ⟨fun j v hj => h.c j v hj, fun j => h.fz j⟩

/-- A row of the call's own stays, where its block does. -/
theorem own_away {w w' : World} {base : Nat} {e : TypeId} {z n : Nat} {v : Value} {xs : List Value} {F : Nat → Prop} (h : w.ownsRow base e z v n xs) (ha : Away F w w') (hF : ∀ k, v.ownBlock = some k → ¬ F k) : w'.ownsRow base e z v n xs := by
  obtain ⟨h1, h2⟩ := h
  refine ⟨h1, ?_⟩
  rcases h2 with h2 | ⟨g, cap, cur, hv, hg, hh, r⟩
  · exact .inl h2
  · refine .inr ⟨g, cap, cur, hv, hg, ?_, r⟩
    rw [ha.block g (Array.getElem?_eq_some_iff.1 hh).1 (hF g (by rw [hv]; rfl))]
    exact hh
end Go.Proofs.YtgmjkkiahanekaaDoor

/- The contracts of head.line and of the document's End. -/
set_option linter.unusedVariables false
set_option linter.unusedSimpArgs false
namespace Go.Proofs.YtgmjkkiahanekaaDoor
open Go.RowKit Lex

theorem byte_at (s : ByteArray) (k : Nat) (h : k < s.size) : s.data.toList.drop k = s[k] :: s.data.toList.drop (k + 1) := by
  have := List.drop_eq_getElem_cons (l := s.data.toList) (i := k) (by rw [size_list]; exact h)
  rw [this]; rfl
theorem eqN (c d : UInt8) (n : Int) (h : (d.toNat : Int) = n) : ((c.toNat : Int) == n) = decide (c = d) := by
  rw [Bool.eq_iff_iff, beq_iff_eq, decide_eq_true_eq, ← UInt8.toNat_inj]; omega
theorem neN (c d : UInt8) (n : Int) (h : (d.toNat : Int) = n) : ((c.toNat : Int) != n) = !decide (c = d) := by unfold bne; rw [eqN c d n h]
def lineVal (x : Option (List UInt8) × Int) : Value := .tuple #[.string (bs (x.1.getD [])), .bool x.1.isSome, .int .i64 x.2]
theorem line_res {over : Int} {M k : Nat} {L : List UInt8} (h : (L.take k).all lb = true) (hk : k ≤ M) (hl : k ≤ L.length) :
    lineL over M L = ((lineL over (M - k) (L.drop k)).1.map (L.take k ++ ·), (lineL over (M - k) (L.drop k)).2) := by
  have := lineL_app over (L.take k) M (L.drop k) h (by rw [List.length_take]; omega)
  rw [List.take_append_drop] at this
  rw [List.length_take, Nat.min_eq_left hl] at this
  exact this
theorem lb_of {c : UInt8} (h1 : c ≠ 10) (h2 : c ≠ 13) : lb c = true := by simp [lb, h1, h2]

set_option maxRecDepth 100000 in
set_option maxHeartbeats 1000000 in
theorem line_c (s : ByteArray) (M : Nat) (over : Int) (w : World) (hs : s.size ≤ 9223372036854775806) :
    Calls Tryd.prog 39 #[.string s, .int .i64 M, .int .i64 over] w fun e w' => e = .returned (lineVal (lineL over M s.data.toList)) ∧ w = w' := by
  generalize hv : lineL over M s.data.toList = v
  have HV := Lib.hid hv
  clear hv
  go_enter Tryd.func39, Tryd.ntmps39
  go_wp2
  go_loop [9, 12] (fun _ i => ∃ k : Nat, k ≤ s.size ∧ k ≤ M ∧ i = .int .i64 k ∧ (s.data.toList.take k).all lb = true) (fun _ i => s.size - (intOf i).toNat)
  case atStart => exact ⟨0, Nat.zero_le _, Nat.zero_le _, rfl, rfl⟩
  case round =>
    obtain ⟨k, hk, hkM, rfl, ha⟩ := hrel
    have hres := HV.out.symm.trans (line_res (over := over) ha hkM (by rw [size_list]; exact hk))
    have HA := Lib.hid ha
    clear ha
    by_cases hlt : k < s.size
    · rw [byte_at s k hlt] at hres
      have c10 := eqN s[k] 10 10 rfl
      have c13 := eqN s[k] 13 13 rfl
      by_cases h10 : s[k] = 10
      · rw [h10, lineL_10] at hres
        obtain rfl : v = (none, 80) := hres
        rw [decide_eq_true h10] at c10
        clear h10 c13
        go_wp2
        go_ret3
        exact ⟨rfl, rfl⟩
      · rw [decide_eq_false h10] at c10
        by_cases h13 : s[k] = 13
        · rw [h13, lineL_13] at hres
          rw [decide_eq_true h13] at c13
          by_cases hlast : k + 1 = s.size
          · have hd : s.data.toList.drop (k + 1) = [] := List.drop_eq_nil_of_le (by rw [size_list]; omega)
            rw [if_pos hd] at hres
            obtain rfl : v = (none, 0) := hres
            have bl : ((k : Int) + 1 == (s.size : Int)) = true := by rw [beq_iff_eq]; omega
            clear h10 h13 hd
            go_wp2
            go_ret3
            exact ⟨rfl, rfl⟩
          · have hlt2 : k + 1 < s.size := by omega
            have hd := byte_at s (k + 1) hlt2
            rw [hd, if_neg (by simp)] at hres
            have bl : ((k : Int) + 1 == (s.size : Int)) = false := by rw [beq_eq_false_iff_ne]; omega
            have n10 : ((s[k + 1].toNat : Int) != 10) = !decide (s[k + 1] = 10) := neN s[k + 1] 10 10 rfl
            by_cases hn : s[k + 1] = 10
            · simp only [hn, List.head?_cons, if_true, Option.map_some, List.append_nil] at hres
              rw [decide_eq_true hn] at n10
              have e1 : (s.extract 0 k).data.toList = s.data.toList.take k := by rw [Lib.extract_data]; simp
              have hr2 : v = (some (s.extract 0 k).data.toList, 0) := by rw [hres, e1]
              subst hr2
              clear hres h10 h13 hd hn e1
              go_wp2
              go_ret3
              exact ⟨by unfold lineVal; simp only [Option.getD_some, list_bs]; rfl, rfl⟩
            · rw [if_neg (by simpa using hn)] at hres
              obtain rfl : v = (none, 80) := hres
              rw [decide_eq_false hn] at n10
              clear h10 h13 hd hn
              go_wp2
              go_ret3
              exact ⟨rfl, rfl⟩
        · rw [decide_eq_false h13] at c13
          by_cases hM : k = M
          · subst hM
            rw [Nat.sub_self, lineL_over over _ h10 h13] at hres
            obtain rfl : v = (none, over) := hres
            clear h10 h13
            go_wp2
            go_ret3
            exact ⟨rfl, rfl⟩
          · have hkM2 : (k : Int) < (M : Int) := by omega
            have HN := Lib.hid (all_take_snoc lb s k hlt HA.out (lb_of h10 h13))
            clear hres h10 h13
            go_wp2
            go_round
            case rel => exact ⟨k + 1, by omega, by omega, by go_num, HN.out⟩
            case measure => simp [intOf]; omega
    · have hd : s.data.toList.drop k = [] := List.drop_eq_nil_of_le (by rw [size_list]; omega)
      rw [hd, lineL_nil] at hres
      obtain rfl : v = (none, 0) := hres
      clear hd
      go_wp2
      go_ret3
      exact ⟨rfl, rfl⟩

def endVal (a : Nat) (x : Option (List UInt8) × Int) : Value := .tuple #[.int .i64 (match x.1 with | some l => ((a + l.length : Nat) : Int) | none => -1), .int .i64 x.2]
end Go.Proofs.YtgmjkkiahanekaaDoor

/- The contract of head.version. -/
set_option linter.unusedVariables false
set_option linter.unusedSimpArgs false
namespace Go.Proofs.YtgmjkkiahanekaaDoor
open Go.RowKit Lex

theorem decimal_one (c : UInt8) : decimal [c] 1 = if digit c = true then ((c.toNat : Int) - 48, true) else (0, false) := by
  have key : ∀ c : Fin 256, decimal [UInt8.ofNat c.val] 1 = if digit (UInt8.ofNat c.val) = true then (((UInt8.ofNat c.val).toNat : Int) - 48, true) else (0, false) := by decide +kernel
  have := key ⟨c.toNat, c.toNat_lt⟩
  simpa using this
theorem ext_list (s : ByteArray) (a b : Nat) : (s.extract a b).data.toList = (s.data.toList.drop a).take (b - a) := by rw [Lib.extract_data]
theorem ext_one (s : ByteArray) (k : Nat) (h : k < s.size) : (s.extract k (k + 1)).data.toList = [s[k]] := by
  rw [ext_list, byte_at s k h, Nat.add_sub_cancel_left]; rfl
theorem at_list (s : ByteArray) (k : Nat) (h : k < s.size) : s.data.toList[k]? = some s[k] := by
  have h2 := List.getElem?_eq_getElem (l := s.data.toList) (i := k) (by rw [size_list]; exact h)
  rw [h2]; rfl
def verVal (x : Int × Int) : Value := .tuple #[.int .i64 x.1, .int .i64 x.2]
set_option maxRecDepth 100000 in
set_option maxHeartbeats 1000000 in
theorem version_c (s : ByteArray) (w : World) (hs : s.size ≤ 9223372036854775806) :
    Calls Tryd.prog 42 #[.string s] w fun e w' => e = .returned (verVal (versionL s.data.toList)) ∧ w = w' := by
  by_cases h8 : s.size = 8
  · have b8 : ((s.size : Int) != 8) = false := by rw [bne_eq_false_iff_eq]; omega
    have e5 := at_list s 5 (by omega)
    have e6 := at_list s 6 (by omega)
    have e7 := at_list s 7 (by omega)
    have x5 : (s.extract 0 5).toList = s.data.toList.take 5 := by rw [Lib.toList_data, ext_list]; rfl
    have n6 := neN s[6] 46 46 rfl
    generalize hv : versionL s.data.toList = v
    unfold versionL at hv
    rw [size_list, e5, e6, e7] at hv
    by_cases h5 : s.data.toList.take 5 = httpV
    · have p5 : (s.extract 0 5).toList = [72, 84, 84, 80, 47] := by rw [x5]; exact h5
      by_cases h6 : s[6] = 46
      · rw [decide_eq_true h6] at n6
        rw [if_pos ⟨h8, h5, by rw [h6]⟩] at hv
        simp only at hv
        have D1 := fun w => Lib.hid (decimal_c (s.extract 5 6) 1 w)
        have D2 := fun w => Lib.hid (decimal_c (s.extract 7 8) 1 w)
        rw [ext_one s 5 (by omega), decimal_one] at D1
        rw [ext_one s 7 (by omega), decimal_one] at D2
        by_cases d5 : digit s[5] = true
        · by_cases d7 : digit s[7] = true
          · rw [if_pos ⟨d5, d7⟩] at hv
            rw [if_pos d5] at D1
            rw [if_pos d7] at D2
            have hmj : ((s[5].toNat : Int) - 48 = 1) ↔ s[5] = 49 := by rw [← UInt8.toNat_inj]; show _ ↔ s[5].toNat = 49; omega
            generalize (s[5].toNat : Int) - 48 = mj at *
            generalize (s[7].toNat : Int) - 48 = mn at *
            by_cases h1 : s[5] = 49
            · rw [if_pos h1] at hv
              have b1 : (mj != 1) = false := by rw [bne_eq_false_iff_eq]; exact hmj.2 h1
              subst hv
              clear e5 e6 e7 x5 h5 h6 d5 d7 hmj h1
              go_enter Tryd.func42, Tryd.ntmps42
              go_wp2_with (first | (have hk := K1.out; go_at_call 41; refine (D2 _).out.mono ?_; rintro e w2 ⟨rfl, rfl⟩; clear hk) | (go_at_call 41; refine (D1 _).out.mono ?_; rintro e w1 ⟨rfl, rfl⟩; have K1 := Lib.hid True.intro))
              go_ret2
              exact ⟨rfl, rfl⟩
            · rw [if_neg h1] at hv
              have b1 : (mj != 1) = true := by rw [bne_iff_ne]; exact fun h => h1 (hmj.1 h)
              subst hv
              clear e5 e6 e7 x5 h5 h6 d5 d7 hmj h1
              go_enter Tryd.func42, Tryd.ntmps42
              go_wp2_with (first | (have hk := K1.out; go_at_call 41; refine (D2 _).out.mono ?_; rintro e w2 ⟨rfl, rfl⟩; clear hk) | (go_at_call 41; refine (D1 _).out.mono ?_; rintro e w1 ⟨rfl, rfl⟩; have K1 := Lib.hid True.intro))
              go_ret2
              exact ⟨rfl, rfl⟩
          · rw [if_neg (fun h => d7 h.2)] at hv
            rw [if_pos d5] at D1
            rw [if_neg d7] at D2
            generalize (s[5].toNat : Int) - 48 = mj at *
            subst hv
            clear e5 e6 e7 x5 h5 h6 d5 d7
            go_enter Tryd.func42, Tryd.ntmps42
            go_wp2_with (first | (have hk := K1.out; go_at_call 41; refine (D2 _).out.mono ?_; rintro e w2 ⟨rfl, rfl⟩; clear hk) | (go_at_call 41; refine (D1 _).out.mono ?_; rintro e w1 ⟨rfl, rfl⟩; have K1 := Lib.hid True.intro))
            go_ret2
            exact ⟨rfl, rfl⟩
        · rw [if_neg (fun h => d5 h.1)] at hv
          rw [if_neg d5] at D1
          obtain ⟨a, b, hab⟩ : ∃ a b, (if digit s[7] = true then ((s[7].toNat : Int) - 48, true) else (0, false)) = (a, b) := ⟨_, _, rfl⟩
          rw [hab] at D2
          subst hv
          clear e5 e6 e7 x5 h5 h6 d5 hab
          go_enter Tryd.func42, Tryd.ntmps42
          go_wp2_with (first | (have hk := K1.out; go_at_call 41; refine (D2 _).out.mono ?_; rintro e w2 ⟨rfl, rfl⟩; clear hk) | (go_at_call 41; refine (D1 _).out.mono ?_; rintro e w1 ⟨rfl, rfl⟩; have K1 := Lib.hid True.intro))
          go_ret2
          exact ⟨rfl, rfl⟩
      · rw [decide_eq_false h6] at n6
        rw [if_neg (fun h => h6 (by have := h.2.2; injection this))] at hv
        subst hv
        clear e5 e6 e7 x5 h5 h6
        go_enter Tryd.func42, Tryd.ntmps42
        go_wp2
        go_ret2
        exact ⟨rfl, rfl⟩
    · have p5 : ¬ (s.extract 0 5).toList = [72, 84, 84, 80, 47] := by rw [x5]; exact h5
      rw [if_neg (fun h => h5 h.2.1)] at hv
      subst hv
      clear e5 e6 e7 x5 h5
      go_enter Tryd.func42, Tryd.ntmps42
      go_wp2
      go_ret2
      exact ⟨rfl, rfl⟩
  · have hv : versionL s.data.toList = (0, 80) := by unfold versionL; rw [if_neg]; rw [size_list]; exact fun h => h8 h.1
    have b8 : ((s.size : Int) != 8) = true := by rw [bne_iff_ne]; omega
    rw [hv]
    go_enter Tryd.func42, Tryd.ntmps42
    go_wp2
    go_ret2
    exact ⟨rfl, rfl⟩
end Go.Proofs.YtgmjkkiahanekaaDoor

/- A struct of two cells in a block of its own. -/
set_option linter.unusedVariables false
set_option linter.unusedSimpArgs false
namespace Go.Proofs.YtgmjkkiahanekaaDoor
open Go.RowKit Lex

structure Box2 (w : World) (B : Nat) (v0 v1 : Value) : Prop where
  c0 : w.cell? ⟨B, 0, none⟩ = some v0
  c1 : w.cell? ⟨B, 1, none⟩ = some v1
  fz : ∀ j, w.frozen? ⟨B, j, none⟩ = false
theorem box2_new (w : World) (v0 v1 : Value) (T : TypeId) : Box2 (w.alloc (.cells #[v0, v1] T)) w.heap.size v0 v1 := by
  refine ⟨?_, ?_, fun j => by rw [World.frozen?_alloc_new]⟩ <;> (rw [World.cell?_alloc_new]; rfl)
theorem Box2.below {w w' : World} {B : Nat} {v0 v1 : Value} (h : Box2 w B v0 v1) (hb : Below w.heap.size w w') : Box2 w' B v0 v1 := by
  have hlt := World.block_lt_of_cell? w _ h.c0
  exact ⟨cell_below hb h.c0, cell_below hb h.c1, fun j => (hb.frozen (p := ⟨B, j, none⟩) hlt).trans (h.fz j)⟩
theorem Box2.alloc {w : World} {B : Nat} {v0 v1 : Value} (h : Box2 w B v0 v1) (o : Obj) : Box2 (w.alloc o) B v0 v1 := h.below ((Below.refl _ w).alloc (Nat.le_refl _) o)
theorem Box2.stored {w : World} {B : Nat} {v0 v1 : Value} (h : Box2 w B v0 v1) (u0 u1 : Value) : Box2 ((w.setCell ⟨B, 0, none⟩ u0).setCell ⟨B, 1, none⟩ u1) B u0 u1 where
  c0 := by
    rw [World.cell?_setCell_other _ _ _ _ (fun e => by injection e with _ e2 _; exact absurd e2 (by decide))]
    exact World.cell?_setCell_same w _ u0 h.c0
  c1 := by
    have e : (w.setCell ⟨B, 0, none⟩ u0).cell? ⟨B, 1, none⟩ = some v1 := by
      rw [World.cell?_setCell_other _ _ _ _ (fun e => by injection e with _ e2 _; exact absurd e2 (by decide))]
      exact h.c1
    exact World.cell?_setCell_same _ _ u1 e
  fz := fun j => by rw [World.frozen?_setCell, World.frozen?_setCell]; exact h.fz j
end Go.Proofs.YtgmjkkiahanekaaDoor

/- The walks over PathNormals and PathMeans. -/
set_option linter.unusedVariables false
set_option linter.unusedSimpArgs false
namespace Go.Proofs.YtgmjkkiahanekaaDoor
open Go.RowKit Lex

theorem cell_after {w w' : World} {m : Int} (hb : Below w.heap.size w w') (hm : w.cell? ⟨0, 0, none⟩ = some (.int .i64 m)) : w'.cell? ⟨0, 0, none⟩ = some (.int .i64 m) := cell_below hb hm

end Go.Proofs.YtgmjkkiahanekaaDoor

/- The walk over PathMeans. -/
set_option linter.unusedVariables false
set_option linter.unusedSimpArgs false
namespace Go.Proofs.YtgmjkkiahanekaaDoor
open Go.RowKit Lex

theorem encU_decode (n : UInt8) : decodeL (encU n) = some [n] := by
  have key : ∀ n : Fin 256, decodeL (encU (UInt8.ofNat n.val)) = some [UInt8.ofNat n.val] := by decide +kernel
  have h := key ⟨n.toNat, n.toNat_lt⟩
  simpa using h
theorem unesc_means {l l' : List UInt8} (h : unesc l = some l') : ∃ d, decodeL l = some d ∧ decodeL l' = some d := by
  induction l using walkE_ind generalizing l' with
  | h0 => simp [unesc, walkE_nil] at h; subst h; exact ⟨[], rfl, rfl⟩
  | h1 c r ih hc =>
    unfold unesc at h
    cases hb : badU c with
    | true => rw [walkE_bad hb] at h; cases h
    | false =>
      rw [walkE_plain hb hc] at h
      cases hr : walkE badU encU r with
      | none => rw [hr] at h; cases h
      | some r' =>
        rw [hr] at h; simp at h; subst h
        obtain ⟨d, h1, h2⟩ := ih hr
        refine ⟨c :: d, ?_, ?_⟩
        · unfold decodeL at *; rw [walkE_plain rfl hc, h1]; rfl
        · unfold decodeL at *; rw [walkE_plain rfl hc, h2]; rfl
  | h2 a b r ih =>
    unfold unesc at h
    cases hp : pair a b with
    | none => rw [walkE_none hp] at h; cases h
    | some n =>
      rw [walkE_some (by decide) hp] at h
      cases hr : walkE badU encU r with
      | none => rw [hr] at h; cases h
      | some r' =>
        rw [hr] at h; simp at h; subst h
        obtain ⟨d, h1, h2⟩ := ih hr
        refine ⟨n :: d, ?_, ?_⟩
        · unfold decodeL at *; rw [walkE_some rfl hp, h1]; rfl
        · have := encU_decode n
          unfold decodeL at *; rw [walkE_append this, h2]; rfl
  | h3 r hr => unfold unesc at h; rw [walkE_short hr] at h; cases h
theorem normal_escapes {l p : List UInt8} (h : normal l = some p) : ∃ t, escapes l = some t ∧ unesc l = some t := by
  unfold normal at h
  cases hu : unesc l with
  | none => rw [hu] at h; cases h
  | some t =>
    rw [hu] at h
    simp only at h
    by_cases h47 : t.head? = some 47
    · exact ⟨t, by unfold escapes; rw [if_pos (unesc_head' hu h47), hu], rfl⟩
    · rw [if_neg h47] at h; cases h

end Go.Proofs.YtgmjkkiahanekaaDoor

