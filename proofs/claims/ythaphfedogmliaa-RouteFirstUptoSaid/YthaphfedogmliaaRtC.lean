/- The walk over RouteFirst. -/
import Derived.Test.YthaphfedogmliaaRtB
import Derived.Deep.QuietTactic
import Derived.BigQuiet
import Derived.Deep.AppendLies
import Derived.Deep.AppendSrc
import Derived.Deep.Upon
import Derived.Deep.RegionHeldLaw
import Derived.Deep.RegionLaw
import Derived.Deep.RegionHeld3
import Derived.Laws.OwnMore
import Derived.OwnWalk
import Derived.IntWalk
set_option linter.unusedVariables false
set_option linter.unusedSimpArgs false
namespace Go.Proofs.Ythaphfedogmliaa
open Go.RowKit Lex

def vcells (vs : List Vh) : List Value := vs.flatMap fun v => [.string (bs v.dom), .slice v.ra v.rs.length v.rc]
theorem vcells_length (vs : List Vh) : (vcells vs).length = vs.length * 2 := by
  induction vs with
  | nil => rfl
  | cons v vs ih => unfold vcells at ih ⊢; rw [List.flatMap_cons, List.length_append, ih, List.length_cons]; simp; omega
theorem vcells_at : ∀ (vs : List Vh) (k : Nat) (h : k < vs.length), (vcells vs)[k * 2]? = some (.string (bs vs[k].dom)) ∧ (vcells vs)[k * 2 + 1]? = some (.slice vs[k].ra vs[k].rs.length vs[k].rc)
  | d :: ds, 0, _ => ⟨rfl, rfl⟩
  | d :: ds, k + 1, h => by
    have := vcells_at ds k (by simpa using h)
    have e1 : vcells (d :: ds) = .string (bs d.dom) :: .slice d.ra d.rs.length d.rc :: vcells ds := rfl
    rw [e1, show (k + 1) * 2 = k * 2 + 1 + 1 from by omega]
    exact this
theorem vcells_ones (vs : List Vh) : ∀ u ∈ vcells vs, u.oneCell' = true := by
  intro u hu
  unfold vcells at hu
  obtain ⟨v, _, hv⟩ := List.mem_flatMap.1 hu
  simp only [List.mem_cons, List.not_mem_nil, or_false] at hv
  rcases hv with rfl | rfl <;> rfl
theorem addr_add (g o q : Nat) : (⟨g, o, none⟩ : Addr).add q = ⟨g, o + q, none⟩ := by
  unfold Addr.add
  by_cases hq : q = 0
  · rw [if_pos hq, hq]; rfl
  · rw [if_neg hq]
theorem vcells_lie {w : World} {g o : Nat} {vs : List Vh} (h : Vhs w (some ⟨g, o, none⟩) vs) : ∀ j u, (vcells vs)[j]? = some u → w.cell? ((⟨g, o, none⟩ : Addr).add j) = some u := by
  intro j u hu
  have hj : j < vs.length * 2 := by
    have := (List.getElem?_eq_some_iff.1 hu).1
    rw [vcells_length] at this; exact this
  rw [addr_add]
  obtain ⟨k, hk⟩ : ∃ k, j = k * 2 ∨ j = k * 2 + 1 := ⟨j / 2, by omega⟩
  have hkl : k < vs.length := by omega
  obtain ⟨g', o', e, c1, c2, _⟩ := h k hkl
  injection e with e; injection e with e1 e2 _; subst e1 e2
  obtain ⟨a1, a2⟩ := vcells_at vs k hkl
  rcases hk with rfl | rfl
  · rw [a1] at hu; injection hu with hu; rw [← hu]; exact c1
  · rw [a2] at hu; injection hu with hu; rw [← hu, ← Nat.add_assoc]; exact c2
theorem setO (w : World) (B i j : Nat) (u : Value) (h : i ≠ j) : (w.setCell ⟨B, i, none⟩ u).cell? ⟨B, j, none⟩ = w.cell? ⟨B, j, none⟩ :=
  World.cell?_setCell_other w ⟨B, i, none⟩ ⟨B, j, none⟩ u (fun e => by injection e with _ e2 _; exact h e2)
theorem setS {w : World} {B j : Nat} {v : Value} (u : Value) (h : w.cell? ⟨B, j, none⟩ = some v) : (w.setCell ⟨B, j, none⟩ u).cell? ⟨B, j, none⟩ = some u := World.cell?_setCell_same w ⟨B, j, none⟩ u h
theorem frozen_newR (w : World) (cs : Array Value) (T : TypeId) (j : Nat) : (w.alloc (.cells cs T)).frozen? ⟨w.heap.size, j, none⟩ = false := by rw [World.frozen?_alloc_new]
theorem info_vhost : (Try.prog.info? 36).map (fun i => (i.zero, i.size, i.bytes)) = some (some (.agg #[.string ByteArray.empty, .slice none 0 0]), 2, 40) := by kernel_rfl
theorem below_grown1 {K B n c : Nat} {V w w5 : World} (hg : w.grownBy w5 (Value.slice (some ⟨B, 0, none⟩) n c).ownBlock) (hb : Below K V w) (hK : K ≤ w.heap.size) (hB : K ≤ B) : Below K V w5 :=
  hb.grown hg hK (fun k hk => by
    have h2 : some B = some k := hk
    injection h2 with h2
    omega)
theorem info_route : (Try.prog.info? 39).map (fun i => (i.zero, i.size, i.bytes)) = some (some (.agg #[.bool false, .string ByteArray.empty, .string ByteArray.empty, .string ByteArray.empty, .string ByteArray.empty, .int .i64 0, .string ByteArray.empty, .int .i64 0, .string ByteArray.empty, .string ByteArray.empty, .int .i64 0, .int .i64 0, .bool false]), 13, 160) := by kernel_rfl
open Go.Deep in
/-- Nothing is appended, at a step of a region that draws. -/
theorem step_append_zero {P : Program} (w : World) {ops : Array Oper} {o : Oper} {a : Act} {K : Act → World → Prop} {Q : Exit → Act → World → Prop} {E : Prop} (hgd : o.guard = none) (s x : Operand) (t : TypeId)
    (ho : o.op = .call { callee := .builtin .append, args := #[s, x], argTypes := #[t, t] }) (e : TypeId) (i : TypeInfo) (ht : P.underlying t = some (.slice e)) (hi : P.info? e = some i)
    (base : Option Addr) (n c : Nat) (hle : n ≤ c) (hs : a.eval s = .slice base n c) (xv : Value) (hx : a.eval x = xv) (hsrc : Src P i.size t xv 0 [] w) (h : K (a.put o.dst (.slice base n c)) w) :
    if Region.wanted o (yielded ops a.tmps) = true then Oper.wp P o a w K Q else E := by
  rw [if_pos (by simp [Region.wanted, hgd])]
  unfold Oper.wp execOp
  simp only [ho, resolve, invoke, builtin, Sem.run_bind, Sem.run_pure, Result.andThen_ok, List.map_toArray, List.map_cons, List.map_nil, hs, hx, run_append_nothing w t t o.type e i ht hi base n c hle xv hsrc]
  exact h
open Go.Deep in
theorem src_none {P : Program} {size : Nat} {tx e' : TypeId} (hk : P.underlying tx = some (.slice e')) (A : Option Addr) (c : Nat) (w : World) : Src P size tx (.slice A 0 c) 0 [] w := by
  cases A with
  | none => exact Src.ofNil w hk c
  | some a => exact Src.ofSlice w hk a 0 c [] (by simp) (fun j u hu => by simp at hu) (fun u hu => by cases hu)
/-- What a cell holds. -/
def celR (w : World) (g q : Nat) : Value := (w.cell? ⟨g, q, none⟩).getD undef
theorem celR_at {w : World} {g q : Nat} (h : (w.cell? ⟨g, q, none⟩).isSome = true) : w.cell? ⟨g, q, none⟩ = some (celR w g q) := by
  unfold celR
  cases hc : w.cell? ⟨g, q, none⟩ with
  | none => rw [hc] at h; cases h
  | some v => rfl
/-- What lies below K is as it was, and the block g but for its place q. -/
structure Kp (K g q : Nat) (V w : World) : Prop where
  below : Below K V w
  hole : ∀ k, k ≠ q → w.cell? ⟨g, k, none⟩ = V.cell? ⟨g, k, none⟩
  some : (V.cell? ⟨g, q, none⟩).isSome = true → (w.cell? ⟨g, q, none⟩).isSome = true
  fz : w.frozen? ⟨g, q, none⟩ = V.frozen? ⟨g, q, none⟩
theorem Kp.refl (K g q : Nat) (V : World) : Kp K g q V V := ⟨Below.refl _ _, fun _ _ => rfl, fun h => h, rfl⟩
theorem Kp.drew {K g q : Nat} {V w : World} (h : Kp K g q V w) : Kp K g q V w.drew := ⟨h.below.drew, h.hole, h.some, h.fz⟩
theorem Kp.step {K g q : Nat} {V w w1 : World} (h : Kp K g q V w) (hb : Below K w w1) (hg : ∀ k, w1.cell? ⟨g, k, none⟩ = w.cell? ⟨g, k, none⟩) (hf : w1.frozen? ⟨g, q, none⟩ = w.frozen? ⟨g, q, none⟩) : Kp K g q V w1 :=
  ⟨h.below.trans hb, fun k hk => (hg k).trans (h.hole k hk), fun hs => by rw [hg]; exact h.some hs, hf.trans h.fz⟩
theorem Kp.alloc {K g q : Nat} {V w : World} (h : Kp K g q V w) (hK : K ≤ V.heap.size) (hg : g < V.heap.size) (o : Obj) : Kp K g q V (w.alloc o) := by
  have hs := h.below.size
  have hb : Below (g + 1) w (w.alloc o) := (Below.refl _ w).alloc (by omega) o
  exact h.step ((Below.refl _ w).alloc (by omega) o) (fun k => hb.cell (p := ⟨g, k, none⟩) (by simp)) (hb.frozen (p := ⟨g, q, none⟩) (by simp))
theorem Kp.grown {K g q : Nat} {V w w1 : World} {row : Option Nat} (h : Kp K g q V w) (hgr : w.grownBy w1 row) (hK : K ≤ V.heap.size) (hg : g < V.heap.size) (hr : ∀ k, row = Option.some k → V.heap.size ≤ k) : Kp K g q V w1 := by
  have hs := h.below.size
  exact h.step ((Below.refl _ w).grown hgr (by omega) (fun k hk => by have := hr k hk; omega)) (fun k => hgr.cell_far ⟨g, k, none⟩ (by simp; omega) (fun e => by have := hr g e.symm; omega)) (hgr.frozen_far ⟨g, q, none⟩ (by simp; omega) (fun e => by have := hr g e.symm; omega))
theorem Kp.set {K g q : Nat} {V w : World} (h : Kp K g q V w) (hK : K ≤ g) (u : Value) : Kp K g q V (w.setCell ⟨g, q, none⟩ u) := by
  refine ⟨h.below.setCell hK _, fun k hk => (setO w g q k u (Ne.symm hk)).trans (h.hole k hk), fun hs => ?_, (World.frozen?_setCell ..).trans h.fz⟩
  have h2 := celR_at (h.some hs)
  rw [setS u h2]; rfl
theorem news13 (w : World) (cs : Array Value) (e : TypeId) : ∀ j u, cs.toList[j]? = some u → (w.alloc (.cells cs e)).cell? ((⟨w.heap.size, 0, none⟩ : Addr).add j) = some u :=
  fun j u hu => World.news_of_block (cs := cs) (heap_alloc_new w _) j u hu
theorem newsFar {w w1 : World} {row : Option Nat} {l : List Value} {B : Nat} (hg : w.grownBy w1 row) (hb : B < w.heap.size) (hne : some B ≠ row) (h : ∀ j u, l[j]? = some u → w.cell? ((⟨B, 0, none⟩ : Addr).add j) = some u) : ∀ j u, l[j]? = some u → w1.cell? ((⟨B, 0, none⟩ : Addr).add j) = some u := fun j u hu => by
  have h1 := h j u hu
  rw [addr_add] at h1 ⊢
  exact (hg.cell_far ⟨B, 0 + j, none⟩ hb hne).trans h1
theorem newsOld {w : World} {l : List Value} {B : Nat} (o : Obj) (hb : B < w.heap.size) (h : ∀ j u, l[j]? = some u → w.cell? ((⟨B, 0, none⟩ : Addr).add j) = some u) : ∀ j u, l[j]? = some u → (w.alloc o).cell? ((⟨B, 0, none⟩ : Addr).add j) = some u := fun j u hu => by
  have h1 := h j u hu
  rw [addr_add] at h1 ⊢
  have hbl : Below (B + 1) w (w.alloc o) := (Below.refl _ w).alloc (by omega) o
  exact (hbl.cell (p := ⟨B, 0 + j, none⟩) (by simp)).trans h1
theorem own_row_ge {B n c X : Nat} (h : X ≤ B) : ∀ k, (Value.slice (some ⟨B, 0, none⟩) n c).ownBlock = some k → X ≤ k := fun k hk => by
  have h2 : some B = some k := hk
  injection h2 with h2
  omega
/-- The vhosts with other routes at one place. -/
def setR (vs : List Vh) (j : Nat) (ra : Option Addr) (rc : Nat) (rs : List Rt) : List Vh := vs.modify j (fun v => ⟨v.dom, ra, rc, rs⟩)
theorem setR_length (vs : List Vh) (j : Nat) (ra : Option Addr) (rc : Nat) (rs : List Rt) : (setR vs j ra rc rs).length = vs.length := List.length_modify ..
theorem setR_doms (vs : List Vh) (j : Nat) (ra : Option Addr) (rc : Nat) (rs : List Rt) : (setR vs j ra rc rs).map (·.dom) = vs.map (·.dom) := by
  apply List.ext_getElem
  · simp [setR]
  · intro i h1 h2
    simp only [setR, List.getElem_map, List.getElem_modify]
    split <;> rfl
theorem setR_at (vs : List Vh) (j : Nat) (ra : Option Addr) (rc : Nat) (rs : List Rt) (i : Nat) (hi : i < vs.length) : (setR vs j ra rc rs)[i]'(by rw [setR_length]; exact hi) = if j = i then ⟨vs[i].dom, ra, rc, rs⟩ else vs[i] := by
  simp only [setR, List.getElem_modify]
theorem vhs_set {w3 w9 : World} {g o g5 j cap8 : Nat} {ra : Option Addr} {vs : List Vh} {rs : List Rt} (hV : Vhs w3 (some ⟨g, o, none⟩) vs) (h39 : Below w3.heap.size w3 w9) (hc : ∀ k u, k ≠ j * 2 + 1 → (vcells vs)[k]? = some u → w9.cell? ⟨g5, k, none⟩ = some u)
    (hq : w9.cell? ⟨g5, j * 2 + 1, none⟩ = some (.slice ra rs.length cap8)) (hr : Rts w9 ra rs) : Vhs w9 (some ⟨g5, 0, none⟩) (setR vs j ra cap8 rs) := by
  intro i hi
  rw [setR_length] at hi
  rw [setR_at _ _ _ _ _ i hi]
  obtain ⟨_, _, _, _, _, hR⟩ := hV i hi
  obtain ⟨a1, a2⟩ := vcells_at vs i hi
  refine ⟨g5, 0, rfl, ?_⟩
  by_cases e : j = i
  · subst e
    rw [if_pos rfl]
    refine ⟨?_, ?_, hr⟩
    · rw [Nat.zero_add]; exact hc _ _ (by omega) a1
    · rw [Nat.zero_add]; exact hq
  · rw [if_neg e]
    refine ⟨?_, ?_, hR.below h39⟩
    · rw [Nat.zero_add]; exact hc _ _ (by omega) a1
    · rw [Nat.zero_add]; exact hc _ _ (by omega) a2
theorem vb_set {vs : List Vh} {j : Nat} {ra : Option Addr} {rc : Nat} {rs : List Rt} (h : VB vs) (hr : rs.length ≤ 1048600 ∧ ∀ r ∈ rs, r.field.size ≤ 1048600 ∧ r.path.size ≤ 1048600) : VB (setR vs j ra rc rs) := by
  have key : ∀ v ∈ setR vs j ra rc rs, (∃ u ∈ vs, v.dom = u.dom) ∧ (v ∈ vs ∨ v.rs = rs) := by
    intro v hv
    obtain ⟨i, hi, rfl⟩ := List.getElem_of_mem hv
    rw [setR_length] at hi
    rw [setR_at _ _ _ _ _ i hi]
    split
    · exact ⟨⟨_, List.getElem_mem hi, rfl⟩, .inr rfl⟩
    · exact ⟨⟨_, List.getElem_mem hi, rfl⟩, .inl (List.getElem_mem hi)⟩
  refine ⟨by rw [setR_length]; exact h.len, fun v hv => ?_, fun v hv => ?_⟩
  · obtain ⟨⟨u, hu, e⟩, _⟩ := key v hv
    rw [e]; exact h.dom u hu
  · rcases (key v hv).2 with hm | e
    · exact h.rts v hm
    · rw [e]; exact hr
theorem findV_set {vs : List Vh} {j : Nat} {ra : Option Addr} {rc : Nat} {rs : List Rt} {h m p : List UInt8} {fs : List Fd} (hj : j < vs.length) (hd : domain (vs.map (·.dom)) h = j) : findV (setR vs j ra rc rs) h m p fs = (match findR m p fs rs with | some k => ((j : Int), (k : Int), true) | none => (0, 0, false)) := by
  unfold findV
  rw [setR_doms, hd, if_neg (by omega), Int.toNat_natCast, List.getD_eq_getElem?_getD, List.getElem?_map, List.getElem?_eq_getElem (by rw [setR_length]; exact hj), setR_at _ _ _ _ _ j hj, if_pos rfl]
  rfl
/-- Routes, cell by cell. -/
def rcells (rs : List Rt) : List Value := rs.flatMap Rt.cells
theorem rcells_length (rs : List Rt) : (rcells rs).length = rs.length * 13 := by
  induction rs with
  | nil => rfl
  | cons v vs ih => unfold rcells at ih ⊢; rw [List.flatMap_cons, List.length_append, ih, List.length_cons]; simp [Rt.cells]; omega
theorem findR_app_some {m p : List UInt8} {fs : List Fd} {rs : List Rt} {k : Nat} (h : findR m p fs rs = some k) (r : Rt) : findR m p fs (rs ++ [r]) = some k := by
  unfold findR at *
  rw [List.findIdx?_append, h]; rfl
theorem findR_app_none {m p : List UInt8} {fs : List Fd} {rs : List Rt} (h : findR m p fs rs = none) (r : Rt) : findR m p fs (rs ++ [r]) = if takeK m p fs r = true then some rs.length else none := by
  unfold findR at *
  rw [List.findIdx?_append, h]
  by_cases hr : takeK m p fs r = true
  · rw [if_pos hr]; simp [List.findIdx?_cons, hr]
  · rw [if_neg hr]; simp [List.findIdx?_cons, hr]
theorem findR_head {m p : List UInt8} {fs : List Fd} {rs : List Rt} {r : Rt} (h : takeK m p fs r = true) : findR m p fs (r :: rs) = some 0 := by
  unfold findR; simp [List.findIdx?_cons, h]
theorem rcells_app (a b : List Rt) : rcells (a ++ b) = rcells a ++ rcells b := by unfold rcells; rw [List.flatMap_append]
theorem rcells_at : ∀ (rs : List Rt) (k : Nat) (h : k < rs.length) (i : Nat) (hi : i < 13), (rcells rs)[k * 13 + i]? = rs[k].cells[i]?
  | r :: rs, 0, _, i, hi => by
    have e1 : rcells (r :: rs) = r.cells ++ rcells rs := rfl
    rw [e1, Nat.zero_mul, Nat.zero_add, List.getElem?_append_left (by simp [Rt.cells]; omega)]; rfl
  | r :: rs, k + 1, h, i, hi => by
    have := rcells_at rs k (by simpa using h) i hi
    have e1 : rcells (r :: rs) = r.cells ++ rcells rs := rfl
    have hl : r.cells.length = 13 := rfl
    rw [e1, List.getElem?_append_right (by omega), hl, show (k + 1) * 13 + i - 13 = k * 13 + i by omega]
    exact this
theorem cells_ones (r : Rt) : ∀ u ∈ r.cells, u.oneCell' = true := by
  intro u hu
  simp only [Rt.cells, List.mem_cons, List.not_mem_nil, or_false] at hu
  rcases hu with rfl | rfl | rfl | rfl | rfl | rfl | rfl | rfl | rfl | rfl | rfl | rfl | rfl <;> rfl
theorem rcells_ones (rs : List Rt) : ∀ u ∈ rcells rs, u.oneCell' = true := by
  intro u hu
  obtain ⟨r, _, hr⟩ := List.mem_flatMap.1 hu
  exact cells_ones r u hr
theorem rcells_lie {w : World} {g o : Nat} {rs : List Rt} (h : Rts w (some ⟨g, o, none⟩) rs) : ∀ j u, (rcells rs)[j]? = some u → w.cell? ((⟨g, o, none⟩ : Addr).add j) = some u := by
  intro j u hu
  have hj : j < rs.length * 13 := by
    have := (List.getElem?_eq_some_iff.1 hu).1
    rw [rcells_length] at this; exact this
  rw [addr_add]
  obtain ⟨k, i, hk, hi⟩ : ∃ k i, j = k * 13 + i ∧ i < 13 := ⟨j / 13, j % 13, by omega, by omega⟩
  have hkl : k < rs.length := by omega
  obtain ⟨g', o', e, c⟩ := h k hkl
  injection e with e; injection e with e1 e2 _; subst e1 e2
  subst hk
  rw [rcells_at rs k hkl i hi] at hu
  rw [← Nat.add_assoc]; exact c i u hu
theorem rts_own {w : World} {base : Nat} {e : TypeId} {g cap : Nat} {rs : List Rt} (h : w.ownsRow base e 13 (.slice (some ⟨g, 0, none⟩) rs.length cap) rs.length (rcells rs)) : Rts w (some ⟨g, 0, none⟩) rs := by
  intro j hj
  refine ⟨g, 0, rfl, fun i u hu => ?_⟩
  have hi : i < 13 := (List.getElem?_eq_some_iff.1 hu).1
  rw [← rcells_at rs j hj i hi] at hu
  have := World.ownsRow.cells h (g := g) rfl _ _ hu
  rw [addr_add] at this
  rw [Nat.zero_add] at this ⊢; exact this
set_option maxRecDepth 100000 in
set_option maxHeartbeats 16000000 in
theorem first_walk {W : World} (i0 i1 i2 i3 i4 i5 : Int) (Fa : Option Addr) (Fn Fc : Nat) (La : Option Addr) (Ln Lc : Nat) (VA : Option Addr) (vcap : Nat) (vs : List Vh) (hV : Vhs W VA vs) (hB : VB vs) (hRL : ∀ v ∈ vs, v.rs.length ≤ 1048576) (m : ByteArray) (hm : m.size ≤ 1048576) (h : ByteArray) (hh : h.size ≤ 1048576) (p : ByteArray) (hp : p.size ≤ 1048576)
    (A : Option Addr) (cap : Nat) (fs : List Fd) (hA : A = none → cap = 0) (hF : Flds W A fs) (hl : fs.length ≤ 1048576 ∧ ∀ f ∈ fs, f.1.length ≤ 1048576 ∧ f.2.length ≤ 1048576) (r : Rt) (hr : r.field.size ≤ 1048576 ∧ r.path.size ≤ 1048576) (W2 : World) (hW : W2 = W) :
    Calls Try.prog 4 #[.agg #[.int .i64 i0, .int .i64 i1, .int .i64 i2, .int .i64 i3, .int .i64 i4, .int .i64 i5, .slice Fa Fn Fc, .slice La Ln Lc, .slice VA vs.length vcap], .string m, .string h, .string p, .slice A fs.length cap, r.val] W2 fun e w' => e = .returned (.bool true) ∧ Below W2.heap.size W2 w' := by
  subst hW
  obtain ⟨pre, pa, me, fi, va, r5, r6, r7, r8, r9, r10, r11, r12⟩ := r
  unfold Rt.val
  simp only at hr ⊢
  have hs1 : ∀ f ∈ fs, f.1.length ≤ 1048600 := fun f hf => by have := (hl.2 f hf).1; omega
  have hs2 : ∀ f ∈ fs, f.2.length ≤ 1048600 := fun f hf => by have := (hl.2 f hf).2; omega
  have hl1 : fs.length ≤ 1048600 := by have := hl.1; omega
  obtain ⟨V1, hV1⟩ : ∃ V1, W2.alloc (.cells #[.int .i64 i0, .int .i64 i1, .int .i64 i2, .int .i64 i3, .int .i64 i4, .int .i64 i5, .slice Fa Fn Fc, .slice La Ln Lc, .slice VA vs.length vcap] 26) = V1 := ⟨_, rfl⟩
  have hV1s : V1.heap.size = W2.heap.size + 1 := by rw [← hV1]; simp
  obtain ⟨V, hVV⟩ : ∃ V, V1.alloc (.cells #[.bool pre, .string pa, .string me, .string fi, .string va, .int .i64 r5, .string r6, .int .i64 r7, .string r8, .string r9, .int .i64 r10, .int .i64 r11, .bool r12] 39) = V := ⟨_, rfl⟩
  have b1 : Below W2.heap.size W2 V1 := by rw [← hV1]; exact (Below.refl _ W2).alloc (Nat.le_refl _) _
  have b2 : Below V1.heap.size V1 V := by rw [← hVV]; exact (Below.refl _ V1).alloc (Nat.le_refl _) _
  have b0 := below_then b1 b2
  have BV := Lib.hid b0
  have cj : ∀ j u, (#[.int .i64 i0, .int .i64 i1, .int .i64 i2, .int .i64 i3, .int .i64 i4, .int .i64 i5, .slice Fa Fn Fc, .slice La Ln Lc, .slice VA vs.length vcap] : Array Value)[j]? = some u → V.cell? ⟨W2.heap.size, j, none⟩ = some u := fun j u hu => cell_below b2 (by rw [← hV1, World.cell?_alloc_new]; exact hu)
  have rj : ∀ j u, (#[.bool pre, .string pa, .string me, .string fi, .string va, .int .i64 r5, .string r6, .int .i64 r7, .string r8, .string r9, .int .i64 r10, .int .i64 r11, .bool r12] : Array Value)[j]? = some u → V.cell? ⟨W2.heap.size + 1, j, none⟩ = some u := fun j u hu => by
    rw [← hV1s, ← hVV, World.cell?_alloc_new]; exact hu
  have CJ := Lib.hid cj
  have RJ := Lib.hid rj
  have HVV := Lib.hid hVV
  have HV1 := Lib.hid hV1
  have VV := Lib.hid (hV.below b0)
  have FV := Lib.hid (hF.below b0)
  have HB := Lib.hid hB
  clear cj rj hVV hV1 b0 b1 b2 hV hF hB
  have AN := Lib.hid (anchor15_c V)
  go_enter Try.func4, Try.ntmps4
  go_wp2_with fail
  rw [HV1.out, HVV.out]
  refine AN.out.mono ?_
  rintro e w1 ⟨rfl, hb1⟩
  have B1 := Lib.hid (below_then BV.out hb1)
  have VH1 := Lib.hid (VV.out.below hb1)
  have F1 := Lib.hid (FV.out.below hb1)
  have CJ1 := Lib.hid (fun j u hu => cell_below hb1 (CJ.out j u hu))
  have RJ1 := Lib.hid (fun j u hu => cell_below hb1 (RJ.out j u hu))
  clear hb1 AN HVV HV1 VV FV CJ RJ
  have hlen : (vs.map (·.dom)).length = vs.length := List.length_map ..
  have DM := Lib.hid (domain_c (.int .i64 i0) (.int .i64 i1) (.int .i64 i2) (.int .i64 i3) (.int .i64 i4) (.int .i64 i5) (.slice Fa Fn Fc) (.slice La Ln Lc) VA vcap (vs.map (·.dom)) h w1 (VH1.out.doms) (by rw [hlen]; have := HB.out.len; omega) (fun x hx => by obtain ⟨v, hv, rfl⟩ := List.mem_map.1 hx; have := HB.out.dom v hv; show v.dom.length ≤ _; omega) (by omega))
  rw [hlen] at DM
  have hrg := domain_range (vs.map (·.dom)) h.data.toList
  rw [hlen] at hrg
  have FC := fun vs' VA' vcap' w' hV' hB' hF' => Lib.hid (find_c (.int .i64 i0) (.int .i64 i1) (.int .i64 i2) (.int .i64 i3) (.int .i64 i4) (.int .i64 i5) (.slice Fa Fn Fc) (.slice La Ln Lc) VA' vcap' vs' m h p A cap fs w' hV' hB' (by omega) (by omega) hl1 hs1 hs2 hF')
  obtain ⟨dm, hdm⟩ : ∃ dm, domain (vs.map (·.dom)) h.data.toList = dm := ⟨_, rfl⟩
  have HDM := Lib.hid hdm
  rw [hdm] at DM hrg
  have k0 := CJ1.out 0 _ rfl; have k1 := CJ1.out 1 _ rfl; have k2 := CJ1.out 2 _ rfl; have k3 := CJ1.out 3 _ rfl; have k4 := CJ1.out 4 _ rfl; have k5 := CJ1.out 5 _ rfl; have k6 := CJ1.out 6 _ rfl; have k7 := CJ1.out 7 _ rfl; have k8 := CJ1.out 8 _ rfl
  clear hdm hlen
  go_wp2_with fail
  refine DM.out.mono ?_
  rintro e w2 ⟨rfl, hb2⟩
  have B2 := Lib.hid (below_then B1.out hb2)
  have VH2 := Lib.hid (VH1.out.below hb2)
  have F2 := Lib.hid (F1.out.below hb2)
  have CJ2 := Lib.hid (fun j u hu => cell_below hb2 (CJ1.out j u hu))
  have RJ2 := Lib.hid (fun j u hu => cell_below hb2 (RJ1.out j u hu))
  clear hb2 DM VH1 F1 CJ1 RJ1 B1 k0 k1 k2 k3 k4 k5 k6 k7 k8
  have k0 := CJ2.out 0 _ rfl; have k1 := CJ2.out 1 _ rfl; have k2 := CJ2.out 2 _ rfl; have k3 := CJ2.out 3 _ rfl; have k4 := CJ2.out 4 _ rfl; have k5 := CJ2.out 5 _ rfl; have k6 := CJ2.out 6 _ rfl; have k7 := CJ2.out 7 _ rfl; have k8 := CJ2.out 8 _ rfl
  have FC1 := FC vs VA vcap w2 VH2.out HB.out F2.out
  have g1 : ¬ dm < -1 := by omega
  have g2 : ¬ (vs.length : Int) ≤ dm := by omega
  by_cases hneg : dm < 0
  · have hfv : findV vs h.data.toList m.data.toList p.data.toList fs = (0, 0, false) := by unfold findV; rw [HDM.out, if_pos hneg]
    rw [hfv] at FC1
    clear hfv FC
    go_wp2_with fail
    refine FC1.out.mono ?_
    rintro e w3 ⟨rfl, hb3⟩
    have B3 := Lib.hid (below_then B2.out hb3)
    clear hb3
    go_wp2_with fail
    go_ret
    exact ⟨rfl, B3.out⟩
  · obtain ⟨j, rfl⟩ : ∃ j : Nat, dm = j := ⟨dm.toNat, by omega⟩
    have hj : j < vs.length := by omega
    have hfv : findV vs h.data.toList m.data.toList p.data.toList fs = (match findR m.data.toList p.data.toList fs vs[j].rs with | some k => ((j : Int), (k : Int), true) | none => (0, 0, false)) := by
      unfold findV
      rw [HDM.out, if_neg (by omega), Int.toNat_natCast, List.getD_eq_getElem?_getD, List.getElem?_map, List.getElem?_eq_getElem hj]
      rfl
    have HFV := Lib.hid hfv
    obtain ⟨xi, xk, xo, hx⟩ : ∃ xi xk xo, findV vs h.data.toList m.data.toList p.data.toList fs = (xi, xk, xo) := ⟨_, _, _, rfl⟩
    rw [hx] at FC1
    simp only at FC1
    have HX := Lib.hid hx
    clear hfv hx
    go_wp2_with fail
    refine FC1.out.mono ?_
    rintro e w3 ⟨rfl, hb3⟩
    have B3 := Lib.hid (below_then B2.out hb3)
    have VH3 := Lib.hid (VH2.out.below hb3)
    have F3 := Lib.hid (F2.out.below hb3)
    have CJ3 := Lib.hid (fun j u hu => cell_below hb3 (CJ2.out j u hu))
    have RJ3 := Lib.hid (fun j u hu => cell_below hb3 (RJ2.out j u hu))
    clear hb3 FC1 VH2 F2 CJ2 RJ2 B2 k0 k1 k2 k3 k4 k5 k6 k7 k8
    have k0 := CJ3.out 0 _ rfl; have k1 := CJ3.out 1 _ rfl; have k2 := CJ3.out 2 _ rfl; have k3 := CJ3.out 3 _ rfl; have k4 := CJ3.out 4 _ rfl; have k5 := CJ3.out 5 _ rfl; have k6 := CJ3.out 6 _ rfl; have k7 := CJ3.out 7 _ rfl; have k8 := CJ3.out 8 _ rfl
    have hl6 := World.block_lt_of_cell? w3 _ k0
    have hl11 := World.block_lt_of_cell? w3 _ (RJ3.out 0 _ rfl)
    simp only at hl6 hl11
    obtain ⟨V4, hV4⟩ : ∃ V4, w3.alloc (.cells #[.int .i64 i0, .int .i64 i1, .int .i64 i2, .int .i64 i3, .int .i64 i4, .int .i64 i5, .slice Fa Fn Fc, .slice La Ln Lc, .slice VA vs.length vcap] 26) = V4 := ⟨_, rfl⟩
    have hbv : Below w3.heap.size w3 V4 := by rw [← hV4]; exact (Below.refl _ w3).alloc (Nat.le_refl _) _
    have D4 : Hid (∀ j u, (#[.int .i64 i0, .int .i64 i1, .int .i64 i2, .int .i64 i3, .int .i64 i4, .int .i64 i5, .slice Fa Fn Fc, .slice La Ln Lc, .slice VA vs.length vcap] : Array Value)[j]? = some u → V4.cell? ⟨w3.heap.size, j, none⟩ = some u) := Lib.hid (fun j u hu => by rw [← hV4, World.cell?_alloc_new]; exact hu)
    have D4f : V4.frozen? ⟨w3.heap.size, 8, none⟩ = false := by rw [← hV4]; exact frozen_newR w3 _ _ 8
    have hV4s : V4.heap.size = w3.heap.size + 1 := by rw [← hV4]; simp
    have B4 := Lib.hid (below_then B3.out hbv)
    have VH4 := Lib.hid (VH3.out.below hbv)
    have F4 := Lib.hid (F3.out.below hbv)
    have CJ4 := Lib.hid (fun j u hu => cell_below hbv (CJ3.out j u hu))
    have RJ4 := Lib.hid (fun j u hu => cell_below hbv (RJ3.out j u hu))
    have HV4 := Lib.hid hV4
    have HBV := Lib.hid hbv
    clear hV4 hbv
    obtain ⟨vi0, hvi, hvz0, hvz1, hvz2⟩ := info_parts info_vhost
    obtain ⟨gA, oA, rfl, _⟩ := VH4.out j hj
    have hvl := HB.out.len
    have hO0 : Hid ((V4.alloc (.cells #[] 36)).ownsRow (w3.heap.size + 1) 36 2 (.slice (some ⟨w3.heap.size + 1, 0, none⟩) 0 0) 0 []) := Lib.hid (by rw [← hV4s]; exact World.ownsRow_lit (base := V4.heap.size) (size := 2) (e := 36) V4 #[] 0 (Nat.le_refl _) (by decide) rfl)
    have VH5 := Lib.hid (VH4.out.below ((Below.refl _ V4).alloc (Nat.le_refl _) (.cells #[] 36)))
    have B5 := Lib.hid (below_then B4.out ((Below.refl _ V4).alloc (Nat.le_refl _) (.cells #[] 36)))
    have hH5 : (V4.alloc (.cells #[] 36)).heap.size = w3.heap.size + 2 := by simp [hV4s]
    have k8d := D4.out 8 _ rfl
    have hl20 := World.block_lt_of_cell? V4 _ k8d
    have c8 := CJ4.out 8 _ rfl
    simp only at hl20

    go_wp2_with (first
      | (rw [HV4.out])
      | (at_builtin; refine wpList_append_lies _ rfl (.tmp 63) (.tmp 65) 24 rfl (w3.heap.size + 1) 36 vi0 (.agg #[.string ByteArray.empty, .slice none 0 0]) 2 40 Try.underlying24 hvi hvz0 hvz1 hvz2 rfl (by decide) (.slice (some ⟨w3.heap.size + 1, 0, none⟩) 0 0) 0 [] rfl hO0.out ⟨gA, oA, none⟩ vs.length vcap (vcells vs) rfl (vcells_length vs) (vcells_lie VH5.out) (vcells_ones vs) (by omega) (by unfold maxLen; omega) (by omega) (by omega) (w3.heap.size + 2) hH5 ?_; intro g5 cap5 w5 hown5 hgrow5 hat5 hlt5; have hbw5 : Below (w3.heap.size + 1) V4 w5 := below_grown1 hgrow5 ((Below.refl (w3.heap.size + 1) V4).alloc (by omega) _) (by omega) (Nat.le_refl _); have p5 := (hbw5.cell (p := ⟨w3.heap.size, 8, none⟩) (by simp)).trans k8d; have pf5 := (hbw5.frozen (p := ⟨w3.heap.size, 8, none⟩) (by simp)).trans D4f; have HBW5 := Lib.hid hbw5; have HO5 := Lib.hid hown5; obtain ⟨V6, hV6⟩ : ∃ V6, w5.setCell ⟨w3.heap.size, 8, none⟩ (.slice (some ⟨g5, 0, none⟩) vs.length cap5) = V6 := ⟨_, rfl⟩; have HV6 := Lib.hid hV6; have HAT5 := Lib.hid hat5; have HLT5 := Lib.hid hlt5; clear hbw5 hown5 hgrow5 hat5 hlt5 hV6)
      | (rw [HV6.out]))
    have h36 : Below w3.heap.size w3 V6 := by rw [← HV6.out]; exact (HBV.out.trans (HBW5.out.mono (show w3.heap.size ≤ w3.heap.size + 1 by omega))).setCell (Nat.le_refl _) _
    have h46 : Below w3.heap.size V4 V6 := by rw [← HV6.out]; exact (HBW5.out.mono (show w3.heap.size ≤ w3.heap.size + 1 by omega)).setCell (Nat.le_refl _) _
    have VH6 := Lib.hid (VH3.out.below h36)
    have F6 := Lib.hid (F3.out.below h36)
    have CJ6 := Lib.hid (fun j u hu => cell_below h36 (CJ3.out j u hu))
    have RJ6 := Lib.hid (fun j u hu => cell_below h36 (RJ3.out j u hu))
    have B6 := Lib.hid (below_then B3.out h36)
    have H36 := Lib.hid h36
    have hV6s : w5.heap.size = V6.heap.size := by rw [← HV6.out]; simp
    have hg5 : w3.heap.size + 1 ≤ g5 := by
      rcases HAT5.out with e | e
      · have e : some (w3.heap.size + 1) = some g5 := e
        injection e with e; omega
      · omega
    have hg5b : g5 < V6.heap.size := by have := HLT5.out; omega
    have hK6 : w3.heap.size + 1 ≤ V6.heap.size := by omega
    have O6 : Hid (V6.ownsRow (w3.heap.size + 1) 36 2 (.slice (some ⟨g5, 0, none⟩) vs.length cap5) vs.length (vcells vs)) := Lib.hid (by
      have := HO5.out
      rw [List.nil_append, Nat.zero_add] at this
      rw [← HV6.out]; exact ownsRow_setCell_below this (by simp) _)
    obtain ⟨gB, oB, eAB, d1, d2, hRv⟩ := VH6.out j hj
    injection eAB with eAB
    injection eAB with eA1 eA2 _
    subst eA1 eA2
    obtain ⟨v, hv⟩ : ∃ v, vs[j] = v := ⟨_, rfl⟩
    obtain ⟨z1, z2⟩ := vcells_at vs j hj
    have x1 := World.ownsRow.cells O6.out (g := g5) rfl _ _ z2
    rw [addr_add, Nat.zero_add] at x1
    rw [hv] at d1 d2 hRv x1
    have x2 := World.ownsRow.frozenAt O6.out (j * 2 + 1)
    have hbv := HB.out.rts _ (List.getElem_mem hj)
    have hvx := hRL _ (List.getElem_mem hj)
    rw [hv] at hbv hvx
    obtain ⟨vd, vra, vrc, vrs⟩ := v
    simp only at d1 d2 hRv x1 hbv hvx
    have HRv := Lib.hid hRv
    have s1 : V6.cell? ⟨w3.heap.size, 8, none⟩ = some (.slice (some ⟨g5, 0, none⟩) vs.length cap5) := by rw [← HV6.out]; exact setS _ p5
    have s2 := CJ6.out 8 _ rfl
    have DC6 : Hid (∀ j u, j ≠ 8 → (#[.int .i64 i0, .int .i64 i1, .int .i64 i2, .int .i64 i3, .int .i64 i4, .int .i64 i5, .slice Fa Fn Fc, .slice La Ln Lc, .slice (some ⟨gA, oA, none⟩) vs.length vcap] : Array Value)[j]? = some u → V6.cell? ⟨w3.heap.size, j, none⟩ = some u) := Lib.hid (fun j u hj hu => by
      rw [← HV6.out, setO _ _ _ _ _ (fun e => hj e.symm)]
      exact (HBW5.out.cell (p := ⟨w3.heap.size, j, none⟩) (by simp)).trans (D4.out j u hu))
    have hlA : gA < w3.heap.size := by
      obtain ⟨gq, oq, eq, cq, _⟩ := VH3.out j hj
      injection eq with eq
      injection eq with e1 _ _
      have := World.block_lt_of_cell? w3 _ cq
      simp only at this
      omega
    have SK : Hid (∀ w', Kp (w3.heap.size + 1) g5 (j * 2 + 1) V6 w' → (Kp (w3.heap.size + 1) g5 (j * 2 + 1) V6 w' ∧ w'.cell? ⟨w3.heap.size, 8, none⟩ = some (.slice (some ⟨g5, 0, none⟩) vs.length cap5) ∧ w'.cell? ⟨W2.heap.size, 8, none⟩ = some (.slice (some ⟨gA, oA, none⟩) vs.length vcap) ∧
        w'.cell? ⟨gA, oA + j * 2 + 1, none⟩ = some (.slice vra vrs.length vrc) ∧ w'.cell? ⟨W2.heap.size + 1, 0, none⟩ = some (.bool pre) ∧ w'.cell? ⟨W2.heap.size + 1, 1, none⟩ = some (.string pa) ∧ w'.cell? ⟨W2.heap.size + 1, 2, none⟩ = some (.string me) ∧ w'.cell? ⟨W2.heap.size + 1, 3, none⟩ = some (.string fi) ∧ w'.cell? ⟨W2.heap.size + 1, 4, none⟩ = some (.string va) ∧
        w'.cell? ⟨W2.heap.size + 1, 5, none⟩ = some (.int .i64 r5) ∧ w'.cell? ⟨W2.heap.size + 1, 6, none⟩ = some (.string r6) ∧ w'.cell? ⟨W2.heap.size + 1, 7, none⟩ = some (.int .i64 r7) ∧ w'.cell? ⟨W2.heap.size + 1, 8, none⟩ = some (.string r8) ∧ w'.cell? ⟨W2.heap.size + 1, 9, none⟩ = some (.string r9) ∧ w'.cell? ⟨W2.heap.size + 1, 10, none⟩ = some (.int .i64 r10) ∧
        w'.cell? ⟨W2.heap.size + 1, 11, none⟩ = some (.int .i64 r11) ∧ w'.cell? ⟨W2.heap.size + 1, 12, none⟩ = some (.bool r12) ∧ w'.cell? ⟨g5, j * 2 + 1, none⟩ = some (celR w' g5 (j * 2 + 1)) ∧ w'.frozen? ⟨g5, j * 2 + 1, none⟩ = false)) := Lib.hid (fun w' hk => by
      have rr := fun i u hu => (hk.below.cell (p := ⟨W2.heap.size + 1, i, none⟩) (by simp; omega)).trans (RJ6.out i u hu)
      exact ⟨hk, (hk.below.cell (p := ⟨w3.heap.size, 8, none⟩) (by simp)).trans s1, (hk.below.cell (p := ⟨W2.heap.size, 8, none⟩) (by simp; omega)).trans s2, (hk.below.cell (p := ⟨gA, oA + j * 2 + 1, none⟩) (by show gA < _; exact Nat.lt_succ_of_lt hlA)).trans d2,
        rr 0 _ rfl, rr 1 _ rfl, rr 2 _ rfl, rr 3 _ rfl, rr 4 _ rfl, rr 5 _ rfl, rr 6 _ rfl, rr 7 _ rfl, rr 8 _ rfl, rr 9 _ rfl, rr 10 _ rfl, rr 11 _ rfl, rr 12 _ rfl, celR_at (hk.some (by rw [x1]; rfl)), hk.fz.trans x2⟩)
    have j0 : (0 : Int) ≤ (j : Int) := by omega
    have j1 : (j : Int) < (vs.length : Int) := by omega
    have KR : Kp (w3.heap.size + 1) g5 (j * 2 + 1) V6 V6.drew := (Kp.refl _ _ _ _).drew
    have SR := SK.out _ KR
    obtain ⟨ri0, hri, hrz0, hrz1, hrz2⟩ := info_parts info_route
    clear k0 k1 k2 k3 k4 k5 k6 k7 k8 c8 k8d p5 pf5 D4f
    by_cases hrs : vrs = []
    · subst hrs
      have SRC : ∀ w, Go.Src Try.prog ri0.size 34 (.slice vra 0 vrc) 0 [] w := fun w => src_none Try.underlying34 vra vrc w
      have KA : Kp (w3.heap.size + 1) g5 (j * 2 + 1) V6 (V6.alloc (.cells #[] 39)).drew := ((Kp.refl _ _ _ _).alloc hK6 hg5b _).drew
      have KB : Kp (w3.heap.size + 1) g5 (j * 2 + 1) V6 ((V6.alloc (.cells #[] 39)).alloc (.cells #[.bool pre, .string pa, .string me, .string fi, .string va, .int .i64 r5, .string r6, .int .i64 r7, .string r8, .string r9, .int .i64 r10, .int .i64 r11, .bool r12] 39)).drew := (((Kp.refl _ _ _ _).alloc hK6 hg5b _).alloc hK6 hg5b _).drew
      have KC : Kp (w3.heap.size + 1) g5 (j * 2 + 1) V6 ((V6.alloc (.cells #[.bool pre, .string pa, .string me, .string fi, .string va, .int .i64 r5, .string r6, .int .i64 r7, .string r8, .string r9, .int .i64 r10, .int .i64 r11, .bool r12] 39)).alloc (.cells #[] 39)).drew := (((Kp.refl _ _ _ _).alloc hK6 hg5b _).alloc hK6 hg5b _).drew
      have KD : Kp (w3.heap.size + 1) g5 (j * 2 + 1) V6 (V6.alloc (.cells #[.bool pre, .string pa, .string me, .string fi, .string va, .int .i64 r5, .string r6, .int .i64 r7, .string r8, .string r9, .int .i64 r10, .int .i64 r11, .bool r12] 39)).drew := ((Kp.refl _ _ _ _).alloc hK6 hg5b _).drew
      have OA : Hid ((V6.alloc (.cells #[] 39)).drew.ownsRow (w3.heap.size + 1) 39 13 (.slice (some ⟨V6.heap.size, 0, none⟩) 0 0) 0 []) := Lib.hid (World.ownsRow_lit (base := w3.heap.size + 1) (size := 13) (e := 39) V6 #[] 0 hK6 (by decide) rfl)
      have OB : Hid (((V6.alloc (.cells #[] 39)).alloc (.cells #[.bool pre, .string pa, .string me, .string fi, .string va, .int .i64 r5, .string r6, .int .i64 r7, .string r8, .string r9, .int .i64 r10, .int .i64 r11, .bool r12] 39)).drew.ownsRow (w3.heap.size + 1) 39 13 (.slice (some ⟨V6.heap.size, 0, none⟩) 0 0) 0 []) := Lib.hid (World.ownsRow.alloc OA.out _)
      have OC : Hid (((V6.alloc (.cells #[.bool pre, .string pa, .string me, .string fi, .string va, .int .i64 r5, .string r6, .int .i64 r7, .string r8, .string r9, .int .i64 r10, .int .i64 r11, .bool r12] 39)).alloc (.cells #[] 39)).drew.ownsRow (w3.heap.size + 1) 39 13 (.slice (some ⟨V6.heap.size + 1, 0, none⟩) 0 0) 0 []) := Lib.hid (by
        have hq : (V6.alloc (.cells #[.bool pre, .string pa, .string me, .string fi, .string va, .int .i64 r5, .string r6, .int .i64 r7, .string r8, .string r9, .int .i64 r10, .int .i64 r11, .bool r12] 39)).heap.size = V6.heap.size + 1 := by simp
        have := World.ownsRow_lit (base := w3.heap.size + 1) (size := 13) (e := 39) (V6.alloc (.cells #[.bool pre, .string pa, .string me, .string fi, .string va, .int .i64 r5, .string r6, .int .i64 r7, .string r8, .string r9, .int .i64 r10, .int .i64 r11, .bool r12] 39)) #[] 0 (by omega) (by decide) rfl
        rw [hq] at this
        exact this)
      have NB : Hid (∀ j u, ([.bool pre, .string pa, .string me, .string fi, .string va, .int .i64 r5, .string r6, .int .i64 r7, .string r8, .string r9, .int .i64 r10, .int .i64 r11, .bool r12] : List Value)[j]? = some u → ((V6.alloc (.cells #[] 39)).alloc (.cells #[.bool pre, .string pa, .string me, .string fi, .string va, .int .i64 r5, .string r6, .int .i64 r7, .string r8, .string r9, .int .i64 r10, .int .i64 r11, .bool r12] 39)).drew.cell? ((⟨V6.heap.size + 1, 0, none⟩ : Addr).add j) = some u) := Lib.hid (by
        have hq : (V6.alloc (.cells #[] 39)).heap.size = V6.heap.size + 1 := by simp
        have := news13 (V6.alloc (.cells #[] 39)) #[.bool pre, .string pa, .string me, .string fi, .string va, .int .i64 r5, .string r6, .int .i64 r7, .string r8, .string r9, .int .i64 r10, .int .i64 r11, .bool r12] 39
        rw [hq] at this
        exact this)
      have NC : Hid (∀ j u, ([.bool pre, .string pa, .string me, .string fi, .string va, .int .i64 r5, .string r6, .int .i64 r7, .string r8, .string r9, .int .i64 r10, .int .i64 r11, .bool r12] : List Value)[j]? = some u → ((V6.alloc (.cells #[.bool pre, .string pa, .string me, .string fi, .string va, .int .i64 r5, .string r6, .int .i64 r7, .string r8, .string r9, .int .i64 r10, .int .i64 r11, .bool r12] 39)).alloc (.cells #[] 39)).drew.cell? ((⟨V6.heap.size, 0, none⟩ : Addr).add j) = some u) := Lib.hid (newsOld (w := V6.alloc (.cells #[.bool pre, .string pa, .string me, .string fi, .string va, .int .i64 r5, .string r6, .int .i64 r7, .string r8, .string r9, .int .i64 r10, .int .i64 r11, .bool r12] 39)) _ (by simp) (news13 V6 #[.bool pre, .string pa, .string me, .string fi, .string va, .int .i64 r5, .string r6, .int .i64 r7, .string r8, .string r9, .int .i64 r10, .int .i64 r11, .bool r12] 39))
      have HVL : Hid (([] : List Rt).length + 1 ≤ 1048600) := Lib.hid (by omega)
      have X1 : Hid ((V6.cell? ⟨g5, j * 2 + 1, none⟩).isSome = true) := Lib.hid (by rw [x1]; rfl)
      have X2 := Lib.hid x2
      obtain ⟨rN, hrN⟩ : ∃ rN : Rt, rN = ⟨pre, pa, me, fi, va, r5, r6, r7, r8, r9, r10, r11, r12⟩ := ⟨_, rfl⟩
      have HRC : Hid (rcells [rN] = [.bool pre, .string pa, .string me, .string fi, .string va, .int .i64 r5, .string r6, .int .i64 r7, .string r8, .string r9, .int .i64 r10, .int .i64 r11, .bool r12]) := Lib.hid (by rw [hrN]; rfl)
      have HRB : Hid (rN.field.size ≤ 1048600 ∧ rN.path.size ≤ 1048600) := Lib.hid (by rw [hrN]; exact ⟨by show fi.size ≤ _; omega, by show pa.size ≤ _; omega⟩)
      clear hrN
      go_region_held3 (fun w' => Kp (w3.heap.size + 1) g5 (j * 2 + 1) V6 w' ∧ w'.cell? ⟨w3.heap.size, 8, none⟩ = some (.slice (some ⟨g5, 0, none⟩) vs.length cap5) ∧ w'.cell? ⟨W2.heap.size, 8, none⟩ = some (.slice (some ⟨gA, oA, none⟩) vs.length vcap) ∧ w'.cell? ⟨gA, oA + j * 2 + 1, none⟩ = some (.slice vra 0 vrc) ∧ w'.cell? ⟨W2.heap.size + 1, 0, none⟩ = some (.bool pre) ∧ w'.cell? ⟨W2.heap.size + 1, 1, none⟩ = some (.string pa) ∧ w'.cell? ⟨W2.heap.size + 1, 2, none⟩ = some (.string me) ∧ w'.cell? ⟨W2.heap.size + 1, 3, none⟩ = some (.string fi) ∧ w'.cell? ⟨W2.heap.size + 1, 4, none⟩ = some (.string va) ∧ w'.cell? ⟨W2.heap.size + 1, 5, none⟩ = some (.int .i64 r5) ∧ w'.cell? ⟨W2.heap.size + 1, 6, none⟩ = some (.string r6) ∧ w'.cell? ⟨W2.heap.size + 1, 7, none⟩ = some (.int .i64 r7) ∧ w'.cell? ⟨W2.heap.size + 1, 8, none⟩ = some (.string r8) ∧ w'.cell? ⟨W2.heap.size + 1, 9, none⟩ = some (.string r9) ∧ w'.cell? ⟨W2.heap.size + 1, 10, none⟩ = some (.int .i64 r10) ∧ w'.cell? ⟨W2.heap.size + 1, 11, none⟩ = some (.int .i64 r11) ∧ w'.cell? ⟨W2.heap.size + 1, 12, none⟩ = some (.bool r12) ∧ w'.cell? ⟨g5, j * 2 + 1, none⟩ = some (celR w' g5 (j * 2 + 1)) ∧ w'.frozen? ⟨g5, j * 2 + 1, none⟩ = false)
        (first
          | assumption
          | exact SR
          | exact SK.out _ KA
          | exact SK.out _ KB
          | exact SK.out _ KC
          | exact SK.out _ KD
          | (refine SK.out _ (Kp.alloc (And.left (by assumption)) hK6 hg5b _))
          | (refine SK.out _ (Kp.drew (Kp.alloc (And.left (by assumption)) hK6 hg5b _)))
          | (refine SK.out _ (Kp.set (And.left (by assumption)) hg5 _)))
        (first
          | (refine step_append_zero _ rfl (.tmp 71) (.tmp 77) 34 rfl 39 ri0 Try.underlying34 hri _ 0 0 (Nat.le_refl _) rfl _ rfl (SRC _) ?_)
          | (refine step_append_lies _ rfl (.tmp 78) (.tmp 80) 34 rfl (w3.heap.size + 1) 39 ri0 (.agg #[.bool false, .string ByteArray.empty, .string ByteArray.empty, .string ByteArray.empty, .string ByteArray.empty, .int .i64 0, .string ByteArray.empty, .int .i64 0, .string ByteArray.empty, .string ByteArray.empty, .int .i64 0, .int .i64 0, .bool false]) 13 160 Try.underlying34 hri hrz0 hrz1 hrz2 rfl (by decide) (.slice (some ⟨V6.heap.size, 0, none⟩) 0 0) 0 [] rfl OB.out ⟨V6.heap.size + 1, 0, none⟩ 1 1 [.bool pre, .string pa, .string me, .string fi, .string va, .int .i64 r5, .string r6, .int .i64 r7, .string r8, .string r9, .int .i64 r10, .int .i64 r11, .bool r12] rfl rfl NB.out (cells_ones ⟨pre, pa, me, fi, va, r5, r6, r7, r8, r9, r10, r11, r12⟩) (by decide) (by decide) (by decide) (by simp; omega) _ rfl ?_; intro g8 cap8 w8 hown8 hgrow8 hat8 hlt8; have KP8 := Lib.hid (Kp.grown KB hgrow8 hK6 hg5b (own_row_ge (Nat.le_refl _))); have SP8 := SK.out w8 KP8.out; have HO8 := Lib.hid hown8; have HG8 : Hid (V6.heap.size ≤ g8) := Lib.hid (by rcases hat8 with e | e; (have e2 : some (V6.heap.size) = some g8 := e; injection e2 with e2; omega); ((try simp at e); omega)); clear hown8 hat8 hgrow8)
          | (refine step_append_lies _ rfl (.tmp 78) (.tmp 80) 34 rfl (w3.heap.size + 1) 39 ri0 (.agg #[.bool false, .string ByteArray.empty, .string ByteArray.empty, .string ByteArray.empty, .string ByteArray.empty, .int .i64 0, .string ByteArray.empty, .int .i64 0, .string ByteArray.empty, .string ByteArray.empty, .int .i64 0, .int .i64 0, .bool false]) 13 160 Try.underlying34 hri hrz0 hrz1 hrz2 rfl (by decide) (.slice (some ⟨V6.heap.size + 1, 0, none⟩) 0 0) 0 [] rfl OC.out ⟨V6.heap.size, 0, none⟩ 1 1 [.bool pre, .string pa, .string me, .string fi, .string va, .int .i64 r5, .string r6, .int .i64 r7, .string r8, .string r9, .int .i64 r10, .int .i64 r11, .bool r12] rfl rfl NC.out (cells_ones ⟨pre, pa, me, fi, va, r5, r6, r7, r8, r9, r10, r11, r12⟩) (by decide) (by decide) (by decide) (by simp; omega) _ rfl ?_; intro g8 cap8 w8 hown8 hgrow8 hat8 hlt8; have KP8 := Lib.hid (Kp.grown KC hgrow8 hK6 hg5b (own_row_ge (Nat.le_succ _))); have SP8 := SK.out w8 KP8.out; have HO8 := Lib.hid hown8; have HG8 : Hid (V6.heap.size ≤ g8) := Lib.hid (by rcases hat8 with e | e; (have e2 : some (V6.heap.size + 1) = some g8 := e; injection e2 with e2; omega); ((try simp at e); omega)); clear hown8 hat8 hgrow8))
      all_goals
        have KP9 := Kp.set KP8.out hg5 (.slice (some ⟨g8, 0, none⟩) 1 cap8)
        have hg8 : V6.heap.size ≤ g8 := HG8.out
        obtain ⟨V9, hV9⟩ : ∃ V9, w8.setCell ⟨g5, j * 2 + 1, none⟩ (.slice (some ⟨g8, 0, none⟩) 1 cap8) = V9 := ⟨_, rfl⟩
        have hq9 : V9.cell? ⟨g5, j * 2 + 1, none⟩ = some (.slice (some ⟨g8, 0, none⟩) (([] : List Rt) ++ [rN]).length cap8) := by
          rw [← hV9]
          exact setS _ (celR_at (KP8.out.some (by rw [x1]; rfl)))
        have hr9 : Rts V9 (some ⟨g8, 0, none⟩) (([] : List Rt) ++ [rN]) := by
          have hO : w8.ownsRow (w3.heap.size + 1) 39 13 (.slice (some ⟨g8, 0, none⟩) (([] : List Rt) ++ [rN]).length cap8) (([] : List Rt) ++ [rN]).length (rcells (([] : List Rt) ++ [rN])) := by
            rw [List.nil_append, HRC.out]
            exact HO8.out
          have hR8 := rts_own hO
          intro k hk
          obtain ⟨gx, ox, ex, cx⟩ := hR8 k hk
          refine ⟨gx, ox, ex, fun i u hu => ?_⟩
          injection ex with ex
          injection ex with e1 _ _
          rw [← hV9, World.cell?_setCell_other w8 ⟨g5, j * 2 + 1, none⟩ ⟨gx, ox + k * 13 + i, none⟩ _ (fun e => by injection e with e3 _ _; omega)]
          exact cx i u hu
        rw [hV9] at KP9
        have KP9H := Lib.hid KP9
        have H39 := Lib.hid (H36.out.trans (KP9.below.mono (show w3.heap.size ≤ w3.heap.size + 1 by omega)))
        have VH9 := Lib.hid (vhs_set VH3.out H39.out (fun k u hk hu => (KP9.hole k hk).trans (by
          have := World.ownsRow.cells O6.out (g := g5) rfl _ _ hu
          rw [addr_add, Nat.zero_add] at this; exact this)) hq9 hr9)
        have HV9 := Lib.hid hV9
        clear hV9 KP9 hq9 hr9
        have hbn : (([] : List Rt) ++ [rN]).length ≤ 1048600 ∧ ∀ r ∈ ([] : List Rt) ++ [rN], r.field.size ≤ 1048600 ∧ r.path.size ≤ 1048600 := by
          refine ⟨by rw [List.length_append]; have := HVL.out; show ([] : List Rt).length + 1 ≤ _; omega, fun r hr => ?_⟩
          rcases List.mem_append.1 hr with hr | hr
          · exact hbv.2 r hr
          · simp at hr; rw [hr]; exact HRB.out
        have F9 := Lib.hid (F3.out.below H39.out)
        have B9 := Lib.hid (below_then B3.out H39.out)
        have FC9 := FC _ _ cap5 V9 VH9.out (vb_set HB.out hbn) F9.out
        rw [setR_length, findV_set hj HDM.out] at FC9
        have dd := fun i u hi hu => (KP9H.out.below.cell (p := ⟨w3.heap.size, i, none⟩) (by simp)).trans (DC6.out i u hi hu)
        have k0 := dd 0 _ (by decide) rfl; have k1 := dd 1 _ (by decide) rfl; have k2 := dd 2 _ (by decide) rfl; have k3 := dd 3 _ (by decide) rfl; have k4 := dd 4 _ (by decide) rfl; have k5 := dd 5 _ (by decide) rfl; have k6 := dd 6 _ (by decide) rfl; have k7 := dd 7 _ (by decide) rfl
        have k8 := (KP9H.out.below.cell (p := ⟨w3.heap.size, 8, none⟩) (by simp)).trans s1
        have HFR := Lib.hid (HX.out.symm.trans HFV.out)
        rw [hv] at HFR
        simp only at HFR
        obtain ⟨y, hy⟩ : ∃ y, findR m.data.toList p.data.toList fs ([] : List Rt) = y := ⟨_, rfl⟩
        have hz : (∃ k : Nat, (xi, xk, xo) = ((j : Int), (k : Int), true) ∧ findR m.data.toList p.data.toList fs (([] : List Rt) ++ [rN]) = some k) ∨ ((xi, xk, xo) = ((0 : Int), (0 : Int), false) ∧ (findR m.data.toList p.data.toList fs (([] : List Rt) ++ [rN]) = some ([] : List Rt).length ∨ findR m.data.toList p.data.toList fs (([] : List Rt) ++ [rN]) = none)) := by
          have h1 := HFR.out
          rw [hy] at h1
          cases y with
          | some k => exact .inl ⟨k, h1, findR_app_some hy _⟩
          | none =>
            refine .inr ⟨h1, ?_⟩
            rw [findR_app_none hy]
            split
            · exact .inl rfl
            · exact .inr rfl
        clear hy HFR SR KR SK s1 s2 d1 x1 x2 KA KB KC KD
        rcases hz with ⟨kk, hx1, hx2⟩ | ⟨hx1, hx2 | hx2⟩
        all_goals
          rw [hx2] at FC9
          simp only [Prod.mk.injEq] at hx1
          obtain ⟨rfl, rfl, rfl⟩ := hx1
          simp only at FC9
          rw [HV9.out]
          go_wp2_with fail
          refine FC9.out.mono ?_
          rintro e w10 ⟨rfl, hb10⟩
          have B10 := Lib.hid (below_then B9.out hb10)
          have H310 := Lib.hid (H39.out.trans (hb10.mono H39.out.size))
          have HB10 := Lib.hid hb10
          have k8' := cell_below hb10 k8
          have e2 := (H310.out.cell (p := ⟨W2.heap.size, 8, none⟩) hl6).trans (CJ3.out 8 _ rfl)
          have e3 := (H310.out.cell (p := ⟨gA, oA + j * 2 + 1, none⟩) hlA).trans ((H36.out.cell (p := ⟨gA, oA + j * 2 + 1, none⟩) hlA).symm.trans d2)
          have dd10 := Lib.hid (fun i u hi hu => cell_below hb10 (dd i u hi hu))
          clear hb10 FC9 k0 k1 k2 k3 k4 k5 k6 k7 k8 d2 dd HV9
          have O10 := Lib.hid (KP9H.out.hole)
          have y1 : (w10.cell? ⟨g5, j * 2 + 1, none⟩).isSome = true := by
            rw [HB10.out.cell (p := ⟨g5, j * 2 + 1, none⟩) (by have := KP9H.out.below.size; show g5 < V9.heap.size; omega)]
            exact KP9H.out.some X1.out
          have y2 : w10.frozen? ⟨g5, j * 2 + 1, none⟩ = false := (HB10.out.frozen (p := ⟨g5, j * 2 + 1, none⟩) (by have := KP9H.out.below.size; show g5 < V9.heap.size; omega)).trans (KP9H.out.fz.trans X2.out)
          have z5 : g5 < w10.heap.size := by have := KP9H.out.below.size; have := HB10.out.size; omega
          have zK : w3.heap.size + 1 ≤ w10.heap.size := by omega
          have SK2 : Hid (∀ w', Kp (w3.heap.size + 1) g5 (j * 2 + 1) w10 w' → (Kp (w3.heap.size + 1) g5 (j * 2 + 1) w10 w' ∧ w'.cell? ⟨w3.heap.size, 8, none⟩ = some (.slice (some ⟨g5, 0, none⟩) vs.length cap5) ∧ w'.cell? ⟨W2.heap.size, 8, none⟩ = some (.slice (some ⟨gA, oA, none⟩) vs.length vcap) ∧
              w'.cell? ⟨gA, oA + j * 2 + 1, none⟩ = some (.slice vra 0 vrc) ∧ w'.cell? ⟨g5, j * 2 + 1, none⟩ = some (celR w' g5 (j * 2 + 1)) ∧ w'.frozen? ⟨g5, j * 2 + 1, none⟩ = false)) := Lib.hid (fun w' hk =>
            ⟨hk, (hk.below.cell (p := ⟨w3.heap.size, 8, none⟩) (Nat.lt_succ_self _)).trans k8', (hk.below.cell (p := ⟨W2.heap.size, 8, none⟩) (Nat.lt_succ_of_lt hl6)).trans e2, (hk.below.cell (p := ⟨gA, oA + j * 2 + 1, none⟩) (Nat.lt_succ_of_lt hlA)).trans e3, celR_at (hk.some y1), hk.fz.trans y2⟩)
          have LR : Kp (w3.heap.size + 1) g5 (j * 2 + 1) w10 w10.drew := (Kp.refl _ _ _ _).drew
          have LA : Kp (w3.heap.size + 1) g5 (j * 2 + 1) w10 (w10.alloc (.cells #[.bool true, .string p, .string ⟨#[]⟩, .string ⟨#[]⟩, .string ⟨#[]⟩, .int .i64 0, .string ⟨#[]⟩, .int .i64 0, .string ⟨#[]⟩, .string ⟨#[]⟩, .int .i64 0, .int .i64 0, .bool false] 39)).drew := ((Kp.refl _ _ _ _).alloc zK z5 _).drew
          have QA : Hid ((w10.alloc (.cells #[.bool true, .string p, .string ⟨#[]⟩, .string ⟨#[]⟩, .string ⟨#[]⟩, .int .i64 0, .string ⟨#[]⟩, .int .i64 0, .string ⟨#[]⟩, .string ⟨#[]⟩, .int .i64 0, .int .i64 0, .bool false] 39)).drew.ownsRow (w3.heap.size + 1) 39 13 (.slice (some ⟨w10.heap.size, 0, none⟩) 1 1) 1 [.bool true, .string p, .string ⟨#[]⟩, .string ⟨#[]⟩, .string ⟨#[]⟩, .int .i64 0, .string ⟨#[]⟩, .int .i64 0, .string ⟨#[]⟩, .string ⟨#[]⟩, .int .i64 0, .int .i64 0, .bool false]) := Lib.hid (World.ownsRow_lit (base := w3.heap.size + 1) (size := 13) (e := 39) w10 #[.bool true, .string p, .string ⟨#[]⟩, .string ⟨#[]⟩, .string ⟨#[]⟩, .int .i64 0, .string ⟨#[]⟩, .int .i64 0, .string ⟨#[]⟩, .string ⟨#[]⟩, .int .i64 0, .int .i64 0, .bool false] 1 zK (by decide) rfl)
          have SR2 := SK2.out _ LR
          go_wp2_with fail
          go_region_held3 (fun w' => Kp (w3.heap.size + 1) g5 (j * 2 + 1) w10 w' ∧ w'.cell? ⟨w3.heap.size, 8, none⟩ = some (.slice (some ⟨g5, 0, none⟩) vs.length cap5) ∧ w'.cell? ⟨W2.heap.size, 8, none⟩ = some (.slice (some ⟨gA, oA, none⟩) vs.length vcap) ∧
              w'.cell? ⟨gA, oA + j * 2 + 1, none⟩ = some (.slice vra 0 vrc) ∧ w'.cell? ⟨g5, j * 2 + 1, none⟩ = some (celR w' g5 (j * 2 + 1)) ∧ w'.frozen? ⟨g5, j * 2 + 1, none⟩ = false)
            (first
              | assumption
              | exact SR2
              | exact SK2.out _ LA
              | (refine SK2.out _ (Kp.alloc (And.left (by assumption)) zK z5 _))
              | (refine SK2.out _ (Kp.drew (Kp.alloc (And.left (by assumption)) zK z5 _)))
              | (refine SK2.out _ (Kp.set (And.left (by assumption)) hg5 _)))
            (first
              | (refine step_append_zero _ rfl (.tmp 140) (.tmp 146) 34 rfl 39 ri0 Try.underlying34 hri _ 1 1 (Nat.le_refl _) rfl _ rfl (SRC _) ?_; obtain ⟨w11, hw11⟩ : ∃ w11, (w10.alloc (.cells #[.bool true, .string p, .string ⟨#[]⟩, .string ⟨#[]⟩, .string ⟨#[]⟩, .int .i64 0, .string ⟨#[]⟩, .int .i64 0, .string ⟨#[]⟩, .string ⟨#[]⟩, .int .i64 0, .int .i64 0, .bool false] 39)).drew = w11 := ⟨_, rfl⟩; rw [hw11]; have KP11 : Hid (Kp (w3.heap.size + 1) g5 (j * 2 + 1) w10 w11) := Lib.hid (by rw [← hw11]; exact LA); have SP11 := SK2.out w11 KP11.out; have HO11 := QA; rw [hw11] at HO11; clear hw11))
          obtain ⟨g11, hgc⟩ : ∃ g11, g11 = w10.heap.size := ⟨_, rfl⟩
          have HG11 : Hid (w10.heap.size ≤ g11) := Lib.hid (by omega)
          rw [← hgc] at HO11
          rw [← hgc]
          have KP12 := Kp.set KP11.out hg5 (.slice (some ⟨g11, 0, none⟩) 1 1)
          have hg11 := HG11.out
          obtain ⟨V12, hV12⟩ : ∃ V12, w11.setCell ⟨g5, j * 2 + 1, none⟩ (.slice (some ⟨g11, 0, none⟩) 1 1) = V12 := ⟨_, rfl⟩
          obtain ⟨rO, hrO⟩ : ∃ rO : Rt, rO = ⟨true, p, ⟨#[]⟩, ⟨#[]⟩, ⟨#[]⟩, 0, ⟨#[]⟩, 0, ⟨#[]⟩, ⟨#[]⟩, 0, 0, false⟩ := ⟨_, rfl⟩
          have hROc : rcells [rO] = [.bool true, .string p, .string ⟨#[]⟩, .string ⟨#[]⟩, .string ⟨#[]⟩, .int .i64 0, .string ⟨#[]⟩, .int .i64 0, .string ⟨#[]⟩, .string ⟨#[]⟩, .int .i64 0, .int .i64 0, .bool false] := by rw [hrO]; rfl
          have hROt : takeK m.data.toList p.data.toList fs rO = true := by rw [hrO]; simp [takeK, takesL]
          have hROb : rO.field.size ≤ 1048600 ∧ rO.path.size ≤ 1048600 := by rw [hrO]; exact ⟨by show (0 : Nat) ≤ _; omega, by show p.size ≤ _; omega⟩
          have hq12 : V12.cell? ⟨g5, j * 2 + 1, none⟩ = some (.slice (some ⟨g11, 0, none⟩) ([rO] ++ ([] : List Rt)).length 1) := by
            rw [← hV12]
            exact setS _ (celR_at (KP11.out.some y1))
          have hr12 : Rts V12 (some ⟨g11, 0, none⟩) ([rO] ++ ([] : List Rt)) := by
            have hO : w11.ownsRow (w3.heap.size + 1) 39 13 (.slice (some ⟨g11, 0, none⟩) ([rO] ++ ([] : List Rt)).length 1) ([rO] ++ ([] : List Rt)).length (rcells ([rO] ++ ([] : List Rt))) := by
              rw [List.append_nil, hROc]
              exact HO11.out
            have hR8 := rts_own hO
            intro k hk
            obtain ⟨gx, ox, ex, cx⟩ := hR8 k hk
            refine ⟨gx, ox, ex, fun i u hu => ?_⟩
            injection ex with ex
            injection ex with e1 _ _
            rw [← hV12, World.cell?_setCell_other w11 ⟨g5, j * 2 + 1, none⟩ ⟨gx, ox + k * 13 + i, none⟩ _ (fun e => by injection e with e3 _ _; omega)]
            exact cx i u hu
          rw [hV12] at KP12
          have h312 := H310.out.trans (KP12.below.mono (show w3.heap.size ≤ w3.heap.size + 1 by omega))
          have z9 : g5 < V9.heap.size := by have := KP9H.out.below.size; omega
          have VH12 := vhs_set VH3.out h312 (fun k u hk hu => (KP12.hole k hk).trans ((HB10.out.cell (p := ⟨g5, k, none⟩) z9).trans ((O10.out k hk).trans (by
            have := World.ownsRow.cells O6.out (g := g5) rfl _ _ hu
            rw [addr_add, Nat.zero_add] at this; exact this)))) hq12 hr12
          have hbn2 : ([rO] ++ ([] : List Rt)).length ≤ 1048600 ∧ ∀ r ∈ [rO] ++ ([] : List Rt), r.field.size ≤ 1048600 ∧ r.path.size ≤ 1048600 := by
            refine ⟨by rw [List.length_append]; have := HVL.out; show 1 + ([] : List Rt).length ≤ _; omega, fun r hr => ?_⟩
            rcases List.mem_append.1 hr with hr | hr
            · simp at hr; rw [hr]; exact hROb
            · exact hbv.2 r hr
          have FC12 := FC _ _ cap5 V12 VH12 (vb_set HB.out hbn2) (F3.out.below h312)
          rw [setR_length, findV_set hj HDM.out, List.singleton_append, findR_head hROt] at FC12
          simp only at FC12
          have B12 := Lib.hid (below_then B3.out h312)
          have ee := fun i u hi hu => (KP12.below.cell (p := ⟨w3.heap.size, i, none⟩) (Nat.lt_succ_self _)).trans (dd10.out i u hi hu)
          have k0 := ee 0 _ (by decide) rfl; have k1 := ee 1 _ (by decide) rfl; have k2 := ee 2 _ (by decide) rfl; have k3 := ee 3 _ (by decide) rfl; have k4 := ee 4 _ (by decide) rfl; have k5 := ee 5 _ (by decide) rfl; have k6 := ee 6 _ (by decide) rfl; have k7 := ee 7 _ (by decide) rfl
          have k8 := (KP12.below.cell (p := ⟨w3.heap.size, 8, none⟩) (Nat.lt_succ_self _)).trans k8'
          rw [hV12]
          clear hV12 hrO hROc hROt hROb hq12 hr12 KP12 VH12 hbn2 ee h312 SK2 LR LA SR2 k8' e2 e3 y1 y2
          go_wp2_with fail
          refine FC12.out.mono ?_
          rintro e w13 ⟨rfl, hb13⟩
          have B13 := Lib.hid (below_then B12.out hb13)
          clear hb13 FC12 k0 k1 k2 k3 k4 k5 k6 k7 k8
          go_wp2_with fail
          go_ret
          exact ⟨rfl, B13.out⟩
    · have hrs0 : 0 < vrs.length := List.length_pos_iff.2 hrs
      have hrs1 : 0 + vrs.length ≤ maxLen := by have := hbv.1; unfold maxLen; omega
      have hrs2 : (0 + vrs.length) * 160 ≤ 140737488355328 := by have := hbv.1; omega
      obtain ⟨gR, oR, rfl, _⟩ := HRv.out 0 hrs0
      have hR3 : Rts w3 (some ⟨gR, oR, none⟩) vrs := by
        obtain ⟨_, _, _, _, _, hq⟩ := VH3.out j hj
        rw [hv] at hq
        exact hq
      have RL : Hid (∀ w', Kp (w3.heap.size + 1) g5 (j * 2 + 1) V6 w' → Rts w' (some ⟨gR, oR, none⟩) vrs) := Lib.hid (fun w' hk => hR3.below (H36.out.trans (hk.below.mono (show w3.heap.size ≤ w3.heap.size + 1 by omega))))
      have KA : Kp (w3.heap.size + 1) g5 (j * 2 + 1) V6 (V6.alloc (.cells #[] 39)).drew := ((Kp.refl _ _ _ _).alloc hK6 hg5b _).drew
      have KB : Kp (w3.heap.size + 1) g5 (j * 2 + 1) V6 ((V6.alloc (.cells #[] 39)).alloc (.cells #[.bool pre, .string pa, .string me, .string fi, .string va, .int .i64 r5, .string r6, .int .i64 r7, .string r8, .string r9, .int .i64 r10, .int .i64 r11, .bool r12] 39)).drew := (((Kp.refl _ _ _ _).alloc hK6 hg5b _).alloc hK6 hg5b _).drew
      have KC : Kp (w3.heap.size + 1) g5 (j * 2 + 1) V6 ((V6.alloc (.cells #[.bool pre, .string pa, .string me, .string fi, .string va, .int .i64 r5, .string r6, .int .i64 r7, .string r8, .string r9, .int .i64 r10, .int .i64 r11, .bool r12] 39)).alloc (.cells #[] 39)).drew := (((Kp.refl _ _ _ _).alloc hK6 hg5b _).alloc hK6 hg5b _).drew
      have KD : Kp (w3.heap.size + 1) g5 (j * 2 + 1) V6 (V6.alloc (.cells #[.bool pre, .string pa, .string me, .string fi, .string va, .int .i64 r5, .string r6, .int .i64 r7, .string r8, .string r9, .int .i64 r10, .int .i64 r11, .bool r12] 39)).drew := ((Kp.refl _ _ _ _).alloc hK6 hg5b _).drew
      have OA : Hid ((V6.alloc (.cells #[] 39)).drew.ownsRow (w3.heap.size + 1) 39 13 (.slice (some ⟨V6.heap.size, 0, none⟩) 0 0) 0 []) := Lib.hid (World.ownsRow_lit (base := w3.heap.size + 1) (size := 13) (e := 39) V6 #[] 0 hK6 (by decide) rfl)
      have OB : Hid (((V6.alloc (.cells #[] 39)).alloc (.cells #[.bool pre, .string pa, .string me, .string fi, .string va, .int .i64 r5, .string r6, .int .i64 r7, .string r8, .string r9, .int .i64 r10, .int .i64 r11, .bool r12] 39)).drew.ownsRow (w3.heap.size + 1) 39 13 (.slice (some ⟨V6.heap.size, 0, none⟩) 0 0) 0 []) := Lib.hid (World.ownsRow.alloc OA.out _)
      have OC : Hid (((V6.alloc (.cells #[.bool pre, .string pa, .string me, .string fi, .string va, .int .i64 r5, .string r6, .int .i64 r7, .string r8, .string r9, .int .i64 r10, .int .i64 r11, .bool r12] 39)).alloc (.cells #[] 39)).drew.ownsRow (w3.heap.size + 1) 39 13 (.slice (some ⟨V6.heap.size + 1, 0, none⟩) 0 0) 0 []) := Lib.hid (by
        have hq : (V6.alloc (.cells #[.bool pre, .string pa, .string me, .string fi, .string va, .int .i64 r5, .string r6, .int .i64 r7, .string r8, .string r9, .int .i64 r10, .int .i64 r11, .bool r12] 39)).heap.size = V6.heap.size + 1 := by simp
        have := World.ownsRow_lit (base := w3.heap.size + 1) (size := 13) (e := 39) (V6.alloc (.cells #[.bool pre, .string pa, .string me, .string fi, .string va, .int .i64 r5, .string r6, .int .i64 r7, .string r8, .string r9, .int .i64 r10, .int .i64 r11, .bool r12] 39)) #[] 0 (by omega) (by decide) rfl
        rw [hq] at this
        exact this)
      have hrs3 : vrs.length + 1 ≤ maxLen := by have := hbv.1; unfold maxLen; omega
      have hrs4 : (vrs.length + 1) * 160 ≤ 140737488355328 := by have := hbv.1; omega
      have NB : Hid (∀ j u, ([.bool pre, .string pa, .string me, .string fi, .string va, .int .i64 r5, .string r6, .int .i64 r7, .string r8, .string r9, .int .i64 r10, .int .i64 r11, .bool r12] : List Value)[j]? = some u → ((V6.alloc (.cells #[] 39)).alloc (.cells #[.bool pre, .string pa, .string me, .string fi, .string va, .int .i64 r5, .string r6, .int .i64 r7, .string r8, .string r9, .int .i64 r10, .int .i64 r11, .bool r12] 39)).drew.cell? ((⟨V6.heap.size + 1, 0, none⟩ : Addr).add j) = some u) := Lib.hid (by
        have hq : (V6.alloc (.cells #[] 39)).heap.size = V6.heap.size + 1 := by simp
        have := news13 (V6.alloc (.cells #[] 39)) #[.bool pre, .string pa, .string me, .string fi, .string va, .int .i64 r5, .string r6, .int .i64 r7, .string r8, .string r9, .int .i64 r10, .int .i64 r11, .bool r12] 39
        rw [hq] at this
        exact this)
      have NC : Hid (∀ j u, ([.bool pre, .string pa, .string me, .string fi, .string va, .int .i64 r5, .string r6, .int .i64 r7, .string r8, .string r9, .int .i64 r10, .int .i64 r11, .bool r12] : List Value)[j]? = some u → ((V6.alloc (.cells #[.bool pre, .string pa, .string me, .string fi, .string va, .int .i64 r5, .string r6, .int .i64 r7, .string r8, .string r9, .int .i64 r10, .int .i64 r11, .bool r12] 39)).alloc (.cells #[] 39)).drew.cell? ((⟨V6.heap.size, 0, none⟩ : Addr).add j) = some u) := Lib.hid (newsOld (w := V6.alloc (.cells #[.bool pre, .string pa, .string me, .string fi, .string va, .int .i64 r5, .string r6, .int .i64 r7, .string r8, .string r9, .int .i64 r10, .int .i64 r11, .bool r12] 39)) _ (by simp) (news13 V6 #[.bool pre, .string pa, .string me, .string fi, .string va, .int .i64 r5, .string r6, .int .i64 r7, .string r8, .string r9, .int .i64 r10, .int .i64 r11, .bool r12] 39))
      have HVL : Hid (vrs.length + 1 ≤ 1048600) := Lib.hid (by omega)
      have X1 : Hid ((V6.cell? ⟨g5, j * 2 + 1, none⟩).isSome = true) := Lib.hid (by rw [x1]; rfl)
      have X2 := Lib.hid x2
      obtain ⟨rN, hrN⟩ : ∃ rN : Rt, rN = ⟨pre, pa, me, fi, va, r5, r6, r7, r8, r9, r10, r11, r12⟩ := ⟨_, rfl⟩
      have HRC : Hid (rcells [rN] = [.bool pre, .string pa, .string me, .string fi, .string va, .int .i64 r5, .string r6, .int .i64 r7, .string r8, .string r9, .int .i64 r10, .int .i64 r11, .bool r12]) := Lib.hid (by rw [hrN]; rfl)
      have HRB : Hid (rN.field.size ≤ 1048600 ∧ rN.path.size ≤ 1048600) := Lib.hid (by rw [hrN]; exact ⟨by show fi.size ≤ _; omega, by show pa.size ≤ _; omega⟩)
      clear hrN
      go_region_held3 (fun w' => Kp (w3.heap.size + 1) g5 (j * 2 + 1) V6 w' ∧ w'.cell? ⟨w3.heap.size, 8, none⟩ = some (.slice (some ⟨g5, 0, none⟩) vs.length cap5) ∧ w'.cell? ⟨W2.heap.size, 8, none⟩ = some (.slice (some ⟨gA, oA, none⟩) vs.length vcap) ∧ w'.cell? ⟨gA, oA + j * 2 + 1, none⟩ = some (.slice (some ⟨gR, oR, none⟩) vrs.length vrc) ∧ w'.cell? ⟨W2.heap.size + 1, 0, none⟩ = some (.bool pre) ∧ w'.cell? ⟨W2.heap.size + 1, 1, none⟩ = some (.string pa) ∧ w'.cell? ⟨W2.heap.size + 1, 2, none⟩ = some (.string me) ∧ w'.cell? ⟨W2.heap.size + 1, 3, none⟩ = some (.string fi) ∧ w'.cell? ⟨W2.heap.size + 1, 4, none⟩ = some (.string va) ∧ w'.cell? ⟨W2.heap.size + 1, 5, none⟩ = some (.int .i64 r5) ∧ w'.cell? ⟨W2.heap.size + 1, 6, none⟩ = some (.string r6) ∧ w'.cell? ⟨W2.heap.size + 1, 7, none⟩ = some (.int .i64 r7) ∧ w'.cell? ⟨W2.heap.size + 1, 8, none⟩ = some (.string r8) ∧ w'.cell? ⟨W2.heap.size + 1, 9, none⟩ = some (.string r9) ∧ w'.cell? ⟨W2.heap.size + 1, 10, none⟩ = some (.int .i64 r10) ∧ w'.cell? ⟨W2.heap.size + 1, 11, none⟩ = some (.int .i64 r11) ∧ w'.cell? ⟨W2.heap.size + 1, 12, none⟩ = some (.bool r12) ∧ w'.cell? ⟨g5, j * 2 + 1, none⟩ = some (celR w' g5 (j * 2 + 1)) ∧ w'.frozen? ⟨g5, j * 2 + 1, none⟩ = false)
        (first
          | assumption
          | exact SR
          | exact SK.out _ KA
          | exact SK.out _ KB
          | exact SK.out _ KC
          | exact SK.out _ KD
          | (refine SK.out _ (Kp.alloc (And.left (by assumption)) hK6 hg5b _))
          | (refine SK.out _ (Kp.drew (Kp.alloc (And.left (by assumption)) hK6 hg5b _)))
          | (refine SK.out _ (Kp.set (And.left (by assumption)) hg5 _)))
        (first
          | (refine step_append_lies _ rfl (.tmp 71) (.tmp 77) 34 rfl (w3.heap.size + 1) 39 ri0 (.agg #[.bool false, .string ByteArray.empty, .string ByteArray.empty, .string ByteArray.empty, .string ByteArray.empty, .int .i64 0, .string ByteArray.empty, .int .i64 0, .string ByteArray.empty, .string ByteArray.empty, .int .i64 0, .int .i64 0, .bool false]) 13 160 Try.underlying34 hri hrz0 hrz1 hrz2 rfl (by decide) (.slice (some ⟨V6.heap.size, 0, none⟩) 0 0) 0 [] rfl OA.out ⟨gR, oR, none⟩ vrs.length vrc (rcells vrs) rfl (rcells_length vrs) (rcells_lie (RL.out _ KA)) (rcells_ones vrs) hrs0 hrs1 hrs2 (by simp; omega) _ rfl ?_; intro g7 cap7 w7 hown7 hgrow7 hat7 hlt7; have KP7 := Lib.hid (Kp.grown KA hgrow7 hK6 hg5b (own_row_ge (Nat.le_refl _))); have SP7 := SK.out w7 KP7.out; rw [List.nil_append, Nat.zero_add] at hown7; have HO7 := Lib.hid hown7; have hg7 : V6.heap.size ≤ g7 := (by rcases hat7 with e | e; (have e2 : some (V6.heap.size) = some g7 := e; injection e2 with e2; omega); (simp at e; omega)); clear hown7 hat7 hgrow7)
          | (refine step_append_lies _ rfl (.tmp 71) (.tmp 77) 34 rfl (w3.heap.size + 1) 39 ri0 (.agg #[.bool false, .string ByteArray.empty, .string ByteArray.empty, .string ByteArray.empty, .string ByteArray.empty, .int .i64 0, .string ByteArray.empty, .int .i64 0, .string ByteArray.empty, .string ByteArray.empty, .int .i64 0, .int .i64 0, .bool false]) 13 160 Try.underlying34 hri hrz0 hrz1 hrz2 rfl (by decide) (.slice (some ⟨V6.heap.size, 0, none⟩) 0 0) 0 [] rfl OB.out ⟨gR, oR, none⟩ vrs.length vrc (rcells vrs) rfl (rcells_length vrs) (rcells_lie (RL.out _ KB)) (rcells_ones vrs) hrs0 hrs1 hrs2 (by simp; omega) _ rfl ?_; intro g7 cap7 w7 hown7 hgrow7 hat7 hlt7; have KP7 := Lib.hid (Kp.grown KB hgrow7 hK6 hg5b (own_row_ge (Nat.le_refl _))); have SP7 := SK.out w7 KP7.out; rw [List.nil_append, Nat.zero_add] at hown7; have HO7 := Lib.hid hown7; have hg7 : V6.heap.size ≤ g7 := (by rcases hat7 with e | e; (have e2 : some (V6.heap.size) = some g7 := e; injection e2 with e2; omega); (simp at e; omega)); have N7 := Lib.hid (newsFar hgrow7 (by simp) (fun e => by have e2 : some (V6.heap.size + 1) = some V6.heap.size := e; injection e2 with e2; omega) NB.out); clear hown7 hat7 hgrow7)
          | (refine step_append_lies _ rfl (.tmp 71) (.tmp 77) 34 rfl (w3.heap.size + 1) 39 ri0 (.agg #[.bool false, .string ByteArray.empty, .string ByteArray.empty, .string ByteArray.empty, .string ByteArray.empty, .int .i64 0, .string ByteArray.empty, .int .i64 0, .string ByteArray.empty, .string ByteArray.empty, .int .i64 0, .int .i64 0, .bool false]) 13 160 Try.underlying34 hri hrz0 hrz1 hrz2 rfl (by decide) (.slice (some ⟨V6.heap.size + 1, 0, none⟩) 0 0) 0 [] rfl OC.out ⟨gR, oR, none⟩ vrs.length vrc (rcells vrs) rfl (rcells_length vrs) (rcells_lie (RL.out _ KC)) (rcells_ones vrs) hrs0 hrs1 hrs2 (by simp; omega) _ rfl ?_; intro g7 cap7 w7 hown7 hgrow7 hat7 hlt7; have KP7 := Lib.hid (Kp.grown KC hgrow7 hK6 hg5b (own_row_ge (Nat.le_succ _))); have SP7 := SK.out w7 KP7.out; rw [List.nil_append, Nat.zero_add] at hown7; have HO7 := Lib.hid hown7; have hg7 : V6.heap.size ≤ g7 := (by rcases hat7 with e | e; (have e2 : some (V6.heap.size + 1) = some g7 := e; injection e2 with e2; omega); (simp at e; omega)); have N7 := Lib.hid (newsFar hgrow7 (by simp; omega) (fun e => by have e2 : some V6.heap.size = some (V6.heap.size + 1) := e; injection e2 with e2; omega) NC.out); clear hown7 hat7 hgrow7)
          | (refine step_append_lies _ rfl (.tmp 78) (.tmp 80) 34 rfl (w3.heap.size + 1) 39 ri0 (.agg #[.bool false, .string ByteArray.empty, .string ByteArray.empty, .string ByteArray.empty, .string ByteArray.empty, .int .i64 0, .string ByteArray.empty, .int .i64 0, .string ByteArray.empty, .string ByteArray.empty, .int .i64 0, .int .i64 0, .bool false]) 13 160 Try.underlying34 hri hrz0 hrz1 hrz2 rfl (by decide) (.slice (some ⟨g7, 0, none⟩) vrs.length cap7) vrs.length (rcells vrs) (by first | rfl | (show Value.slice (some ⟨g7, 0, none⟩) (0 + vrs.length) cap7 = _; rw [Nat.zero_add])) (World.ownsRow.alloc HO7.out _) ⟨w7.heap.size, 0, none⟩ 1 1 [.bool pre, .string pa, .string me, .string fi, .string va, .int .i64 r5, .string r6, .int .i64 r7, .string r8, .string r9, .int .i64 r10, .int .i64 r11, .bool r12] rfl rfl (news13 w7 _ _) (cells_ones ⟨pre, pa, me, fi, va, r5, r6, r7, r8, r9, r10, r11, r12⟩) (by decide) hrs3 hrs4 (by have := KP7.out.below.size; simp; omega) _ rfl ?_; intro g8 cap8 w8 hown8 hgrow8 hat8 hlt8; have KP8 := Lib.hid (Kp.grown (Kp.alloc KP7.out hK6 hg5b _) hgrow8 hK6 hg5b (own_row_ge hg7)); have SP8 := SK.out w8 KP8.out; have HO8 := Lib.hid hown8; have HG8 : Hid (V6.heap.size ≤ g8) := Lib.hid (by have hws := KP7.out.below.size; rcases hat8 with e | e; (have e2 : some g7 = some g8 := e; injection e2 with e2; omega); ((try simp at e); omega)); clear hown8 hat8 hgrow8)
          | (refine step_append_lies _ rfl (.tmp 78) (.tmp 80) 34 rfl (w3.heap.size + 1) 39 ri0 (.agg #[.bool false, .string ByteArray.empty, .string ByteArray.empty, .string ByteArray.empty, .string ByteArray.empty, .int .i64 0, .string ByteArray.empty, .int .i64 0, .string ByteArray.empty, .string ByteArray.empty, .int .i64 0, .int .i64 0, .bool false]) 13 160 Try.underlying34 hri hrz0 hrz1 hrz2 rfl (by decide) (.slice (some ⟨g7, 0, none⟩) vrs.length cap7) vrs.length (rcells vrs) (by first | rfl | (show Value.slice (some ⟨g7, 0, none⟩) (0 + vrs.length) cap7 = _; rw [Nat.zero_add])) HO7.out ⟨V6.heap.size, 0, none⟩ 1 1 [.bool pre, .string pa, .string me, .string fi, .string va, .int .i64 r5, .string r6, .int .i64 r7, .string r8, .string r9, .int .i64 r10, .int .i64 r11, .bool r12] rfl rfl N7.out (cells_ones ⟨pre, pa, me, fi, va, r5, r6, r7, r8, r9, r10, r11, r12⟩) (by decide) hrs3 hrs4 (by have := KP7.out.below.size; omega) _ rfl ?_; intro g8 cap8 w8 hown8 hgrow8 hat8 hlt8; have KP8 := Lib.hid (Kp.grown KP7.out hgrow8 hK6 hg5b (own_row_ge hg7)); have SP8 := SK.out w8 KP8.out; have HO8 := Lib.hid hown8; have HG8 : Hid (V6.heap.size ≤ g8) := Lib.hid (by have hws := KP7.out.below.size; rcases hat8 with e | e; (have e2 : some g7 = some g8 := e; injection e2 with e2; omega); ((try simp at e); omega)); clear hown8 hat8 hgrow8)
          | (refine step_append_lies _ rfl (.tmp 78) (.tmp 80) 34 rfl (w3.heap.size + 1) 39 ri0 (.agg #[.bool false, .string ByteArray.empty, .string ByteArray.empty, .string ByteArray.empty, .string ByteArray.empty, .int .i64 0, .string ByteArray.empty, .int .i64 0, .string ByteArray.empty, .string ByteArray.empty, .int .i64 0, .int .i64 0, .bool false]) 13 160 Try.underlying34 hri hrz0 hrz1 hrz2 rfl (by decide) (.slice (some ⟨g7, 0, none⟩) vrs.length cap7) vrs.length (rcells vrs) (by first | rfl | (show Value.slice (some ⟨g7, 0, none⟩) (0 + vrs.length) cap7 = _; rw [Nat.zero_add])) HO7.out ⟨V6.heap.size + 1, 0, none⟩ 1 1 [.bool pre, .string pa, .string me, .string fi, .string va, .int .i64 r5, .string r6, .int .i64 r7, .string r8, .string r9, .int .i64 r10, .int .i64 r11, .bool r12] rfl rfl N7.out (cells_ones ⟨pre, pa, me, fi, va, r5, r6, r7, r8, r9, r10, r11, r12⟩) (by decide) hrs3 hrs4 (by have := KP7.out.below.size; omega) _ rfl ?_; intro g8 cap8 w8 hown8 hgrow8 hat8 hlt8; have KP8 := Lib.hid (Kp.grown KP7.out hgrow8 hK6 hg5b (own_row_ge hg7)); have SP8 := SK.out w8 KP8.out; have HO8 := Lib.hid hown8; have HG8 : Hid (V6.heap.size ≤ g8) := Lib.hid (by have hws := KP7.out.below.size; rcases hat8 with e | e; (have e2 : some g7 = some g8 := e; injection e2 with e2; omega); ((try simp at e); omega)); clear hown8 hat8 hgrow8))
      all_goals
        have KP9 := Kp.set KP8.out hg5 (.slice (some ⟨g8, 0, none⟩) (vrs.length + 1) cap8)
        have hg8 : V6.heap.size ≤ g8 := HG8.out
        obtain ⟨V9, hV9⟩ : ∃ V9, w8.setCell ⟨g5, j * 2 + 1, none⟩ (.slice (some ⟨g8, 0, none⟩) (vrs.length + 1) cap8) = V9 := ⟨_, rfl⟩
        have hq9 : V9.cell? ⟨g5, j * 2 + 1, none⟩ = some (.slice (some ⟨g8, 0, none⟩) (vrs ++ [rN]).length cap8) := by
          rw [← hV9, List.length_append]
          exact setS _ (celR_at (KP8.out.some (by rw [x1]; rfl)))
        have hr9 : Rts V9 (some ⟨g8, 0, none⟩) (vrs ++ [rN]) := by
          have hO : w8.ownsRow (w3.heap.size + 1) 39 13 (.slice (some ⟨g8, 0, none⟩) (vrs ++ [rN]).length cap8) (vrs ++ [rN]).length (rcells (vrs ++ [rN])) := by
            rw [rcells_app, HRC.out, List.length_append]
            exact HO8.out
          have hR8 := rts_own hO
          intro k hk
          obtain ⟨gx, ox, ex, cx⟩ := hR8 k hk
          refine ⟨gx, ox, ex, fun i u hu => ?_⟩
          injection ex with ex
          injection ex with e1 _ _
          rw [← hV9, World.cell?_setCell_other w8 ⟨g5, j * 2 + 1, none⟩ ⟨gx, ox + k * 13 + i, none⟩ _ (fun e => by injection e with e3 _ _; omega)]
          exact cx i u hu
        rw [hV9] at KP9
        have KP9H := Lib.hid KP9
        have H39 := Lib.hid (H36.out.trans (KP9.below.mono (show w3.heap.size ≤ w3.heap.size + 1 by omega)))
        have VH9 := Lib.hid (vhs_set VH3.out H39.out (fun k u hk hu => (KP9.hole k hk).trans (by
          have := World.ownsRow.cells O6.out (g := g5) rfl _ _ hu
          rw [addr_add, Nat.zero_add] at this; exact this)) hq9 hr9)
        have HV9 := Lib.hid hV9
        clear hV9 KP9 hq9 hr9
        have hbn : (vrs ++ [rN]).length ≤ 1048600 ∧ ∀ r ∈ vrs ++ [rN], r.field.size ≤ 1048600 ∧ r.path.size ≤ 1048600 := by
          refine ⟨by rw [List.length_append]; have := HVL.out; show vrs.length + 1 ≤ _; omega, fun r hr => ?_⟩
          rcases List.mem_append.1 hr with hr | hr
          · exact hbv.2 r hr
          · simp at hr; rw [hr]; exact HRB.out
        have F9 := Lib.hid (F3.out.below H39.out)
        have B9 := Lib.hid (below_then B3.out H39.out)
        have FC9 := FC _ _ cap5 V9 VH9.out (vb_set HB.out hbn) F9.out
        rw [setR_length, findV_set hj HDM.out] at FC9
        have dd := fun i u hi hu => (KP9H.out.below.cell (p := ⟨w3.heap.size, i, none⟩) (by simp)).trans (DC6.out i u hi hu)
        have k0 := dd 0 _ (by decide) rfl; have k1 := dd 1 _ (by decide) rfl; have k2 := dd 2 _ (by decide) rfl; have k3 := dd 3 _ (by decide) rfl; have k4 := dd 4 _ (by decide) rfl; have k5 := dd 5 _ (by decide) rfl; have k6 := dd 6 _ (by decide) rfl; have k7 := dd 7 _ (by decide) rfl
        have k8 := (KP9H.out.below.cell (p := ⟨w3.heap.size, 8, none⟩) (by simp)).trans s1
        have HFR := Lib.hid (HX.out.symm.trans HFV.out)
        rw [hv] at HFR
        simp only at HFR
        obtain ⟨y, hy⟩ : ∃ y, findR m.data.toList p.data.toList fs vrs = y := ⟨_, rfl⟩
        have hz : (∃ k : Nat, (xi, xk, xo) = ((j : Int), (k : Int), true) ∧ findR m.data.toList p.data.toList fs (vrs ++ [rN]) = some k) ∨ ((xi, xk, xo) = ((0 : Int), (0 : Int), false) ∧ (findR m.data.toList p.data.toList fs (vrs ++ [rN]) = some vrs.length ∨ findR m.data.toList p.data.toList fs (vrs ++ [rN]) = none)) := by
          have h1 := HFR.out
          rw [hy] at h1
          cases y with
          | some k => exact .inl ⟨k, h1, findR_app_some hy _⟩
          | none =>
            refine .inr ⟨h1, ?_⟩
            rw [findR_app_none hy]
            split
            · exact .inl rfl
            · exact .inr rfl
        clear hy HFR SR KR SK s1 s2 d1 x1 x2 KA KB KC KD
        rcases hz with ⟨kk, hx1, hx2⟩ | ⟨hx1, hx2 | hx2⟩
        all_goals
          rw [hx2] at FC9
          simp only [Prod.mk.injEq] at hx1
          obtain ⟨rfl, rfl, rfl⟩ := hx1
          simp only at FC9
          rw [HV9.out]
          go_wp2_with fail
          refine FC9.out.mono ?_
          rintro e w10 ⟨rfl, hb10⟩
          have B10 := Lib.hid (below_then B9.out hb10)
          have H310 := Lib.hid (H39.out.trans (hb10.mono H39.out.size))
          have HB10 := Lib.hid hb10
          have k8' := cell_below hb10 k8
          have e2 := (H310.out.cell (p := ⟨W2.heap.size, 8, none⟩) hl6).trans (CJ3.out 8 _ rfl)
          have e3 := (H310.out.cell (p := ⟨gA, oA + j * 2 + 1, none⟩) hlA).trans ((H36.out.cell (p := ⟨gA, oA + j * 2 + 1, none⟩) hlA).symm.trans d2)
          have dd10 := Lib.hid (fun i u hi hu => cell_below hb10 (dd i u hi hu))
          clear hb10 FC9 k0 k1 k2 k3 k4 k5 k6 k7 k8 d2 dd HV9
          have O10 := Lib.hid (KP9H.out.hole)
          have y1 : (w10.cell? ⟨g5, j * 2 + 1, none⟩).isSome = true := by
            rw [HB10.out.cell (p := ⟨g5, j * 2 + 1, none⟩) (by have := KP9H.out.below.size; show g5 < V9.heap.size; omega)]
            exact KP9H.out.some X1.out
          have y2 : w10.frozen? ⟨g5, j * 2 + 1, none⟩ = false := (HB10.out.frozen (p := ⟨g5, j * 2 + 1, none⟩) (by have := KP9H.out.below.size; show g5 < V9.heap.size; omega)).trans (KP9H.out.fz.trans X2.out)
          have z5 : g5 < w10.heap.size := by have := KP9H.out.below.size; have := HB10.out.size; omega
          have zK : w3.heap.size + 1 ≤ w10.heap.size := by omega
          have SK2 : Hid (∀ w', Kp (w3.heap.size + 1) g5 (j * 2 + 1) w10 w' → (Kp (w3.heap.size + 1) g5 (j * 2 + 1) w10 w' ∧ w'.cell? ⟨w3.heap.size, 8, none⟩ = some (.slice (some ⟨g5, 0, none⟩) vs.length cap5) ∧ w'.cell? ⟨W2.heap.size, 8, none⟩ = some (.slice (some ⟨gA, oA, none⟩) vs.length vcap) ∧
              w'.cell? ⟨gA, oA + j * 2 + 1, none⟩ = some (.slice (some ⟨gR, oR, none⟩) vrs.length vrc) ∧ w'.cell? ⟨g5, j * 2 + 1, none⟩ = some (celR w' g5 (j * 2 + 1)) ∧ w'.frozen? ⟨g5, j * 2 + 1, none⟩ = false)) := Lib.hid (fun w' hk =>
            ⟨hk, (hk.below.cell (p := ⟨w3.heap.size, 8, none⟩) (Nat.lt_succ_self _)).trans k8', (hk.below.cell (p := ⟨W2.heap.size, 8, none⟩) (Nat.lt_succ_of_lt hl6)).trans e2, (hk.below.cell (p := ⟨gA, oA + j * 2 + 1, none⟩) (Nat.lt_succ_of_lt hlA)).trans e3, celR_at (hk.some y1), hk.fz.trans y2⟩)
          have LR : Kp (w3.heap.size + 1) g5 (j * 2 + 1) w10 w10.drew := (Kp.refl _ _ _ _).drew
          have LA : Kp (w3.heap.size + 1) g5 (j * 2 + 1) w10 (w10.alloc (.cells #[.bool true, .string p, .string ⟨#[]⟩, .string ⟨#[]⟩, .string ⟨#[]⟩, .int .i64 0, .string ⟨#[]⟩, .int .i64 0, .string ⟨#[]⟩, .string ⟨#[]⟩, .int .i64 0, .int .i64 0, .bool false] 39)).drew := ((Kp.refl _ _ _ _).alloc zK z5 _).drew
          have QA : Hid ((w10.alloc (.cells #[.bool true, .string p, .string ⟨#[]⟩, .string ⟨#[]⟩, .string ⟨#[]⟩, .int .i64 0, .string ⟨#[]⟩, .int .i64 0, .string ⟨#[]⟩, .string ⟨#[]⟩, .int .i64 0, .int .i64 0, .bool false] 39)).drew.ownsRow (w3.heap.size + 1) 39 13 (.slice (some ⟨w10.heap.size, 0, none⟩) 1 1) 1 [.bool true, .string p, .string ⟨#[]⟩, .string ⟨#[]⟩, .string ⟨#[]⟩, .int .i64 0, .string ⟨#[]⟩, .int .i64 0, .string ⟨#[]⟩, .string ⟨#[]⟩, .int .i64 0, .int .i64 0, .bool false]) := Lib.hid (World.ownsRow_lit (base := w3.heap.size + 1) (size := 13) (e := 39) w10 #[.bool true, .string p, .string ⟨#[]⟩, .string ⟨#[]⟩, .string ⟨#[]⟩, .int .i64 0, .string ⟨#[]⟩, .int .i64 0, .string ⟨#[]⟩, .string ⟨#[]⟩, .int .i64 0, .int .i64 0, .bool false] 1 zK (by decide) rfl)
          have RL2 : Hid (∀ w', Kp (w3.heap.size + 1) g5 (j * 2 + 1) w10 w' → Rts w' (some ⟨gR, oR, none⟩) vrs) := Lib.hid (fun w' hk => hR3.below (H310.out.trans (hk.below.mono (show w3.heap.size ≤ w3.heap.size + 1 by omega))))
          have hrs5 : 1 + vrs.length ≤ maxLen := by unfold maxLen; omega
          have hrs6 : (1 + vrs.length) * 160 ≤ 140737488355328 := by omega
          have SR2 := SK2.out _ LR
          go_wp2_with fail
          go_region_held3 (fun w' => Kp (w3.heap.size + 1) g5 (j * 2 + 1) w10 w' ∧ w'.cell? ⟨w3.heap.size, 8, none⟩ = some (.slice (some ⟨g5, 0, none⟩) vs.length cap5) ∧ w'.cell? ⟨W2.heap.size, 8, none⟩ = some (.slice (some ⟨gA, oA, none⟩) vs.length vcap) ∧
              w'.cell? ⟨gA, oA + j * 2 + 1, none⟩ = some (.slice (some ⟨gR, oR, none⟩) vrs.length vrc) ∧ w'.cell? ⟨g5, j * 2 + 1, none⟩ = some (celR w' g5 (j * 2 + 1)) ∧ w'.frozen? ⟨g5, j * 2 + 1, none⟩ = false)
            (first
              | assumption
              | exact SR2
              | exact SK2.out _ LA
              | (refine SK2.out _ (Kp.alloc (And.left (by assumption)) zK z5 _))
              | (refine SK2.out _ (Kp.drew (Kp.alloc (And.left (by assumption)) zK z5 _)))
              | (refine SK2.out _ (Kp.set (And.left (by assumption)) hg5 _)))
            (first
              | (refine step_append_lies _ rfl (.tmp 140) (.tmp 146) 34 rfl (w3.heap.size + 1) 39 ri0 (.agg #[.bool false, .string ByteArray.empty, .string ByteArray.empty, .string ByteArray.empty, .string ByteArray.empty, .int .i64 0, .string ByteArray.empty, .int .i64 0, .string ByteArray.empty, .string ByteArray.empty, .int .i64 0, .int .i64 0, .bool false]) 13 160 Try.underlying34 hri hrz0 hrz1 hrz2 rfl (by decide) (.slice (some ⟨w10.heap.size, 0, none⟩) 1 1) 1 [.bool true, .string p, .string ⟨#[]⟩, .string ⟨#[]⟩, .string ⟨#[]⟩, .int .i64 0, .string ⟨#[]⟩, .int .i64 0, .string ⟨#[]⟩, .string ⟨#[]⟩, .int .i64 0, .int .i64 0, .bool false] rfl QA.out ⟨gR, oR, none⟩ vrs.length vrc (rcells vrs) rfl (rcells_length vrs) (rcells_lie (RL2.out _ LA)) (rcells_ones vrs) hrs0 hrs5 hrs6 (by simp; omega) _ rfl ?_; intro g11 cap11 w11 hown11 hgrow11 hat11 hlt11; have KP11 := Lib.hid (Kp.grown LA hgrow11 zK z5 (own_row_ge (Nat.le_refl _))); have SP11 := SK2.out w11 KP11.out; have HO11 := Lib.hid hown11; have HG11 : Hid (w10.heap.size ≤ g11) := Lib.hid (by rcases hat11 with e | e; (have e2 : some w10.heap.size = some g11 := e; injection e2 with e2; omega); ((try simp at e); omega)); clear hown11 hat11 hgrow11))
          have KP12 := Kp.set KP11.out hg5 (.slice (some ⟨g11, 0, none⟩) (1 + vrs.length) cap11)
          have hg11 := HG11.out
          obtain ⟨V12, hV12⟩ : ∃ V12, w11.setCell ⟨g5, j * 2 + 1, none⟩ (.slice (some ⟨g11, 0, none⟩) (1 + vrs.length) cap11) = V12 := ⟨_, rfl⟩
          obtain ⟨rO, hrO⟩ : ∃ rO : Rt, rO = ⟨true, p, ⟨#[]⟩, ⟨#[]⟩, ⟨#[]⟩, 0, ⟨#[]⟩, 0, ⟨#[]⟩, ⟨#[]⟩, 0, 0, false⟩ := ⟨_, rfl⟩
          have hROc : rcells [rO] = [.bool true, .string p, .string ⟨#[]⟩, .string ⟨#[]⟩, .string ⟨#[]⟩, .int .i64 0, .string ⟨#[]⟩, .int .i64 0, .string ⟨#[]⟩, .string ⟨#[]⟩, .int .i64 0, .int .i64 0, .bool false] := by rw [hrO]; rfl
          have hROt : takeK m.data.toList p.data.toList fs rO = true := by rw [hrO]; simp [takeK, takesL]
          have hROb : rO.field.size ≤ 1048600 ∧ rO.path.size ≤ 1048600 := by rw [hrO]; exact ⟨by show (0 : Nat) ≤ _; omega, by show p.size ≤ _; omega⟩
          have hq12 : V12.cell? ⟨g5, j * 2 + 1, none⟩ = some (.slice (some ⟨g11, 0, none⟩) ([rO] ++ vrs).length cap11) := by
            rw [← hV12, List.length_append]
            exact setS _ (celR_at (KP11.out.some y1))
          have hr12 : Rts V12 (some ⟨g11, 0, none⟩) ([rO] ++ vrs) := by
            have hO : w11.ownsRow (w3.heap.size + 1) 39 13 (.slice (some ⟨g11, 0, none⟩) ([rO] ++ vrs).length cap11) ([rO] ++ vrs).length (rcells ([rO] ++ vrs)) := by
              rw [rcells_app, hROc, List.length_append]
              exact HO11.out
            have hR8 := rts_own hO
            intro k hk
            obtain ⟨gx, ox, ex, cx⟩ := hR8 k hk
            refine ⟨gx, ox, ex, fun i u hu => ?_⟩
            injection ex with ex
            injection ex with e1 _ _
            rw [← hV12, World.cell?_setCell_other w11 ⟨g5, j * 2 + 1, none⟩ ⟨gx, ox + k * 13 + i, none⟩ _ (fun e => by injection e with e3 _ _; omega)]
            exact cx i u hu
          rw [hV12] at KP12
          have h312 := H310.out.trans (KP12.below.mono (show w3.heap.size ≤ w3.heap.size + 1 by omega))
          have z9 : g5 < V9.heap.size := by have := KP9H.out.below.size; omega
          have VH12 := vhs_set VH3.out h312 (fun k u hk hu => (KP12.hole k hk).trans ((HB10.out.cell (p := ⟨g5, k, none⟩) z9).trans ((O10.out k hk).trans (by
            have := World.ownsRow.cells O6.out (g := g5) rfl _ _ hu
            rw [addr_add, Nat.zero_add] at this; exact this)))) hq12 hr12
          have hbn2 : ([rO] ++ vrs).length ≤ 1048600 ∧ ∀ r ∈ [rO] ++ vrs, r.field.size ≤ 1048600 ∧ r.path.size ≤ 1048600 := by
            refine ⟨by rw [List.length_append]; have := HVL.out; show 1 + vrs.length ≤ _; omega, fun r hr => ?_⟩
            rcases List.mem_append.1 hr with hr | hr
            · simp at hr; rw [hr]; exact hROb
            · exact hbv.2 r hr
          have FC12 := FC _ _ cap5 V12 VH12 (vb_set HB.out hbn2) (F3.out.below h312)
          rw [setR_length, findV_set hj HDM.out, List.singleton_append, findR_head hROt] at FC12
          simp only at FC12
          have B12 := Lib.hid (below_then B3.out h312)
          have ee := fun i u hi hu => (KP12.below.cell (p := ⟨w3.heap.size, i, none⟩) (Nat.lt_succ_self _)).trans (dd10.out i u hi hu)
          have k0 := ee 0 _ (by decide) rfl; have k1 := ee 1 _ (by decide) rfl; have k2 := ee 2 _ (by decide) rfl; have k3 := ee 3 _ (by decide) rfl; have k4 := ee 4 _ (by decide) rfl; have k5 := ee 5 _ (by decide) rfl; have k6 := ee 6 _ (by decide) rfl; have k7 := ee 7 _ (by decide) rfl
          have k8 := (KP12.below.cell (p := ⟨w3.heap.size, 8, none⟩) (Nat.lt_succ_self _)).trans k8'
          rw [hV12]
          clear hV12 hrO hROc hROt hROb hq12 hr12 KP12 VH12 hbn2 ee h312 SK2 LR LA SR2 k8' e2 e3 y1 y2
          go_wp2_with fail
          refine FC12.out.mono ?_
          rintro e w13 ⟨rfl, hb13⟩
          have B13 := Lib.hid (below_then B12.out hb13)
          clear hb13 FC12 k0 k1 k2 k3 k4 k5 k6 k7 k8
          go_wp2_with fail
          go_ret
          exact ⟨rfl, B13.out⟩
end Go.Proofs.Ythaphfedogmliaa
