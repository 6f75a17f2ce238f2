/- The texts FldC, OwnR in one. -/
import Derived.Test.YtgmjkkiahanekaaDoorM3
import Derived.Maps.AppendAt
import Derived.Laws.OwnMore
import Derived.Laws.AppendOwn
import Derived.Deep.AppendLies
import Derived.RegionTactic
import Derived.Below
import Derived.Tactics
/- The contract of fields.Get, for every list of fields and every name. -/
set_option linter.unusedVariables false
set_option linter.unusedSimpArgs false
namespace Go.Proofs.YtgmjkkiahanekaaDoor
open Go.RowKit Lex Go.Shelf
attribute [local go_sem] Oper.semAt_some

theorem cell_new_l (w : World) (v : Value) (T : TypeId) : (w.alloc (.cells #[v] T)).cell? ⟨w.heap.size, 0, none⟩ = some v ∧ (w.alloc (.cells #[v] T)).frozen? ⟨w.heap.size, 0, none⟩ = false :=
  ⟨by rw [World.cell?_alloc_new]; rfl, World.frozen?_alloc_new _ _ _ _⟩
theorem cell_alloc_l {w : World} {a : Addr} {v : Value} (o : Obj) (h : w.cell? a = some v) : (w.alloc o).cell? a = some v := (World.cell?_alloc_lt w o _ (World.block_lt_of_cell? w _ h)).trans h
theorem frozen_alloc_l {w : World} {a : Addr} {v : Value} (o : Obj) (h : w.cell? a = some v) (hf : w.frozen? a = false) : (w.alloc o).frozen? a = false :=
  (World.frozen?_alloc_old w o a (Nat.ne_of_lt (World.block_lt_of_cell? w _ h))).trans hf

/-- What Get holds between two rounds: the first value and their number, in boxes of its own. -/
def GetI {N : Nat} (w : World) (pre : List (Val N)) (W : World) : Prop :=
  (W.cell? ⟨w.heap.size, 0, none⟩ = some (.string (bs ((pre.map (·.1)).headD []))) ∧ W.frozen? ⟨w.heap.size, 0, none⟩ = false ∧ W.cell? ⟨w.heap.size + 1, 0, none⟩ = some (.int .i64 pre.length) ∧ W.frozen? ⟨w.heap.size + 1, 0, none⟩ = false) ∧ Below w.heap.size w W
theorem getI_own {N B : Nat} (w : World) (hB : w.heap.size ≤ B) : OwnFrom B (GetI (N := N) w) :=
  OwnFrom.and (Own.from (fun s A B row hs hg hr => ⟨cell_kept hs.1 hg hr, (frozen_kept hs.1 hg hr).trans hs.2.1, cell_kept hs.2.2.1 hg hr, (frozen_kept hs.2.2.1 hg hr).trans hs.2.2.2⟩) _) (ownFrom_below (Nat.le_refl _) hB)
theorem ne_block {a b c d : Nat} (h : a ≠ b) : (⟨a, c, none⟩ : Addr) ≠ ⟨b, d, none⟩ := by intro e; injection e with e1 _; exact h e1
theorem kp_set {n₀ Bn b : Nat} (W : World) (v : Value) (h0 : n₀ ≤ b) (hn : Bn ≠ b) : KpN n₀ Bn W (W.setCell ⟨b, 0, none⟩ v) :=
  ⟨(Below.refl n₀ W).setCell (p := ⟨b, 0, none⟩) h0 _, fun u hu => by rw [World.cell?_setCell_other _ _ _ _ (ne_block (Ne.symm hn))]; exact hu⟩
theorem getI_first {N : Nat} {w W : World} {x : Val N} (h : GetI w ([] : List (Val N)) W) : GetI w [x] ((W.setCell ⟨w.heap.size, 0, none⟩ (.string (bs x.1))).setCell ⟨w.heap.size + 1, 0, none⟩ (.int .i64 1)) := by
  obtain ⟨⟨hc, hf, hc2, hf2⟩, hB⟩ := h
  refine ⟨⟨?_, ?_, ?_, ?_⟩, (hB.setCell (p := ⟨w.heap.size, 0, none⟩) (Nat.le_refl _) _).setCell (p := ⟨w.heap.size + 1, 0, none⟩) (by show _ ≤ _ + 1; omega) _⟩
  · rw [World.cell?_setCell_other _ _ _ _ (ne_block (by omega))]
    exact World.cell?_setCell_same' _ _ _ (by rw [hc]; rfl)
  · rw [World.frozen?_setCell, World.frozen?_setCell]; exact hf
  · exact World.cell?_setCell_same' _ _ _ (by rw [World.cell?_setCell_other _ _ _ _ (ne_block (by omega)), hc2]; rfl)
  · rw [World.frozen?_setCell, World.frozen?_setCell]; exact hf2
theorem getI_next {N : Nat} {w W : World} {y x : Val N} {pre : List (Val N)} (h : GetI w (y :: pre) W) : GetI w (y :: pre ++ [x]) (W.setCell ⟨w.heap.size + 1, 0, none⟩ (.int .i64 (((y :: pre).length : Int) + 1))) := by
  obtain ⟨⟨hc, hf, hc2, hf2⟩, hB⟩ := h
  refine ⟨⟨?_, ?_, ?_, ?_⟩, hB.setCell (p := ⟨w.heap.size + 1, 0, none⟩) (by show _ ≤ _ + 1; omega) _⟩
  · rw [World.cell?_setCell_other _ _ _ _ (ne_block (by omega))]
    exact hc
  · rw [World.frozen?_setCell]; exact hf
  · rw [World.cell?_setCell_same' _ _ _ (by rw [hc2]; rfl)]; simp
  · rw [World.frozen?_setCell]; exact hf2

set_option maxRecDepth 100000 in
set_option maxHeartbeats 4000000 in
theorem get_c (A : Option Addr) (cap : Nat) (fs : List Fd) (name : ByteArray) (w : World) (hnm : name.size ≤ 140737488351232) (hl : fs.length ≤ 4398046511104) (hs1 : ∀ f ∈ fs, f.1.length ≤ 140737488351232) (hs2 : ∀ f ∈ fs, f.2.length ≤ 140737488351232) (hF : Flds w A fs) :
    Calls Tryd.prog 43 #[.slice A fs.length cap, .string name] w fun e w' => e = .returned (.tuple #[.string (bs (getF fs name.data.toList).1), .int .i64 (getF fs name.data.toList).2]) ∧ Below w.heap.size w w' := by
  refine (callsIn_wide (n := 9)).1 ?_
  refine callsIn_of_wp_marks Tryd.func43 rfl trivial ?_ rfl
  simp only [Tryd.ntmps43, List.size_toArray, List.length_cons, List.length_nil, Nat.reduceAdd, Nat.reduceSub, Array.replicate_succ, Array.replicate_zero, List.push_toArray, List.append_toArray, List.nil_append, List.cons_append]
  gi_wp2_with (refine ⟨trivial, ?_⟩; gi_at_call 58; refine (callsIn_wide.2 (all_c _ _ _ _ _)).mono ?_; rintro e w' ⟨rfl, rfl⟩)
  have s0 := cell_new_l w (.string ⟨#[]⟩) 9
  have s1 := cell_new_l (w.alloc (.cells #[.string ⟨#[]⟩] 9)) (.int .i64 0) 3
  have s2 := cell_new_l ((w.alloc (.cells #[.string ⟨#[]⟩] 9)).alloc (.cells #[.int .i64 0] 3)) (.slice A fs.length cap) 37
  have s3 := cell_new_l (((w.alloc (.cells #[.string ⟨#[]⟩] 9)).alloc (.cells #[.int .i64 0] 3)).alloc (.cells #[.slice A fs.length cap] 37)) (.string name) 9
  simp only [World.size_alloc] at s1 s2 s3
  have hB0 : Below w.heap.size w ((((w.alloc (.cells #[.string ⟨#[]⟩] 9)).alloc (.cells #[.int .i64 0] 3)).alloc (.cells #[.slice A fs.length cap] 37)).alloc (.cells #[.string name] 9)) :=
    ((((Below.refl _ w).alloc (Nat.le_refl _) _).alloc (by simp) _).alloc (by simp; omega) _).alloc (by simp; omega) _
  refine wpIn_rangeFunc_ownF (α := Val 140737488351232) rfl (by omega) (gf := 70) (lb := #[.pointer (some ⟨w.heap.size + 1 + 1, 0, none⟩), .pointer (some ⟨w.heap.size + 1 + 1 + 1, 0, none⟩)]) rfl trivial (enters_of Tryd.func70 (by kernel_rfl) rfl)
    (all_stops (9 - 1) (by omega) (w.heap.size + 1 + 1) (w.heap.size + 1 + 1 + 1) w.heap.size 140737488351232 A cap fs name hnm hl hs1 hs2 _ (by simp; omega) (cell_alloc_l _ s2.1) s3.1 (hF.below hB0) (flds_lt hF)) KpN.t (KpN.b (by simp; omega)) (Below.refl _ _) (fun _ => rfl)
    (GetI w)
    (fun _ _ _ => False)
    (getI_own w (by simp; omega))
    (fun _ _ _ _ _ hs _ _ => hs)
    ⟨⟨cell_alloc_l _ (cell_alloc_l _ (cell_alloc_l _ s0.1)), frozen_alloc_l _ (cell_alloc_l _ (cell_alloc_l _ s0.1)) (frozen_alloc_l _ (cell_alloc_l _ s0.1) (frozen_alloc_l _ s0.1 s0.2)), cell_alloc_l _ (cell_alloc_l _ s1.1), frozen_alloc_l _ (cell_alloc_l _ s1.1) (frozen_alloc_l _ s1.1 s1.2)⟩, hB0⟩
    (fun x => { tmps := #[.slice A fs.length cap, .string name, undef, undef, .string ⟨#[]⟩, .int .i64 0, .pointer (some ⟨w.heap.size, 0, none⟩), .pointer (some ⟨w.heap.size + 1, 0, none⟩), .string (bs x.1), .slice A fs.length cap, .string name,
      .func (.func 70) #[] #[.pointer (some ⟨w.heap.size + 1 + 1, 0, none⟩), .pointer (some ⟨w.heap.size + 1 + 1 + 1, 0, none⟩)], .string (bs x.1), undef, undef, undef, undef, undef, undef, undef], defers := [] }) ?assign ?body ?done ?stop
  case assign =>
    intro l x W K hK
    gi_wp2
    exact hK
  case body =>
    rintro l pre x W hI hlen
    have HI := Lib.hid hI
    obtain ⟨⟨hc, hf, hc2, hf2⟩, hB⟩ := hI
    have hne : (⟨w.heap.size + 1, 0, none⟩ : Addr) ≠ ⟨w.heap.size, 0, none⟩ := ne_block (by omega)
    have hlb : pre.length ≤ 4398046511104 := by omega
    cases pre with
    | nil =>
      gi_wp2
      exact ⟨(KeepsOthers.setCell _ _ _).trans (KeepsOthers.setCell _ _ _), (kp_set _ _ (Nat.le_refl _) (by omega)).t (kp_set _ _ (by omega) (by omega)), getI_first HI.out⟩
    | cons y pre =>
      have hn0 : (((y :: pre).length : Int) == 0) = false := by rw [beq_eq_false_iff_ne]; simp; omega
      generalize hq : (((y :: pre).length : Nat) : Int) = q at hc2 hn0
      have hq1 : 0 ≤ q := by omega
      have hq2 : q ≤ 4398046511104 := by rw [← hq]; exact Int.ofNat_le.2 hlb
      have HQ := Lib.hid hq
      clear hq hc hf hlb hlen
      gi_wp2
      exact ⟨KeepsOthers.setCell _ _ _, kp_set _ _ (by omega) (by omega), by have := getI_next (x := x) HI.out; rw [HQ.out] at this; exact this⟩
  case done =>
    rintro D ys W hD hys hI hK
    have hres : bs ((ys.map (·.1)).headD []) = bs (getF fs name.data.toList).1 := by rw [hys]; rfl
    have hres2 : ys.length = (getF fs name.data.toList).2 := by rw [← List.length_map (f := fun x => x.1), hys]; rfl
    obtain ⟨⟨hc, hf, hc2, hf2⟩, hB⟩ := hI
    rw [hres] at hc
    rw [hres2] at hc2
    generalize hg2 : (getF fs name.data.toList).2 = q2 at *
    generalize hg1 : (getF fs name.data.toList).1 = q1 at *
    have H1 := Lib.hid hg1
    have H2 := Lib.hid hg2
    clear hg1 hg2
    have HD := Lib.hid hD
    clear hys hres hres2 hD
    gi_wp2
    gi_region
    gi_wp2
    refine ⟨by simp, .inl ⟨_, _, rfl, run_takeDeferred (show W.drew.heap[D]? = _ from hK), ?_⟩⟩
    refine ⟨_, results_tmp2 rfl _ _ _, by rw [H1.out, H2.out]; rfl, ?_⟩
    exact hB.drew.trans (belowK_b (w := w) (Nat.le_refl _) W.drew D _ _ (by have := HD.out; simp at this; omega) hK rfl rfl)
  case stop =>
    rintro D c pre W _ _ h _
    exact h.elim
end Go.Proofs.YtgmjkkiahanekaaDoor

/- append onto a row of the call's own, the source another row of the call's own: nil, empty or not. -/
set_option linter.unusedVariables false
namespace Go.Proofs.YtgmjkkiahanekaaDoor
open Go.RowKit

theorem run_append_rows {P : Program} (w : World) (base base' : Nat) (t ty e : TypeId) (i : TypeInfo) (z : Value) (size bytes : Nat) (ht : P.underlying t = some (.slice e)) (hi : P.info? e = some i) (hz : i.zero = some z)
    (hsize : i.size = size) (hby : i.bytes = bytes) (hzs : z.cells.size = size) (hsz : 0 < size)
    (v : Value) (n : Nat) (xs : List Value) (hown : w.ownsRow base e size v n xs) (s : Value) (m : Nat) (ys : List Value) (hs : w.ownsRow base' e size s m ys) (h1 : ∀ u ∈ ys, u.oneCell' = true)
    (h63 : n + m ≤ maxLen) (hbytes : (n + m) * bytes ≤ 140737488355328) (hbase : base ≤ w.heap.size) :
    ∃ v' w', (Builtin.append_ #[t, t] ty #[v, s]).run P w = .ok v' w' ∧ w'.ownsRow base e size v' (n + m) (xs ++ ys) ∧ w.grownBy w' v.ownBlock ∧ (v'.ownBlock = v.ownBlock ∨ v'.ownBlock = some w.heap.size) := by
  rcases hs.2 with ⟨rfl, rfl⟩ | ⟨g, cap, cur, rfl, _⟩
  · have hx : ys = [] := List.eq_nil_of_length_eq_zero (by simpa using hs.1)
    subst hx
    refine ⟨v, w, run_append_owned_none (w := w) base t ty e i size ht hi v n xs hown, by simpa using hown, ⟨rfl, rfl, rfl, Nat.le_refl _, fun _ _ _ => rfl⟩, .inl rfl⟩
  · obtain ⟨v', w', hr, h2, h3, _, h5⟩ := run_append_own_at (P := P) w base t ty e i z size bytes ht hi hz hsize hby hzs hsz v n xs hown ⟨g, 0, none⟩ m cap ys hs.1 (hs.cells (g := g) rfl) h1 h63 hbytes hbase
    exact ⟨v', w', hr, h2, h3, h5⟩

theorem wpList_append_rows {P : Program} {w : World} {ops : Array Oper} {rest : List Oper} {o : Oper} {a : Act} {Q : Exit → Act → World → Prop} (hgd : o.guard = none) (s x : Operand) (t : TypeId)
    (ho : o.op = .call { callee := .builtin .append, args := #[s, x], argTypes := #[t, t] })
    (base base' : Nat) (e : TypeId) (i : TypeInfo) (z : Value) (size bytes : Nat) (ht : P.underlying t = some (.slice e)) (hi : P.info? e = some i) (hz : i.zero = some z)
    (hsize : i.size = size) (hby : i.bytes = bytes) (hzs : z.cells.size = size) (hsz : 0 < size)
    (v : Value) (n : Nat) (xs : List Value) (hs : a.eval s = v) (hown : w.ownsRow base e size v n xs) (y : Value) (m : Nat) (ys : List Value) (hx : a.eval x = y) (hy : w.ownsRow base' e size y m ys) (h1 : ∀ u ∈ ys, u.oneCell' = true)
    (h63 : n + m ≤ maxLen) (hbytes : (n + m) * bytes ≤ 140737488355328) (hbase : base ≤ w.heap.size)
    (h : ∀ v' w', w'.ownsRow base e size v' (n + m) (xs ++ ys) → w.grownBy w' v.ownBlock → (v'.ownBlock = v.ownBlock ∨ v'.ownBlock = some w.heap.size) → wpList P ops Q rest (a.put o.dst v') w') : wpList P ops Q (o :: rest) a w := by
  refine wpList_plain hgd fun K hK => ?_
  obtain ⟨v', w', hr, h2, h3, h5⟩ := run_append_rows (P := P) w base base' t o.type e i z size bytes ht hi hz hsize hby hzs hsz v n xs hown y m ys hy h1 h63 hbytes hbase
  unfold Oper.wp execOp
  simp only [ho, resolve, invoke, builtin, Sem.run_bind, Sem.run_pure, Result.andThen_ok, List.map_toArray, List.map_cons, List.map_nil, hs, hx, hr]
  exact hK _ _ (h v' w' h2 h3 h5)
end Go.Proofs.YtgmjkkiahanekaaDoor

