/- The texts FldD in one. -/
import Derived.Test.YtgmjkkiahanekaaGreatDoorM12
/- The contract of fields.Elements, for every list of fields and every name. -/
set_option linter.unusedVariables false
set_option linter.unusedSimpArgs false
namespace Go.Proofs.YtgmjkkiahanekaaGreatDoor
open Go.RowKit Lex Go.Shelf
attribute [local go_sem] Oper.semAt_some

def elemsV {N : Nat} (pre : List (Val N)) : List (List UInt8) := (pre.map (·.1)).flatMap elems
theorem elemsV_snoc {N : Nat} (pre : List (Val N)) (x : Val N) : elemsV (pre ++ [x]) = elemsV pre ++ elems x.1 := by simp [elemsV]
theorem elems_length (l : List UInt8) : (elems l).length ≤ l.length + 1 := Nat.le_trans (elemsOf_length _) (pieces_length 44 l)
theorem elemsV_length {N : Nat} : ∀ pre : List (Val N), (elemsV pre).length ≤ pre.length * (N + 1)
  | [] => by simp [elemsV]
  | x :: pre => by
    have h1 := elemsV_length pre
    have h2 := elems_length x.1
    have h3 := x.2
    have e : elemsV (x :: pre) = elems x.1 ++ elemsV pre := by simp [elemsV]
    rw [e, List.length_append, List.length_cons, Nat.add_mul]
    omega
/-- What Elements holds between two rounds: a row of its own in a box of its own. -/
def ElI {N : Nat} (w : World) (pre : List (Val N)) (W : World) : Prop :=
  (∃ v, Boxed W w.heap.size 33 v ∧ W.ownsRow (w.heap.size + 3) 9 1 v (elemsV pre).length (strs (elemsV pre)) ∧ True) ∧ Below w.heap.size w W
theorem elI_own {N B : Nat} (w : World) (hB : w.heap.size ≤ B) : OwnFrom B (ElI (N := N) w) :=
  OwnFrom.and (Own.from (holdsRow_own (w.heap.size + 3) w.heap.size 33 9 1 (fun pre : List (Val N) => (elemsV pre).length) (fun pre => strs (elemsV pre)) (fun _ _ => True)) _) (ownFrom_below (Nat.le_refl _) hB)
theorem ones_strs (ps : List (List UInt8)) : ∀ u ∈ strs ps, u.oneCell' = true := by
  intro u hu
  obtain ⟨x, _, rfl⟩ := List.mem_map.1 hu
  rfl

theorem keeps_below {W W' : World} (h : Below W.heap.size W W') : KeepsOthers W W' :=
  KeepsOthers.of_grownBy (row := none) ⟨h.os, h.tape, h.output, h.size, fun k hk _ => h.block k hk⟩ (fun j o e => by cases e)
theorem el_step {N : Nat} {w W w1 : World} {pre : List (Val N)} {x : Val N} {v s : Value} {i : TypeInfo} (hi : Tryz.prog.info? 9 = some i) (hz0 : i.zero = some (.string ByteArray.empty)) (hz1 : i.size = 1) (hz2 : i.bytes = 16)
    (hv : Boxed W w.heap.size 33 v) (hrow : W.ownsRow (w.heap.size + 3) 9 1 v (elemsV pre).length (strs (elemsV pre))) (hB : Below w.heap.size w W) (hz : w.heap.size + 3 ≤ W.heap.size)
    (hs : w1.ownsRow W.drew.heap.size 9 1 s (elems x.1).length (strs (elems x.1))) (hb : Below W.drew.heap.size W.drew w1) (hl : (elemsV pre).length + (elems x.1).length ≤ 8796093022207) :
    w1.cell? ⟨w.heap.size, 0, none⟩ = some v ∧ ∃ v2 w2, (Builtin.append_ #[33, 33] 33 #[v, s]).run Tryz.prog w1 = .ok v2 w2 ∧ (∃ a c, v2 = .slice a (elemsV (pre ++ [x])).length c) ∧ w2.cell? ⟨w.heap.size, 0, none⟩ = some v ∧ w2.frozen? ⟨w.heap.size, 0, none⟩ = false ∧
      (KeepsOthers W (w2.setCell ⟨w.heap.size, 0, none⟩ v2) ∧ KpN w.heap.size (w.heap.size + 1 + 1) W (w2.setCell ⟨w.heap.size, 0, none⟩ v2) ∧ ElI w (pre ++ [x]) (w2.setCell ⟨w.heap.size, 0, none⟩ v2)) := by
  have hb' : Below W.heap.size W w1 := ⟨hb.os, hb.tape, hb.output, hb.size, hb.block⟩
  have hrow1 := own_below hrow hb'
  have hv1 : Boxed w1 w.heap.size 33 v := hv.kept (row := none) ⟨hb.os, hb.tape, hb.output, hb.size, fun k hk _ => hb.block k hk⟩ (by simp)
  have hsz := hb'.size
  obtain ⟨v2, w2, hrun, ho, hg, hor⟩ := run_append_rows (P := Tryz.prog) w1 (w.heap.size + 3) _ 33 33 9 i (.string ByteArray.empty) 1 16 Tryz.underlying33 hi hz0 hz1 hz2 rfl (by decide) v _ _ hrow1 s _ _ hs (ones_strs _) (by unfold maxLen; omega) (by omega) (by omega)
  have hnr : some w.heap.size ≠ v.ownBlock := fun e => by have := (hrow1.lt _ e.symm).1; omega
  have hv2 : Boxed w2 w.heap.size 33 v := hv1.kept hg hnr
  have hlo : ∀ k, v.ownBlock = some k → w.heap.size + 3 ≤ k := fun k e => (hrow1.lt _ e).1
  have hcells : ∀ (j : Nat) (o : Obj), v.ownBlock = some j → w1.heap[j]? = some o → o.isCells = true := fun j o e hj => by
    rcases hrow1.2 with ⟨rfl, _⟩ | ⟨g, cap, cur, rfl, _, hgb, _⟩
    · simp [Value.ownBlock] at e
    · obtain rfl : g = j := by simpa [Value.ownBlock] using e
      rw [hgb] at hj; cases hj; rfl
  have es : strs (elemsV pre) ++ strs (elems x.1) = strs (elemsV (pre ++ [x])) := by rw [elemsV_snoc]; simp [strs]
  have el : (elemsV pre).length + (elems x.1).length = (elemsV (pre ++ [x])).length := by rw [elemsV_snoc, List.length_append]
  rw [es, el] at ho
  obtain ⟨a, c, hform⟩ := own_slice' ho
  have hB2 : Below w.heap.size w w2 := (hB.trans (hb'.mono (by omega))).grown hg (by omega) (fun k e => by have := hlo k e; omega)
  refine ⟨hv1.cell, v2, w2, hrun, ⟨a, c, hform⟩, hv2.cell, hv2.frozen, ((keeps_below hb').trans (KeepsOthers.of_grownBy hg hcells)).trans (KeepsOthers.setCell _ _ _), ⟨?_, ?_⟩, ⟨v2, hv2.set v2, ?_, trivial⟩, hB2.setCell (p := ⟨w.heap.size, 0, none⟩) (Nat.le_refl _) _⟩
  · exact (((Below.refl w.heap.size W).trans (hb'.mono (by omega))).grown hg (by omega) (fun k e => by have := hlo k e; omega)).setCell (p := ⟨w.heap.size, 0, none⟩) (Nat.le_refl _) _
  · intro u hu
    rw [World.cell?_setCell_other _ _ _ _ (ne_block (by omega))]
    have h1 := held1 hb' hu
    exact (hg.cell_far ⟨w.heap.size + 1 + 1, 0, none⟩ (World.block_lt_of_cell? w1 _ h1) (fun e => by have := hlo _ e.symm; simp at this; omega)).trans h1
  · exact ho.kept (grownBy_setCell' w2 _ _) (.inr fun e => by have := (ho.lt _ e).1; omega)

theorem stepIn_append_run {F : Fence} {n : Nat} {P : Program} {ops : Array Oper} {o : Oper} {a : Act} {w : World} {K : Act → World → Prop} {Q : Exit → Act → World → Prop} {E : Prop} (hgd : o.guard = none) (s x : Operand) (t : TypeId)
    (ho : o.op = .call { callee := .builtin .append, args := #[s, x], argTypes := #[t, t] }) (v y v' : Value) (w' : World) (hs : a.eval s = v) (hx : a.eval x = y) (hrun : (Builtin.append_ #[t, t] o.type #[v, y]).run P w = .ok v' w') (h : K (a.put o.dst v') w') :
    if Region.wanted o (yielded ops a.tmps) = true then Oper.wpIn F n P o a w K Q else E := by
  have hw : Region.wanted o (yielded ops a.tmps) = true := by simp [Region.wanted, hgd]
  rw [if_pos hw]
  unfold Oper.wpIn
  refine ⟨?_, ?_⟩
  · simp [Oper.about, ho, resolve, Target.leads, Sem.run_pure]
  · rw [Oper.semAt_plain F _ _ (by rw [ho]; intro c hc'; cases hc')]
    simp [execOp, ho, resolve, invoke, builtin, hs, hx, hrun, Result.andThen]
    exact h

set_option maxRecDepth 100000 in
set_option maxHeartbeats 4000000 in
theorem elementsf_c (A : Option Addr) (cap : Nat) (fs : List Fd) (name : ByteArray) (m : Int) (w : World) (hnm : name.size ≤ 140737488351232) (hl : fs.length ≤ 1048600) (hs1 : ∀ f ∈ fs, f.1.length ≤ 140737488351232) (hs2 : ∀ f ∈ fs, f.2.length ≤ 4194304) (hF : Flds w A fs) (hm : w.cell? ⟨0, 0, none⟩ = some (.int .i64 m)) :
    Calls Tryz.prog 113 #[.slice A fs.length cap, .string name] w fun e w' => ∃ v, e = .returned v ∧ w'.ownsRow w.heap.size 9 1 v (elementsF fs name.data.toList).length (strs (elementsF fs name.data.toList)) ∧ Below w.heap.size w w' := by
  have hmx : Tryz.prog.follows .mixedOrders = true := by kernel_rfl
  obtain ⟨i0, hi, hz0, hz1, hz2⟩ := info_parts info_str
  refine (callsIn_wide (n := 9)).1 ?_
  refine callsIn_of_wp_marks Tryz.func113 rfl trivial ?_ rfl
  simp only [Tryz.ntmps113, List.size_toArray, List.length_cons, List.length_nil, Nat.reduceAdd, Nat.reduceSub, Array.replicate_succ, Array.replicate_zero, List.push_toArray, List.append_toArray, List.nil_append, List.cons_append]
  gi_wp2_with (refine ⟨trivial, ?_⟩; gi_at_call 112; refine (callsIn_wide.2 (all_c _ _ _ _ _)).mono ?_; rintro e w' ⟨rfl, rfl⟩)
  have s1 := cell_new_l (w.alloc (.cells #[.slice none 0 0] 33)) (.slice A fs.length cap) 40
  have s2 := cell_new_l ((w.alloc (.cells #[.slice none 0 0] 33)).alloc (.cells #[.slice A fs.length cap] 40)) (.string name) 9
  simp only [World.size_alloc] at s1 s2
  have hB0 : Below w.heap.size w (((w.alloc (.cells #[.slice none 0 0] 33)).alloc (.cells #[.slice A fs.length cap] 40)).alloc (.cells #[.string name] 9)) :=
    (((Below.refl _ w).alloc (Nat.le_refl _) _).alloc (by simp) _).alloc (by simp; omega) _
  refine wpIn_rangeFunc_ownF (α := Val 4194304) rfl (by omega) (gf := 143) (lb := #[.pointer (some ⟨w.heap.size + 1, 0, none⟩), .pointer (some ⟨w.heap.size + 1 + 1, 0, none⟩)]) rfl trivial (enters_of Tryz.func143 (by kernel_rfl) rfl)
    (all_stops (9 - 1) (by omega) (w.heap.size + 1) (w.heap.size + 1 + 1) w.heap.size 4194304 A cap fs name hnm (by omega) hs1 hs2 _ (by simp; omega) (cell_alloc_l _ s1.1) s2.1 (hF.below hB0) (flds_lt hF)) KpN.t (KpN.b (by simp; omega)) (Below.refl _ _) (fun _ => rfl)
    (fun pre W => ElI w pre W ∧ w.heap.size + 3 ≤ W.heap.size)
    (fun _ _ _ => False)
    (OwnFrom.and (elI_own w (by simp; omega)) (fun s A B row hs hg hr => Nat.le_trans hs hg.size))
    (fun _ _ _ _ _ hs _ _ => hs)
    ⟨⟨⟨.slice none 0 0, ((Boxed.new w 33 (.slice none 0 0)).alloc _).alloc _, World.ownsRow_nil _ _ _ _, trivial⟩, hB0⟩, by simp⟩
    (fun x => { tmps := #[.slice A fs.length cap, .string name, undef, undef, .slice none 0 0, .pointer (some ⟨w.heap.size, 0, none⟩), .string (bs x.1), .slice A fs.length cap, .string name,
      .func (.func 143) #[] #[.pointer (some ⟨w.heap.size + 1, 0, none⟩), .pointer (some ⟨w.heap.size + 1 + 1, 0, none⟩)], .string (bs x.1), undef, undef, undef, undef, undef], defers := [] }) ?assign ?body ?done ?stop
  case assign =>
    intro l x W K hK
    gi_wp2
    exact hK
  case body =>
    rintro l pre x W hI hlen
    obtain ⟨⟨⟨v, hv, hrow, _⟩, hB⟩, hz⟩ := hI
    have hx := x.2
    have hlp := elemsV_length pre
    have hle := elems_length x.1
    have hmW := cell_below hB hm
    have hc := hv.cell
    have hf := hv.frozen
    gi_wp2
    have hll : (elemsV pre).length + (elems x.1).length ≤ 8796093022207 := by
      have := Nat.mul_le_mul_right (4194304 + 1) (show pre.length ≤ 1048600 by omega)
      omega
    have ES := fun w1 s hs hb => Lib.hid (el_step (w := w) (W := W) (w1 := w1) (pre := pre) (x := x) (v := v) (s := s) hi hz0 hz1 hz2 hv hrow hB hz hs hb hll)
    have HZ := Lib.hid hz
    clear hv hrow hB hi hz0 hz1 hz2 hlp hle hz hlen
    refine wpIn_region_any (by assumption) ?_
    change wpAnyIn _ _ _ _ _ _ _ _ _ (World.drew _)
    refine wpAnyIn_ready (rs := [0, 1]) (by kernel_rfl) (by simp) ?_
    refine AllReadyIn.cons rfl (fun K hK => ?_) (AllReadyIn.cons rfl (fun K hK => ?_) AllReadyIn.nil)
    · go_simp
      refine hK _ _ ?_; clear hK K
      refine wpAnyIn_ready (rs := [1]) (by kernel_rfl) (by simp) ?_
      refine AllReadyIn.cons rfl (fun K hK => ?_) AllReadyIn.nil
      go_simp
      refine hK _ _ ?_; clear hK K
      refine wpAnyIn_ready (rs := [2]) (by kernel_rfl) (by simp) ?_
      refine AllReadyIn.cons rfl (fun K hK => ?_) AllReadyIn.nil
      go_simp
      refine ⟨trivial, ?_⟩
      refine (CallsIn.inRound l (callsIn_wide.2 (elements_c (bs x.1) m _ (Nat.le_trans hx (by decide)) (by exact hmW)))).mono ?_
      rintro e w1 ⟨s, rfl, hs, hb⟩
      obtain ⟨hc1, v2, w2, hrun, ⟨a2, c2, rfl⟩, hc2, hf2, hpost⟩ := (ES w1 s hs hb).out
      have HPO := Lib.hid hpost
      have HRU := Lib.hid hrun
      clear hpost hs hb hrun
      refine hK _ _ ?_; clear hK K
      refine wpAnyIn_ready (rs := [3]) (by kernel_rfl) (by simp) ?_
      refine AllReadyIn.cons rfl (fun K hK => ?_) AllReadyIn.nil
      refine stepIn_append_run rfl (.tmp 11) (.tmp 13) 33 rfl v s _ _ (by rfl) (by rfl) HRU.out ?_
      refine hK _ _ ?_; clear hK K
      refine wpAnyIn_ready (rs := [4]) (by kernel_rfl) (by simp) ?_
      refine AllReadyIn.cons rfl (fun K hK => ?_) AllReadyIn.nil
      go_simp
      refine hK _ _ ?_; clear hK K
      refine wpAnyIn_done (by kernel_rfl) ?_ _
      gi_wp2
      exact ⟨HPO.out.1, HPO.out.2.1, HPO.out.2.2, Nat.le_trans HZ.out HPO.out.2.1.1.size⟩
    · go_simp
      refine hK _ _ ?_; clear hK K
      refine wpAnyIn_ready (rs := [0, 2]) (by kernel_rfl) (by simp) ?_
      refine AllReadyIn.cons rfl (fun K hK => ?_) (AllReadyIn.cons rfl (fun K hK => ?_) AllReadyIn.nil)
      · go_simp
        refine hK _ _ ?_; clear hK K
        refine wpAnyIn_ready (rs := [2]) (by kernel_rfl) (by simp) ?_
        refine AllReadyIn.cons rfl (fun K hK => ?_) AllReadyIn.nil
        go_simp
        refine ⟨trivial, ?_⟩
        refine (CallsIn.inRound l (callsIn_wide.2 (elements_c (bs x.1) m _ (Nat.le_trans hx (by decide)) (by exact hmW)))).mono ?_
        rintro e w1 ⟨s, rfl, hs, hb⟩
        obtain ⟨hc1, v2, w2, hrun, ⟨a2, c2, rfl⟩, hc2, hf2, hpost⟩ := (ES w1 s hs hb).out
        have HPO := Lib.hid hpost
        have HRU := Lib.hid hrun
        clear hpost hs hb hrun
        refine hK _ _ ?_; clear hK K
        refine wpAnyIn_ready (rs := [3]) (by kernel_rfl) (by simp) ?_
        refine AllReadyIn.cons rfl (fun K hK => ?_) AllReadyIn.nil
        refine stepIn_append_run rfl (.tmp 11) (.tmp 13) 33 rfl v s _ _ (by rfl) (by rfl) HRU.out ?_
        refine hK _ _ ?_; clear hK K
        refine wpAnyIn_ready (rs := [4]) (by kernel_rfl) (by simp) ?_
        refine AllReadyIn.cons rfl (fun K hK => ?_) AllReadyIn.nil
        go_simp
        refine hK _ _ ?_; clear hK K
        refine wpAnyIn_done (by kernel_rfl) ?_ _
        gi_wp2
        exact ⟨HPO.out.1, HPO.out.2.1, HPO.out.2.2, Nat.le_trans HZ.out HPO.out.2.1.1.size⟩
      · go_simp
        refine ⟨trivial, ?_⟩
        refine (CallsIn.inRound l (callsIn_wide.2 (elements_c (bs x.1) m _ (Nat.le_trans hx (by decide)) (by exact hmW)))).mono ?_
        rintro e w1 ⟨s, rfl, hs, hb⟩
        obtain ⟨hc1, v2, w2, hrun, ⟨a2, c2, rfl⟩, hc2, hf2, hpost⟩ := (ES w1 s hs hb).out
        have HPO := Lib.hid hpost
        have HRU := Lib.hid hrun
        clear hpost hs hb hrun
        refine hK _ _ ?_; clear hK K
        refine wpAnyIn_ready (rs := [0]) (by kernel_rfl) (by simp) ?_
        refine AllReadyIn.cons rfl (fun K hK => ?_) AllReadyIn.nil
        go_simp
        refine hK _ _ ?_; clear hK K
        refine wpAnyIn_ready (rs := [3]) (by kernel_rfl) (by simp) ?_
        refine AllReadyIn.cons rfl (fun K hK => ?_) AllReadyIn.nil
        refine stepIn_append_run rfl (.tmp 11) (.tmp 13) 33 rfl v s _ _ (by rfl) (by rfl) HRU.out ?_
        refine hK _ _ ?_; clear hK K
        refine wpAnyIn_ready (rs := [4]) (by kernel_rfl) (by simp) ?_
        refine AllReadyIn.cons rfl (fun K hK => ?_) AllReadyIn.nil
        go_simp
        refine hK _ _ ?_; clear hK K
        refine wpAnyIn_done (by kernel_rfl) ?_ _
        gi_wp2
        exact ⟨HPO.out.1, HPO.out.2.1, HPO.out.2.2, Nat.le_trans HZ.out HPO.out.2.1.1.size⟩
  case done =>
    rintro D ys W hD hys ⟨⟨⟨v, hv, hrow, _⟩, hB⟩, hz⟩ hK
    have hel : elemsV ys = elementsF fs name.data.toList := by unfold elemsV elementsF; rw [hys]
    rw [hel] at hrow
    have HO := Lib.hid (own_from hrow (show w.heap.size ≤ w.heap.size + 3 by omega))
    have hc := hv.cell
    have HD := Lib.hid hD
    clear hys hrow hel hD
    gi_wp2
    refine ⟨by simp, .inl ⟨_, _, rfl, run_takeDeferred hK, ?_⟩⟩
    exact ⟨_, results_tmp rfl _ _ _, v, rfl, ownsRow_putObj HO.out _ hK rfl, hB.trans (belowK_b (w := w) (Nat.le_refl _) W D _ _ (by have := HD.out; simp at this; omega) hK rfl rfl)⟩
  case stop =>
    rintro D c pre W _ _ h _
    exact h.elim
end Go.Proofs.YtgmjkkiahanekaaGreatDoor

