/- The texts FldB, FldC, OwnR in one. -/
import Derived.Test.YtgmjkkiahanekaaDoorM2
import Derived.RangeFuncNested
import Derived.RangeFuncBound
import Derived.RangeFuncCalls
import Derived.RangeFuncLeaves
import Derived.RangeFuncFrom
import Derived.RangeFuncBox
import Derived.Shelf.Abstract
import Derived.Shelf.RegionOpen
import Derived.WalkKit
import Derived.OwnWalkIn
import Derived.TacticsInMore
import Derived.LoopNIn
import Derived.LoopIn
import Derived.Maps.AppendAt
import Derived.Laws.OwnMore
import Derived.Laws.AppendOwn
import Derived.Deep.AppendLies
import Derived.RegionTactic
import Derived.Below
import Derived.Tactics
/- The iterator fields.all: for every list of fields and every name it gives the values of the fields of that name, in their order. -/
set_option linter.unusedVariables false
set_option linter.unusedSimpArgs false
namespace Go.Proofs.YtgmjkkiahanekaaDoor
open Go.RowKit Lex Go.Shelf
attribute [local go_sem] Oper.semAt_some

/-- A value of at most N bytes. -/
abbrev Val (N : Nat) := { v : List UInt8 // v.length ≤ N }
abbrev encV {N : Nat} (v : Val N) : Array Value := #[.string (bs v.1)]

theorem all_c (a : Option Addr) (n c : Nat) (name : ByteArray) (w : World) :
    Calls Tryd.prog 58 #[.slice a n c, .string name] w fun e w' => e = .returned (.func (.func 70) #[] #[.pointer (some ⟨w.heap.size, 0, none⟩), .pointer (some ⟨w.heap.size + 1, 0, none⟩)]) ∧ w' = (w.alloc (.cells #[.slice a n c] 37)).alloc (.cells #[.string name] 9) := by
  go_enter Tryd.func58, Tryd.ntmps58
  go_wp2
  go_ret
  exact ⟨rfl, rfl⟩

theorem abides_below {β : Type} {B : Nat} {J : β → World → Prop} (h : AbidesFrom B J) {s : β} {W W' : World} (hs : J s W) (hb : Below W.heap.size W W') : J s W' :=
  h s W W' none hs ⟨hb.os, hb.tape, hb.output, hb.size, fun k hk _ => hb.block k hk⟩ (fun r e => by cases e)

theorem held1 {w w1 : World} {a : Addr} {v : Value} (hb : Below w.heap.size w w1) (h : w.cell? a = some v) : w1.cell? a = some v := (hb.cell (World.block_lt_of_cell? w _ h)).trans h
theorem belowA {w w1 : World} {o : Obj} (hb : Below (w.alloc o).heap.size (w.alloc o) w1) : Below w.heap.size w w1 := ((Below.refl _ w).alloc (Nat.le_refl _) o).trans (hb.mono (by simp))
theorem cell_first (w : World) (a b : Value) (T : TypeId) : (w.alloc (.cells #[a, b] T)).cell? ⟨w.heap.size, 0, none⟩ = some a := by rw [World.cell?_alloc_new]; rfl
theorem cell_second (w : World) (a b : Value) (T : TypeId) : (w.alloc (.cells #[a, b] T)).cell? ⟨w.heap.size, 1, none⟩ = some b := by rw [World.cell?_alloc_new]; rfl

theorem flds_lt {w : World} {A : Option Addr} {fs : List Fd} (h : Flds w A fs) : ∀ g o, 0 < fs.length → A = some ⟨g, o, none⟩ → g < w.heap.size := by
  intro g o hl e
  obtain ⟨g', o', e', c, _⟩ := h 0 hl
  rw [e'] at e
  injection e with e; injection e with e1 _
  subst e1
  exact World.block_lt_of_cell? w _ c
/-- What a round keeps: what lay below n₀, and the box of the name. -/
def KpN (n₀ Bn : Nat) (W W' : World) : Prop := Below n₀ W W' ∧ ∀ v, W.cell? ⟨Bn, 0, none⟩ = some v → W'.cell? ⟨Bn, 0, none⟩ = some v
theorem KpN.t {n₀ Bn : Nat} {A B C : World} (h : KpN n₀ Bn A B) (k : KpN n₀ Bn B C) : KpN n₀ Bn A C := ⟨h.1.trans k.1, fun v hv => k.2 v (h.2 v hv)⟩
theorem KpN.b {n₀ Bn B : Nat} (hB : n₀ ≤ B) (W : World) (l : Nat) (o o' : Obj) (hl : B ≤ l) (ho : W.heap[l]? = some o) (hc : o.isCells = false) (hw : o.isWalk = false) : KpN n₀ Bn W (W.putObj l o') :=
  ⟨(Below.refl n₀ W).grown (grownBy_putObj' W l o') (by have := (Array.getElem?_eq_some_iff.1 ho).1; omega) (fun k e => by cases e; omega), fun v hv => cell_kept hv (grownBy_putObj' W l o') (fun r e => by cases e; exact ⟨o, ho, hc⟩)⟩

set_option maxRecDepth 100000 in
set_option maxHeartbeats 4000000 in
theorem all1_in (n : Nat) (hn : 1 ≤ n) (l Bs Bn n₀ N : Nat) (A : Option Addr) (cap : Nat) (fs : List Fd) (name : ByteArray) (hnm : name.size ≤ 140737488351232) (hl : fs.length ≤ 4398046511104) (hs1 : ∀ f ∈ fs, f.1.length ≤ 140737488351232) (hs2 : ∀ f ∈ fs, f.2.length ≤ N)
    (J Jx : List (Val N) → World → Prop)
    (hY : ∀ pre x W, J pre W → pre.length < fs.length → YieldAt Fence.wide (n - 1) Tryd.prog l (encV x) W fun e W' =>
      (e = .returned (.bool true) ∧ J (pre ++ [x]) W' ∧ KpN n₀ Bn W W') ∨ (e = .returned (.bool false) ∧ Jx (pre ++ [x]) W'))
    (W : World) (hn0 : n₀ ≤ W.heap.size) (hJ : AbidesFrom W.heap.size J) (hBs : W.cell? ⟨Bs, 0, none⟩ = some (.slice A fs.length cap)) (hBn : W.cell? ⟨Bn, 0, none⟩ = some (.string name)) (hF : Flds W A fs) (hFn : ∀ g o, 0 < fs.length → A = some ⟨g, o, none⟩ → g < n₀) (h0 : J [] W) :
    CallsIn Fence.wide n Tryd.prog 70 #[.func (.yield l) #[] #[], .pointer (some ⟨Bs, 0, none⟩), .pointer (some ⟨Bn, 0, none⟩)] W fun e W' => (∃ v, e = .returned v) ∧
      ((∃ ys, ys.map (·.1) = valuesF fs name.data.toList ∧ J ys W') ∨ (∃ pre, (pre.map (·.1) <+: valuesF fs name.data.toList) ∧ Jx pre W')) := by
  refine callsIn_of_wp Tryd.func70 rfl trivial ?_ rfl
  simp only [Tryd.ntmps70, List.size_toArray, List.length_cons, List.length_nil, Nat.reduceAdd, Nat.reduceSub, Array.replicate_succ, Array.replicate_zero, List.push_toArray, List.append_toArray, List.nil_append, List.cons_append]
  gi_wp2
  clear hBs
  gi_loopw [8] (fun i wr => ∃ (k : Nat) (pre : List (Val N)), k ≤ fs.length ∧ i = .int .i64 k ∧ pre.map (·.1) = valuesF (fs.take k) name.data.toList ∧ J pre wr ∧ Below n₀ W wr ∧ W.heap.size ≤ wr.heap.size ∧ wr.cell? ⟨Bn, 0, none⟩ = some (.string name))
    (fun i _ => fs.length - (intOf i).toNat)
  case atStart => exact ⟨0, [], Nat.zero_le _, rfl, rfl, h0, Below.refl _ _, Nat.le_refl _, hBn⟩
  case round =>
    obtain ⟨k, pre, hk, rfl, hpre, hJs, hnx, hsz, hcn⟩ := hrel
    by_cases hlt : k < fs.length
    · obtain ⟨g, o, hA, d1, d2⟩ := hF k hlt
      have hg := hFn g o (by omega) hA
      have c1 := (hnx.cell (p := ⟨g, o + k * 2, none⟩) hg).trans d1
      have c2 := (hnx.cell (p := ⟨g, o + k * 2 + 1, none⟩) hg).trans d2
      subst hA
      have AL := fun w => Lib.hid (alike_c (bs fs[k].1) name w (Nat.le_trans (hs1 _ (List.getElem_mem hlt)) (by decide)) (Nat.le_trans hnm (by decide)))
      have hvt := valuesF_take fs k hlt name.data.toList
      have hval := hs2 _ (List.getElem_mem hlt)
      have hbn : Bn < wr.heap.size := World.block_lt_of_cell? wr _ hcn
      have hpl : pre.length < fs.length := by
        have h1 := congrArg List.length hpre
        rw [List.length_map] at h1
        have h2 := valuesF_length (fs.take k) name.data.toList
        rw [List.length_take] at h2
        omega
      rw [bs_list] at AL
      have HP := Lib.hid hpre
      have HVT := Lib.hid hvt
      clear hpre hvt d1 d2
      cases hal : alike fs[k].1 name.data.toList with
      | false =>
        rw [hal] at AL HVT
        gi_wp2_with fail
        refine ⟨trivial, ?_⟩
        refine (callsIn_wide.2 (AL _).out).mono ?_
        rintro e w1 ⟨rfl, hb1⟩
        have HB1 := Lib.hid hb1
        clear hb1
        gi_wp2_with fail
        refine ⟨fun _ h => (by cases h), ?_⟩
        gi_wp2
        go_roundw
        case rel => exact ⟨k + 1, pre, by omega, by go_num, by rw [HVT.out, HP.out]; simp, abides_below (W := wr) hJ hJs (belowA HB1.out), hnx.trans ((belowA HB1.out).mono (by omega)), by have := (belowA HB1.out).size; omega, held1 (belowA HB1.out) hcn⟩
        case measure => simp [intOf]; omega
      | true =>
        rw [hal] at AL HVT
        gi_wp2_with fail
        refine ⟨trivial, ?_⟩
        refine (callsIn_wide.2 (AL _).out).mono ?_
        rintro e w1 ⟨rfl, hb1⟩
        have hj1 := abides_below (W := wr) hJ hJs (belowA hb1)
        have hz1 := (belowA hb1).size
        have hb2 := hnx.trans ((belowA hb1).mono (by omega))
        have hcn1 := held1 (belowA hb1) hcn
        have hcf := held1 hb1 (cell_second wr (.string (bs fs[k].1)) (.string (bs fs[k].2)) 79)
        clear hb1
        obtain ⟨fn, tmps, assign, body, hy, hR⟩ := hY pre ⟨fs[k].2, hval⟩ w1 hj1 hpl
        dsimp only [encV] at hy
        gi_wp2
        refine hR.mono ?_
        rintro e W3 (⟨rfl, hJ3, hk3⟩ | ⟨rfl, hJx3⟩)
        · gi_wp2
          go_roundw
          case rel => exact ⟨k + 1, pre ++ [⟨fs[k].2, hval⟩], by omega, by go_num, by rw [HVT.out, List.map_append, HP.out]; simp, hJ3, hb2.trans hk3.1, by have := hk3.1.size; omega, hk3.2 _ hcn1⟩
          case measure => simp [intOf]; omega
        · gi_wp2
          refine bodyPost_ret (results_none rfl _ _ _) rfl ?_
          exact ⟨⟨_, rfl⟩, .inr ⟨pre ++ [⟨fs[k].2, hval⟩], by
            have h := valuesF_prefix fs (k + 1) name.data.toList
            rw [HVT.out] at h
            rw [List.map_append, HP.out]; simpa using h, hJx3⟩⟩
    · obtain rfl : k = fs.length := by omega
      rw [List.take_length] at hpre
      gi_wp2
      go_end0
      exact ⟨⟨_, rfl⟩, .inl ⟨pre, hpre, hJs⟩⟩

theorem all_stops (n : Nat) (hn : 1 ≤ n) (Bs Bn n₀ N : Nat) (A : Option Addr) (cap : Nat) (fs : List Fd) (name : ByteArray) (hnm : name.size ≤ 140737488351232) (hl : fs.length ≤ 4398046511104) (hs1 : ∀ f ∈ fs, f.1.length ≤ 140737488351232) (hs2 : ∀ f ∈ fs, f.2.length ≤ N)
    (w : World) (hn0 : n₀ ≤ w.heap.size) (hBs : w.cell? ⟨Bs, 0, none⟩ = some (.slice A fs.length cap)) (hBn : w.cell? ⟨Bn, 0, none⟩ = some (.string name)) (hF : Flds w A fs) (hFn : ∀ g o, 0 < fs.length → A = some ⟨g, o, none⟩ → g < n₀) :
    SeqStopsK Fence.wide n Tryd.prog 70 #[.pointer (some ⟨Bs, 0, none⟩), .pointer (some ⟨Bn, 0, none⟩)] (encV (N := N)) (KpN n₀ Bn) (fun ys => ys.map (·.1) = valuesF fs name.data.toList) (fun pre => pre.map (·.1) <+: valuesF fs name.data.toList) fs.length w :=
  fun l J Jx W hW hJ hJx hY h0 => (all1_in n hn l Bs Bn n₀ N A cap fs name hnm hl hs1 hs2 J Jx hY W (Nat.le_trans hn0 hW.size) hJ (held1 hW hBs) (held1 hW hBn) (hF.below hW) hFn h0).mono
    fun e W' ⟨he, h⟩ => ⟨he, h.elim (fun ⟨ys, h1, h2⟩ => .inl ⟨ys, h1, h2⟩) (fun ⟨pre, h1, h2⟩ => .inr ⟨pre, h1, h2⟩)⟩
end Go.Proofs.YtgmjkkiahanekaaDoor

/- The contract of fields.Get, for every list of fields and every name. -/
set_option linter.unusedVariables false
set_option linter.unusedSimpArgs false
namespace Go.Proofs.YtgmjkkiahanekaaDoor
open Go.RowKit Lex Go.Shelf
attribute [local go_sem] Oper.semAt_some

theorem cell_new_l (w : World) (v : Value) (T : TypeId) : (w.alloc (.cells #[v] T)).cell? ⟨w.heap.size, 0, none⟩ = some v ∧ (w.alloc (.cells #[v] T)).frozen? ⟨w.heap.size, 0, none⟩ = false :=
  ⟨by rw [World.cell?_alloc_new]; rfl, World.frozen?_alloc_new _ _ _ _⟩
theorem cell_alloc_l {w : World} {a : Addr} {v : Value} (o : Obj) (h : w.cell? a = some v) : (w.alloc o).cell? a = some v := (World.cell?_alloc_lt w o _ (World.block_lt_of_cell? w _ h)).trans h
theorem frozen_alloc_l {w : World} {a : Addr} {v : Value} (o : Obj) (h : w.cell? a = some v) (hf : w.frozen? a = false) : (w.alloc o).frozen? a = false :=
  (World.frozen?_alloc_old w o a (Nat.ne_of_lt (World.block_lt_of_cell? w _ h))).trans hf

/-- What Get holds between two rounds: the first value and their number, in boxes of its own. -/
def GetI {N : Nat} (w : World) (pre : List (Val N)) (W : World) : Prop :=
  (W.cell? ⟨w.heap.size, 0, none⟩ = some (.string (bs ((pre.map (·.1)).headD []))) ∧ W.frozen? ⟨w.heap.size, 0, none⟩ = false ∧ W.cell? ⟨w.heap.size + 1, 0, none⟩ = some (.int .i64 pre.length) ∧ W.frozen? ⟨w.heap.size + 1, 0, none⟩ = false) ∧ Below w.heap.size w W
theorem getI_own {N B : Nat} (w : World) (hB : w.heap.size ≤ B) : OwnFrom B (GetI (N := N) w) :=
  OwnFrom.and (Own.from (fun s A B row hs hg hr => ⟨cell_kept hs.1 hg hr, (frozen_kept hs.1 hg hr).trans hs.2.1, cell_kept hs.2.2.1 hg hr, (frozen_kept hs.2.2.1 hg hr).trans hs.2.2.2⟩) _) (ownFrom_below (Nat.le_refl _) hB)
theorem ne_block {a b c d : Nat} (h : a ≠ b) : (⟨a, c, none⟩ : Addr) ≠ ⟨b, d, none⟩ := by intro e; injection e with e1 _; exact h e1
theorem kp_set {n₀ Bn b : Nat} (W : World) (v : Value) (h0 : n₀ ≤ b) (hn : Bn ≠ b) : KpN n₀ Bn W (W.setCell ⟨b, 0, none⟩ v) :=
  ⟨(Below.refl n₀ W).setCell (p := ⟨b, 0, none⟩) h0 _, fun u hu => by rw [World.cell?_setCell_other _ _ _ _ (ne_block (Ne.symm hn))]; exact hu⟩
theorem getI_first {N : Nat} {w W : World} {x : Val N} (h : GetI w ([] : List (Val N)) W) : GetI w [x] ((W.setCell ⟨w.heap.size, 0, none⟩ (.string (bs x.1))).setCell ⟨w.heap.size + 1, 0, none⟩ (.int .i64 1)) := by
  obtain ⟨⟨hc, hf, hc2, hf2⟩, hB⟩ := h
  refine ⟨⟨?_, ?_, ?_, ?_⟩, (hB.setCell (p := ⟨w.heap.size, 0, none⟩) (Nat.le_refl _) _).setCell (p := ⟨w.heap.size + 1, 0, none⟩) (by show _ ≤ _ + 1; omega) _⟩
  · rw [World.cell?_setCell_other _ _ _ _ (ne_block (by omega))]
    exact World.cell?_setCell_same' _ _ _ (by rw [hc]; rfl)
  · rw [World.frozen?_setCell, World.frozen?_setCell]; exact hf
  · exact World.cell?_setCell_same' _ _ _ (by rw [World.cell?_setCell_other _ _ _ _ (ne_block (by omega)), hc2]; rfl)
  · rw [World.frozen?_setCell, World.frozen?_setCell]; exact hf2
theorem getI_next {N : Nat} {w W : World} {y x : Val N} {pre : List (Val N)} (h : GetI w (y :: pre) W) : GetI w (y :: pre ++ [x]) (W.setCell ⟨w.heap.size + 1, 0, none⟩ (.int .i64 (((y :: pre).length : Int) + 1))) := by
  obtain ⟨⟨hc, hf, hc2, hf2⟩, hB⟩ := h
  refine ⟨⟨?_, ?_, ?_, ?_⟩, hB.setCell (p := ⟨w.heap.size + 1, 0, none⟩) (by show _ ≤ _ + 1; omega) _⟩
  · rw [World.cell?_setCell_other _ _ _ _ (ne_block (by omega))]
    exact hc
  · rw [World.frozen?_setCell]; exact hf
  · rw [World.cell?_setCell_same' _ _ _ (by rw [hc2]; rfl)]; simp
  · rw [World.frozen?_setCell]; exact hf2

set_option maxRecDepth 100000 in
set_option maxHeartbeats 4000000 in
theorem get_c (A : Option Addr) (cap : Nat) (fs : List Fd) (name : ByteArray) (w : World) (hnm : name.size ≤ 140737488351232) (hl : fs.length ≤ 4398046511104) (hs1 : ∀ f ∈ fs, f.1.length ≤ 140737488351232) (hs2 : ∀ f ∈ fs, f.2.length ≤ 140737488351232) (hF : Flds w A fs) :
    Calls Tryd.prog 43 #[.slice A fs.length cap, .string name] w fun e w' => e = .returned (.tuple #[.string (bs (getF fs name.data.toList).1), .int .i64 (getF fs name.data.toList).2]) ∧ Below w.heap.size w w' := by
  refine (callsIn_wide (n := 9)).1 ?_
  refine callsIn_of_wp_marks Tryd.func43 rfl trivial ?_ rfl
  simp only [Tryd.ntmps43, List.size_toArray, List.length_cons, List.length_nil, Nat.reduceAdd, Nat.reduceSub, Array.replicate_succ, Array.replicate_zero, List.push_toArray, List.append_toArray, List.nil_append, List.cons_append]
  gi_wp2_with (refine ⟨trivial, ?_⟩; gi_at_call 58; refine (callsIn_wide.2 (all_c _ _ _ _ _)).mono ?_; rintro e w' ⟨rfl, rfl⟩)
  have s0 := cell_new_l w (.string ⟨#[]⟩) 9
  have s1 := cell_new_l (w.alloc (.cells #[.string ⟨#[]⟩] 9)) (.int .i64 0) 3
  have s2 := cell_new_l ((w.alloc (.cells #[.string ⟨#[]⟩] 9)).alloc (.cells #[.int .i64 0] 3)) (.slice A fs.length cap) 37
  have s3 := cell_new_l (((w.alloc (.cells #[.string ⟨#[]⟩] 9)).alloc (.cells #[.int .i64 0] 3)).alloc (.cells #[.slice A fs.length cap] 37)) (.string name) 9
  simp only [World.size_alloc] at s1 s2 s3
  have hB0 : Below w.heap.size w ((((w.alloc (.cells #[.string ⟨#[]⟩] 9)).alloc (.cells #[.int .i64 0] 3)).alloc (.cells #[.slice A fs.length cap] 37)).alloc (.cells #[.string name] 9)) :=
    ((((Below.refl _ w).alloc (Nat.le_refl _) _).alloc (by simp) _).alloc (by simp; omega) _).alloc (by simp; omega) _
  refine wpIn_rangeFunc_ownF (α := Val 140737488351232) rfl (by omega) (gf := 70) (lb := #[.pointer (some ⟨w.heap.size + 1 + 1, 0, none⟩), .pointer (some ⟨w.heap.size + 1 + 1 + 1, 0, none⟩)]) rfl trivial (enters_of Tryd.func70 (by kernel_rfl) rfl)
    (all_stops (9 - 1) (by omega) (w.heap.size + 1 + 1) (w.heap.size + 1 + 1 + 1) w.heap.size 140737488351232 A cap fs name hnm hl hs1 hs2 _ (by simp; omega) (cell_alloc_l _ s2.1) s3.1 (hF.below hB0) (flds_lt hF)) KpN.t (KpN.b (by simp; omega)) (Below.refl _ _) (fun _ => rfl)
    (GetI w)
    (fun _ _ _ => False)
    (getI_own w (by simp; omega))
    (fun _ _ _ _ _ hs _ _ => hs)
    ⟨⟨cell_alloc_l _ (cell_alloc_l _ (cell_alloc_l _ s0.1)), frozen_alloc_l _ (cell_alloc_l _ (cell_alloc_l _ s0.1)) (frozen_alloc_l _ (cell_alloc_l _ s0.1) (frozen_alloc_l _ s0.1 s0.2)), cell_alloc_l _ (cell_alloc_l _ s1.1), frozen_alloc_l _ (cell_alloc_l _ s1.1) (frozen_alloc_l _ s1.1 s1.2)⟩, hB0⟩
    (fun x => { tmps := #[.slice A fs.length cap, .string name, undef, undef, .string ⟨#[]⟩, .int .i64 0, .pointer (some ⟨w.heap.size, 0, none⟩), .pointer (some ⟨w.heap.size + 1, 0, none⟩), .string (bs x.1), .slice A fs.length cap, .string name,
      .func (.func 70) #[] #[.pointer (some ⟨w.heap.size + 1 + 1, 0, none⟩), .pointer (some ⟨w.heap.size + 1 + 1 + 1, 0, none⟩)], .string (bs x.1), undef, undef, undef, undef, undef, undef, undef], defers := [] }) ?assign ?body ?done ?stop
  case assign =>
    intro l x W K hK
    gi_wp2
    exact hK
  case body =>
    rintro l pre x W hI hlen
    have HI := Lib.hid hI
    obtain ⟨⟨hc, hf, hc2, hf2⟩, hB⟩ := hI
    have hne : (⟨w.heap.size + 1, 0, none⟩ : Addr) ≠ ⟨w.heap.size, 0, none⟩ := ne_block (by omega)
    have hlb : pre.length ≤ 4398046511104 := by omega
    cases pre with
    | nil =>
      gi_wp2
      exact ⟨(KeepsOthers.setCell _ _ _).trans (KeepsOthers.setCell _ _ _), (kp_set _ _ (Nat.le_refl _) (by omega)).t (kp_set _ _ (by omega) (by omega)), getI_first HI.out⟩
    | cons y pre =>
      have hn0 : (((y :: pre).length : Int) == 0) = false := by rw [beq_eq_false_iff_ne]; simp; omega
      generalize hq : (((y :: pre).length : Nat) : Int) = q at hc2 hn0
      have hq1 : 0 ≤ q := by omega
      have hq2 : q ≤ 4398046511104 := by rw [← hq]; exact Int.ofNat_le.2 hlb
      have HQ := Lib.hid hq
      clear hq hc hf hlb hlen
      gi_wp2
      exact ⟨KeepsOthers.setCell _ _ _, kp_set _ _ (by omega) (by omega), by have := getI_next (x := x) HI.out; rw [HQ.out] at this; exact this⟩
  case done =>
    rintro D ys W hD hys hI hK
    have hres : bs ((ys.map (·.1)).headD []) = bs (getF fs name.data.toList).1 := by rw [hys]; rfl
    have hres2 : ys.length = (getF fs name.data.toList).2 := by rw [← List.length_map (f := fun x => x.1), hys]; rfl
    obtain ⟨⟨hc, hf, hc2, hf2⟩, hB⟩ := hI
    rw [hres] at hc
    rw [hres2] at hc2
    generalize hg2 : (getF fs name.data.toList).2 = q2 at *
    generalize hg1 : (getF fs name.data.toList).1 = q1 at *
    have H1 := Lib.hid hg1
    have H2 := Lib.hid hg2
    clear hg1 hg2
    have HD := Lib.hid hD
    clear hys hres hres2 hD
    gi_wp2
    gi_region
    gi_wp2
    refine ⟨by simp, .inl ⟨_, _, rfl, run_takeDeferred (show W.drew.heap[D]? = _ from hK), ?_⟩⟩
    refine ⟨_, results_tmp2 rfl _ _ _, by rw [H1.out, H2.out]; rfl, ?_⟩
    exact hB.drew.trans (belowK_b (w := w) (Nat.le_refl _) W.drew D _ _ (by have := HD.out; simp at this; omega) hK rfl rfl)
  case stop =>
    rintro D c pre W _ _ h _
    exact h.elim
end Go.Proofs.YtgmjkkiahanekaaDoor

/- append onto a row of the call's own, the source another row of the call's own: nil, empty or not. -/
set_option linter.unusedVariables false
namespace Go.Proofs.YtgmjkkiahanekaaDoor
open Go.RowKit

theorem run_append_rows {P : Program} (w : World) (base base' : Nat) (t ty e : TypeId) (i : TypeInfo) (z : Value) (size bytes : Nat) (ht : P.underlying t = some (.slice e)) (hi : P.info? e = some i) (hz : i.zero = some z)
    (hsize : i.size = size) (hby : i.bytes = bytes) (hzs : z.cells.size = size) (hsz : 0 < size)
    (v : Value) (n : Nat) (xs : List Value) (hown : w.ownsRow base e size v n xs) (s : Value) (m : Nat) (ys : List Value) (hs : w.ownsRow base' e size s m ys) (h1 : ∀ u ∈ ys, u.oneCell' = true)
    (h63 : n + m ≤ maxLen) (hbytes : (n + m) * bytes ≤ 140737488355328) (hbase : base ≤ w.heap.size) :
    ∃ v' w', (Builtin.append_ #[t, t] ty #[v, s]).run P w = .ok v' w' ∧ w'.ownsRow base e size v' (n + m) (xs ++ ys) ∧ w.grownBy w' v.ownBlock ∧ (v'.ownBlock = v.ownBlock ∨ v'.ownBlock = some w.heap.size) := by
  rcases hs.2 with ⟨rfl, rfl⟩ | ⟨g, cap, cur, rfl, _⟩
  · have hx : ys = [] := List.eq_nil_of_length_eq_zero (by simpa using hs.1)
    subst hx
    refine ⟨v, w, run_append_owned_none (w := w) base t ty e i size ht hi v n xs hown, by simpa using hown, ⟨rfl, rfl, rfl, Nat.le_refl _, fun _ _ _ => rfl⟩, .inl rfl⟩
  · obtain ⟨v', w', hr, h2, h3, _, h5⟩ := run_append_own_at (P := P) w base t ty e i z size bytes ht hi hz hsize hby hzs hsz v n xs hown ⟨g, 0, none⟩ m cap ys hs.1 (hs.cells (g := g) rfl) h1 h63 hbytes hbase
    exact ⟨v', w', hr, h2, h3, h5⟩

theorem wpList_append_rows {P : Program} {w : World} {ops : Array Oper} {rest : List Oper} {o : Oper} {a : Act} {Q : Exit → Act → World → Prop} (hgd : o.guard = none) (s x : Operand) (t : TypeId)
    (ho : o.op = .call { callee := .builtin .append, args := #[s, x], argTypes := #[t, t] })
    (base base' : Nat) (e : TypeId) (i : TypeInfo) (z : Value) (size bytes : Nat) (ht : P.underlying t = some (.slice e)) (hi : P.info? e = some i) (hz : i.zero = some z)
    (hsize : i.size = size) (hby : i.bytes = bytes) (hzs : z.cells.size = size) (hsz : 0 < size)
    (v : Value) (n : Nat) (xs : List Value) (hs : a.eval s = v) (hown : w.ownsRow base e size v n xs) (y : Value) (m : Nat) (ys : List Value) (hx : a.eval x = y) (hy : w.ownsRow base' e size y m ys) (h1 : ∀ u ∈ ys, u.oneCell' = true)
    (h63 : n + m ≤ maxLen) (hbytes : (n + m) * bytes ≤ 140737488355328) (hbase : base ≤ w.heap.size)
    (h : ∀ v' w', w'.ownsRow base e size v' (n + m) (xs ++ ys) → w.grownBy w' v.ownBlock → (v'.ownBlock = v.ownBlock ∨ v'.ownBlock = some w.heap.size) → wpList P ops Q rest (a.put o.dst v') w') : wpList P ops Q (o :: rest) a w := by
  refine wpList_plain hgd fun K hK => ?_
  obtain ⟨v', w', hr, h2, h3, h5⟩ := run_append_rows (P := P) w base base' t o.type e i z size bytes ht hi hz hsize hby hzs hsz v n xs hown y m ys hy h1 h63 hbytes hbase
  unfold Oper.wp execOp
  simp only [ho, resolve, invoke, builtin, Sem.run_bind, Sem.run_pure, Result.andThen_ok, List.map_toArray, List.map_cons, List.map_nil, hs, hx, hr]
  exact hK _ _ (h v' w' h2 h3 h5)
end Go.Proofs.YtgmjkkiahanekaaDoor

