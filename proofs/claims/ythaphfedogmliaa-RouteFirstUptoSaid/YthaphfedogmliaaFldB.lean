/- The iterator fields.all: for every list of fields and every name it gives the values of the fields of that name, in their order. -/
import Derived.Test.YthaphfedogmliaaFldA
import Derived.RangeFuncNested
import Derived.RangeFuncBound
import Derived.RangeFuncCalls
import Derived.RangeFuncLeaves
import Derived.RangeFuncFrom
import Derived.RangeFuncBox
import Derived.Shelf.Abstract
import Derived.Shelf.RegionOpen
import Derived.WalkKit
import Derived.OwnWalkIn
import Derived.TacticsInMore
import Derived.LoopNIn
import Derived.LoopIn
set_option linter.unusedVariables false
set_option linter.unusedSimpArgs false
namespace Go.Proofs.Ythaphfedogmliaa
open Go.RowKit Lex Go.Shelf
attribute [local go_sem] Oper.semAt_some

/-- A value of at most N bytes. -/
abbrev Val (N : Nat) := { v : List UInt8 // v.length ≤ N }
abbrev encV {N : Nat} (v : Val N) : Array Value := #[.string (bs v.1)]

theorem all_c (a : Option Addr) (n c : Nat) (name : ByteArray) (w : World) :
    Calls Try.prog 47 #[.slice a n c, .string name] w fun e w' => e = .returned (.func (.func 54) #[] #[.pointer (some ⟨w.heap.size, 0, none⟩), .pointer (some ⟨w.heap.size + 1, 0, none⟩)]) ∧ w' = (w.alloc (.cells #[.slice a n c] 27)).alloc (.cells #[.string name] 9) := by
  go_enter Try.func47, Try.ntmps47
  go_wp2
  go_ret
  exact ⟨rfl, rfl⟩

theorem abides_below {β : Type} {B : Nat} {J : β → World → Prop} (h : AbidesFrom B J) {s : β} {W W' : World} (hs : J s W) (hb : Below W.heap.size W W') : J s W' :=
  h s W W' none hs ⟨hb.os, hb.tape, hb.output, hb.size, fun k hk _ => hb.block k hk⟩ (fun r e => by cases e)

theorem held1 {w w1 : World} {a : Addr} {v : Value} (hb : Below w.heap.size w w1) (h : w.cell? a = some v) : w1.cell? a = some v := (hb.cell (World.block_lt_of_cell? w _ h)).trans h
theorem belowA {w w1 : World} {o : Obj} (hb : Below (w.alloc o).heap.size (w.alloc o) w1) : Below w.heap.size w w1 := ((Below.refl _ w).alloc (Nat.le_refl _) o).trans (hb.mono (by simp))
theorem cell_first (w : World) (a b : Value) (T : TypeId) : (w.alloc (.cells #[a, b] T)).cell? ⟨w.heap.size, 0, none⟩ = some a := by rw [World.cell?_alloc_new]; rfl
theorem cell_second (w : World) (a b : Value) (T : TypeId) : (w.alloc (.cells #[a, b] T)).cell? ⟨w.heap.size, 1, none⟩ = some b := by rw [World.cell?_alloc_new]; rfl

theorem flds_lt {w : World} {A : Option Addr} {fs : List Fd} (h : Flds w A fs) : ∀ g o, 0 < fs.length → A = some ⟨g, o, none⟩ → g < w.heap.size := by
  intro g o hl e
  obtain ⟨g', o', e', c, _⟩ := h 0 hl
  rw [e'] at e
  injection e with e; injection e with e1 _
  subst e1
  exact World.block_lt_of_cell? w _ c
/-- What a round keeps: what lay below n₀, and the box of the name. -/
def KpN (n₀ Bn : Nat) (W W' : World) : Prop := Below n₀ W W' ∧ ∀ v, W.cell? ⟨Bn, 0, none⟩ = some v → W'.cell? ⟨Bn, 0, none⟩ = some v
theorem KpN.t {n₀ Bn : Nat} {A B C : World} (h : KpN n₀ Bn A B) (k : KpN n₀ Bn B C) : KpN n₀ Bn A C := ⟨h.1.trans k.1, fun v hv => k.2 v (h.2 v hv)⟩
theorem KpN.b {n₀ Bn B : Nat} (hB : n₀ ≤ B) (W : World) (l : Nat) (o o' : Obj) (hl : B ≤ l) (ho : W.heap[l]? = some o) (hc : o.isCells = false) (hw : o.isWalk = false) : KpN n₀ Bn W (W.putObj l o') :=
  ⟨(Below.refl n₀ W).grown (grownBy_putObj' W l o') (by have := (Array.getElem?_eq_some_iff.1 ho).1; omega) (fun k e => by cases e; omega), fun v hv => cell_kept hv (grownBy_putObj' W l o') (fun r e => by cases e; exact ⟨o, ho, hc⟩)⟩

set_option maxRecDepth 100000 in
set_option maxHeartbeats 4000000 in
theorem all1_in (n : Nat) (hn : 1 ≤ n) (l Bs Bn n₀ N : Nat) (A : Option Addr) (cap : Nat) (fs : List Fd) (name : ByteArray) (hnm : name.size ≤ 140737488351232) (hl : fs.length ≤ 4398046511104) (hs1 : ∀ f ∈ fs, f.1.length ≤ 140737488351232) (hs2 : ∀ f ∈ fs, f.2.length ≤ N)
    (J Jx : List (Val N) → World → Prop)
    (hY : ∀ pre x W, J pre W → pre.length < fs.length → YieldAt Fence.wide (n - 1) Try.prog l (encV x) W fun e W' =>
      (e = .returned (.bool true) ∧ J (pre ++ [x]) W' ∧ KpN n₀ Bn W W') ∨ (e = .returned (.bool false) ∧ Jx (pre ++ [x]) W'))
    (W : World) (hn0 : n₀ ≤ W.heap.size) (hJ : AbidesFrom W.heap.size J) (hBs : W.cell? ⟨Bs, 0, none⟩ = some (.slice A fs.length cap)) (hBn : W.cell? ⟨Bn, 0, none⟩ = some (.string name)) (hF : Flds W A fs) (hFn : ∀ g o, 0 < fs.length → A = some ⟨g, o, none⟩ → g < n₀) (h0 : J [] W) :
    CallsIn Fence.wide n Try.prog 54 #[.func (.yield l) #[] #[], .pointer (some ⟨Bs, 0, none⟩), .pointer (some ⟨Bn, 0, none⟩)] W fun e W' => (∃ v, e = .returned v) ∧
      ((∃ ys, ys.map (·.1) = valuesF fs name.data.toList ∧ J ys W') ∨ (∃ pre, (pre.map (·.1) <+: valuesF fs name.data.toList) ∧ Jx pre W')) := by
  refine callsIn_of_wp Try.func54 rfl trivial ?_ rfl
  simp only [Try.ntmps54, List.size_toArray, List.length_cons, List.length_nil, Nat.reduceAdd, Nat.reduceSub, Array.replicate_succ, Array.replicate_zero, List.push_toArray, List.append_toArray, List.nil_append, List.cons_append]
  gi_wp2
  clear hBs
  gi_loopw [8] (fun i wr => ∃ (k : Nat) (pre : List (Val N)), k ≤ fs.length ∧ i = .int .i64 k ∧ pre.map (·.1) = valuesF (fs.take k) name.data.toList ∧ J pre wr ∧ Below n₀ W wr ∧ W.heap.size ≤ wr.heap.size ∧ wr.cell? ⟨Bn, 0, none⟩ = some (.string name))
    (fun i _ => fs.length - (intOf i).toNat)
  case atStart => exact ⟨0, [], Nat.zero_le _, rfl, rfl, h0, Below.refl _ _, Nat.le_refl _, hBn⟩
  case round =>
    obtain ⟨k, pre, hk, rfl, hpre, hJs, hnx, hsz, hcn⟩ := hrel
    by_cases hlt : k < fs.length
    · obtain ⟨g, o, hA, d1, d2⟩ := hF k hlt
      have hg := hFn g o (by omega) hA
      have c1 := (hnx.cell (p := ⟨g, o + k * 2, none⟩) hg).trans d1
      have c2 := (hnx.cell (p := ⟨g, o + k * 2 + 1, none⟩) hg).trans d2
      subst hA
      have AL := fun w => Lib.hid (alike_c (bs fs[k].1) name w (Nat.le_trans (hs1 _ (List.getElem_mem hlt)) (by decide)) (Nat.le_trans hnm (by decide)))
      have hvt := valuesF_take fs k hlt name.data.toList
      have hval := hs2 _ (List.getElem_mem hlt)
      have hbn : Bn < wr.heap.size := World.block_lt_of_cell? wr _ hcn
      have hpl : pre.length < fs.length := by
        have h1 := congrArg List.length hpre
        rw [List.length_map] at h1
        have h2 := valuesF_length (fs.take k) name.data.toList
        rw [List.length_take] at h2
        omega
      rw [bs_list] at AL
      have HP := Lib.hid hpre
      have HVT := Lib.hid hvt
      clear hpre hvt d1 d2
      cases hal : alike fs[k].1 name.data.toList with
      | false =>
        rw [hal] at AL HVT
        gi_wp2_with fail
        refine ⟨trivial, ?_⟩
        refine (callsIn_wide.2 (AL _).out).mono ?_
        rintro e w1 ⟨rfl, hb1⟩
        have HB1 := Lib.hid hb1
        clear hb1
        gi_wp2_with fail
        refine ⟨fun _ h => (by cases h), ?_⟩
        gi_wp2
        go_roundw
        case rel => exact ⟨k + 1, pre, by omega, by go_num, by rw [HVT.out, HP.out]; simp, abides_below (W := wr) hJ hJs (belowA HB1.out), hnx.trans ((belowA HB1.out).mono (by omega)), by have := (belowA HB1.out).size; omega, held1 (belowA HB1.out) hcn⟩
        case measure => simp [intOf]; omega
      | true =>
        rw [hal] at AL HVT
        gi_wp2_with fail
        refine ⟨trivial, ?_⟩
        refine (callsIn_wide.2 (AL _).out).mono ?_
        rintro e w1 ⟨rfl, hb1⟩
        have hj1 := abides_below (W := wr) hJ hJs (belowA hb1)
        have hz1 := (belowA hb1).size
        have hb2 := hnx.trans ((belowA hb1).mono (by omega))
        have hcn1 := held1 (belowA hb1) hcn
        have hcf := held1 hb1 (cell_second wr (.string (bs fs[k].1)) (.string (bs fs[k].2)) 79)
        clear hb1
        obtain ⟨fn, tmps, assign, body, hy, hR⟩ := hY pre ⟨fs[k].2, hval⟩ w1 hj1 hpl
        dsimp only [encV] at hy
        gi_wp2
        refine hR.mono ?_
        rintro e W3 (⟨rfl, hJ3, hk3⟩ | ⟨rfl, hJx3⟩)
        · gi_wp2
          go_roundw
          case rel => exact ⟨k + 1, pre ++ [⟨fs[k].2, hval⟩], by omega, by go_num, by rw [HVT.out, List.map_append, HP.out]; simp, hJ3, hb2.trans hk3.1, by have := hk3.1.size; omega, hk3.2 _ hcn1⟩
          case measure => simp [intOf]; omega
        · gi_wp2
          refine bodyPost_ret (results_none rfl _ _ _) rfl ?_
          exact ⟨⟨_, rfl⟩, .inr ⟨pre ++ [⟨fs[k].2, hval⟩], by
            have h := valuesF_prefix fs (k + 1) name.data.toList
            rw [HVT.out] at h
            rw [List.map_append, HP.out]; simpa using h, hJx3⟩⟩
    · obtain rfl : k = fs.length := by omega
      rw [List.take_length] at hpre
      gi_wp2
      go_end0
      exact ⟨⟨_, rfl⟩, .inl ⟨pre, hpre, hJs⟩⟩

theorem all_stops (n : Nat) (hn : 1 ≤ n) (Bs Bn n₀ N : Nat) (A : Option Addr) (cap : Nat) (fs : List Fd) (name : ByteArray) (hnm : name.size ≤ 140737488351232) (hl : fs.length ≤ 4398046511104) (hs1 : ∀ f ∈ fs, f.1.length ≤ 140737488351232) (hs2 : ∀ f ∈ fs, f.2.length ≤ N)
    (w : World) (hn0 : n₀ ≤ w.heap.size) (hBs : w.cell? ⟨Bs, 0, none⟩ = some (.slice A fs.length cap)) (hBn : w.cell? ⟨Bn, 0, none⟩ = some (.string name)) (hF : Flds w A fs) (hFn : ∀ g o, 0 < fs.length → A = some ⟨g, o, none⟩ → g < n₀) :
    SeqStopsK Fence.wide n Try.prog 54 #[.pointer (some ⟨Bs, 0, none⟩), .pointer (some ⟨Bn, 0, none⟩)] (encV (N := N)) (KpN n₀ Bn) (fun ys => ys.map (·.1) = valuesF fs name.data.toList) (fun pre => pre.map (·.1) <+: valuesF fs name.data.toList) fs.length w :=
  fun l J Jx W hW hJ hJx hY h0 => (all1_in n hn l Bs Bn n₀ N A cap fs name hnm hl hs1 hs2 J Jx hY W (Nat.le_trans hn0 hW.size) hJ (held1 hW hBs) (held1 hW hBn) (hF.below hW) hFn h0).mono
    fun e W' ⟨he, h⟩ => ⟨he, h.elim (fun ⟨ys, h1, h2⟩ => .inl ⟨ys, h1, h2⟩) (fun ⟨pre, h1, h2⟩ => .inr ⟨pre, h1, h2⟩)⟩
end Go.Proofs.Ythaphfedogmliaa
