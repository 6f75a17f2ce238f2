/- The contract of Target.local; Parse of an origin; the anchor; the walks over TargetHosts and TargetCase. -/
import Derived.Test.YtjbmipbjlhcooaaDoorTgtD
import Derived.Test.YtjbmipbjlhcooaaDoorPathN
import Derived.Test.YtjbmipbjlhcooaaDoorLexH
import Derived.Handy
set_option linter.unusedVariables false
set_option linter.unusedSimpArgs false
namespace Go.Proofs.YtjbmipbjlhcooaaDoor
open Go.RowKit Lex

def tgVal (t : Tg) : Value := .agg #[.int .i64 t.form, .string (bs t.host), .int .i64 t.port, .string (bs t.path), .string (bs t.query), .bool t.has]
def tgOut (x : Tg × Int) : Value := .tuple #[tgVal x.1, .int .i64 x.2]
def goodQ (c : UInt8) : Bool := !badQ c
theorem any_bad (l : List UInt8) : l.any badQ = !l.all goodQ := by
  induction l with
  | nil => rfl
  | cons a l ih => simp only [List.any_cons, List.all_cons, ih, goodQ, Bool.not_and, Bool.not_not]

/-- A struct of six cells in a block of its own. -/
structure Box6 (w : World) (B : Nat) (v0 v1 v2 v3 v4 v5 : Value) : Prop where
  c0 : w.cell? ⟨B, 0, none⟩ = some v0
  c1 : w.cell? ⟨B, 1, none⟩ = some v1
  c2 : w.cell? ⟨B, 2, none⟩ = some v2
  c3 : w.cell? ⟨B, 3, none⟩ = some v3
  c4 : w.cell? ⟨B, 4, none⟩ = some v4
  c5 : w.cell? ⟨B, 5, none⟩ = some v5
  fz : ∀ j, w.frozen? ⟨B, j, none⟩ = false
theorem frozen_new (w : World) (cs : Array Value) (T : TypeId) (j : Nat) : (w.alloc (.cells cs T)).frozen? ⟨w.heap.size, j, none⟩ = false := by
  rw [World.frozen?_alloc_new]
theorem box6_new (w : World) (v0 v1 v2 v3 v4 v5 : Value) (T : TypeId) : Box6 (w.alloc (.cells #[v0, v1, v2, v3, v4, v5] T)) w.heap.size v0 v1 v2 v3 v4 v5 := by
  refine ⟨?_, ?_, ?_, ?_, ?_, ?_, frozen_new w _ T⟩ <;> (rw [World.cell?_alloc_new]; rfl)
theorem Box6.below {w w' : World} {B : Nat} {v0 v1 v2 v3 v4 v5 : Value} (h : Box6 w B v0 v1 v2 v3 v4 v5) (hb : Below w.heap.size w w') : Box6 w' B v0 v1 v2 v3 v4 v5 := by
  have hlt := World.block_lt_of_cell? w _ h.c0
  exact ⟨cell_below hb h.c0, cell_below hb h.c1, cell_below hb h.c2, cell_below hb h.c3, cell_below hb h.c4, cell_below hb h.c5, fun j => (hb.frozen (p := ⟨B, j, none⟩) hlt).trans (h.fz j)⟩
theorem Box6.alloc {w : World} {B : Nat} {v0 v1 v2 v3 v4 v5 : Value} (h : Box6 w B v0 v1 v2 v3 v4 v5) (o : Obj) : Box6 (w.alloc o) B v0 v1 v2 v3 v4 v5 := h.below ((Below.refl _ w).alloc (Nat.le_refl _) o)

theorem setO (w : World) (B i j : Nat) (u : Value) (h : i ≠ j) : (w.setCell ⟨B, i, none⟩ u).cell? ⟨B, j, none⟩ = w.cell? ⟨B, j, none⟩ :=
  World.cell?_setCell_other w ⟨B, i, none⟩ ⟨B, j, none⟩ u (fun e => by injection e with _ e2 _; exact h e2)
theorem setS {w : World} {B j : Nat} {v : Value} (u : Value) (h : w.cell? ⟨B, j, none⟩ = some v) : (w.setCell ⟨B, j, none⟩ u).cell? ⟨B, j, none⟩ = some u := World.cell?_setCell_same w ⟨B, j, none⟩ u h
theorem Box6.stored {w : World} {B : Nat} {v0 v1 v2 v3 v4 v5 : Value} (h : Box6 w B v0 v1 v2 v3 v4 v5) (u0 u1 u2 u3 u4 u5 : Value) :
    Box6 ((((((w.setCell ⟨B, 0, none⟩ u0).setCell ⟨B, 1, none⟩ u1).setCell ⟨B, 2, none⟩ u2).setCell ⟨B, 3, none⟩ u3).setCell ⟨B, 4, none⟩ u4).setCell ⟨B, 5, none⟩ u5) B u0 u1 u2 u3 u4 u5 where
  c0 := by
    rw [setO _ _ 5 0 _ (by decide)]
    rw [setO _ _ 4 0 _ (by decide)]
    rw [setO _ _ 3 0 _ (by decide)]
    rw [setO _ _ 2 0 _ (by decide)]
    rw [setO _ _ 1 0 _ (by decide)]
    refine setS _ (v := v0) ?_
    exact h.c0
  c1 := by
    rw [setO _ _ 5 1 _ (by decide)]
    rw [setO _ _ 4 1 _ (by decide)]
    rw [setO _ _ 3 1 _ (by decide)]
    rw [setO _ _ 2 1 _ (by decide)]
    refine setS _ (v := v1) ?_
    rw [setO _ _ 0 1 _ (by decide)]
    exact h.c1
  c2 := by
    rw [setO _ _ 5 2 _ (by decide)]
    rw [setO _ _ 4 2 _ (by decide)]
    rw [setO _ _ 3 2 _ (by decide)]
    refine setS _ (v := v2) ?_
    rw [setO _ _ 1 2 _ (by decide)]
    rw [setO _ _ 0 2 _ (by decide)]
    exact h.c2
  c3 := by
    rw [setO _ _ 5 3 _ (by decide)]
    rw [setO _ _ 4 3 _ (by decide)]
    refine setS _ (v := v3) ?_
    rw [setO _ _ 2 3 _ (by decide)]
    rw [setO _ _ 1 3 _ (by decide)]
    rw [setO _ _ 0 3 _ (by decide)]
    exact h.c3
  c4 := by
    rw [setO _ _ 5 4 _ (by decide)]
    refine setS _ (v := v4) ?_
    rw [setO _ _ 3 4 _ (by decide)]
    rw [setO _ _ 2 4 _ (by decide)]
    rw [setO _ _ 1 4 _ (by decide)]
    rw [setO _ _ 0 4 _ (by decide)]
    exact h.c4
  c5 := by
    refine setS _ (v := v5) ?_
    rw [setO _ _ 4 5 _ (by decide)]
    rw [setO _ _ 3 5 _ (by decide)]
    rw [setO _ _ 2 5 _ (by decide)]
    rw [setO _ _ 1 5 _ (by decide)]
    rw [setO _ _ 0 5 _ (by decide)]
    exact h.c5
  fz := fun j => by rw [World.frozen?_setCell, World.frozen?_setCell, World.frozen?_setCell, World.frozen?_setCell, World.frozen?_setCell, World.frozen?_setCell]; exact h.fz j
theorem Box6.far {w : World} {B : Nat} {v0 v1 v2 v3 v4 v5 : Value} (h : Box6 w B v0 v1 v2 v3 v4 v5) (p : Addr) (u : Value) (hp : p.block ≠ B) : Box6 (w.setCell p u) B v0 v1 v2 v3 v4 v5 := by
  have k : ∀ j, (w.setCell p u).cell? ⟨B, j, none⟩ = w.cell? ⟨B, j, none⟩ := fun j => World.cell?_setCell_other w p ⟨B, j, none⟩ u (fun e => hp (by rw [e]))
  exact ⟨(k 0).trans h.c0, (k 1).trans h.c1, (k 2).trans h.c2, (k 3).trans h.c3, (k 4).trans h.c4, (k 5).trans h.c5, fun j => (World.frozen?_setCell ..).trans (h.fz j)⟩
theorem ret_local {w : World} {B : Nat} {v0 v1 v2 v3 v4 v5 e : Value} (h : Box6 w B v0 v1 v2 v3 v4 v5) {tmps : Array Value} (h4 : tmps[4]?.getD undef = .pointer (some ⟨B, 0, none⟩)) (h5 : tmps[5]?.getD undef = e) :
    (results Tryd.f42 tmps).run Tryd.prog w = .ok (.tuple #[.agg #[v0, v1, v2, v3, v4, v5], e]) w := by
  simp [results, Tryd.results42, go_sem, h4, h5, h.c0, h.c1, h.c2, h.c3, h.c4, h.c5]

set_option maxRecDepth 100000 in
set_option maxHeartbeats 4000000 in
theorem local_c (f p : Int) (h : ByteArray) (s : ByteArray) (m : Int) (w : World) (hs : s.size ≤ 4194304) (hm : w.cell? ⟨0, 0, none⟩ = some (.int .i64 m)) :
    Calls Tryd.prog 42 #[.agg #[.int .i64 f, .string h, .int .i64 p, .string ⟨#[]⟩, .string ⟨#[]⟩, .bool false], .string s] w fun e w' => e = .returned (tgOut (localT { form := f, host := h.data.toList, port := p } s.data.toList)) ∧ Below w.heap.size w w' := by
  have CU := fun w => Lib.hid (pcut_c s w (by omega))
  obtain ⟨hc1, hc2, hc3⟩ := cutB_len s.data.toList 63
  rw [size_list] at hc1 hc2
  unfold localT
  generalize cutB s.data.toList 63 = x at *
  obtain ⟨a, q, hq⟩ := x
  simp only at hc1 hc2 ⊢
  have NO := fun w h => Lib.hid (normal_c (bs a) m w (by rw [bs_size]; omega) h)
  rw [show (bs a).data.toList = a from rfl] at NO
  have HM := Lib.hid hm
  clear hm hc3
  obtain ⟨Q, rfl⟩ : ∃ Q : ByteArray, q = Q.data.toList := ⟨bs q, rfl⟩
  rw [size_list] at hc2
  rw [any_bad]
  have CU2 : ∀ w, Hid (Calls Tryd.prog 66 #[.string s] w fun e w' => e = .returned (.tuple #[.string (bs a), .string Q, .bool hq]) ∧ Below w.heap.size w w') := fun w => by
    have := CU w
    simp only [cutVal, list_bs] at this
    exact this
  clear CU
  cases hn : normal a with
  | none =>
    rw [hn] at NO
    simp only [normVal, Option.getD_none, Option.isSome_none] at NO
    go_enter Tryd.func42, Tryd.ntmps42
    go_wp2_with fail
    refine (CU2 _).out.mono ?_
    rintro e w1 ⟨rfl, hb1⟩
    have B1 : Below w.heap.size w w1 := (((Below.refl _ w).alloc (Nat.le_refl _) _).alloc (by simp) _).trans (hb1.mono (by simp; omega))
    have M1 := Lib.hid (cell_below B1 HM.out)
    have X2 := Lib.hid ((box6_new (w.alloc _) _ _ _ _ _ _ _).below hb1)
    go_wp2_with fail
    refine (NO _ M1.out).out.mono ?_
    rintro e w2 ⟨rfl, hb2⟩
    obtain ⟨c0, c1, c2, c3, c4, c5, fz⟩ := X2.out.below hb2
    rw [show (w.alloc (Obj.cells #[Value.int IntKind.i64 f, Value.string h, Value.int IntKind.i64 p, Value.string ⟨#[]⟩, Value.string ⟨#[]⟩, Value.bool false] 30)).heap.size = w.heap.size + 1 from by simp] at c0 c1 c2 c3 c4 c5 fz
    have f0 := fz 0
    have f1 := fz 1
    have f2 := fz 2
    have f3 := fz 3
    have f4 := fz 4
    have f5 := fz 5
    go_wp2
    (try simp only [Exit.inBlock, Exit.then]); refine bodyPost_ret (ret_local (Box6.stored ⟨c0, c1, c2, c3, c4, c5, fz⟩ _ _ _ _ _ _) rfl rfl) rfl ?_
    refine ⟨rfl, ?_⟩
    repeat refine Below.setCell ?_ (by simp) _
    exact below_then B1 hb2
  | some P =>
    rw [hn] at NO
    simp only [normVal, Option.getD_some, Option.isSome_some, if_true] at NO
    have HG : Q.data.toList.all goodQ = false → Hid (tgOut (if (!Q.data.toList.all goodQ) = true then (({}, 60) : Tg × Int) else ({ form := f, host := h.data.toList, port := p, path := P, query := Q.data.toList, has := hq }, 0)) = tgOut ({}, 60)) := fun e => by rw [e]; rfl
    have HK : Q.data.toList.all goodQ = true → Hid (tgOut (if (!Q.data.toList.all goodQ) = true then (({}, 60) : Tg × Int) else ({ form := f, host := h.data.toList, port := p, path := P, query := Q.data.toList, has := hq }, 0)) = .tuple #[.agg #[.int .i64 f, .string h, .int .i64 p, .string (bs P), .string Q, .bool hq], .int .i64 0]) := fun e => by
      rw [e]
      show tgOut ({ form := f, host := h.data.toList, port := p, path := P, query := Q.data.toList, has := hq }, 0) = _
      simp only [tgOut, tgVal, list_bs]
    generalize tgOut (if (!Q.data.toList.all goodQ) = true then (({}, 60) : Tg × Int) else ({ form := f, host := h.data.toList, port := p, path := P, query := Q.data.toList, has := hq }, 0)) = out at *
    go_enter Tryd.func42, Tryd.ntmps42
    go_wp2_with fail
    refine (CU2 _).out.mono ?_
    rintro e w1 ⟨rfl, hb1⟩
    have B1 : Below w.heap.size w w1 := (((Below.refl _ w).alloc (Nat.le_refl _) _).alloc (by simp) _).trans (hb1.mono (by simp; omega))
    have M1 := Lib.hid (cell_below B1 HM.out)
    have X1 := Lib.hid (((box6_new w _ _ _ _ _ _ _).alloc _).below hb1)
    have X2 := Lib.hid ((box6_new (w.alloc _) _ _ _ _ _ _ _).below hb1)
    go_wp2_with fail
    refine (NO _ M1.out).out.mono ?_
    rintro e w2 ⟨rfl, hb2⟩
    obtain ⟨c0, c1, c2, c3, c4, c5, fz⟩ := X2.out.below hb2
    obtain ⟨d0, d1, d2, d3, d4, d5, gz⟩ := X1.out.below hb2
    rw [show (w.alloc (Obj.cells #[Value.int IntKind.i64 f, Value.string h, Value.int IntKind.i64 p, Value.string ⟨#[]⟩, Value.string ⟨#[]⟩, Value.bool false] 30)).heap.size = w.heap.size + 1 from by simp] at c0 c1 c2 c3 c4 c5 fz
    have f0 := fz 0
    have f1 := fz 1
    have f2 := fz 2
    have f3 := fz 3
    have f4 := fz 4
    have f5 := fz 5
    have g3 := gz 3
    have g4 := gz 4
    have g5 := gz 5
    have B2 := Lib.hid (below_then B1 hb2)
    have BX := Lib.hid (Box6.mk c0 c1 c2 c3 c4 c5 fz)
    clear fz gz hb1 hb2 B1
    go_wp2
    go_loop [10, 28] (fun _ i => ∃ k : Nat, k ≤ Q.size ∧ i = .int .i64 k ∧ (Q.data.toList.take k).all goodQ = true) (fun _ i => Q.size - (intOf i).toNat)
    case atStart => exact ⟨0, Nat.zero_le _, rfl, by simp⟩
    case round =>
      obtain ⟨k, hk, rfl, ha⟩ := hrel
      have HA := Lib.hid ha
      clear ha
      by_cases hlt : k < Q.size
      · cases hq1 : goodQ Q[k] with
        | true =>
          have HS := Lib.hid (all_take_snoc _ Q k hlt HA.out hq1)
          simp only [goodQ, badQ, Bool.not_eq_true', Bool.or_eq_false_iff, decide_eq_false_iff_not] at hq1
          obtain ⟨⟨q1, q2⟩, q3⟩ := hq1
          have q3' : ((Q[k].toNat : Int) == 35) = false := by rw [beq_eq_false_iff_ne]; exact q3
          clear c0 c1 c2 c3 c4 c5 d0 d1 d2 d3 d4 d5
          go_wp2
          go_round
          case rel => exact ⟨k + 1, by omega, by go_num, HS.out⟩
          case measure => simp [intOf]; omega
        | false =>
          obtain rfl : out = tgOut ({}, 60) := (HG (all_of_take goodQ Q k hlt hq1)).out
          simp only [goodQ, badQ, Bool.not_eq_false', Bool.or_eq_true, decide_eq_true_eq] at hq1
          rcases hq1 with (q1 | q1) | q1
          · go_wp2
            (try simp only [Exit.inBlock, Exit.then]); refine bodyPost_ret (ret_local (Box6.stored BX.out _ _ _ _ _ _) rfl rfl) rfl ?_
            refine ⟨rfl, ?_⟩
            repeat refine Below.setCell ?_ (by simp) _
            exact B2.out
          · go_wp2
            (try simp only [Exit.inBlock, Exit.then]); refine bodyPost_ret (ret_local (Box6.stored BX.out _ _ _ _ _ _) rfl rfl) rfl ?_
            refine ⟨rfl, ?_⟩
            repeat refine Below.setCell ?_ (by simp) _
            exact B2.out
          · have q3' : ((Q[k].toNat : Int) == 35) = true := by rw [q1]; rfl
            go_wp2
            (try simp only [Exit.inBlock, Exit.then]); refine bodyPost_ret (ret_local (Box6.stored BX.out _ _ _ _ _ _) rfl rfl) rfl ?_
            refine ⟨rfl, ?_⟩
            repeat refine Below.setCell ?_ (by simp) _
            exact B2.out
      · have HO := Lib.hid (HK (by have h := HA.out; rw [take_all Q k hlt] at h; exact h)).out
        go_wp2
        (try simp only [Exit.inBlock, Exit.then]); refine bodyPost_ret (ret_local (Box6.stored (((BX.out.far _ _ (by simp)).far _ _ (by simp)).far _ _ (by simp)) _ _ _ _ _ _) rfl rfl) rfl ?_
        refine ⟨by rw [HO.out]; rfl, ?_⟩
        repeat refine Below.setCell ?_ (by simp) _
        exact B2.out
end Go.Proofs.YtjbmipbjlhcooaaDoor
