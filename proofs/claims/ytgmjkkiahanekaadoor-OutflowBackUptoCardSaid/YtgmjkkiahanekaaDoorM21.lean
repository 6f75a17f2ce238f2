/- The texts OutB in one. -/
import Derived.Test.YtgmjkkiahanekaaDoorM12
import Derived.Test.YtgmjkkiahanekaaDoorM7
import Derived.Test.YtgmjkkiahanekaaDoorM17
import Derived.Test.YtgmjkkiahanekaaDoorM20
/- The reader of a response in memory; the contracts of its small functions. -/
set_option linter.unusedVariables false
set_option linter.unusedSimpArgs false
namespace Go.Proofs.YtgmjkkiahanekaaDoor
open Go.RowKit Lex

def stepV (m : Nat) : Value := .func (.func (if m = 0 then 21 else if m = 1 then 25 else if m = 2 then 27 else if m = 3 then 28 else 29)) #[] #[]
def rdVs (r : Rd) (D : Nat) : List Value := [.string (bs r.method), .string (bs r.buf), .bool r.closed, stepV r.mode, .bool r.head, .bool r.keep, .int .i64 r.kind, .int .i64 r.len, .int .i64 r.left,
  .pointer (if r.mode = 2 then some ⟨D, 0, none⟩ else none), .bool r.over, .bool r.ended, .int .i64 r.err]
/-- The blocks of a reader. -/
def FpR (R D : Nat) (v : Value) (r : Rd) (k : Nat) : Prop := k = R ∨ (r.mode = 2 ∧ (k = D ∨ v.ownBlock = some k))
structure RdAt (w : World) (R D : Nat) (v : Value) (r : Rd) : Prop where
  blk : Blk w R (rdVs r D)
  dec : r.mode = 2 → DecAt w D v r.dec ∧ D ≠ R ∧ v.ownBlock ≠ some R
theorem RdAt.lt {w : World} {R D : Nat} {v : Value} {r : Rd} (h : RdAt w R D v r) : R < w.heap.size := h.blk.lt
theorem RdAt.fp {w : World} {R D : Nat} {v : Value} {r : Rd} (h : RdAt w R D v r) : ∀ k, FpR R D v r k → k < w.heap.size := by
  rintro k (rfl | ⟨m, rfl | e⟩)
  · exact h.lt
  · exact (h.dec m).1.lt
  · exact ((h.dec m).1.own.lt k e).2
theorem RdAt.away {w w' : World} {R D : Nat} {v : Value} {r : Rd} {F : Nat → Prop} (h : RdAt w R D v r) (ha : Away F w w') (hF : ∀ k, FpR R D v r k → ¬ F k) : RdAt w' R D v r :=
  ⟨h.blk.away h.lt ha (hF R (.inl rfl)), fun m => ⟨(h.dec m).1.away ha (hF D (.inr ⟨m, .inl rfl⟩)) (fun k e => hF k (.inr ⟨m, .inr e⟩)), (h.dec m).2⟩⟩
theorem RdAt.below {w w' : World} {R D : Nat} {v : Value} {r : Rd} (h : RdAt w R D v r) (hb : Below w.heap.size w w') : RdAt w' R D v r := h.away (F := fun _ => False) (Away.of hb) (fun _ _ => id)
/-- A store into a cell of the reader's own. -/
theorem RdAt.put {w : World} {R D : Nat} {v : Value} {r r' : Rd} (h : RdAt w R D v r) (i : Nat) (u : Value) (hi : i < 13) (hs : (rdVs r D).set i u = rdVs r' D) (hm : r'.mode = 2 → r.mode = 2 ∧ r'.dec = r.dec) : RdAt (w.setCell ⟨R, i, none⟩ u) R D v r' :=
  ⟨hs ▸ h.blk.set i hi u, fun m => by
    obtain ⟨m1, m2⟩ := hm m
    obtain ⟨d1, d2, d3⟩ := h.dec m1
    rw [m2]
    exact ⟨d1.away (F := fun k => k = R) ((Away.refl _ w).put (by exact rfl) _ _) d2 (fun k hk e => d3 (by rw [hk, e])), d2, d3⟩⟩

def pcVs (p : Pc) (A : Option Addr) (c : Nat) : List Value := [.int .i64 p.kind, .string (bs p.head.method), .string (bs p.head.target), .int .i64 p.head.status, .string (bs p.head.reason), .int .i64 p.head.minor, .slice A p.head.fields.length c, .string (bs p.data)]
def pcV (p : Pc) (A : Option Addr) (c : Nat) : Value := .agg #[.int .i64 p.kind, .string (bs p.head.method), .string (bs p.head.target), .int .i64 p.head.status, .string (bs p.head.reason), .int .i64 p.head.minor, .slice A p.head.fields.length c, .string (bs p.data)]
/-- What a step leaves that makes no head. -/
def StepPost (w : World) (R D : Nat) (v : Value) (r : Rd) (x : Pc × Bool × Int × Rd) (e : Ending) (w' : World) : Prop :=
  ∃ v', e = .returned (.tuple #[pcV x.1 none 0, .bool x.2.1, .int .i64 x.2.2.1]) ∧ RdAt w' R D v' x.2.2.2 ∧ Away (FpR R D v r) w w' ∧ ∀ k, FpR R D v' x.2.2.2 k → FpR R D v r k ∨ (w.heap.size ≤ k ∧ k < w'.heap.size)
theorem ret_ofinish {w : World} {B : Nat} {v0 v1 v2 v3 v4 v5 v6 v7 x y : Value} (h : Blk w B [v0, v1, v2, v3, v4, v5, v6, v7]) {tmps : Array Value} (h1 : tmps[2]?.getD undef = .pointer (some ⟨B, 0, none⟩)) (h2 : tmps[3]?.getD undef = x) (h3 : tmps[4]?.getD undef = y) :
    (results Tryd.f29 tmps).run Tryd.prog w = .ok (.tuple #[.agg #[v0, v1, v2, v3, v4, v5, v6, v7], x, y]) w := by
  simp [results, Tryd.results29, go_sem, h1, h2, h3, h.c 0 _ rfl, h.c 1 _ rfl, h.c 2 _ rfl, h.c 3 _ rfl, h.c 4 _ rfl, h.c 5 _ rfl, h.c 6 _ rfl, h.c 7 _ rfl]
theorem ret_otake {w : World} {B : Nat} {v0 v1 v2 v3 v4 v5 v6 v7 x y : Value} (h : Blk w B [v0, v1, v2, v3, v4, v5, v6, v7]) {tmps : Array Value} (h1 : tmps[4]?.getD undef = .pointer (some ⟨B, 0, none⟩)) (h2 : tmps[5]?.getD undef = x) (h3 : tmps[6]?.getD undef = y) :
    (results Tryd.f36 tmps).run Tryd.prog w = .ok (.tuple #[.agg #[v0, v1, v2, v3, v4, v5, v6, v7], x, y]) w := by
  simp [results, Tryd.results36, go_sem, h1, h2, h3, h.c 0 _ rfl, h.c 1 _ rfl, h.c 2 _ rfl, h.c 3 _ rfl, h.c 4 _ rfl, h.c 5 _ rfl, h.c 6 _ rfl, h.c 7 _ rfl]
theorem ret_osized {w : World} {B : Nat} {v0 v1 v2 v3 v4 v5 v6 v7 x y : Value} (h : Blk w B [v0, v1, v2, v3, v4, v5, v6, v7]) {tmps : Array Value} (h1 : tmps[2]?.getD undef = .pointer (some ⟨B, 0, none⟩)) (h2 : tmps[3]?.getD undef = x) (h3 : tmps[4]?.getD undef = y) :
    (results Tryd.f25 tmps).run Tryd.prog w = .ok (.tuple #[.agg #[v0, v1, v2, v3, v4, v5, v6, v7], x, y]) w := by
  simp [results, Tryd.results25, go_sem, h1, h2, h3, h.c 0 _ rfl, h.c 1 _ rfl, h.c 2 _ rfl, h.c 3 _ rfl, h.c 4 _ rfl, h.c 5 _ rfl, h.c 6 _ rfl, h.c 7 _ rfl]
theorem ret_ochunked {w : World} {B : Nat} {v0 v1 v2 v3 v4 v5 v6 v7 x y : Value} (h : Blk w B [v0, v1, v2, v3, v4, v5, v6, v7]) {tmps : Array Value} (h1 : tmps[2]?.getD undef = .pointer (some ⟨B, 0, none⟩)) (h2 : tmps[3]?.getD undef = x) (h3 : tmps[4]?.getD undef = y) :
    (results Tryd.f27 tmps).run Tryd.prog w = .ok (.tuple #[.agg #[v0, v1, v2, v3, v4, v5, v6, v7], x, y]) w := by
  simp [results, Tryd.results27, go_sem, h1, h2, h3, h.c 0 _ rfl, h.c 1 _ rfl, h.c 2 _ rfl, h.c 3 _ rfl, h.c 4 _ rfl, h.c 5 _ rfl, h.c 6 _ rfl, h.c 7 _ rfl]
theorem ret_orest {w : World} {B : Nat} {v0 v1 v2 v3 v4 v5 v6 v7 x y : Value} (h : Blk w B [v0, v1, v2, v3, v4, v5, v6, v7]) {tmps : Array Value} (h1 : tmps[2]?.getD undef = .pointer (some ⟨B, 0, none⟩)) (h2 : tmps[3]?.getD undef = x) (h3 : tmps[4]?.getD undef = y) :
    (results Tryd.f28 tmps).run Tryd.prog w = .ok (.tuple #[.agg #[v0, v1, v2, v3, v4, v5, v6, v7], x, y]) w := by
  simp [results, Tryd.results28, go_sem, h1, h2, h3, h.c 0 _ rfl, h.c 1 _ rfl, h.c 2 _ rfl, h.c 3 _ rfl, h.c 4 _ rfl, h.c 5 _ rfl, h.c 6 _ rfl, h.c 7 _ rfl]
theorem ret_ostart {w : World} {B : Nat} {v0 v1 v2 v3 v4 v5 v6 v7 x y : Value} (h : Blk w B [v0, v1, v2, v3, v4, v5, v6, v7]) {tmps : Array Value} (h1 : tmps[2]?.getD undef = .pointer (some ⟨B, 0, none⟩)) (h2 : tmps[3]?.getD undef = x) (h3 : tmps[4]?.getD undef = y) :
    (results Tryd.f21 tmps).run Tryd.prog w = .ok (.tuple #[.agg #[v0, v1, v2, v3, v4, v5, v6, v7], x, y]) w := by
  simp [results, Tryd.results21, go_sem, h1, h2, h3, h.c 0 _ rfl, h.c 1 _ rfl, h.c 2 _ rfl, h.c 3 _ rfl, h.c 4 _ rfl, h.c 5 _ rfl, h.c 6 _ rfl, h.c 7 _ rfl]
theorem ret_oNext {w : World} {B : Nat} {v0 v1 v2 v3 v4 v5 v6 v7 x y : Value} (h : Blk w B [v0, v1, v2, v3, v4, v5, v6, v7]) {tmps : Array Value} (h1 : tmps[2]?.getD undef = .pointer (some ⟨B, 0, none⟩)) (h2 : tmps[3]?.getD undef = x) (h3 : tmps[4]?.getD undef = y) :
    (results Tryd.f14 tmps).run Tryd.prog w = .ok (.tuple #[.agg #[v0, v1, v2, v3, v4, v5, v6, v7], x, y]) w := by
  simp [results, Tryd.results14, go_sem, h1, h2, h3, h.c 0 _ rfl, h.c 1 _ rfl, h.c 2 _ rfl, h.c 3 _ rfl, h.c 4 _ rfl, h.c 5 _ rfl, h.c 6 _ rfl, h.c 7 _ rfl]
theorem blk_first (W : World) (cs : Array Value) (T : TypeId) (vs : List Value) (o : Obj) (B : Nat) (h : cs.toList = vs) (hB : W.heap.size = B) : Blk ((W.alloc (.cells cs T)).alloc o) B vs := by
  subst hB
  exact (Blk.new W cs T vs h).alloc (by simp) o
theorem blk_only (W : World) (cs : Array Value) (T : TypeId) (vs : List Value) (B : Nat) (h : cs.toList = vs) (hB : W.heap.size = B) : Blk (W.alloc (.cells cs T)) B vs := by
  subst hB
  exact Blk.new W cs T vs h
theorem Blk.set8 {w : World} {B : Nat} {v0 v1 v2 v3 v4 v5 v6 v7 : Value} (h : Blk w B [v0, v1, v2, v3, v4, v5, v6, v7]) (u0 u1 u2 u3 u4 u5 u6 u7 : Value) :
    Blk ((((((((w.setCell ⟨B, 0, none⟩ u0).setCell ⟨B, 1, none⟩ u1).setCell ⟨B, 2, none⟩ u2).setCell ⟨B, 3, none⟩ u3).setCell ⟨B, 4, none⟩ u4).setCell ⟨B, 5, none⟩ u5).setCell ⟨B, 6, none⟩ u6).setCell ⟨B, 7, none⟩ u7) B [u0, u1, u2, u3, u4, u5, u6, u7] :=
  (((((((h.set 0 (by simp) u0).set 1 (by simp) u1).set 2 (by simp) u2).set 3 (by simp) u3).set 4 (by simp) u4).set 5 (by simp) u5).set 6 (by simp) u6).set 7 (by simp) u7
theorem away_set8 (w : World) (B : Nat) (u0 u1 u2 u3 u4 u5 u6 u7 : Value) : Away (fun k => k = B) w ((((((((w.setCell ⟨B, 0, none⟩ u0).setCell ⟨B, 1, none⟩ u1).setCell ⟨B, 2, none⟩ u2).setCell ⟨B, 3, none⟩ u3).setCell ⟨B, 4, none⟩ u4).setCell ⟨B, 5, none⟩ u5).setCell ⟨B, 6, none⟩ u6).setCell ⟨B, 7, none⟩ u7) :=
  ((((((((Away.refl _ w).put (by exact rfl) _ _).put (by exact rfl) _ _).put (by exact rfl) _ _).put (by exact rfl) _ _).put (by exact rfl) _ _).put (by exact rfl) _ _).put (by exact rfl) _ _).put (by exact rfl) _ _
/-- The eight cells of a result block and that they can be written. -/
theorem Blk.all8 {w : World} {B : Nat} {v0 v1 v2 v3 v4 v5 v6 v7 : Value} (h : Blk w B [v0, v1, v2, v3, v4, v5, v6, v7]) :
    (w.cell? ⟨B, 0, none⟩ = some v0 ∧ w.cell? ⟨B, 1, none⟩ = some v1 ∧ w.cell? ⟨B, 2, none⟩ = some v2 ∧ w.cell? ⟨B, 3, none⟩ = some v3 ∧ w.cell? ⟨B, 4, none⟩ = some v4 ∧ w.cell? ⟨B, 5, none⟩ = some v5 ∧ w.cell? ⟨B, 6, none⟩ = some v6 ∧ w.cell? ⟨B, 7, none⟩ = some v7) ∧
    (w.frozen? ⟨B, 0, none⟩ = false ∧ w.frozen? ⟨B, 1, none⟩ = false ∧ w.frozen? ⟨B, 2, none⟩ = false ∧ w.frozen? ⟨B, 3, none⟩ = false ∧ w.frozen? ⟨B, 4, none⟩ = false ∧ w.frozen? ⟨B, 5, none⟩ = false ∧ w.frozen? ⟨B, 6, none⟩ = false ∧ w.frozen? ⟨B, 7, none⟩ = false) :=
  ⟨⟨h.c 0 _ rfl, h.c 1 _ rfl, h.c 2 _ rfl, h.c 3 _ rfl, h.c 4 _ rfl, h.c 5 _ rfl, h.c 6 _ rfl, h.c 7 _ rfl⟩, h.fz 0, h.fz 1, h.fz 2, h.fz 3, h.fz 4, h.fz 5, h.fz 6, h.fz 7⟩
def zeroP : List Value := [.int .i64 0, .string ⟨#[]⟩, .string ⟨#[]⟩, .int .i64 0, .string ⟨#[]⟩, .int .i64 0, .slice none 0 0, .string ⟨#[]⟩]
/-- A step's result, copied into the block B of the caller's result. -/
theorem StepPost.copy {w w3 : World} {R D B : Nat} {v v' : Value} {r : Rd} {x : Pc × Bool × Int × Rd} (hR : RdAt w3 R D v' x.2.2.2) (ha : Away (FpR R D v r) w w3) (hf : ∀ k, FpR R D v' x.2.2.2 k → FpR R D v r k ∨ (w.heap.size < k ∧ k < w3.heap.size)) (hlt : ∀ k, FpR R D v r k → k < w.heap.size) (hB : w.heap.size = B)
    (u0 u1 u2 u3 u4 u5 u6 u7 : Value) (hu : pcV x.1 none 0 = .agg #[u0, u1, u2, u3, u4, u5, u6, u7]) {a b : Value} (h1 : Value.bool x.2.1 = a) (h2 : Value.int .i64 x.2.2.1 = b) :
    StepPost w R D v r x (.returned (.tuple #[.agg #[u0, u1, u2, u3, u4, u5, u6, u7], a, b])) ((((((((w3.setCell ⟨B, 0, none⟩ u0).setCell ⟨B, 1, none⟩ u1).setCell ⟨B, 2, none⟩ u2).setCell ⟨B, 3, none⟩ u3).setCell ⟨B, 4, none⟩ u4).setCell ⟨B, 5, none⟩ u5).setCell ⟨B, 6, none⟩ u6).setCell ⟨B, 7, none⟩ u7) := by
  subst hB h1 h2
  have hs := away_set8 w3 w.heap.size u0 u1 u2 u3 u4 u5 u6 u7
  refine ⟨v', by rw [← hu], hR.away hs (fun k hk e => ?_), ha.then hs (fun i hi e => by omega), fun k hk => ?_⟩
  · rcases hf k hk with h | h
    · have := hlt k h; omega
    · omega
  · rcases hf k hk with h | h
    · exact .inl h
    · exact .inr ⟨by omega, Nat.lt_of_lt_of_le h.2 hs.size⟩
theorem empty_bs : (⟨#[]⟩ : ByteArray) = bs [] := rfl
set_option maxRecDepth 100000 in
set_option maxHeartbeats 1000000 in
theorem ofinish_c (R D : Nat) (v : Value) (r : Rd) (w : World) (h : RdAt w R D v r) :
    Calls Tryd.prog 29 #[.pointer (some ⟨R, 0, none⟩)] w (StepPost w R D v r (finishR r)) := by
  have f11 := h.blk.fz 11
  have c11 : w.cell? ⟨R, 11, none⟩ = some (.bool r.ended) := h.blk.c 11 _ rfl
  have hlt := h.lt
  have HR := Lib.hid (h.put (r' := { r with ended := true }) 11 (.bool true) (by decide) rfl (fun m => ⟨m, rfl⟩))
  clear h
  go_enter Tryd.func29, Tryd.ntmps29
  go_wp2
  refine bodyPost_ret (ret_ofinish (by rw [show w.heap.size = (w.setCell ⟨R, 11, none⟩ (.bool true)).heap.size by simp [World.setCell]]; exact Blk.new _ _ _ _ rfl) rfl rfl rfl) rfl ?_
  exact ⟨v, rfl, HR.out.below ((Below.refl _ _).alloc (Nat.le_refl _) _), ((Away.refl _ w).put (by exact .inl rfl) _ _).alloc _, fun k h => .inl h⟩
set_option maxRecDepth 100000 in
set_option maxHeartbeats 1000000 in
theorem otake_c (R D : Nat) (v : Value) (r : Rd) (n : Nat) (hn : n ≤ r.buf.length) (hb : r.buf.length ≤ 4294967296) (w : World) (h : RdAt w R D v r) :
    Calls Tryd.prog 36 #[.pointer (some ⟨R, 0, none⟩), .int .i64 (n : Int)] w (StepPost w R D v r (takeR r n)) := by
  have f1 := h.blk.fz 1
  have c1 : w.cell? ⟨R, 1, none⟩ = some (.string (bs r.buf)) := h.blk.c 1 _ rfl
  have hlt := h.lt
  have hsz : (bs r.buf).size = r.buf.length := bs_size _
  have hns : n ≤ (bs r.buf).size := by omega
  have hnb : (bs r.buf).size ≤ 4294967296 := by omega
  have e1 : (bs r.buf).extract 0 n = bs (r.buf.take n) := by
    rw [← list_bs ((bs r.buf).extract 0 n), ext_list, bs_list]; rfl
  have e2 : (bs r.buf).extract n (bs r.buf).size = bs (r.buf.drop n) := by
    rw [← list_bs ((bs r.buf).extract n (bs r.buf).size), ext_list, bs_list, List.take_of_length_le (by rw [List.length_drop]; omega)]
  have E1 := Lib.hid e1
  have E2 := Lib.hid e2
  have HR := Lib.hid (h.put (r' := { r with buf := r.buf.drop n }) 1 (.string (bs (r.buf.drop n))) (by decide) rfl (fun m => ⟨m, rfl⟩))
  clear h hsz e1 e2 hn hb
  generalize bs r.buf = t at *
  go_enter Tryd.func36, Tryd.ntmps36
  go_wp2
  rw [E1.out, E2.out]
  refine bodyPost_ret (ret_otake (blk_first _ _ _ _ _ _ rfl (by simp [World.setCell])) rfl rfl rfl) rfl ?_
  exact ⟨v, rfl, (HR.out.below ((Below.refl _ _).alloc (Nat.le_refl _) _)).below ((Below.refl _ _).alloc (Nat.le_refl _) _), (((Away.refl _ w).put (by exact .inl rfl) _ _).alloc _).alloc _, fun k h => .inl h⟩
theorem StepPost.then {w w1 : World} {R D : Nat} {v : Value} {r r1 : Rd} {x : Pc × Bool × Int × Rd} {e : Ending} {w' : World} (h : StepPost w1 R D v r1 x e w') (ha : Away (FpR R D v r) w w1) (hm : r1.mode = r.mode) : StepPost w R D v r x e w' := by
  obtain ⟨v', h1, h2, h3, h4⟩ := h
  have hf : ∀ k, FpR R D v r1 k → FpR R D v r k := fun k hk => hk.imp id (fun ⟨m, q⟩ => ⟨by rw [← hm]; exact m, q⟩)
  exact ⟨v', h1, h2, ha.then h3 (fun i _ hi => hf i hi), fun k hk => (h4 k hk).imp (hf k) (fun h => ⟨Nat.le_trans ha.size h.1, h.2⟩)⟩
set_option maxRecDepth 100000 in
set_option maxHeartbeats 2000000 in
theorem osized_c (R D : Nat) (v : Value) (r : Rd) (hb : r.buf.length ≤ 4294967296) (hok : r.Ok) (hm : r.mode = 1) (w : World) (h : RdAt w R D v r) :
    Calls Tryd.prog 25 #[.pointer (some ⟨R, 0, none⟩)] w (StepPost w R D v r (sizedR r)) := by
  have f8 := h.blk.fz 8
  have c1 : w.cell? ⟨R, 1, none⟩ = some (.string (bs r.buf)) := h.blk.c 1 _ rfl
  have c8 : w.cell? ⟨R, 8, none⟩ = some (.int .i64 r.left) := h.blk.c 8 _ rfl
  have hlt := h.lt
  have hsz : (bs r.buf).size = r.buf.length := bs_size _
  have hl1 := hok.left.1
  have hl2 := hok.left.2
  obtain ⟨n, hn⟩ : ∃ n : Nat, min r.left (r.buf.length : Int) = (n : Int) := ⟨(min r.left (r.buf.length : Int)).toNat, by omega⟩
  obtain ⟨x, hx⟩ : ∃ x, sizedR r = x := ⟨_, rfl⟩
  rw [hx]
  unfold sizedR at hx
  rw [hn] at hx
  have hnb : n ≤ r.buf.length := by omega
  have hnl : (n : Int) ≤ r.left := by omega
  have TK := fun w h => Lib.hid (otake_c R D v { r with left := r.left - n } n hnb hb w h)
  have FI := fun w r' h => Lib.hid (ofinish_c R D v r' w h)
  have FPL := Lib.hid h.fp
  have HR := Lib.hid h
  clear h
  have hbs : (bs r.buf).size ≤ 4294967296 := by omega
  have hmn : min r.left ((bs r.buf).size : Int) = (n : Int) := by rw [hsz]; exact hn
  generalize bs r.buf = t at *
  by_cases h0 : 0 < n
  · rw [if_pos (by omega), Int.toNat_natCast] at hx
    subst hx
    have i0 : (0 : Int) < (n : Int) := by omega
    go_enter Tryd.func25, Tryd.ntmps25
    go_wp2
    go_quiet (fail)
    have b0 : Below w.heap.size w ((w.alloc (.cells #[.int .i64 0, .string ⟨#[]⟩, .string ⟨#[]⟩, .int .i64 0, .string ⟨#[]⟩, .int .i64 0, .slice none 0 0, .string ⟨#[]⟩] 41)).drewN nq) := ⟨rfl, rfl, rfl, by simp, fun k hk => Below.heap_alloc _ _ _ hk⟩
    have z0 := blk_only w #[.int .i64 0, .string ⟨#[]⟩, .string ⟨#[]⟩, .int .i64 0, .string ⟨#[]⟩, .int .i64 0, .slice none 0 0, .string ⟨#[]⟩] 41 zeroP w.heap.size rfl rfl
    have z1 : Blk ((w.alloc (.cells #[.int .i64 0, .string ⟨#[]⟩, .string ⟨#[]⟩, .int .i64 0, .string ⟨#[]⟩, .int .i64 0, .slice none 0 0, .string ⟨#[]⟩] 41)).drewN nq) w.heap.size zeroP := z0.below (by simp) ⟨rfl, rfl, rfl, Nat.le_refl _, fun _ _ => rfl⟩
    have hz0 : ((w.alloc (.cells #[.int .i64 0, .string ⟨#[]⟩, .string ⟨#[]⟩, .int .i64 0, .string ⟨#[]⟩, .int .i64 0, .slice none 0 0, .string ⟨#[]⟩] 41)).drewN nq).heap.size = w.heap.size + 1 := by simp
    have a8 : ((w.alloc (.cells #[.int .i64 0, .string ⟨#[]⟩, .string ⟨#[]⟩, .int .i64 0, .string ⟨#[]⟩, .int .i64 0, .slice none 0 0, .string ⟨#[]⟩] 41)).drewN nq).cell? ⟨R, 8, none⟩ = some (.int .i64 r.left) := cell_below b0 c8
    have g8 : ((w.alloc (.cells #[.int .i64 0, .string ⟨#[]⟩, .string ⟨#[]⟩, .int .i64 0, .string ⟨#[]⟩, .int .i64 0, .slice none 0 0, .string ⟨#[]⟩] 41)).drewN nq).frozen? ⟨R, 8, none⟩ = false := (b0.frozen (p := ⟨R, 8, none⟩) hlt).trans f8
    clear z0
    generalize (w.alloc (.cells #[.int .i64 0, .string ⟨#[]⟩, .string ⟨#[]⟩, .int .i64 0, .string ⟨#[]⟩, .int .i64 0, .slice none 0 0, .string ⟨#[]⟩] 41)).drewN nq = W0 at *
    have B0 := Lib.hid b0
    have Z0 := Lib.hid z1
    have HP := Lib.hid ((HR.out.below b0).put (r' := { r with left := r.left - n }) 8 (.int .i64 (r.left - n)) (by decide) rfl (fun m => ⟨m, rfl⟩))
    have AW := Lib.hid ((Away.of (F := FpR R D v r) b0).put (by exact .inl rfl) 8 (.int .i64 (r.left - n)))
    have HZ := Lib.hid (Z0.out.far ⟨R, 8, none⟩ (.int .i64 (r.left - n)) (by show R ≠ _; omega))
    have SZ := Lib.hid (show (W0.setCell ⟨R, 8, none⟩ (.int .i64 (r.left - n))).heap.size = w.heap.size + 1 by simp [World.setCell]; exact hz0)
    clear b0 z1
    go_wp2_with fail
    refine (TK _ HP.out).out.mono ?_
    rintro e w3 ⟨v', rfl, hr3, ha3, hf3⟩
    have Z3 := HZ.out.away (by rw [SZ.out]; omega) ha3 (fun e => by have := FPL.out _ (e.imp id (fun ⟨m, q⟩ => ⟨m, q⟩)); omega)
    have A3 := Lib.hid (AW.out.then ha3 (fun i _ hi => hi.imp id (fun ⟨m, q⟩ => ⟨m, q⟩)))
    have R3 := Lib.hid hr3
    have F3 := Lib.hid hf3
    obtain ⟨⟨d0, d1, d2, d3, d4, d5, d6, d7⟩, g0, g1, g2, g3, g4, g5, g6, g7⟩ := Z3.all8
    have ZZ := Lib.hid Z3
    clear hr3 ha3 hf3 Z3 a8 g8
    unfold pcV
    go_wp2
    refine bodyPost_ret (ret_osized (Blk.set8 ZZ.out _ _ _ _ _ _ _ _) rfl rfl rfl) rfl ?_
    refine StepPost.copy (v' := v') (D := D) R3.out A3.out (fun k hk => (F3.out k hk).imp (fun h => h.imp id (fun ⟨m, q⟩ => ⟨m, q⟩)) (fun h => ⟨by have := SZ.out; omega, h.2⟩)) FPL.out rfl _ _ _ _ _ _ _ _ rfl rfl rfl
  · have hn0 : n = 0 := by omega
    have n00 : ¬ (0 : Int) < (n : Int) := by omega
    rw [if_neg (by omega)] at hx
    have hr0 : ({ r with left := r.left - n } : Rd) = r := by rw [hn0]; simp
    by_cases hl0 : r.left = 0
    · rw [if_pos hl0] at hx
      subst hx
      have bl : (r.left - (n : Int) == 0) = true := by rw [beq_iff_eq]; omega
      have bl2 : (r.left == 0) = true := by rw [beq_iff_eq]; omega
      have HR0 := Lib.hid hr0
      clear hl0 h0 hr0 hn0
      go_enter Tryd.func25, Tryd.ntmps25
      go_wp2
      go_quiet (fail)
      have b0 : Below w.heap.size w ((w.alloc (.cells #[.int .i64 0, .string ⟨#[]⟩, .string ⟨#[]⟩, .int .i64 0, .string ⟨#[]⟩, .int .i64 0, .slice none 0 0, .string ⟨#[]⟩] 41)).drewN nq) := ⟨rfl, rfl, rfl, by simp, fun k hk => Below.heap_alloc _ _ _ hk⟩
      have z0 := blk_only w #[.int .i64 0, .string ⟨#[]⟩, .string ⟨#[]⟩, .int .i64 0, .string ⟨#[]⟩, .int .i64 0, .slice none 0 0, .string ⟨#[]⟩] 41 zeroP w.heap.size rfl rfl
      have z1 : Blk ((w.alloc (.cells #[.int .i64 0, .string ⟨#[]⟩, .string ⟨#[]⟩, .int .i64 0, .string ⟨#[]⟩, .int .i64 0, .slice none 0 0, .string ⟨#[]⟩] 41)).drewN nq) w.heap.size zeroP := z0.below (by simp) ⟨rfl, rfl, rfl, Nat.le_refl _, fun _ _ => rfl⟩
      have hz0 : ((w.alloc (.cells #[.int .i64 0, .string ⟨#[]⟩, .string ⟨#[]⟩, .int .i64 0, .string ⟨#[]⟩, .int .i64 0, .slice none 0 0, .string ⟨#[]⟩] 41)).drewN nq).heap.size = w.heap.size + 1 := by simp
      have a8 : ((w.alloc (.cells #[.int .i64 0, .string ⟨#[]⟩, .string ⟨#[]⟩, .int .i64 0, .string ⟨#[]⟩, .int .i64 0, .slice none 0 0, .string ⟨#[]⟩] 41)).drewN nq).cell? ⟨R, 8, none⟩ = some (.int .i64 r.left) := cell_below b0 c8
      have g8 : ((w.alloc (.cells #[.int .i64 0, .string ⟨#[]⟩, .string ⟨#[]⟩, .int .i64 0, .string ⟨#[]⟩, .int .i64 0, .slice none 0 0, .string ⟨#[]⟩] 41)).drewN nq).frozen? ⟨R, 8, none⟩ = false := (b0.frozen (p := ⟨R, 8, none⟩) hlt).trans f8
      clear z0
      generalize (w.alloc (.cells #[.int .i64 0, .string ⟨#[]⟩, .string ⟨#[]⟩, .int .i64 0, .string ⟨#[]⟩, .int .i64 0, .slice none 0 0, .string ⟨#[]⟩] 41)).drewN nq = W0 at *
      have B0 := Lib.hid b0
      have Z0 := Lib.hid z1
      have HP := Lib.hid ((HR.out.below b0).put (r' := { r with left := r.left - n }) 8 (.int .i64 (r.left - n)) (by decide) rfl (fun m => ⟨m, rfl⟩))
      have AW := Lib.hid ((Away.of (F := FpR R D v r) b0).put (by exact .inl rfl) 8 (.int .i64 (r.left - n)))
      have HZ := Lib.hid (Z0.out.far ⟨R, 8, none⟩ (.int .i64 (r.left - n)) (by show R ≠ _; omega))
      have SZ := Lib.hid (show (W0.setCell ⟨R, 8, none⟩ (.int .i64 (r.left - n))).heap.size = w.heap.size + 1 by simp [World.setCell]; exact hz0)
      clear b0 z1
      go_wp2_with fail
      have HQ := HP.out
      rw [HR0.out] at HQ
      refine (FI _ _ HQ).out.mono ?_
      rintro e w3 ⟨v', rfl, hr3, ha3, hf3⟩
      have Z3 := HZ.out.away (by rw [SZ.out]; omega) ha3 (fun e => by have := FPL.out _ (e.imp id (fun ⟨m, q⟩ => ⟨m, q⟩)); omega)
      have A3 := Lib.hid (AW.out.then ha3 (fun i _ hi => hi.imp id (fun ⟨m, q⟩ => ⟨m, q⟩)))
      have R3 := Lib.hid hr3
      have F3 := Lib.hid hf3
      obtain ⟨⟨d0, d1, d2, d3, d4, d5, d6, d7⟩, g0, g1, g2, g3, g4, g5, g6, g7⟩ := Z3.all8
      have ZZ := Lib.hid Z3
      clear hr3 ha3 hf3 Z3 a8 g8
      unfold pcV
      go_wp2
      refine bodyPost_ret (ret_osized (Blk.set8 ZZ.out _ _ _ _ _ _ _ _) rfl rfl rfl) rfl ?_
      refine StepPost.copy (v' := v') (D := D) R3.out A3.out (fun k hk => (F3.out k hk).imp (fun h => h.imp id (fun ⟨m, q⟩ => ⟨m, q⟩)) (fun h => ⟨by have := SZ.out; omega, h.2⟩)) FPL.out rfl _ _ _ _ _ _ _ _ rfl rfl rfl
    · rw [if_neg hl0] at hx
      subst hx
      have bl : (r.left - (n : Int) == 0) = false := by rw [beq_eq_false_iff_ne]; omega
      have bl2 : (r.left == 0) = false := by rw [beq_eq_false_iff_ne]; omega
      have HR0 := Lib.hid hr0
      clear hl0 h0 hr0 hn0
      go_enter Tryd.func25, Tryd.ntmps25
      go_wp2
      go_quiet (fail)
      have b0 : Below w.heap.size w ((w.alloc (.cells #[.int .i64 0, .string ⟨#[]⟩, .string ⟨#[]⟩, .int .i64 0, .string ⟨#[]⟩, .int .i64 0, .slice none 0 0, .string ⟨#[]⟩] 41)).drewN nq) := ⟨rfl, rfl, rfl, by simp, fun k hk => Below.heap_alloc _ _ _ hk⟩
      have z0 := blk_only w #[.int .i64 0, .string ⟨#[]⟩, .string ⟨#[]⟩, .int .i64 0, .string ⟨#[]⟩, .int .i64 0, .slice none 0 0, .string ⟨#[]⟩] 41 zeroP w.heap.size rfl rfl
      have z1 : Blk ((w.alloc (.cells #[.int .i64 0, .string ⟨#[]⟩, .string ⟨#[]⟩, .int .i64 0, .string ⟨#[]⟩, .int .i64 0, .slice none 0 0, .string ⟨#[]⟩] 41)).drewN nq) w.heap.size zeroP := z0.below (by simp) ⟨rfl, rfl, rfl, Nat.le_refl _, fun _ _ => rfl⟩
      have hz0 : ((w.alloc (.cells #[.int .i64 0, .string ⟨#[]⟩, .string ⟨#[]⟩, .int .i64 0, .string ⟨#[]⟩, .int .i64 0, .slice none 0 0, .string ⟨#[]⟩] 41)).drewN nq).heap.size = w.heap.size + 1 := by simp
      have a8 : ((w.alloc (.cells #[.int .i64 0, .string ⟨#[]⟩, .string ⟨#[]⟩, .int .i64 0, .string ⟨#[]⟩, .int .i64 0, .slice none 0 0, .string ⟨#[]⟩] 41)).drewN nq).cell? ⟨R, 8, none⟩ = some (.int .i64 r.left) := cell_below b0 c8
      have g8 : ((w.alloc (.cells #[.int .i64 0, .string ⟨#[]⟩, .string ⟨#[]⟩, .int .i64 0, .string ⟨#[]⟩, .int .i64 0, .slice none 0 0, .string ⟨#[]⟩] 41)).drewN nq).frozen? ⟨R, 8, none⟩ = false := (b0.frozen (p := ⟨R, 8, none⟩) hlt).trans f8
      clear z0
      generalize (w.alloc (.cells #[.int .i64 0, .string ⟨#[]⟩, .string ⟨#[]⟩, .int .i64 0, .string ⟨#[]⟩, .int .i64 0, .slice none 0 0, .string ⟨#[]⟩] 41)).drewN nq = W0 at *
      have B0 := Lib.hid b0
      have Z0 := Lib.hid z1
      have HP := Lib.hid ((HR.out.below b0).put (r' := { r with left := r.left - n }) 8 (.int .i64 (r.left - n)) (by decide) rfl (fun m => ⟨m, rfl⟩))
      have AW := Lib.hid ((Away.of (F := FpR R D v r) b0).put (by exact .inl rfl) 8 (.int .i64 (r.left - n)))
      have HZ := Lib.hid (Z0.out.far ⟨R, 8, none⟩ (.int .i64 (r.left - n)) (by show R ≠ _; omega))
      have SZ := Lib.hid (show (W0.setCell ⟨R, 8, none⟩ (.int .i64 (r.left - n))).heap.size = w.heap.size + 1 by simp [World.setCell]; exact hz0)
      clear b0 z1
      obtain ⟨⟨d0, d1, d2, d3, d4, d5, d6, d7⟩, g0, g1, g2, g3, g4, g5, g6, g7⟩ := Z0.out.all8
      have HQ := HP.out
      rw [HR0.out] at HQ
      have RQ := Lib.hid HQ
      clear HQ
      go_wp2
      refine bodyPost_ret (ret_osized (Blk.set8 HZ.out _ _ _ _ _ _ _ _) rfl rfl rfl) rfl ?_
      refine StepPost.copy (v' := v) (D := D) RQ.out AW.out (fun k hk => .inl hk) FPL.out rfl _ _ _ _ _ _ _ _ rfl rfl rfl
end Go.Proofs.YtgmjkkiahanekaaDoor

