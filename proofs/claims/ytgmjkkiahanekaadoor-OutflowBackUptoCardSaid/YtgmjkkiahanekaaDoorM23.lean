/- The texts OutD in one. -/
import Derived.Test.YtgmjkkiahanekaaDoorM22
import Derived.Test.YtgmjkkiahanekaaDoorM7
import Derived.Deep.LoopGhost
import Derived.Deep.DeepCutAuto
import Derived.Laws.EntriesVeiled
/- The contract of the reader's start. -/
set_option linter.unusedVariables false
set_option linter.unusedSimpArgs false
namespace Go.Proofs.YtgmjkkiahanekaaDoor
open Go.RowKit Lex

/-! ### how long the fields of a head are -/
theorem fieldL_len {l : List UInt8} {f : Fd} (h : fieldL l = some f) : f.1.length ≤ l.length ∧ f.2.length ≤ l.length := by
  unfold fieldL at h
  split at h
  · injection h with h
    subst h
    have := cutB_len l 58
    exact ⟨this.1, Nat.le_trans (trim_length _) this.2.1⟩
  · cases h
theorem fieldsL_len : ∀ (room : Nat) {d : List UInt8} {fs : List Fd} {n : Nat} {e : Int}, fieldsL room d = (some (fs, n), e) → ∀ f ∈ fs, f.1.length ≤ 512 ∧ f.2.length ≤ 512
  | 0, d, fs, n, e, h, f, hf => by
    have := (fieldsL_used 0 h).2.2.1
    cases fs with
    | nil => cases hf
    | cons a b => simp at this
  | room + 1, d, fs, n, e, h, f, hf => by
    cases hl : lineL 83 512 d with
    | mk o e0 =>
      cases o with
      | none => rw [fieldsL_none hl] at h; injection h with h; cases h
      | some l =>
        by_cases h0 : l = []
        · subst h0
          rw [fieldsL_end hl] at h
          injection h with h _
          injection h with h
          injection h with h _
          subst h
          cases hf
        · cases hff : fieldL l with
          | none => rw [fieldsL_bad hl h0 hff] at h; injection h with h; cases h
          | some g =>
            rw [fieldsL_step hl h0 hff] at h
            injection h with h _
            cases hr : fieldsL room (d.drop (l.length + 2)) with
            | mk q e2 =>
              rw [hr] at h
              cases q with
              | none => cases h
              | some q =>
                obtain ⟨gs, m⟩ := q
                injection h with h
                injection h with h _
                subst h
                obtain ⟨_, _, _, h512, _⟩ := lineL_some hl
                have hg := fieldL_len hff
                rcases List.mem_cons.1 hf with rfl | hf
                · exact ⟨by omega, by omega⟩
                · exact fieldsL_len room hr f hf
theorem readAt_fb (first : List UInt8 → Hd × Int) (d : List UInt8) (h0 : ∀ l, (first l).1.fields = []) : FB (readAt first d).1.fields := by
  rcases readAt_cases first d with ⟨e, h1, h2⟩ | ⟨l, e, h1, h3, h2⟩ | ⟨l, e, e2, h1, h3, h4, h2⟩ | ⟨l, e, e2, fs, n, h1, h3, h4, h2⟩ <;> rw [h2]
  · exact ⟨Nat.zero_le _, fun f hf => (by cases hf), fun f hf => (by cases hf)⟩
  · exact ⟨Nat.zero_le _, fun f hf => (by cases hf), fun f hf => (by cases hf)⟩
  · exact ⟨Nat.zero_le _, fun f hf => (by cases hf), fun f hf => (by cases hf)⟩
  · have hl := (fieldsL_used 32 h4).2.2.1
    exact ⟨by show fs.length ≤ _; omega, fun f hf => by have := (fieldsL_len 32 h4 f hf).1; omega, fun f hf => by have := (fieldsL_len 32 h4 f hf).2; omega⟩
theorem status_fields (l : List UInt8) : (statusL l).1.fields = [] := by
  unfold statusL
  repeat' (first | rfl | split)
theorem status_fb (d : List UInt8) : FB (readAt statusL d).1.fields := readAt_fb statusL d status_fields

/-- What a step leaves, a head too. -/
def NextPost (w : World) (R D : Nat) (v : Value) (r : Rd) (x : Pc × Bool × Int × Rd) (e : Ending) (w' : World) : Prop :=
  ∃ A c D' v', e = .returned (.tuple #[pcV x.1 A c, .bool x.2.1, .int .i64 x.2.2.1]) ∧ (A = none → c = 0) ∧ Flds w' A x.1.head.fields ∧ (∀ g o, A = some ⟨g, o, none⟩ → w.heap.size ≤ g ∧ g < w'.heap.size ∧ ¬ FpR R D' v' x.2.2.2 g) ∧
    RdAt w' R D' v' x.2.2.2 ∧ Away (FpR R D v r) w w' ∧ ∀ k, FpR R D' v' x.2.2.2 k → FpR R D v r k ∨ (w.heap.size ≤ k ∧ k < w'.heap.size)
theorem flds_nil (w : World) (A : Option Addr) : Flds w A [] := fun j hj => absurd hj (Nat.not_lt_zero _)
theorem NextPost.of {w : World} {R D : Nat} {v : Value} {r : Rd} {x : Pc × Bool × Int × Rd} {e : Ending} {w' : World} (h : StepPost w R D v r x e w') (hf : x.1.head.fields = []) : NextPost w R D v r x e w' := by
  obtain ⟨v', h1, h2, h3, h4⟩ := h
  exact ⟨none, 0, D, v', h1, fun _ => rfl, by rw [hf]; exact flds_nil _ _, fun g o e => (by cases e), h2, h3, h4⟩

theorem NextPost.zero {w w3 : World} {R D B : Nat} {v v' : Value} {r r' : Rd} {e : Int} (hR : RdAt w3 R D v' r') (ha : Away (FpR R D v r) w w3) (hf : ∀ k, FpR R D v' r' k → FpR R D v r k ∨ (w.heap.size < k ∧ k < w3.heap.size)) (hlt : ∀ k, FpR R D v r k → k < w.heap.size) (hB : w.heap.size = B) :
    NextPost w R D v r (({} : Pc), false, e, r') (.returned (.tuple #[.agg #[.int .i64 0, .string ⟨#[]⟩, .string ⟨#[]⟩, .int .i64 0, .string ⟨#[]⟩, .int .i64 0, .slice none 0 0, .string ⟨#[]⟩], .bool false, .int .i64 e])) ((((((((w3.setCell ⟨B, 0, none⟩ (.int .i64 0)).setCell ⟨B, 1, none⟩ (.string ⟨#[]⟩)).setCell ⟨B, 2, none⟩ (.string ⟨#[]⟩)).setCell ⟨B, 3, none⟩ (.int .i64 0)).setCell ⟨B, 4, none⟩ (.string ⟨#[]⟩)).setCell ⟨B, 5, none⟩ (.int .i64 0)).setCell ⟨B, 6, none⟩ (.slice none 0 0)).setCell ⟨B, 7, none⟩ (.string ⟨#[]⟩)) :=
  NextPost.of (StepPost.copy (x := (({} : Pc), false, e, r')) hR ha hf hlt hB _ _ _ _ _ _ _ _ rfl rfl rfl) rfl
/-- Between two rounds of start: the bytes left. -/
structure StAt (w : World) (R D : Nat) (v : Value) (r : Rd) (wr : World) (b : List UInt8) (M : Int) : Prop where
  eq : headsR r.method (r.buf.length + 1) r.buf = headsR r.method (b.length + 1) b
  rd : RdAt wr R D v { r with buf := b }
  away : Away (FpR R D v r) w wr
  res : Blk wr w.heap.size zeroP
  le : b.length ≤ r.buf.length
  max : wr.cell? ⟨0, 0, none⟩ = some (.int .i64 M)
theorem StAt.lt {w : World} {R D : Nat} {v : Value} {r : Rd} {wr : World} {b : List UInt8} {M : Int} (h : StAt w R D v r wr b M) : w.heap.size < wr.heap.size := World.block_lt_of_cell? wr _ (h.res.c 0 _ rfl)
theorem StAt.below {w : World} {R D : Nat} {v : Value} {r : Rd} {wr w' : World} {b : List UInt8} {M : Int} (h : StAt w R D v r wr b M) (hb : Below wr.heap.size wr w') : StAt w R D v r w' b M :=
  ⟨h.eq, h.rd.below hb, h.away.low hb, h.res.below h.lt hb, h.le, cell_below hb h.max⟩
def hdW (h : Hd) (A : Option Addr) (c : Nat) : List Value := [.string (bs h.method), .string (bs h.target), .int .i64 h.status, .string (bs h.reason), .int .i64 h.minor, .slice A h.fields.length c]
theorem keep7 {w w' : World} {a0 a1 a2 a3 a4 a5 a6 : Addr} {v0 v1 v2 v3 v4 v5 v6 : Value} (h : w.cell? a0 = some v0 ∧ w.cell? a1 = some v1 ∧ w.cell? a2 = some v2 ∧ w.cell? a3 = some v3 ∧ w.cell? a4 = some v4 ∧ w.cell? a5 = some v5 ∧ w.cell? a6 = some v6) (hb : Below w.heap.size w w') :
    w'.cell? a0 = some v0 ∧ w'.cell? a1 = some v1 ∧ w'.cell? a2 = some v2 ∧ w'.cell? a3 = some v3 ∧ w'.cell? a4 = some v4 ∧ w'.cell? a5 = some v5 ∧ w'.cell? a6 = some v6 :=
  ⟨cell_below hb h.1, cell_below hb h.2.1, cell_below hb h.2.2.1, cell_below hb h.2.2.2.1, cell_below hb h.2.2.2.2.1, cell_below hb h.2.2.2.2.2.1, cell_below hb h.2.2.2.2.2.2⟩
theorem cells8 {w : World} {B B' : Nat} {h : Hd} {A : Option Addr} {c : Nat} {k l : Int} (hb : Blk w B (hdW h A c)) (hk : Blk w B' [.int .i64 k, .int .i64 l]) : w.cell? ⟨B, 0, none⟩ = some (.string (bs h.method)) ∧ w.cell? ⟨B, 1, none⟩ = some (.string (bs h.target)) ∧ w.cell? ⟨B, 2, none⟩ = some (.int .i64 h.status) ∧ w.cell? ⟨B, 3, none⟩ = some (.string (bs h.reason)) ∧ w.cell? ⟨B, 4, none⟩ = some (.int .i64 h.minor) ∧ w.cell? ⟨B, 5, none⟩ = some (.slice A h.fields.length c) ∧ w.cell? ⟨B', 0, none⟩ = some (.int .i64 k) ∧ w.cell? ⟨B', 1, none⟩ = some (.int .i64 l) :=
  ⟨hb.c 0 _ rfl, hb.c 1 _ rfl, hb.c 2 _ rfl, hb.c 3 _ rfl, hb.c 4 _ rfl, hb.c 5 _ rfl, hk.c 0 _ rfl, hk.c 1 _ rfl⟩
theorem Flds.awayR {w : World} {A : Option Addr} {l : List Fd} {R : Nat} (h : Flds w A l) {u1 u2 u3 u4 : Value} {i1 i2 i3 i4 : Nat} (hn : ∀ g o, A = some ⟨g, o, none⟩ → g ≠ R) : Flds ((((w.setCell ⟨R, i1, none⟩ u1).setCell ⟨R, i2, none⟩ u2).setCell ⟨R, i3, none⟩ u3).setCell ⟨R, i4, none⟩ u4) A l := by
  intro j hj
  obtain ⟨g, o, e1, e2, e3⟩ := h j hj
  have ha := ((((Away.refl (fun k => k = R) w).put (by exact rfl) i1 u1).put (by exact rfl) i2 u2).put (by exact rfl) i3 u3).put (by exact rfl) i4 u4
  exact ⟨g, o, e1, ha.cell e2 (hn g o e1), ha.cell e3 (hn g o e1)⟩
theorem Flds.awayR1 {w : World} {A : Option Addr} {l : List Fd} {R : Nat} (h : Flds w A l) {u1 : Value} {i1 : Nat} (hn : ∀ g o, A = some ⟨g, o, none⟩ → g ≠ R) : Flds (w.setCell ⟨R, i1, none⟩ u1) A l := by
  intro j hj
  obtain ⟨g, o, e1, e2, e3⟩ := h j hj
  have ha := (Away.refl (fun k => k = R) w).put (by exact rfl) i1 u1
  exact ⟨g, o, e1, ha.cell e2 (hn g o e1), ha.cell e3 (hn g o e1)⟩
theorem Flds.awayR2 {w : World} {A : Option Addr} {l : List Fd} {R : Nat} (h : Flds w A l) {u1 u2 : Value} {i1 i2 : Nat} (hn : ∀ g o, A = some ⟨g, o, none⟩ → g ≠ R) : Flds ((w.setCell ⟨R, i1, none⟩ u1).setCell ⟨R, i2, none⟩ u2) A l := (h.awayR1 hn).awayR1 hn
theorem Blk.farR {w : World} {B R i : Nat} {u : Value} {vs : List Value} (h : Blk w B vs) (hn : R ≠ B) : Blk (w.setCell ⟨R, i, none⟩ u) B vs := h.far ⟨R, i, none⟩ u hn
theorem headed_2 (r : Rd) (h : Hd) (l : Int) (b : List UInt8) : headed r h 2 l b = { r with buf := b, head := true, kind := 2, len := l, keep := keepF h.minor h.fields, mode := 1, left := l } := by simp [headed]
theorem headed_3 (r : Rd) (h : Hd) (l : Int) (b : List UInt8) : headed r h 3 l b = { r with buf := b, head := true, kind := 3, len := l, keep := keepF h.minor h.fields, mode := 2, dec := { most := 1099511627776 } } := by simp [headed]
theorem headed_4 (r : Rd) (h : Hd) (l : Int) (b : List UInt8) : headed r h 4 l b = { r with buf := b, head := true, kind := 4, len := l, keep := keepF h.minor h.fields, mode := 3 } := by simp [headed]
theorem headed_o (r : Rd) (h : Hd) (k l : Int) (b : List UInt8) (h2 : k ≠ 2) (h3 : k ≠ 3) (h4 : k ≠ 4) : headed r h k l b = { r with buf := b, head := true, kind := k, len := l, keep := keepF h.minor h.fields, mode := 4 } := by simp [headed, h2, h3, h4]
/-- The new step's function is stored. -/
theorem RdAt.turn {w : World} {R D : Nat} {v : Value} {r : Rd} (h : RdAt w R D v r) (hm : r.mode = 0) (m : Nat) (h2 : m ≠ 2) (u : Value) (hu : u = stepV m) : RdAt (w.setCell ⟨R, 3, none⟩ u) R D v { r with mode := m } :=
  h.put (r' := { r with mode := m }) 3 u (by decide) (by subst hu; unfold rdVs; simp [hm, h2]) (fun e => absurd e h2)
theorem NextPost.copy {w w3 : World} {R D D' B : Nat} {v v' : Value} {r : Rd} {x : Pc × Bool × Int × Rd} {A : Option Addr} {c : Nat} (hR : RdAt w3 R D' v' x.2.2.2) (ha : Away (FpR R D v r) w w3) (hf : ∀ k, FpR R D' v' x.2.2.2 k → FpR R D v r k ∨ (w.heap.size < k ∧ k < w3.heap.size)) (hlt : ∀ k, FpR R D v r k → k < w.heap.size) (hB : w.heap.size = B)
    (hA : A = none → c = 0) (hF : Flds w3 A x.1.head.fields) (hg : ∀ g o, A = some ⟨g, o, none⟩ → w.heap.size < g ∧ g < w3.heap.size ∧ ¬ FpR R D' v' x.2.2.2 g)
    (u0 u1 u2 u3 u4 u5 u6 u7 : Value) (hu : pcV x.1 A c = .agg #[u0, u1, u2, u3, u4, u5, u6, u7]) {a b : Value} (h1 : Value.bool x.2.1 = a) (h2 : Value.int .i64 x.2.2.1 = b) :
    NextPost w R D v r x (.returned (.tuple #[.agg #[u0, u1, u2, u3, u4, u5, u6, u7], a, b])) ((((((((w3.setCell ⟨B, 0, none⟩ u0).setCell ⟨B, 1, none⟩ u1).setCell ⟨B, 2, none⟩ u2).setCell ⟨B, 3, none⟩ u3).setCell ⟨B, 4, none⟩ u4).setCell ⟨B, 5, none⟩ u5).setCell ⟨B, 6, none⟩ u6).setCell ⟨B, 7, none⟩ u7) := by
  subst hB h1 h2
  have hs := away_set8 w3 w.heap.size u0 u1 u2 u3 u4 u5 u6 u7
  refine ⟨A, c, D', v', by rw [← hu], hA, ?_, fun g o e => ?_, hR.away hs (fun k hk e => ?_), ha.then hs (fun i hi e => by omega), fun k hk => ?_⟩
  · intro j hj
    obtain ⟨g, o, e1, e2, e3⟩ := hF j hj
    have := (hg g o e1).1
    exact ⟨g, o, e1, hs.cell e2 (by show ¬ g = _; omega), hs.cell e3 (by show ¬ g = _; omega)⟩
  · obtain ⟨q1, q2, q3⟩ := hg g o e
    exact ⟨by omega, Nat.lt_of_lt_of_le q2 hs.size, q3⟩
  · rcases hf k hk with h | h
    · have := hlt k h; omega
    · omega
  · rcases hf k hk with h | h
    · exact .inl h
    · exact .inr ⟨by omega, Nat.lt_of_lt_of_le h.2 hs.size⟩
/-- Behind the response's head, ahead of the switch. -/
structure TlAt (w : World) (R D : Nat) (v : Value) (r : Rd) (wx : World) (M : Int) (hd : Hd) (A : Option Addr) (c H B : Nat) (k l : Int) : Prop where
  rd : RdAt wx R D v r
  away : Away (FpR R D v r) w wx
  res : Blk wx w.heap.size zeroP
  max : wx.cell? ⟨0, 0, none⟩ = some (.int .i64 M)
  hdb : Blk wx H (hdW hd A c)
  frb : Blk wx B [.int .i64 k, .int .i64 l]
  fl : Flds wx A hd.fields
  big : H + 1 ≤ wx.heap.size
  rh : R ≠ H
  rb : R ≠ B
  rw : R ≠ w.heap.size
  r0 : R ≠ 0
  fz : ∀ g o, A = some ⟨g, o, none⟩ → w.heap.size < g ∧ g < H ∧ g ≠ R
theorem TlAt.below {w : World} {R D : Nat} {v : Value} {r : Rd} {wx w' : World} {M : Int} {hd : Hd} {A : Option Addr} {c H B : Nat} {k l : Int} (h : TlAt w R D v r wx M hd A c H B k l) (hb : Below wx.heap.size wx w') : TlAt w R D v r w' M hd A c H B k l :=
  ⟨h.rd.below hb, h.away.low hb, h.res.below (World.block_lt_of_cell? wx _ (h.res.c 0 _ rfl)) hb, cell_below hb h.max, h.hdb.below (World.block_lt_of_cell? wx _ (h.hdb.c 0 _ rfl)) hb, h.frb.below h.frb.lt hb, h.fl.below hb, by have := h.big; have := hb.size; omega, h.rh, h.rb, h.rw, h.r0, h.fz⟩
theorem TlAt.put {w : World} {R D : Nat} {v : Value} {r r' : Rd} {wx : World} {M : Int} {hd : Hd} {A : Option Addr} {c H B : Nat} {k l : Int} (h : TlAt w R D v r wx M hd A c H B k l) (i : Nat) (u : Value) (hi : i < 13) (hs : (rdVs r D).set i u = rdVs r' D) (hm : r'.mode = r.mode) (hd2 : r'.dec = r.dec := by rfl) : TlAt w R D v r' (wx.setCell ⟨R, i, none⟩ u) M hd A c H B k l :=
  ⟨h.rd.put i u hi hs (fun m => ⟨by rw [← hm]; exact m, hd2⟩), (h.away.put (by exact .inl rfl) _ _).mono (fun k _ e => e.imp id (fun ⟨m, q⟩ => ⟨by rw [hm]; exact m, q⟩)), h.res.farR h.rw, by rw [World.cell?_setCell_other wx ⟨R, i, none⟩ ⟨0, 0, none⟩ u (fun e => by injection e with e _ _; exact h.r0 e)]; exact h.max, h.hdb.farR h.rh, h.frb.farR h.rb, h.fl.awayR1 (fun g o e => (h.fz g o e).2.2), by simp [World.setCell]; exact h.big, h.rh, h.rb, h.rw, h.r0, h.fz⟩
/-- Behind the switch. -/
def DnAt (w : World) (R D : Nat) (v : Value) (r : Rd) (wx : World) (hd : Hd) (A : Option Addr) (c H : Nat) (r' : Rd) : Prop :=
  ∃ D' v', RdAt wx R D' v' r' ∧ Away (FpR R D v r) w wx ∧ (∀ k, FpR R D' v' r' k → FpR R D v r k ∨ (w.heap.size < k ∧ k < wx.heap.size)) ∧ Blk wx w.heap.size zeroP ∧ Blk wx H (hdW hd A c) ∧ Flds wx A hd.fields ∧ H < wx.heap.size ∧ ∀ g o, A = some ⟨g, o, none⟩ → ¬ FpR R D' v' r' g
theorem DnAt.dec {w : World} {R D N : Nat} {v : Value} {r r1 r2 : Rd} {wx : World} {M : Int} {hd : Hd} {A : Option Addr} {c H B : Nat} {k l : Int} {kp : Bool} {d : Dec} (hk : keepF hd.minor hd.fields = kp) (h : TlAt w R D v r1 wx M hd A c H B k l) (hd2 : DecAt wx N (.slice none 0 0) d) (hw : w.heap.size < N) (hN : N < wx.heap.size) (hm : r1.mode = 0) (u : Value) (hu : u = stepV 2)
    (he : r2 = { r1 with keep := keepF hd.minor hd.fields, mode := 2, dec := d }) (hRN : R < N) {wc : World} (haw : Away (FpR R D v r1) w wc) (hbig : H + 1 ≤ N) (hr : r1.keep = kp := by rfl) (hr0 : r.mode = r1.mode := by rfl) : DnAt w R D v r ((wx.setCell ⟨R, 9, none⟩ (.pointer (some ⟨N, 0, none⟩))).setCell ⟨R, 3, none⟩ u) hd A c H r2 := by
  have e1 : r2 = { r1 with mode := 2, dec := d } := by
    rw [he, hk, ← hr]
  subst e1 hu
  have hs := ((Away.refl (fun k => k = R) wx).put (by exact rfl) 9 (.pointer (some ⟨N, 0, none⟩))).put (by exact rfl) 3 (stepV 2)
  refine ⟨N, .slice none 0 0, ⟨?_, fun _ => ⟨hd2.away hs (by omega) (fun k e => by cases e), by omega, by simp [Value.ownBlock]⟩⟩, ((h.away.put (by exact .inl rfl) _ _).put (by exact .inl rfl) _ _).mono (fun k _ e => e.imp id (fun ⟨m, q⟩ => ⟨by rw [hr0]; exact m, q⟩)), fun k' hk' => ?_, (h.res.farR h.rw).farR h.rw, (h.hdb.farR h.rh).farR h.rh, h.fl.awayR2 (fun g o e => (h.fz g o e).2.2), by simp [World.setCell]; exact h.big, fun g o e hk' => ?_⟩
  · have := (h.rd.blk.set 9 (by show 9 < 13; decide) (.pointer (some ⟨N, 0, none⟩))).set 3 (by rw [List.length_set]; show 3 < 13; decide) (stepV 2)
    exact this
  · rcases hk' with e | ⟨_, e | e⟩
    · exact .inl (.inl e)
    · subst e
      exact .inr ⟨hw, by simp [World.setCell]; exact hN⟩
    · cases e
  · rcases hk' with e' | ⟨_, e' | e'⟩
    · exact (h.fz g o e).2.2 e'
    · have := (h.fz g o e).2.1; omega
    · cases e'
theorem DnAt.one {w : World} {R D : Nat} {v : Value} {r r1 r2 : Rd} {wx : World} {M : Int} {hd : Hd} {A : Option Addr} {c H B : Nat} {k l : Int} {kp : Bool} (hk : keepF hd.minor hd.fields = kp) (h : TlAt w R D v r1 wx M hd A c H B k l) (hm : r1.mode = 0) (m : Nat) (h2 : m ≠ 2) (u : Value) (hu : u = stepV m)
    (he : r2 = { r1 with keep := keepF hd.minor hd.fields, mode := m }) (hr : r1.keep = kp := by rfl) (hr0 : r.mode = r1.mode := by rfl) : DnAt w R D v r (wx.setCell ⟨R, 3, none⟩ u) hd A c H r2 := by
  have e1 : r2 = { r1 with mode := m } := by
    rw [he, hk, ← hr]
  subst e1
  refine ⟨D, v, h.rd.turn hm m h2 u hu, (h.away.put (by exact .inl rfl) _ _).mono (fun k _ e => e.imp id (fun ⟨m, q⟩ => ⟨by rw [hr0]; exact m, q⟩)), fun k' hk' => ?_, h.res.farR h.rw, h.hdb.farR h.rh, h.fl.awayR1 (fun g o e => (h.fz g o e).2.2), by simp [World.setCell]; exact h.big, fun g o e hk' => ?_⟩
  · rcases hk' with e | ⟨e, _⟩
    · exact .inl (.inl e)
    · exact absurd e h2
  · rcases hk' with e' | ⟨e', _⟩
    · exact (h.fz g o e).2.2 e'
    · exact absurd e' h2
theorem hd6_all {w : World} {B : Nat} {h : Hd} {A : Option Addr} {c : Nat} (hb : Blk w B (hdW h A c)) : w.cell? ⟨B, 0, none⟩ = some (.string (bs h.method)) ∧ w.cell? ⟨B, 1, none⟩ = some (.string (bs h.target)) ∧ w.cell? ⟨B, 2, none⟩ = some (.int .i64 h.status) ∧ w.cell? ⟨B, 3, none⟩ = some (.string (bs h.reason)) ∧ w.cell? ⟨B, 4, none⟩ = some (.int .i64 h.minor) ∧ w.cell? ⟨B, 5, none⟩ = some (.slice A h.fields.length c) :=
  ⟨hb.c 0 _ rfl, hb.c 1 _ rfl, hb.c 2 _ rfl, hb.c 3 _ rfl, hb.c 4 _ rfl, hb.c 5 _ rfl⟩
set_option maxRecDepth 100000 in
set_option maxHeartbeats 8000000 in
theorem ostart_c (R D : Nat) (v : Value) (r : Rd) (M : Int) (hb : r.buf.length ≤ 4194304) (hok : r.Ok) (hm : r.mode = 0) (he : r.err = 0) (w : World) (h : RdAt w R D v r) (hmx : w.cell? ⟨0, 0, none⟩ = some (.int .i64 M)) (h0 : 0 < R) :
    Calls Tryd.prog 21 #[.pointer (some ⟨R, 0, none⟩)] w (NextPost w R D v r (startR r)) := by
  obtain ⟨x, hx⟩ : ∃ x, startR r = x := ⟨_, rfl⟩
  rw [hx]
  unfold startR at hx
  have FPL := Lib.hid h.fp
  have b1 : Below w.heap.size w (w.alloc (.cells #[.int .i64 0, .string ⟨#[]⟩, .string ⟨#[]⟩, .int .i64 0, .string ⟨#[]⟩, .int .i64 0, .slice none 0 0, .string ⟨#[]⟩] 41)) := (Below.refl _ w).alloc (Nat.le_refl _) _
  have HM := Lib.hid hm
  have HX := Lib.hid hx
  have OK := Lib.hid hok
  have S0 : Hid (StAt w R D v r (w.alloc (.cells #[.int .i64 0, .string ⟨#[]⟩, .string ⟨#[]⟩, .int .i64 0, .string ⟨#[]⟩, .int .i64 0, .slice none 0 0, .string ⟨#[]⟩] 41)) r.buf M) := Lib.hid ⟨rfl, h.below b1, Away.of b1, blk_only w #[.int .i64 0, .string ⟨#[]⟩, .string ⟨#[]⟩, .int .i64 0, .string ⟨#[]⟩, .int .i64 0, .slice none 0 0, .string ⟨#[]⟩] 41 zeroP w.heap.size rfl rfl, Nat.le_refl _, cell_below b1 hmx⟩
  clear h b1 hx hm hok hmx
  go_enter Tryd.func21, Tryd.ntmps21
  go_wp2
  go_loopg [7] r.buf.length (fun g _ wx => ∃ b : List UInt8, b.length ≤ g ∧ StAt w R D v r wx b M)
  case atStart => exact ⟨r.buf, Nat.le_refl _, S0.out⟩
  case round =>
    clear S0
    obtain ⟨b, hg, hS⟩ := hrel
    have ST := Lib.hid hS
    have hble := hS.le
    have c1 : wr.cell? ⟨R, 1, none⟩ = some (.string (bs b)) := hS.rd.blk.c 1 _ rfl
    have c0 : wr.cell? ⟨R, 0, none⟩ = some (.string (bs r.method)) := hS.rd.blk.c 0 _ rfl
    have hlt := hS.rd.lt
    have RP := Lib.hid (response_h (bs b) M wr (by rw [bs_size]; omega) hS.max)
    rw [bs_list, readL_plain] at RP
    have hlen := status_len b
    have hfb := Lib.hid (status_fb b)
    have HE := hS.eq
    clear hS
    have hone : headsR r.method (b.length + 1) b = (if (readAt statusL b).2.2 ≠ 0 ∨ (readAt statusL b).2.1 = 0 then (none, (readAt statusL b).2.2, b)
        else if (respF r.method (readAt statusL b).1.status (readAt statusL b).1.minor (readAt statusL b).1.fields).2.2 ≠ 0 then (none, (respF r.method (readAt statusL b).1.status (readAt statusL b).1.minor (readAt statusL b).1.fields).2.2, b)
        else if (readAt statusL b).1.status < 200 ∧ (readAt statusL b).1.status ≠ 101 then headsR r.method ((b.drop (readAt statusL b).2.1).length + 1) (b.drop (readAt statusL b).2.1)
        else (some ((readAt statusL b).1, (respF r.method (readAt statusL b).1.status (readAt statusL b).1.minor (readAt statusL b).1.fields).1, (respF r.method (readAt statusL b).1.status (readAt statusL b).1.minor (readAt statusL b).1.fields).2.1), 0, b.drop (readAt statusL b).2.1)) := by
      conv => lhs; unfold headsR
      by_cases c1 : (readAt statusL b).2.2 ≠ 0 ∨ (readAt statusL b).2.1 = 0
      · rw [if_pos c1, if_pos c1]
      · rw [if_neg c1, if_neg c1]
        have hn : (readAt statusL b).2.1 ≠ 0 := fun e => c1 (.inr e)
        rw [heads_fuel r.method b.length (b.drop (readAt statusL b).2.1) ((b.drop (readAt statusL b).2.1).length + 1) (by rw [List.length_drop]; omega) (by omega)]
    unfold ReadPost at RP
    generalize readAt statusL b = z at *
    obtain ⟨hd, n, e⟩ := z
    simp only at RP hlen hone hfb
    have HO := Lib.hid (HE.trans hone)
    clear HE hone
    by_cases hcase : e ≠ 0 ∨ n = 0
    · have hx1 : x = ({}, false, e, { r with buf := b }) := by
        rw [← HX.out, HO.out, if_pos hcase]
      have HX1 := Lib.hid hx1
      have hcb : (e != 0) = true ∨ ((e != 0) = false ∧ ((n : Int) == 0) = true) := by
        by_cases h : e = 0
        · right
          subst h
          refine ⟨rfl, ?_⟩
          rcases hcase with h | h
          · exact absurd rfl h
          · rw [h]; rfl
        · left; rw [bne_iff_ne]; exact h
      clear hx1 hcase HO HX
      rcases hcb with hcb | ⟨hcb, hcb2⟩
      all_goals
        go_wp2_with fail
        refine RP.out.mono ?_
        rintro e1 w1 ⟨A, c, rfl, hA, hown, hb1⟩
        have S1 := Lib.hid (ST.out.below hb1)
        have hS1 := (ST.out.below hb1).below ((Below.refl _ w1).alloc (Nat.le_refl _) (.cells #[.string (bs hd.method), .string (bs hd.target), .int .i64 hd.status, .string (bs hd.reason), .int .i64 hd.minor, .slice A hd.fields.length c] 39))
        have S2 := Lib.hid hS1
        obtain ⟨⟨d0, d1, d2, d3, d4, d5, d6, d7⟩, g0, g1, g2, g3, g4, g5, g6, g7⟩ := hS1.res.all8
        clear hA hown hb1 hS1
        unfold hdv
        go_wp2
        refine bodyPost_ret (ret_ostart (Blk.set8 S2.out.res _ _ _ _ _ _ _ _) rfl rfl rfl) rfl ?_
        rw [HX1.out]
        exact NextPost.zero S2.out.rd S2.out.away (fun k hk => .inl (hk.imp id (fun ⟨m, q⟩ => ⟨m, q⟩))) FPL.out rfl
    · have he0 : e = 0 := Decidable.not_not.1 fun h => hcase (.inl h)
      have hn0 : n ≠ 0 := fun h => hcase (.inr h)
      have HO2 := HO.out
      rw [if_neg hcase] at HO2
      subst he0
      have bn : ((n : Int) == 0) = false := by rw [beq_eq_false_iff_ne]; omega
      obtain ⟨y, hy⟩ : ∃ y, respF r.method hd.status hd.minor hd.fields = y := ⟨_, rfl⟩
      rw [hy] at HO2
      have RS := fun A c w hF hm => Lib.hid (response_c (bs r.method) (bs hd.method) (bs hd.target) hd.status (bs hd.reason) hd.minor A c hd.fields M w hfb.out hF hm)
      rw [bs_list, hy] at RS
      have hyl := resp_bound r.method hd.status hd.minor hd.fields
      rw [hy] at hyl
      obtain ⟨k, l, f⟩ := y
      simp only [hv, frVal] at RS HO2 hyl
      have HH := Lib.hid HO2
      have HYL := Lib.hid hyl
      clear hcase HO HO2 hy hyl
      go_wp2_with fail
      refine RP.out.mono ?_
      rintro e1 w1 ⟨A, c, rfl, hA, hown, hb1⟩
      have b2 : Below w1.heap.size w1 (w1.alloc (.cells #[.string (bs hd.method), .string (bs hd.target), .int .i64 hd.status, .string (bs hd.reason), .int .i64 hd.minor, .slice A hd.fields.length c] 39)) := (Below.refl _ w1).alloc (Nat.le_refl _) _
      have S2 := Lib.hid ((ST.out.below hb1).below b2)
      have F2 := Lib.hid ((flds_own hown).below b2)
      have X2 : Hid (Blk (w1.alloc (.cells #[.string (bs hd.method), .string (bs hd.target), .int .i64 hd.status, .string (bs hd.reason), .int .i64 hd.minor, .slice A hd.fields.length c] 39)) w1.heap.size (hdW hd A c)) := Lib.hid (blk_only w1 _ _ _ _ rfl rfl)
      have FZ : Hid (∀ g o, A = some ⟨g, o, none⟩ → wr.heap.size ≤ g ∧ g < w1.heap.size) := Lib.hid (fun g o e => hown.lt g (by rw [e]; rfl))
      have HA := Lib.hid hA
      have QQ := Lib.hid (And.intro (show (w1.alloc (.cells #[.string (bs hd.method), .string (bs hd.target), .int .i64 hd.status, .string (bs hd.reason), .int .i64 hd.minor, .slice A hd.fields.length c] 39)).cell? ⟨R, 0, none⟩ = some (.string (bs r.method)) from S2.out.rd.blk.c 0 _ rfl) (hd6_all X2.out))
      have B2 := Lib.hid (hb1.trans (b2.mono hb1.size))
      have hws := hb1.size
      have V1S := Lib.hid (show (w1.alloc (.cells #[.string (bs hd.method), .string (bs hd.target), .int .i64 hd.status, .string (bs hd.reason), .int .i64 hd.minor, .slice A hd.fields.length c] 39)).heap.size = w1.heap.size + 1 by simp)
      clear hA hown hb1 b2
      unfold hdv
      go_upto_region 4 with fail
      go_cut [7, 8] (fun s7 s8 wx => ∃ B4 : Nat, s7 = .int .i64 f ∧ s8 = .pointer (some ⟨B4, 0, none⟩) ∧ Blk wx B4 [.int .i64 k, .int .i64 l] ∧ Below (w1.alloc (.cells #[.string (bs hd.method), .string (bs hd.target), .int .i64 hd.status, .string (bs hd.reason), .int .i64 hd.minor, .slice A hd.fields.length c] 39)).heap.size (w1.alloc (.cells #[.string (bs hd.method), .string (bs hd.target), .int .i64 hd.status, .string (bs hd.reason), .int .i64 hd.minor, .slice A hd.fields.length c] 39)) wx ∧ w1.heap.size + 1 ≤ B4)
      case first =>
        go_region_held3 (fun w' => w'.cell? ⟨R, 0, none⟩ = some (.string (bs r.method)) ∧ w'.cell? ⟨w1.heap.size, 0, none⟩ = some (.string (bs hd.method)) ∧ w'.cell? ⟨w1.heap.size, 1, none⟩ = some (.string (bs hd.target)) ∧ w'.cell? ⟨w1.heap.size, 2, none⟩ = some (.int .i64 hd.status) ∧ w'.cell? ⟨w1.heap.size, 3, none⟩ = some (.string (bs hd.reason)) ∧ w'.cell? ⟨w1.heap.size, 4, none⟩ = some (.int .i64 hd.minor) ∧ w'.cell? ⟨w1.heap.size, 5, none⟩ = some (.slice A hd.fields.length c))
          (first | assumption | exact keep7 QQ.out (Below.drew (Below.refl _ _)) | exact keep7 QQ.out (Below.drew ((Below.refl _ _).alloc (Nat.le_refl _) _)) | exact keep7 QQ.out hb4 | exact keep7 QQ.out (hb4.alloc hb4.size _) | exact keep7 QQ.out (hb4.setCell (by simp) _) | exact keep7 QQ.out ((hb4.setCell (by simp) _).setCell (by simp) _))
          (first
            | (go_at_call 23; refine (RS _ _ _ (F2.out.below (Below.drew (Below.refl _ _))) (cell_below (Below.drew (Below.refl _ _)) S2.out.max)).out.mono ?_; rintro e3 w3 ⟨rfl, hb3⟩; have hb4 : Below (w1.alloc (.cells #[.string (bs hd.method), .string (bs hd.target), .int .i64 hd.status, .string (bs hd.reason), .int .i64 hd.minor, .slice A hd.fields.length c] 39)).heap.size (w1.alloc (.cells #[.string (bs hd.method), .string (bs hd.target), .int .i64 hd.status, .string (bs hd.reason), .int .i64 hd.minor, .slice A hd.fields.length c] 39)) w3 := below_then (Below.drew (Below.refl _ _)) hb3)
            | (go_at_call 23; refine (RS _ _ _ (F2.out.below (Below.drew ((Below.refl _ _).alloc (Nat.le_refl _) (.cells #[.int .i64 0, .int .i64 0] 51)))) (cell_below (Below.drew ((Below.refl _ _).alloc (Nat.le_refl _) (.cells #[.int .i64 0, .int .i64 0] 51))) S2.out.max)).out.mono ?_; rintro e3 w3 ⟨rfl, hb3⟩; have hb4 : Below (w1.alloc (.cells #[.string (bs hd.method), .string (bs hd.target), .int .i64 hd.status, .string (bs hd.reason), .int .i64 hd.minor, .slice A hd.fields.length c] 39)).heap.size (w1.alloc (.cells #[.string (bs hd.method), .string (bs hd.target), .int .i64 hd.status, .string (bs hd.reason), .int .i64 hd.minor, .slice A hd.fields.length c] 39)) w3 := below_then (Below.drew ((Below.refl _ _).alloc (Nat.le_refl _) (.cells #[.int .i64 0, .int .i64 0] 51))) hb3; have bb4 : Blk w3 (w1.heap.size + 1) [.int .i64 0, .int .i64 0] := (Blk.drew (blk_only (w1.alloc (.cells #[.string (bs hd.method), .string (bs hd.target), .int .i64 hd.status, .string (bs hd.reason), .int .i64 hd.minor, .slice A hd.fields.length c] 39)) _ _ _ (w1.heap.size + 1) rfl (by simp))).below (by simp) hb3; have y0 := bb4.c 0 _ rfl; have y1 := bb4.c 1 _ rfl; have z0 := bb4.fz 0; have z1 := bb4.fz 1))
        all_goals first
          | (have bb5 := bb4
             go_wp2_with fail
             go_meet
             exact ⟨w1.heap.size + 1, rfl, rfl, (bb5.set 0 (by simp) _).set 1 (by simp) _, (hb4.setCell (by simp) _).setCell (by simp) _, Nat.le_refl _⟩)
          | (go_wp2_with fail
             go_meet
             exact ⟨w3.heap.size, rfl, rfl, blk_only w3 _ _ _ _ rfl rfl, hb4.alloc hb4.size _, by have := hb4.size; simp at this; omega⟩)
      case rest =>
        obtain ⟨B4, rfl, rfl, hbk, hbv, hB4'⟩ := hcut
        have BK := Lib.hid hbk
        have S4 := Lib.hid (S2.out.below hbv)
        have F4 := Lib.hid (F2.out.below hbv)
        have X4 := Lib.hid (X2.out.below (by simp) hbv)
        have hw4 : w1.heap.size + 1 ≤ wc.heap.size := by have := hbv.size; simp at this; omega
        have hB4l : B4 < wc.heap.size := hbk.lt
        have hwl := ST.out.lt
        have hRl := FPL.out R (.inl rfl)
        clear QQ V1S hbk hbv
        by_cases hf : f = 0
        · subst hf
          have HH0 := HH.out
          rw [if_neg (show ¬ ((0 : Int) ≠ 0) from fun h => h rfl)] at HH0
          have HH2 := Lib.hid HH0
          clear HH0 HH
          have p1 : wc.cell? ⟨R, 1, none⟩ = some (.string (bs b)) := S4.out.rd.blk.c 1 _ rfl
          have r1 := S4.out.rd.blk.fz 1
          have hnb : n ≤ b.length := hlen
          have nle : n ≤ (bs b).size := by rw [bs_size]; exact hnb
          have nbz : (bs b).size ≤ 4194304 := by rw [bs_size]; omega
          have DN : Hid ((bs b).extract n (bs b).size = bs (b.drop n)) := Lib.hid (by
            rw [← list_bs ((bs b).extract n (bs b).size), ext_list, bs_list, List.take_of_length_le (by rw [List.length_drop, bs_size]; omega)])
          have neR : ∀ q : Nat, q ≠ R → ∀ u, (wc.setCell ⟨R, 1, none⟩ u).cell? ⟨q, 0, none⟩ = wc.cell? ⟨q, 0, none⟩ := fun q hq u => World.cell?_setCell_other wc ⟨R, 1, none⟩ ⟨q, 0, none⟩ u (fun e => by injection e with e _ _; exact hq e.symm)
          have MX : (wc.setCell ⟨R, 1, none⟩ (.string (bs (b.drop n)))).cell? ⟨0, 0, none⟩ = some (.int .i64 M) := (neR 0 (by omega) _).trans S4.out.max
          have T5 : Hid (TlAt w R D v { r with buf := b.drop n } (wc.setCell ⟨R, 1, none⟩ (.string (bs (b.drop n)))) M hd A c w1.heap.size B4 k l) := Lib.hid
            ⟨S4.out.rd.put 1 _ (by decide) rfl (fun m => ⟨m, rfl⟩), (S4.out.away.put (by exact .inl rfl) _ _).mono (fun k _ h => h.imp id (fun ⟨m, q⟩ => ⟨m, q⟩)), S4.out.res.farR (by omega), MX, X4.out.farR (by omega), BK.out.farR (by omega), F4.out.awayR1 (fun g o e => by have := FZ.out g o e; omega), by simp [World.setCell]; omega, by omega, by omega, by omega, by omega, fun g o e => by have := FZ.out g o e; omega⟩
          have ds2 : wc.cell? ⟨w1.heap.size, 2, none⟩ = some (.int .i64 hd.status) := X4.out.c 2 _ rfl
          have ne1 : R ≠ w1.heap.size := by omega
          have ne2 : ¬ w1.heap.size = R := by omega
          clear neR MX
          generalize bs b = t at *
          by_cases hint : hd.status < 200 ∧ hd.status ≠ 101
          · rw [if_pos hint] at HH2
            obtain ⟨i1, i2⟩ := hint
            have i3 : (hd.status != 101) = true := by rw [bne_iff_ne]; exact i2
            obtain ⟨g', rfl⟩ : ∃ g', gk = g' + 1 := ⟨gk - 1, by omega⟩
            clear i2
            go_wp2
            rw [DN.out]
            go_roundg g'
            case measure => omega
            case rel => exact ⟨b.drop n, by rw [List.length_drop]; omega, HH2.out, T5.out.rd, T5.out.away.mono (fun k _ h => h.imp id (fun ⟨m, q⟩ => ⟨m, q⟩)), T5.out.res, by rw [List.length_drop]; omega, T5.out.max⟩
          · rw [if_neg hint] at HH2
            have hcond : ¬ hd.status < 200 ∨ (hd.status < 200 ∧ (hd.status != 101) = false) := by
              by_cases h2 : hd.status < 200
              · right
                refine ⟨h2, ?_⟩
                have : hd.status = 101 := Decidable.not_not.1 fun h => hint ⟨h2, h⟩
                rw [this]; rfl
              · exact .inl h2
            have hx1 : x = ({ kind := 1, head := hd }, true, 0, headed r hd k l (b.drop n)) := by
              rw [← HX.out, HH2.out]
            subst hx1
            clear hint HX HH2
            go_upto_region 8 with fail
            rw [DN.out]
            go_cut [55] (fun s wx => s = .bool false ∧ TlAt w R D v { r with buf := b.drop n } wx M hd A c w1.heap.size B4 k l)
            case first =>
              rcases hcond with i1 | ⟨i1, i2⟩
              all_goals
                go_wp2_with fail
                go_meet
                exact ⟨rfl, T5.out⟩
            case rest =>
              clear p1 r1 ds2 T5 BK S4 F4 X4 hB4l hw4
              obtain ⟨rfl, ht⟩ := hcut
              have KP := fun A c w hF hm => Lib.hid (keep_c (bs hd.method) (bs hd.target) hd.status (bs hd.reason) hd.minor A c hd.fields M w hfb.out hF hm)
              simp only [hv] at KP
              obtain ⟨kp, hkp⟩ : ∃ kp, keepF hd.minor hd.fields = kp := ⟨_, rfl⟩
              rw [hkp] at KP
              have HKP := Lib.hid hkp
              have T8 := Lib.hid ht
              have nRx := ht.rh
              have nRk := ht.rb
              have hRw := ht.rd.lt
              clear hkp ht hcond
              go_upto_region 9 with fail
              go_cut [61] (fun s wx => TlAt w R D v { r with buf := b.drop n, head := true, kind := k, len := l, keep := kp } wx M hd A c w1.heap.size B4 k l)
              case first =>
                go_region_held3 (fun w' => w'.cell? ⟨w1.heap.size, 0, none⟩ = some (.string (bs hd.method)) ∧ w'.cell? ⟨w1.heap.size, 1, none⟩ = some (.string (bs hd.target)) ∧ w'.cell? ⟨w1.heap.size, 2, none⟩ = some (.int .i64 hd.status) ∧ w'.cell? ⟨w1.heap.size, 3, none⟩ = some (.string (bs hd.reason)) ∧ w'.cell? ⟨w1.heap.size, 4, none⟩ = some (.int .i64 hd.minor) ∧ w'.cell? ⟨w1.heap.size, 5, none⟩ = some (.slice A hd.fields.length c) ∧ w'.cell? ⟨B4, 0, none⟩ = some (.int .i64 k) ∧ w'.cell? ⟨B4, 1, none⟩ = some (.int .i64 l))
                  (with_reducible (first | assumption | exact cells8 T8.out.hdb.drew T8.out.frb.drew | exact cells8 X7 K7 | exact cells8 (X7.farR nRx) (K7.farR nRk) | exact cells8 ((X7.farR nRx).farR nRx) ((K7.farR nRk).farR nRk) | exact cells8 (((X7.farR nRx).farR nRx).farR nRx) (((K7.farR nRk).farR nRk).farR nRk) | exact cells8 ((((X7.farR nRx).farR nRx).farR nRx).farR nRx) ((((K7.farR nRk).farR nRk).farR nRk).farR nRk)))
                  ((go_at_call 24; refine (KP _ _ _ (T8.out.fl.below (Below.drew (Below.refl _ _))) (cell_below (Below.drew (Below.refl _ _)) T8.out.max)).out.mono ?_; rintro e7 w7 ⟨rfl, hb7⟩; have hb8 := below_then (Below.drew (Below.refl _ wc)) hb7; have T7 := T8.out.below hb8; have X7 := T7.hdb; have K7 := T7.frb; have y4 : w7.cell? ⟨R, 4, none⟩ = some (.bool r.head) := T7.rd.blk.c 4 _ rfl; have y5 : w7.cell? ⟨R, 5, none⟩ = some (.bool r.keep) := T7.rd.blk.c 5 _ rfl; have y6 : w7.cell? ⟨R, 6, none⟩ = some (.int .i64 r.kind) := T7.rd.blk.c 6 _ rfl; have y7 : w7.cell? ⟨R, 7, none⟩ = some (.int .i64 r.len) := T7.rd.blk.c 7 _ rfl; have z4 := T7.rd.blk.fz 4; have z5 := T7.rd.blk.fz 5; have z6 := T7.rd.blk.fz 6; have z7 := T7.rd.blk.fz 7))
                go_wp2_with fail
                go_meet
                exact (((T7.put (r' := { r with buf := b.drop n, head := true }) 4 _ (by decide) rfl rfl).put (r' := { r with buf := b.drop n, head := true, kind := k }) 6 _ (by decide) rfl rfl).put (r' := { r with buf := b.drop n, head := true, kind := k, len := l }) 7 _ (by decide) rfl rfl).put (r' := { r with buf := b.drop n, head := true, kind := k, len := l, keep := kp }) 5 _ (by decide) rfl rfl
              case rest =>
                clear T8
                have T9 := Lib.hid hcut
                have HMM := HM.out
                have k90 : wc.cell? ⟨B4, 0, none⟩ = some (.int .i64 k) := hcut.frb.c 0 _ rfl
                have k91 : wc.cell? ⟨B4, 1, none⟩ = some (.int .i64 l) := hcut.frb.c 1 _ rfl
                have c93 : wc.cell? ⟨R, 3, none⟩ = some (stepV r.mode) := hcut.rd.blk.c 3 _ rfl
                have c98 : wc.cell? ⟨R, 8, none⟩ = some (.int .i64 r.left) := hcut.rd.blk.c 8 _ rfl
                have c99 : wc.cell? ⟨R, 9, none⟩ = some (.pointer none) := (hcut.rd.blk.c 9 _ rfl).trans (by rw [if_neg (by show ¬ r.mode = 2; omega)])
                have f93 := hcut.rd.blk.fz 3
                have f98 := hcut.rd.blk.fz 8
                have f99 := hcut.rd.blk.fz 9
                have hR9 := hcut.rd.lt
                have HMM2 := Lib.hid HMM
                clear hcut HMM
                go_upto_block 2 with fail
                go_cut [68] (fun s wx => DnAt w R D v r wx hd A c w1.heap.size (headed r hd k l (b.drop n)))
                case first =>
                  by_cases h2 : k = 2
                  · subst h2
                    go_wp2_with fail
                    go_meet
                    exact DnAt.one HKP.out (T9.out.put (r' := { r with buf := b.drop n, head := true, kind := 2, len := l, keep := kp, left := l }) 8 (.int .i64 l) (by decide) rfl rfl) HMM2.out 1 (by decide) _ rfl (headed_2 r hd l (b.drop n))
                  · have b2 : (k == 2) = false := by rw [beq_eq_false_iff_ne]; exact h2
                    by_cases h3 : k = 3
                    · subst h3
                      go_wp2_with fail
                      refine (cnew_c _ _).mono ?_
                      rintro e10 w10 ⟨rfl, hd10, hb10, hs10⟩
                      have T10 := Lib.hid (T9.out.below hb10)
                      have D10 := Lib.hid hd10
                      have p93 : w10.cell? ⟨R, 3, none⟩ = some (stepV r.mode) := T10.out.rd.blk.c 3 _ rfl
                      have p99 : w10.cell? ⟨R, 9, none⟩ = some (.pointer none) := (T10.out.rd.blk.c 9 _ rfl).trans (by rw [if_neg (by show ¬ r.mode = 2; have := HMM2.out; omega)])
                      have q93 := T10.out.rd.blk.fz 3
                      have q99 := T10.out.rd.blk.fz 9
                      have hR10 := T10.out.rd.lt
                      clear hd10 hb10 c93 c98 c99 f93 f98 f99
                      go_wp2_with fail
                      go_meet
                      exact DnAt.dec HKP.out T10.out D10.out (by have := T9.out.big; omega) hs10 HMM2.out _ rfl (headed_3 r hd l (b.drop n)) (T9.out.rd.lt) (T9.out.away) (T9.out.big)
                    · have b3 : (k == 3) = false := by rw [beq_eq_false_iff_ne]; exact h3
                      by_cases h4 : k = 4
                      · subst h4
                        go_wp2_with fail
                        go_meet
                        exact DnAt.one HKP.out T9.out HMM2.out 3 (by decide) _ rfl (headed_4 r hd l (b.drop n))
                      · have b4 : (k == 4) = false := by rw [beq_eq_false_iff_ne]; exact h4
                        have HDO := Lib.hid (headed_o r hd k l (b.drop n) h2 h3 h4)
                        clear h2 h3 h4
                        go_wp2_with fail
                        go_meet
                        exact DnAt.one HKP.out T9.out HMM2.out 4 (by decide) _ rfl HDO.out
                case rest =>
                  clear T9 k90 k91 c93 c98 c99 f93 f98 f99
                  obtain ⟨D9, v9, r9, a9, fp9, z9, x9, fl9, big9, g9⟩ := hcut
                  obtain ⟨x90, x91, x92, x93, x94, x95⟩ := hd6_all x9
                  obtain ⟨⟨d0, d1, d2, d3, d4, d5, d6, d7⟩, g0, g1, g2, g3, g4, g5, g6, g7⟩ := z9.all8
                  have nzx : w.heap.size ≠ w1.heap.size := by omega
                  have nxz : ¬ w1.heap.size = w.heap.size := by omega
                  have R9 := Lib.hid r9
                  have A9 := Lib.hid a9
                  have FP9 := Lib.hid fp9
                  have Z9 := Lib.hid z9
                  have FL9 := Lib.hid fl9
                  have G9 := Lib.hid g9
                  clear r9 a9 fp9 z9 x9 fl9 g9
                  go_wp2
                  refine bodyPost_ret (ret_ostart (Blk.set8 Z9.out _ _ _ _ _ _ _ _) rfl rfl rfl) rfl ?_
                  exact NextPost.copy (D' := D9) (v' := v9) R9.out A9.out FP9.out FPL.out rfl HA.out FL9.out (fun g o e => ⟨by have := FZ.out g o e; omega, by have := FZ.out g o e; omega, G9.out g o e⟩) _ _ _ _ _ _ _ _ rfl rfl rfl
        · have bf : (f != 0) = true := by rw [bne_iff_ne]; exact hf
          have hx1 : x = ({}, false, f, { r with buf := b }) := by
            rw [← HX.out, HH.out, if_pos hf]
          subst hx1
          obtain ⟨⟨d0, d1, d2, d3, d4, d5, d6, d7⟩, g0, g1, g2, g3, g4, g5, g6, g7⟩ := S4.out.res.all8
          clear hf HX HH
          go_wp2
          refine bodyPost_ret (ret_ostart (Blk.set8 S4.out.res _ _ _ _ _ _ _ _) rfl rfl rfl) rfl ?_
          exact NextPost.zero S4.out.rd S4.out.away (fun k hk => .inl (hk.imp id (fun ⟨m, q⟩ => ⟨m, q⟩))) FPL.out rfl
end Go.Proofs.YtgmjkkiahanekaaDoor

