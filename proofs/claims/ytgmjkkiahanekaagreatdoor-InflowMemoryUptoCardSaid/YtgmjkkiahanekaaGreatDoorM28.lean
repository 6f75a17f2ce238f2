/- The texts InG, InH in one. -/
import Derived.Test.YtgmjkkiahanekaaGreatDoorM17
import Derived.Test.YtgmjkkiahanekaaGreatDoorM8
/- The contract of the reader's finish (layer 11): the body is read. -/
set_option linter.unusedVariables false
set_option linter.unusedSimpArgs false
namespace Go.Proofs.YtgmjkkiahanekaaGreatDoor
open Go.RowKit Lex

theorem row_at {w : World} {base n z c : Nat} {e : TypeId} {A : Option Addr} {xs : List Value} (h : w.ownsRow base e z (.slice A n c) n xs) {k : Nat} (hk : (Value.slice A n c).ownBlock = some k) : A = some ⟨k, 0, none⟩ := by
  rcases h.2 with ⟨hv, _⟩ | ⟨g, cap, cur, hv, _⟩
  · injection hv with hv _ _
    subst hv
    cases hk
  · injection hv with hv _ _
    subst hv
    injection hk with hk
    subst hk
    rfl
theorem BusyAt.rlt {w : World} {R Q D : Nat} {A : Option Addr} {c : Nat} {v vb : Value} {r : In} {q : Rq} {d : Dec} (h : BusyAt w R Q D A c v vb r q d) : R < w.heap.size ∧ Q < w.heap.size ∧ D < w.heap.size := by
  obtain ⟨ba, hb⟩ := h.blk
  exact ⟨hb.lt, World.block_lt_of_cell? w _ (h.rq.c 0 _ rfl), h.dec.lt⟩
/-- Behind the decoder's Feed. -/
theorem BusyAt.fed {w w' : World} {R Q D : Nat} {A : Option Addr} {c : Nat} {v v' vb : Value} {r : In} {q : Rq} {d d' : Dec} (h : BusyAt w R Q D A c v vb r q d) (hd : DecAt w' D v' d') (ha : Away (fun k => k = D ∨ v.ownBlock = some k) w w')
    (hr : ∀ k, v'.ownBlock = some k → v.ownBlock = some k ∨ (w.heap.size ≤ k ∧ k < w'.heap.size)) : BusyAt w' R Q D A c v' vb r q d' := by
  obtain ⟨l1, l2, l3⟩ := h.rlt
  obtain ⟨ba, hb⟩ := h.blk
  refine ⟨⟨ba, hb.away l1 ha (fun e => e.elim (fun e => h.dr e.symm) (fun e => (h.vr R e).1 rfl))⟩, h.bld.away ha (fun e => e.elim (fun e => h.dr e.symm) (fun e => (h.vr R e).1 rfl)) (fun k hk e => e.elim (fun e => (h.br k hk).2.2.1 e) (fun e => (h.br k hk).2.2.2 e)),
    h.rq.away l2 ha (fun e => e.elim (fun e => h.dq e.symm) (fun e => (h.vr Q e).2.1 rfl)), h.an, own_away h.row ha (fun k hk e => ?_), hd, h.qr, h.dr, h.dq, fun k hk => ?_, fun k hk => ?_, fun g o hg => ?_⟩
  · have hA := h.ar k 0 (row_at h.row hk)
    exact e.elim (fun e => hA.2.2.1 e) (fun e => hA.2.2.2.1 e)
  · rcases hr k hk with h' | h'
    · exact h.vr k h'
    · exact ⟨by omega, by omega, by omega⟩
  · obtain ⟨b1, b2, b3, b4⟩ := h.br k hk
    refine ⟨b1, b2, b3, fun e => ?_⟩
    rcases hr k e with h' | h'
    · exact b4 h'
    · have := (h.bld.own.lt k hk).2; omega
  · obtain ⟨b1, b2, b3, b4, b5⟩ := h.ar g o hg
    refine ⟨b1, b2, b3, fun e => ?_, b5⟩
    rcases hr g e with h' | h'
    · exact b4 h'
    · have := (h.row.lt g (by rw [hg]; rfl)).2; omega
/-- Behind the builder's WriteString. -/
theorem BusyAt.wrote {w w' : World} {R Q D : Nat} {A : Option Addr} {c : Nat} {v vb vb' : Value} {r : In} {q : Rq} {d : Dec} {l : List UInt8} (h : BusyAt w R Q D A c v vb r q d) (hb : BldAt 114 10 w' R 8 (R + 1) vb' l) (ha : Away (fun k => k = R ∨ vb.ownBlock = some k) w w')
    (hc : ∀ j, j ≠ 8 → j ≠ 8 + 1 → w'.cell? ⟨R, j, none⟩ = w.cell? ⟨R, j, none⟩) (hr : ∀ k, vb'.ownBlock = some k → vb.ownBlock = some k ∨ (w.heap.size ≤ k ∧ k < w'.heap.size)) : BusyAt w' R Q D A c v vb' { r with body := l } q d := by
  obtain ⟨l1, l2, l3⟩ := h.rlt
  obtain ⟨ba, hbk⟩ := h.blk
  have hba : ∃ ba', w'.cell? ⟨R, 8, none⟩ = some ba' := hb.c0.elim (fun e => ⟨_, e⟩) (fun e => ⟨_, e⟩)
  obtain ⟨ba', hba⟩ := hba
  refine ⟨⟨ba', ⟨fun j u hj => ?_, hb.fz⟩⟩, hb, h.rq.away l2 ha (fun e => e.elim (fun e => h.qr e) (fun e => (h.br Q e).2.1 rfl)), h.an, own_away h.row ha (fun k hk e => ?_),
    h.dec.away ha (fun e => e.elim (fun e => h.dr e) (fun e => (h.br D e).2.2.1 rfl)) (fun k hk e => e.elim (fun e => (h.vr k hk).1 e) (fun e => (h.br k e).2.2.2 hk)), h.qr, h.dr, h.dq, h.vr, fun k hk => ?_, fun g o hg => ?_⟩
  · have h10 : j < 10 := by
      have := List.getElem?_eq_some_iff.1 hj
      obtain ⟨hl, _⟩ := this
      simpa using hl
    by_cases h8 : j = 8
    · subst h8
      have : u = ba' := by simpa using hj.symm
      rw [this]; exact hba
    · by_cases h9 : j = 9
      · subst h9
        have : u = vb' := by simpa using hj.symm
        rw [this]; exact hb.c1
      · rw [hc j h8 h9]
        refine hbk.c j u ?_
        rw [← hj]
        have : j = 0 ∨ j = 1 ∨ j = 2 ∨ j = 3 ∨ j = 4 ∨ j = 5 ∨ j = 6 ∨ j = 7 := by omega
        rcases this with rfl | rfl | rfl | rfl | rfl | rfl | rfl | rfl <;> rfl
  · have hA := h.ar k 0 (row_at h.row hk)
    exact e.elim (fun e => hA.1 e) (fun e => hA.2.2.2.2 e)
  · rcases hr k hk with h' | h'
    · exact h.br k h'
    · refine ⟨by omega, by omega, by omega, fun e => ?_⟩
      have := (h.dec.own.lt k e).2; omega
  · obtain ⟨b1, b2, b3, b4, b5⟩ := h.ar g o hg
    refine ⟨b1, b2, b3, b4, fun e => ?_⟩
    rcases hr g e with h' | h'
    · exact b5 h'
    · have := (h.row.lt g (by rw [hg]; rfl)).2; omega
/-- A number in place of the bytes used, or of the status. -/
theorem BusyAt.put {w : World} {R Q D : Nat} {A : Option Addr} {c : Nat} {v vb : Value} {r r' : In} {q : Rq} {d : Dec} (h : BusyAt w R Q D A c v vb r q d) (i : Nat) (u : Value) (hi : i < 8)
    (hs : ∀ ba, ([.int .i64 r.most, .int .i64 r.status, .string (bs r.buf), .pointer (some ⟨Q, 0, none⟩), .int .i64 r.kind, .int .i64 r.len, .int .i64 r.used, .pointer (some ⟨D, 0, none⟩), ba, vb] : List Value).set i u = [.int .i64 r'.most, .int .i64 r'.status, .string (bs r'.buf), .pointer (some ⟨Q, 0, none⟩), .int .i64 r'.kind, .int .i64 r'.len, .int .i64 r'.used, .pointer (some ⟨D, 0, none⟩), ba, vb]) (hb : r'.body = r.body) :
    BusyAt (w.setCell ⟨R, i, none⟩ u) R Q D A c v vb r' q d := by
  obtain ⟨ba, hbk⟩ := h.blk
  have aw : Away (fun k => k = R) w (w.setCell ⟨R, i, none⟩ u) := (Away.refl _ w).put (by exact rfl) _ _
  refine ⟨⟨ba, by rw [← hs ba]; exact hbk.set i (by simp; omega) u⟩, ?_, h.rq.far _ _ (fun e => h.qr e.symm), h.an, own_away h.row aw (fun k hk e => (h.ar k 0 (row_at h.row hk)).1 e), h.dec.away aw (fun e => h.dr e) (fun k hk e => (h.vr k hk).1 e), h.qr, h.dr, h.dq, h.vr, h.br, h.ar⟩
  have hB := h.bld
  rw [hb]
  exact ⟨(shape_set _ _ _ _).trans hB.sh, hB.c0.imp (fun e => (setO w R i 8 _ (by omega)).trans e) (fun e => (setO w R i 8 _ (by omega)).trans e), (setO w R i 9 _ (by omega)).trans hB.c1, fun j => (World.frozen?_setCell _ _ _ _).trans (hB.fz j), own_away hB.own aw (fun k hk e => (h.br k hk).1 e), hB.ne, hB.nil⟩
theorem BusyAt.below {w w' : World} {R Q D : Nat} {A : Option Addr} {c : Nat} {v vb : Value} {r : In} {q : Rq} {d : Dec} (h : BusyAt w R Q D A c v vb r q d) (hb : Below w.heap.size w w') : BusyAt w' R Q D A c v vb r q d := by
  obtain ⟨l1, l2, l3⟩ := h.rlt
  obtain ⟨ba, hbk⟩ := h.blk
  exact ⟨⟨ba, hbk.below l1 hb⟩, h.bld.below hb, h.rq.below l2 hb, h.an, own_below h.row hb, h.dec.below hb, h.qr, h.dr, h.dq, h.vr, h.br, h.ar⟩
/-- A request that is whole, ready to be told: the reader's own cells, the request, its fields. -/
structure DoneAt (w : World) (R Q : Nat) (A : Option Addr) (c : Nat) (r : In) (q : Rq) : Prop where
  blk : ∃ (K ba vb : Value), Blk w R [.int .i64 r.most, .int .i64 r.status, .string (bs r.buf), .pointer (some ⟨Q, 0, none⟩), .int .i64 r.kind, .int .i64 r.len, .int .i64 r.used, K, ba, vb]
  sh : w.shape? R = some (114, 10)
  rq : Blk w Q (rqVs q A c)
  an : A = none → c = 0
  row : w.ownsRow (R + 1) 59 2 (.slice A q.head.fields.length c) q.head.fields.length (fvals q.head.fields)
  qr : Q ≠ R
  ar : ∀ g o, A = some ⟨g, o, none⟩ → g ≠ R ∧ g ≠ Q
theorem BusyAt.done {w : World} {R Q D : Nat} {A : Option Addr} {c : Nat} {v vb : Value} {r : In} {q : Rq} {d : Dec} (h : BusyAt w R Q D A c v vb r q d) : DoneAt w R Q A c r q := by
  obtain ⟨ba, hbk⟩ := h.blk
  exact ⟨⟨_, ba, vb, hbk⟩, h.bld.sh, h.rq, h.an, h.row, h.qr, fun g o hg => ⟨(h.ar g o hg).1, (h.ar g o hg).2.1⟩⟩
/-- The body laid into the request. -/
theorem DoneAt.body {w : World} {R Q : Nat} {A : Option Addr} {c : Nat} {r : In} {q : Rq} (h : DoneAt w R Q A c r q) (b : List UInt8) : DoneAt (w.setCell ⟨Q, 14, none⟩ (.string (bs b))) R Q A c r { q with body := b } := by
  obtain ⟨K, ba, vb, hbk⟩ := h.blk
  have aw : Away (fun k => k = Q) w (w.setCell ⟨Q, 14, none⟩ (.string (bs b))) := (Away.refl _ w).put (by exact rfl) _ _
  exact ⟨⟨K, ba, vb, hbk.far _ _ (fun e => h.qr e)⟩, (shape_set _ _ _ _).trans h.sh, h.rq.set 14 (by simp [rqVs]) _, h.an, own_away h.row aw (fun k hk e => (h.ar k 0 (row_at h.row hk)).2 e), h.qr, h.ar⟩
theorem DoneAt.used {w : World} {R Q : Nat} {A : Option Addr} {c : Nat} {r : In} {q : Rq} (h : DoneAt w R Q A c r q) (n : Nat) : DoneAt (w.setCell ⟨R, 6, none⟩ (.int .i64 (n : Int))) R Q A c { r with used := n } q := by
  obtain ⟨K, ba, vb, hbk⟩ := h.blk
  have aw : Away (fun k => k = R) w (w.setCell ⟨R, 6, none⟩ (.int .i64 (n : Int))) := (Away.refl _ w).put (by exact rfl) _ _
  exact ⟨⟨K, ba, vb, hbk.set 6 (by simp) _⟩, (shape_set _ _ _ _).trans h.sh, h.rq.far _ _ (fun e => h.qr e.symm), h.an, own_away h.row aw (fun k hk e => (h.ar k 0 (row_at h.row hk)).1 e), h.qr, h.ar⟩
theorem DoneAt.below {w w' : World} {R Q : Nat} {A : Option Addr} {c : Nat} {r : In} {q : Rq} (h : DoneAt w R Q A c r q) (hb : Below w.heap.size w w') : DoneAt w' R Q A c r q := by
  obtain ⟨K, ba, vb, hbk⟩ := h.blk
  have l1 : R < w.heap.size := hbk.lt
  have l2 : Q < w.heap.size := World.block_lt_of_cell? w _ (h.rq.c 0 _ rfl)
  exact ⟨⟨K, ba, vb, hbk.below l1 hb⟩, (shape_block (hb.block R l1)).trans h.sh, h.rq.below l2 hb, h.an, own_below h.row hb, h.qr, h.ar⟩
/-- What finish leaves. -/
def FinPost (w : World) (R Q D : Nat) (A : Option Addr) (c : Nat) (v vb : Value) (x : Bool × Rq × In) (e : Ending) (w' : World) : Prop :=
  e = .returned (.bool x.1) ∧ Away (FootB R Q D A v vb) w w' ∧
  if x.1 = true then DoneAt w' R Q A c x.2.2 x.2.1
  else ∃ v' vb' d', x.2.2.dec = some d' ∧ BusyAt w' R Q D A c v' vb' x.2.2 x.2.1 d' ∧ (∀ k, v'.ownBlock = some k → v.ownBlock = some k ∨ (w.heap.size ≤ k ∧ k < w'.heap.size)) ∧ (∀ k, vb'.ownBlock = some k → vb.ownBlock = some k ∨ (w.heap.size ≤ k ∧ k < w'.heap.size))
set_option maxRecDepth 100000 in
set_option maxHeartbeats 4000000 in
theorem ifinish_1 (R Q D : Nat) (A : Option Addr) (c : Nat) (v vb : Value) (r : In) (q : Rq) (d : Dec) (w : World) (h : BusyAt w R Q D A c v vb r q d) (hk : r.kind = 1) :
    Calls Tryz.prog 58 #[.pointer (some ⟨R, 0, none⟩)] w (FinPost w R Q D A c v vb (finishI r q)) := by
  rw [fin_1 hk]
  obtain ⟨ba, hbk⟩ := h.blk
  have c4 := hbk.c 4 _ rfl
  rw [hk] at c4
  have HB := Lib.hid h
  clear h hbk hk
  go_enter Tryz.func58, Tryz.ntmps58
  go_wp2
  go_ret
  exact ⟨rfl, Away.refl _ _, HB.out.done⟩
set_option maxRecDepth 100000 in
set_option maxHeartbeats 4000000 in
theorem ifinish_2 (R Q D : Nat) (A : Option Addr) (c : Nat) (v vb : Value) (r : In) (q : Rq) (d : Dec) (w : World) (h : BusyAt w R Q D A c v vb r q d) (hd : r.dec = some d) (hk : r.kind = 2) (hu : r.used ≤ r.buf.length) (hb : r.buf.length ≤ 4194304) (hl : 0 ≤ r.len ∧ r.len < 1000000000000000) :
    Calls Tryz.prog 58 #[.pointer (some ⟨R, 0, none⟩)] w (FinPost w R Q D A c v vb (finishI r q)) := by
  obtain ⟨n, hn⟩ : ∃ n : Nat, r.len = (n : Int) := ⟨r.len.toNat, by omega⟩
  obtain ⟨ba, hbk⟩ := h.blk
  have c2 := hbk.c 2 _ rfl
  have c3 := hbk.c 3 _ rfl
  have c4 := hbk.c 4 _ rfl
  have c5 := hbk.c 5 _ rfl
  have c6 := hbk.c 6 _ rfl
  have f6 := hbk.fz 6
  rw [hk] at c4
  rw [hn] at c5 hl
  have q14 := h.rq.c 14 _ rfl
  have v14 := h.rq.fz 14
  have HB := Lib.hid h
  have HD := Lib.hid hd
  have hqr := h.qr
  have hsz := bs_size r.buf
  obtain ⟨u, hu2⟩ : ∃ u, r.used = u := ⟨_, rfl⟩
  rw [hu2] at c6 hu
  by_cases hs : r.buf.length - u < n
  · rw [fin_2s hk (by rw [hu2, hn]; omega)]
    have hsi : (r.buf.length : Int) - (u : Int) < (n : Int) := by omega
    rw [← hsz] at hsi hb hu
    generalize bs r.buf = t at *
    clear h hbk hk hd hs hsz
    go_enter Tryz.func58, Tryz.ntmps58
    go_wp2
    go_region
    all_goals
      go_wp2
      go_ret
      exact ⟨rfl, Away.of (Below.drew (Below.refl _ _)), v, vb, d, HD.out, HB.out.below (Below.drew (Below.refl _ _)), fun k h => .inl h, fun k h => .inl h⟩
  · rw [fin_2 hk (by rw [hu2, hn]; omega)]
    have htn : r.len.toNat = n := by omega
    rw [hu2, htn]
    have hsi : ¬ (r.buf.length : Int) - (u : Int) < (n : Int) := by omega
    have hex : (bs r.buf).extract u (u + n) = bs ((r.buf.drop u).take n) := by
      rw [← list_bs ((bs r.buf).extract u (u + n)), ext_list, bs_list, Nat.add_sub_cancel_left]
    have hun : u + n ≤ r.buf.length := by omega
    have HE := Lib.hid hex
    have HN := Lib.hid hn
    have HU := Lib.hid hu2
    rw [← hsz] at hsi hb hun hu
    generalize bs r.buf = t at *
    clear h hbk hk hd hs hsz hex hn hu2
    go_enter Tryz.func58, Tryz.ntmps58
    go_wp2
    go_region
    all_goals
      go_wp2
      go_region
      all_goals
        go_wp2
        go_region
        all_goals
          go_wp2
          go_ret
          have hc : ((u + n : Nat) : Int) = (u : Int) + (n : Int) := by omega
          have D1 := (HB.out.done.body ((r.buf.drop u).take n)).used (u + n)
          rw [hc] at D1
          rw [HE.out]
          exact ⟨rfl, (((((Away.refl _ w).put (by exact .inr (.inl rfl)) _ _).put (by exact .inl rfl) _ _).drew).drew).drew, D1.below (Below.drew (Below.drew (Below.drew (Below.refl _ _))))⟩
/-- Behind the decoder's Feed, in a region that draws. -/
def FedI (w : World) (R Q D : Nat) (A : Option Addr) (c : Nat) (v vb : Value) (r : In) (q : Rq) (d' : Dec) (w' : World) : Prop :=
  ∃ v', BusyAt w' R Q D A c v' vb r q d' ∧ Away (fun k => k = D ∨ v.ownBlock = some k) w w' ∧ ∀ k, v'.ownBlock = some k → v.ownBlock = some k ∨ (w.heap.size ≤ k ∧ k < w'.heap.size)
theorem FedI.cells {w w' : World} {R Q D : Nat} {A : Option Addr} {c : Nat} {v vb : Value} {r : In} {q : Rq} {d' : Dec} (h : FedI w R Q D A c v vb r q d' w') {t : ByteArray} (ht : bs r.buf = t) :
    w'.cell? ⟨R, 7, none⟩ = some (.pointer (some ⟨D, 0, none⟩)) ∧ w'.cell? ⟨R, 2, none⟩ = some (.string t) ∧ w'.cell? ⟨R, 6, none⟩ = some (.int .i64 r.used) := by
  obtain ⟨v', h1, _⟩ := h
  obtain ⟨ba, hb⟩ := h1.blk
  rw [← ht]
  exact ⟨hb.c 7 _ rfl, hb.c 2 _ rfl, hb.c 6 _ rfl⟩
theorem lies_reader : liesAt Tryz.prog Tryz.prog.depth 114 (10 / Tryz.prog.cellsOf 114) 8 112 1 = true := by kernel_rfl
set_option maxRecDepth 100000 in
set_option maxHeartbeats 4000000 in
theorem ifinish_3b (R Q D : Nat) (A : Option Addr) (c : Nat) (v vb : Value) (r : In) (q : Rq) (d : Dec) (w : World) (h : BusyAt w R Q D A c v vb r q d) (hd : r.dec = some d) (hok : d.Ok) (hk : r.kind = 3) (hu : r.used ≤ r.buf.length) (hb : r.buf.length ≤ 4194304)
    (he : (runD d (r.buf.drop r.used)).2.2.err ≠ 0) :
    Calls Tryz.prog 58 #[.pointer (some ⟨R, 0, none⟩)] w (FinPost w R Q D A c v vb (finishI r q)) := by
  obtain ⟨y, hy⟩ : ∃ y, runD d (r.buf.drop r.used) = y := ⟨_, rfl⟩
  rw [hy] at he
  rw [fin_3b hk hd hy he]
  obtain ⟨ba, hbk⟩ := h.blk
  have c2 := hbk.c 2 _ rfl
  have c4 := hbk.c 4 _ rfl
  have c6 := hbk.c 6 _ rfl
  have c7 := hbk.c 7 _ rfl
  rw [hk] at c4
  obtain ⟨u, hu2⟩ : ∃ u, r.used = u := ⟨_, rfl⟩
  rw [hu2] at c6 hu hy
  have hex : ((bs r.buf).extract u (bs r.buf).size).data.toList = r.buf.drop u := by
    rw [ext_list, bs_list, List.take_of_length_le (by rw [List.length_drop, bs_size]; exact Nat.le_refl _)]
  have FD := cfeed_c D v d ((bs r.buf).extract u (bs r.buf).size) w.drew (by rw [← size_list, hex, List.length_drop]; omega) (h.dec.below (Below.drew (Below.refl _ _))) hok
  rw [hex, hy] at FD
  unfold FeedPost at FD
  rw [feedVal_err he] at FD
  have FDD := Lib.hid FD
  have hsz := bs_size r.buf
  rw [← hsz] at hu hb
  obtain ⟨t, ht⟩ : ∃ t, bs r.buf = t := ⟨_, rfl⟩
  have HT := Lib.hid ht
  have HU := Lib.hid hu2
  rw [ht] at c2 hu hb FDD
  have HB := Lib.hid h
  have hui : (0 : Int) ≤ (u : Int) := by omega
  have be : (y.2.2.err != 0) = true := by rw [bne_iff_ne]; exact he
  have SC := fun w => Lib.hid (statuses_c y.2.2.err w)
  clear h hbk hk hd hex FD hsz ht hu2 hy he hok
  obtain ⟨o, n, d'⟩ := y
  simp only at FDD be SC ⊢
  go_enter Tryz.func58, Tryz.ntmps58
  go_wp2
  go_region_held3 (fun w' => w'.cell? ⟨R, 7, none⟩ = some (.pointer (some ⟨D, 0, none⟩)) ∧ w'.cell? ⟨R, 2, none⟩ = some (.string t) ∧ w'.cell? ⟨R, 6, none⟩ = some (.int .i64 (u : Int)) ∧ (w' = w.drew ∨ FedI w R Q D A c v vb r q d' w'))
    (first | assumption | exact ⟨c7, c2, c6, .inl rfl⟩ | exact ⟨((by assumption : FedI w R Q D A c v vb r q d' _).cells HT.out).1, ((by assumption : FedI w R Q D A c v vb r q d' _).cells HT.out).2.1, by rw [← HU.out]; exact ((by assumption : FedI w R Q D A c v vb r q d' _).cells HT.out).2.2, .inr (by assumption)⟩)
    (first | (go_at_call 87; refine FDD.out.mono ?_; rintro e3 w3 ⟨v', rfl, hd3, ha3, hr3⟩; have ha3' := ((Away.refl (fun k => k = D ∨ v.ownBlock = some k) w).drew).trans ha3; have hfd : FedI w R Q D A c v vb r q d' w3 := ⟨v', HB.out.fed hd3 ha3' hr3, ha3', hr3⟩))
  rename_i hheld
  obtain ⟨v3, b3, a3, f3⟩ := hfd
  have B3 := Lib.hid b3
  have A3 := Lib.hid a3
  have F3 := Lib.hid f3
  obtain ⟨ba3, hbk3⟩ := b3.blk
  have s1 := hbk3.c 1 _ rfl
  have z1 := hbk3.fz 1
  clear hd3 ha3 ha3' hr3 hheld b3 a3 f3 hbk3 c2 c4 c6 c7 FDD
  go_wp2_with fail
  refine (SC _).out.mono ?_
  rintro e4 w4 ⟨rfl, rfl⟩
  go_wp2
  go_ret
  refine ⟨rfl, (A3.out.mono (fun k _ e => .inr (.inr (e.imp id (fun e => .inl e))))).put (by exact .inl rfl) _ _, v3, vb, d', rfl, ?_, ?_, fun k h => .inl h⟩
  · obtain hbp := B3.out.put (r' := { r with dec := some d', status := statusE d'.err }) 1 (.int .i64 (statusE d'.err)) (by decide) (fun _ => rfl) rfl
    exact hbp
  · intro k hk
    exact (F3.out k hk).imp id (fun e => ⟨e.1, by simpa [World.setCell] using e.2⟩)
end Go.Proofs.YtgmjkkiahanekaaGreatDoor

/- The contract of the reader's finish over a body in chunks without an error (layer 11). -/
set_option linter.unusedVariables false
set_option linter.unusedSimpArgs false
namespace Go.Proofs.YtgmjkkiahanekaaGreatDoor
open Go.RowKit Lex

theorem BusyAt.doneAway {w w' : World} {R Q D : Nat} {A : Option Addr} {c : Nat} {v vb : Value} {r : In} {q : Rq} {d : Dec} (h : BusyAt w R Q D A c v vb r q d) (ha : Away (fun k => vb.ownBlock = some k) w w') : DoneAt w' R Q A c r q := by
  obtain ⟨l1, l2, l3⟩ := h.rlt
  obtain ⟨ba, hbk⟩ := h.blk
  have n1 : ¬ vb.ownBlock = some R := fun e => (h.br R e).1 rfl
  have n2 : ¬ vb.ownBlock = some Q := fun e => (h.br Q e).2.1 rfl
  exact ⟨⟨_, ba, vb, hbk.away l1 ha n1⟩, (shape_block (ha.block R l1 n1)).trans h.bld.sh, h.rq.away l2 ha n2, h.an, own_away h.row ha (fun k hk e => (h.ar k 0 (row_at h.row hk)).2.2.2.2 e), h.qr, fun g o hg => ⟨(h.ar g o hg).1, (h.ar g o hg).2.1⟩⟩
set_option maxRecDepth 100000 in
set_option maxHeartbeats 8000000 in
theorem ifinish_3 (R Q D : Nat) (A : Option Addr) (c : Nat) (v vb : Value) (r : In) (q : Rq) (d : Dec) (w : World) (h : BusyAt w R Q D A c v vb r q d) (hd : r.dec = some d) (hok : d.Ok) (hk : r.kind = 3) (hu : r.used ≤ r.buf.length) (hb : r.buf.length ≤ 4194304) (hbl : r.body.length ≤ 4194304)
    (he : (runD d (r.buf.drop r.used)).2.2.err = 0) :
    Calls Tryz.prog 58 #[.pointer (some ⟨R, 0, none⟩)] w (FinPost w R Q D A c v vb (finishI r q)) := by
  obtain ⟨y, hy⟩ : ∃ y, runD d (r.buf.drop r.used) = y := ⟨_, rfl⟩
  have hyl := runD_len d (r.buf.drop r.used)
  have hyo := runD_out d (r.buf.drop r.used)
  rw [hy] at he hyl hyo
  rw [List.length_drop] at hyl
  obtain ⟨x, hx⟩ : ∃ x, finishI r q = x := ⟨_, rfl⟩
  rw [hx]
  have hx4 : y.2.2.st = 4 → x = (true, { q with body := r.body ++ y.1 }, { r with dec := some y.2.2, body := r.body ++ y.1, used := r.used + y.2.1 }) := fun h4 => hx.symm.trans (fin_3 hk hd hy he h4)
  have hxn : y.2.2.st ≠ 4 → x = (false, q, { r with dec := some y.2.2, body := r.body ++ y.1, used := r.used + y.2.1 }) := fun h4 => hx.symm.trans (fin_3n hk hd hy he h4)
  obtain ⟨ba, hbk⟩ := h.blk
  have c2 := hbk.c 2 _ rfl
  have c4 := hbk.c 4 _ rfl
  have c6 := hbk.c 6 _ rfl
  have c7 := hbk.c 7 _ rfl
  rw [hk] at c4
  obtain ⟨u, hu2⟩ : ∃ u, r.used = u := ⟨_, rfl⟩
  rw [hu2] at c6 hu hy hyl hx4 hxn
  have hex : ((bs r.buf).extract u (bs r.buf).size).data.toList = r.buf.drop u := by
    rw [ext_list, bs_list, List.take_of_length_le (by rw [List.length_drop, bs_size]; exact Nat.le_refl _)]
  have FD := cfeed_c D v d ((bs r.buf).extract u (bs r.buf).size) w.drew (by rw [← size_list, hex, List.length_drop]; omega) (h.dec.below (Below.drew (Below.refl _ _))) hok
  rw [hex, hy] at FD
  unfold FeedPost at FD
  rw [feedVal_ok he] at FD
  have FDD := Lib.hid FD
  have hsz := bs_size r.buf
  rw [← hsz] at hu hb hyl
  obtain ⟨t, ht⟩ : ∃ t, bs r.buf = t := ⟨_, rfl⟩
  have HT := Lib.hid ht
  have HU := Lib.hid hu2
  rw [ht] at c2 hu hb FDD hyl
  have HB := Lib.hid h
  have HX4 := Lib.hid hx4
  have HXN := Lib.hid hxn
  have hui : (0 : Int) ≤ (u : Int) := by omega
  clear h hbk hk hd hex FD hsz ht hu2 hy he hok hx hx4 hxn
  obtain ⟨o, n, d'⟩ := y
  simp only at FDD HX4 HXN hyl hyo
  have hun : u + n ≤ 4194304 := by omega
  have hon : o.length ≤ 4194304 := by omega
  obtain ⟨b4, hb4⟩ : ∃ b, decide (d'.st = 4) = b := ⟨_, rfl⟩
  rw [hb4] at FDD
  have HB4 := Lib.hid hb4
  clear hb4
  go_enter Tryz.func58, Tryz.ntmps58
  go_wp2
  go_region_held3 (fun w' => w'.cell? ⟨R, 7, none⟩ = some (.pointer (some ⟨D, 0, none⟩)) ∧ w'.cell? ⟨R, 2, none⟩ = some (.string t) ∧ w'.cell? ⟨R, 6, none⟩ = some (.int .i64 (u : Int)) ∧ (w' = w.drew ∨ FedI w R Q D A c v vb r q d' w'))
    (first | assumption | exact ⟨c7, c2, c6, .inl rfl⟩ | exact ⟨((by assumption : FedI w R Q D A c v vb r q d' _).cells HT.out).1, ((by assumption : FedI w R Q D A c v vb r q d' _).cells HT.out).2.1, by rw [← HU.out]; exact ((by assumption : FedI w R Q D A c v vb r q d' _).cells HT.out).2.2, .inr (by assumption)⟩)
    (first | (go_at_call 87; refine FDD.out.mono ?_; rintro e3 w3 ⟨v', rfl, hd3, ha3, hr3⟩; have ha3' := ((Away.refl (fun k => k = D ∨ v.ownBlock = some k) w).drew).trans ha3; have hfd : FedI w R Q D A c v vb r q d' w3 := ⟨v', HB.out.fed hd3 ha3' hr3, ha3', hr3⟩))
  rename_i hheld
  obtain ⟨v3, b3, a3, f3⟩ := hfd
  have B3 := Lib.hid b3
  have A3 := Lib.hid a3
  have F3 := Lib.hid f3
  have hz3 := a3.size
  have hl3 := b3.rlt
  have hl0 := HB.out.rlt
  have WS := Lib.hid (wstr_c 114 10 R 8 (R + 1) vb r.body (bs o) w3 b3.bld (by decide) lies_reader (by rw [bs_size]; omega) (by omega))
  have hos := bs_size o
  have hol := bs_list o
  unfold WstrPost at WS
  rw [hol] at WS
  generalize bs o = so at *
  clear hd3 ha3 ha3' hr3 hheld b3 a3 f3 c2 c4 c6 c7 FDD
  go_wp2_with fail
  refine WS.out.mono ?_
  rintro e4 w4 ⟨vb4, rfl, hbd4, ha4, hc4, hf4⟩
  have b4' := B3.out.wrote hbd4 ha4 hc4 hf4
  have B4 := Lib.hid b4'
  have A4 := Lib.hid ha4
  have F4 := Lib.hid hf4
  have hz4 := ha4.size
  obtain ⟨ba4, hbk4⟩ := b4'.blk
  have s6 := hbk4.c 6 _ rfl
  have z6 := hbk4.fz 6
  simp only at s6
  rw [HU.out] at s6
  have hci : ((u + n : Nat) : Int) = (u : Int) + (n : Int) := by omega
  obtain ⟨V, hV⟩ : ∃ V, w4.setCell ⟨R, 6, none⟩ (.int .i64 ((u : Int) + (n : Int))) = V := ⟨_, rfl⟩
  have B5 : Hid (BusyAt V R Q D A c v3 vb4 { r with dec := some d', body := r.body ++ o, used := u + n } q d') := Lib.hid (by
    rw [← hV, ← hci]
    exact b4'.put (r' := { r with dec := some d', body := r.body ++ o, used := u + n }) 6 (.int .i64 ((u + n : Nat) : Int)) (by decide) (fun _ => rfl) rfl)
  have A5 : Hid (Away (FootB R Q D A v vb) w V) := Lib.hid (by
    rw [← hV]
    exact ((A3.out.mono (fun k _ e => .inr (.inr (e.imp id (fun e => .inl e))))).then ha4 (fun i _ e => e.imp id (fun e => .inr (.inr (.inr (.inl e)))))).put (by exact .inl rfl) _ _)
  have HV := Lib.hid hV
  have SV : V.heap.size = w4.heap.size := by rw [← hV]; simp [World.setCell]
  clear hbd4 ha4 hc4 hf4 b4' hbk4 hV
  go_upto_region 14 with fail
  rw [HV.out]
  clear s6 z6 HV
  cases b4 with
  | false =>
    have hx := HXN.out (of_decide_eq_false HB4.out)
    subst hx
    go_wp2
    go_ret
    refine ⟨rfl, A5.out, v3, vb4, d', rfl, B5.out, fun k hk => (F3.out k hk).imp id (fun e => ⟨e.1, by omega⟩), fun k hk => (F4.out k hk).imp id (fun e => ⟨by omega, by omega⟩)⟩
  | true =>
    have hx := HX4.out (of_decide_eq_true HB4.out)
    subst hx
    have b5 := B5.out
    obtain ⟨ba5, hbk5⟩ := b5.blk
    have c3 := hbk5.c 3 _ rfl
    have hlb : (r.body ++ o).length ≤ 140737488355328 := by rw [List.length_append]; omega
    have ST := Lib.hid (bstr_c 114 10 R 8 (R + 1) vb4 (r.body ++ o) V.drew (b5.bld.below (Below.drew (Below.refl _ _))) hlb)
    have hqr := b5.qr
    have hlV := b5.rlt
    clear hbk5 b5 HX4 HXN
    go_wp2
    go_region_held3 (fun w' => w'.cell? ⟨R, 3, none⟩ = some (.pointer (some ⟨Q, 0, none⟩)))
      (first | assumption | exact c3 | exact k3 | exact (World.cell?_setCell_other _ ⟨Q, 14, none⟩ ⟨R, 3, none⟩ _ (fun e => hqr (by injection e))).trans k3)
      (first | (go_at_call 89; refine ST.out.mono ?_; rintro e6 w6 ⟨rfl, ha6'⟩; have ha6 := ((Away.refl (fun k => vb4.ownBlock = some k) V).drew).trans ha6'; have k3 : w6.cell? ⟨R, 3, none⟩ = some (.pointer (some ⟨Q, 0, none⟩)) := ha6.cell c3 (fun e => (B5.out.br R e).1 rfl); have q14 := ha6.cell (B5.out.rq.c 14 _ rfl) (fun e => (B5.out.br Q e).2.1 rfl); have v14 : w6.frozen? ⟨Q, 14, none⟩ = false := (ha6.frozen (p := ⟨Q, 14, none⟩) hlV.2.1 (fun e => (B5.out.br Q e).2.1 rfl)).trans (B5.out.rq.fz 14)))
    rename_i hheld2
    clear hheld2
    have DN := Lib.hid ((B5.out.doneAway ha6).body (r.body ++ o))
    have AN : Hid (Away (FootB R Q D A v vb) w (w6.setCell ⟨Q, 14, none⟩ (.string (bs (r.body ++ o))))) := Lib.hid ((A5.out.then ha6 (fun i hi e => by
      rcases F4.out i e with e | e
      · exact .inr (.inr (.inr (.inr (.inl e))))
      · omega)).put (by exact .inr (.inl rfl)) _ _)
    clear ha6' ha6 k3 q14 v14
    go_wp2
    go_ret
    exact ⟨rfl, AN.out, DN.out⟩
/-- Finish, in one. -/
theorem ifinish_c (R Q D : Nat) (A : Option Addr) (c : Nat) (v vb : Value) (r : In) (q : Rq) (d : Dec) (w : World) (h : BusyAt w R Q D A c v vb r q d) (hd : r.dec = some d) (hk : r.kind = 1 ∨ r.kind = 2 ∨ r.kind = 3) (hu : r.used ≤ r.buf.length) (hb : r.buf.length ≤ 4194304) (hl : 0 ≤ r.len ∧ r.len < 1000000000000000) (hok : r.kind = 3 → d.Ok ∧ r.body.length ≤ 4194304) :
    Calls Tryz.prog 58 #[.pointer (some ⟨R, 0, none⟩)] w (FinPost w R Q D A c v vb (finishI r q)) := by
  rcases hk with hk | hk | hk
  · exact ifinish_1 R Q D A c v vb r q d w h hk
  · exact ifinish_2 R Q D A c v vb r q d w h hd hk hu hb hl
  · by_cases he : (runD d (r.buf.drop r.used)).2.2.err = 0
    · exact ifinish_3 R Q D A c v vb r q d w h hd (hok hk).1 hk hu hb (hok hk).2 he
    · exact ifinish_3b R Q D A c v vb r q d w h hd (hok hk).1 hk hu hb he
theorem fin_false {r : In} {q : Rq} (h : (finishI r q).1 = false) : (finishI r q).2.1 = q ∧ (finishI r q).2.2.now = r.now := by
  unfold finishI at h ⊢
  split
  · split
    · exact ⟨rfl, rfl⟩
    · rename_i h1 h2
      rw [if_pos h1, if_neg h2] at h
      cases h
  · rename_i h1
    rw [if_neg h1] at h
    split
    · rename_i h2
      rw [if_pos h2] at h
      split
      · exact ⟨rfl, rfl⟩
      · rename_i h3
        rw [if_neg h3] at h
        have h4 := of_decide_eq_false h
        exact ⟨if_neg h4, rfl⟩
    · rename_i h2
      rw [if_neg h2] at h
      cases h
theorem fin_true {r : In} {q : Rq} (h : (finishI r q).1 = true) (hu : r.used ≤ r.buf.length) (hl : 0 ≤ r.len) : (finishI r q).2.2.used ≤ r.buf.length ∧ (finishI r q).2.2.buf = r.buf ∧ (finishI r q).2.2.status = r.status ∧ (finishI r q).2.2.most = r.most := by
  unfold finishI at h ⊢
  split
  · rename_i h1
    rw [if_pos h1] at h
    split
    · rename_i h2
      rw [if_pos h2] at h
      cases h
    · exact ⟨by show r.used + r.len.toNat ≤ _; omega, rfl, rfl, rfl⟩
  · rename_i h1
    rw [if_neg h1] at h
    split
    · rename_i h2
      rw [if_pos h2] at h
      split
      · rename_i h3
        rw [if_pos h3] at h
        cases h
      · have := runD_len (r.dec.getD finishI.d00) (r.buf.drop r.used)
        rw [List.length_drop] at this
        exact ⟨by show r.used + _ ≤ _; omega, rfl, rfl, rfl⟩
    · exact ⟨hu, rfl, rfl, rfl⟩
/-- What a reader with a request knows of it. -/
structure KeptI (r : In) (d : Dec) : Prop where
  kind : r.kind = 1 ∨ r.kind = 2 ∨ r.kind = 3
  used : r.used ≤ r.buf.length
  len : 0 ≤ r.len ∧ r.len < 1000000000000000
  ok : r.kind = 3 → d.Ok ∧ r.body.length ≤ r.buf.length
theorem kept_of {r : In} (h : r.Ok) (hs : r.status = 0) {q : Rq} {n : Nat} (hn : r.now = some (q, n)) {d : Dec} (hd : r.dec = some d) : KeptI r d := by
  have hb := h.head q n hn hs
  have hk := begin_kind hb
  have hl := begin_len hb
  simp only at hk hl
  refine ⟨hk.1, ?_, hk.2.2, fun h3 => ?_⟩
  · by_cases h3 : r.kind = 3
    · exact (h.chunk q n hn hs h3).2.1
    · rw [h.plain q n hn hs h3]; exact hl.1
  · obtain ⟨b1, b2, d', b3, b4, b5, b6⟩ := h.chunk q n hn hs h3
    rw [hd] at b3
    injection b3 with b3
    subst b3
    have ho := ok_run (dec_new r.most h.most.1 h.most.2) ((r.buf.drop n).take (r.used - n))
    have hl2 := runD_out { most := r.most } ((r.buf.drop n).take (r.used - n))
    rw [b4] at ho hl2
    simp only at hl2
    exact ⟨ho, by omega⟩
end Go.Proofs.YtgmjkkiahanekaaGreatDoor

