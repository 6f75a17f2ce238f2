/- The texts InI in one. -/
import Derived.Test.YtgmjkkiahanekaaGreatDoorM27
import Derived.Test.YtgmjkkiahanekaaGreatDoorM28
/- The contract of the reader's Next (layer 11). -/
set_option linter.unusedVariables false
set_option linter.unusedSimpArgs false
namespace Go.Proofs.YtgmjkkiahanekaaGreatDoor
open Go.RowKit Lex

def zeroQ : List Value := [.string ⟨#[]⟩, .string ⟨#[]⟩, .int .i64 0, .string ⟨#[]⟩, .int .i64 0, .slice none 0 0, .int .i64 0, .string ⟨#[]⟩, .int .i64 0, .string ⟨#[]⟩, .string ⟨#[]⟩, .bool false, .string ⟨#[]⟩, .int .i64 0, .string ⟨#[]⟩, .bool false, .bool false, .string ⟨#[]⟩]
theorem zero_rq : rqVs {} none 0 = zeroQ := rfl
/-- The cells of a block, set one behind the other. -/
def setsFrom (w : World) (B : Nat) : Nat → List Value → World
  | _, [] => w
  | i, u :: us => setsFrom (w.setCell ⟨B, i, none⟩ u) B (i + 1) us
theorem sets_blk (B : Nat) : ∀ (us vs : List Value) (i : Nat) (w : World) (ps : List Value), ps.length = i → us.length = vs.length → Blk w B (ps ++ vs) → Blk (setsFrom w B i us) B (ps ++ us)
  | [], vs, i, w, ps, _, hl, h => by
    have : vs = [] := List.eq_nil_of_length_eq_zero hl.symm
    subst this
    exact h
  | u :: us, [], i, w, ps, _, hl, _ => by simp at hl
  | u :: us, v :: vs, i, w, ps, hp, hl, h => by
    have h1 := h.set i (by simp; omega) u
    rw [List.set_append_right _ _ (by omega), hp, Nat.sub_self, List.set_cons_zero] at h1
    have h2 := sets_blk B us vs (i + 1) (w.setCell ⟨B, i, none⟩ u) (ps ++ [u]) (by simp; omega) (by simpa using hl) (by simpa using h1)
    rw [List.append_assoc, List.singleton_append] at h2
    exact h2
theorem Blk.sets {w : World} {B : Nat} {vs : List Value} (h : Blk w B vs) (us : List Value) (hl : us.length = vs.length) : Blk (setsFrom w B 0 us) B us := by
  have := sets_blk B us vs 0 w [] rfl hl h
  simpa using this
theorem away_sets (F : Nat → Prop) (B : Nat) (hB : F B) : ∀ (us : List Value) (i : Nat) (a w : World), Away F a w → Away F a (setsFrom w B i us)
  | [], _, _, _, h => h
  | u :: us, i, a, w, h => away_sets F B hB us (i + 1) a _ (h.put hB i u)
theorem Blk.farSets {B Q : Nat} (hB : B ≠ Q) : ∀ (us : List Value) (i : Nat) {w : World} {vs : List Value}, Blk w Q vs → Blk (setsFrom w B i us) Q vs
  | [], _, _, _, h => h
  | u :: us, i, _, _, h => Blk.farSets hB us (i + 1) (h.far _ _ hB)
theorem ret_inext {w : World} {B : Nat} {q : Rq} {A : Option Addr} {c : Nat} {x y : Value} (h : Blk w B (rqVs q A c)) {tmps : Array Value} (h1 : tmps[2]?.getD undef = .pointer (some ⟨B, 0, none⟩)) (h2 : tmps[3]?.getD undef = x) (h3 : tmps[4]?.getD undef = y) :
    (results Tryz.f26 tmps).run Tryz.prog w = .ok (.tuple #[rqV q A c, x, y]) w := by
  have c0 := h.c 0 _ rfl
  have c1 := h.c 1 _ rfl
  have c2 := h.c 2 _ rfl
  have c3 := h.c 3 _ rfl
  have c4 := h.c 4 _ rfl
  have c5 := h.c 5 _ rfl
  have c6 := h.c 6 _ rfl
  have c7 := h.c 7 _ rfl
  have c8 := h.c 8 _ rfl
  have c9 := h.c 9 _ rfl
  have c10 := h.c 10 _ rfl
  have c11 := h.c 11 _ rfl
  have c12 := h.c 12 _ rfl
  have c13 := h.c 13 _ rfl
  have c14 := h.c 14 _ rfl
  have c15 := h.c 15 _ rfl
  have c16 := h.c 16 _ rfl
  have c17 := h.c 17 _ rfl
  simp [results, Tryz.results26, go_sem, h1, h2, h3, c0, c1, c2, c3, c4, c5, c6, c7, c8, c9, c10, c11, c12, c13, c14, c15, c16, c17, rqV]
/-- What Next leaves. -/
def NextI (w : World) (R : Nat) (F : Nat → Prop) (x : Rq × Bool × Int × In) (e : Ending) (w' : World) : Prop :=
  ∃ A c F', e = .returned (.tuple #[rqV x.1 A c, .bool x.2.1, .int .i64 x.2.2.1]) ∧ (A = none → c = 0) ∧ w'.ownsRow (R + 1) 59 2 (.slice A x.1.head.fields.length c) x.1.head.fields.length (fvals x.1.head.fields) ∧
    (∀ g o, A = some ⟨g, o, none⟩ → ¬ F' g ∧ (F g ∨ w.heap.size ≤ g)) ∧ InAt w' R x.2.2.2 F' ∧ Away F w w' ∧ (∀ k, F' k → F k ∨ (w.heap.size ≤ k ∧ k < w'.heap.size))
theorem IdleAt.away {w w' : World} {R : Nat} {r : In} {F : Nat → Prop} (h : IdleAt w R r) (ha : Away F w w') (hF : ¬ F R) : IdleAt w' R r := by
  obtain ⟨⟨k, l, u, K, ba, vb, hb⟩, hs⟩ := h
  have hl : R < w.heap.size := hb.lt
  exact ⟨⟨k, l, u, K, ba, vb, hb.away hl ha hF⟩, (shape_block (ha.block R hl hF)).trans hs⟩
theorem InAt.below {w w' : World} {R : Nat} {r : In} {F : Nat → Prop} (h : InAt w R r F) (hb : Below w.heap.size w w') : InAt w' R r F := by
  rcases h with ⟨hn, hi, hF⟩ | ⟨q, n, Q, D, A, c, v, vb, d, hn, hd, hbz, hF⟩
  · exact .inl ⟨hn, hi.away (F := fun _ => False) (Away.of hb) id, hF⟩
  · exact .inr ⟨q, n, Q, D, A, c, v, vb, d, hn, hd, hbz.below hb, hF⟩
theorem BusyAt.away {w w' : World} {R Q D : Nat} {A : Option Addr} {c : Nat} {v vb : Value} {r : In} {q : Rq} {d : Dec} {G : Nat → Prop} (h : BusyAt w R Q D A c v vb r q d) (ha : Away G w w') (hG : ∀ k, FootB R Q D A v vb k → ¬ G k) : BusyAt w' R Q D A c v vb r q d := by
  obtain ⟨l1, l2, l3⟩ := h.rlt
  obtain ⟨ba, hbk⟩ := h.blk
  exact ⟨⟨ba, hbk.away l1 ha (hG R (.inl rfl))⟩, h.bld.away ha (hG R (.inl rfl)) (fun k hk => hG k (.inr (.inr (.inr (.inr (.inl hk)))))), h.rq.away l2 ha (hG Q (.inr (.inl rfl))), h.an,
    own_away h.row ha (fun k hk => hG k (.inr (.inr (.inr (.inr (.inr ⟨0, row_at h.row hk⟩)))))), h.dec.away ha (hG D (.inr (.inr (.inl rfl)))) (fun k hk => hG k (.inr (.inr (.inr (.inl hk))))), h.qr, h.dr, h.dq, h.vr, h.br, h.ar⟩
theorem InAt.away {w w' : World} {R : Nat} {r : In} {F G : Nat → Prop} (h : InAt w R r F) (ha : Away G w w') (hG : ∀ k, F k → ¬ G k) : InAt w' R r F := by
  rcases h with ⟨hn, hi, hF⟩ | ⟨q, n, Q, D, A, c, v, vb, d, hn, hd, hbz, hF⟩
  · exact .inl ⟨hn, hi.away ha (hG R ((hF R).2 rfl)), hF⟩
  · exact .inr ⟨q, n, Q, D, A, c, v, vb, d, hn, hd, hbz.away ha (fun k hk => hG k ((hF k).2 hk)), hF⟩
theorem NextI.nothing {w w' : World} {R : Nat} {F : Nat → Prop} {r' : In} {s : Int} {F' : Nat → Prop} (hi : InAt w' R r' F') (ha : Away F w w') (hf : ∀ k, F' k → F k ∨ (w.heap.size ≤ k ∧ k < w'.heap.size)) (hR : R < w'.heap.size) :
    NextI w R F ({}, false, s, r') (.returned (.tuple #[rqV {} none 0, .bool false, .int .i64 s])) w' :=
  ⟨none, 0, F', rfl, fun _ => rfl, World.ownsRow_nil w' (R + 1) 59 2, fun g o h => (by cases h), hi, ha, hf⟩
theorem sets_size (B : Nat) : ∀ (us : List Value) (i : Nat) (w : World), (setsFrom w B i us).heap.size = w.heap.size
  | [], _, _ => rfl
  | u :: us, i, w => (sets_size B us (i + 1) _).trans (by simp [World.setCell])
theorem drew_size (w : World) : w.drew.heap.size = w.heap.size := rfl
theorem zero_post {w wx : World} {R Z : Nat} {F F' : Nat → Prop} {r' : In} {s : Int} (hi : InAt wx R r' F') (hz : Z = w.heap.size) (ha : Away F w wx) (hf : ∀ k, F' k → F k ∨ (w.heap.size < k ∧ k < wx.heap.size)) (hF : ∀ k, F k → k < w.heap.size) :
    NextI w R F ({}, false, s, r') (.returned (.tuple #[rqV {} none 0, .bool false, .int .i64 s])) (setsFrom wx Z 0 zeroQ).drew := by
  generalize zeroQ = us
  have a1 : Away (fun k => k = Z) wx (setsFrom wx Z 0 us) := away_sets (fun k => k = Z) Z rfl us 0 wx wx (Away.refl _ _)
  have hn : ∀ k, F' k → ¬ k = Z := fun k hk e => by
    rcases hf k hk with h | h
    · have := hF k h; omega
    · omega
  have i1 := (hi.away a1 hn).below (Below.drew (Below.refl _ _))
  have hs : (setsFrom wx Z 0 us).drew.heap.size = wx.heap.size := (drew_size _).trans (sets_size Z us 0 wx)
  refine NextI.nothing i1 ((ha.then a1 (fun k hk e => by omega)).drew) (fun k hk => ?_) (i1.lt R i1.self)
  rw [hs]
  exact (hf k hk).imp id (fun h => ⟨by omega, h.2⟩)
set_option maxRecDepth 100000 in
set_option maxHeartbeats 8000000 in
theorem inext_stop (R : Nat) (r : In) (F : Nat → Prop) (w : World) (h : InAt w R r F) (hs : r.status ≠ 0) :
    Calls Tryz.prog 26 #[.pointer (some ⟨R, 0, none⟩)] w (NextI w R F (nextI r)) := by
  rw [next_stop hs]
  have hR := h.lt R h.self
  have HL := Lib.hid h.lt
  obtain ⟨V, hV⟩ : ∃ V, w.alloc (.cells #[.string ⟨#[]⟩, .string ⟨#[]⟩, .int .i64 0, .string ⟨#[]⟩, .int .i64 0, .slice none 0 0, .int .i64 0, .string ⟨#[]⟩, .int .i64 0, .string ⟨#[]⟩, .string ⟨#[]⟩, .bool false, .string ⟨#[]⟩, .int .i64 0, .string ⟨#[]⟩, .bool false, .bool false, .string ⟨#[]⟩] 46) = V := ⟨_, rfl⟩
  have b1 : Below w.heap.size w V := by rw [← hV]; exact (Below.refl _ w).alloc (Nat.le_refl _) _
  have HI := Lib.hid (h.below b1)
  have c1 := HI.out.three.c1
  have ZB : Hid (Blk V w.heap.size zeroQ) := Lib.hid (by rw [← hV]; exact Blk.new _ _ _ _ rfl)
  have B1 := Lib.hid b1
  have HV := Lib.hid hV
  have hs' : (r.status != 0) = true := by rw [bne_iff_ne]; exact hs
  have hne : ¬ w.heap.size = R := by omega
  have d0 := ZB.out.c 0 _ rfl
  have d1 := ZB.out.c 1 _ rfl
  have d2 := ZB.out.c 2 _ rfl
  have d3 := ZB.out.c 3 _ rfl
  have d4 := ZB.out.c 4 _ rfl
  have d5 := ZB.out.c 5 _ rfl
  have d6 := ZB.out.c 6 _ rfl
  have d7 := ZB.out.c 7 _ rfl
  have d8 := ZB.out.c 8 _ rfl
  have d9 := ZB.out.c 9 _ rfl
  have d10 := ZB.out.c 10 _ rfl
  have d11 := ZB.out.c 11 _ rfl
  have d12 := ZB.out.c 12 _ rfl
  have d13 := ZB.out.c 13 _ rfl
  have d14 := ZB.out.c 14 _ rfl
  have d15 := ZB.out.c 15 _ rfl
  have d16 := ZB.out.c 16 _ rfl
  have d17 := ZB.out.c 17 _ rfl
  have g0 := ZB.out.fz 0
  have g1 := ZB.out.fz 1
  have g2 := ZB.out.fz 2
  have g3 := ZB.out.fz 3
  have g4 := ZB.out.fz 4
  have g5 := ZB.out.fz 5
  have g6 := ZB.out.fz 6
  have g7 := ZB.out.fz 7
  have g8 := ZB.out.fz 8
  have g9 := ZB.out.fz 9
  have g10 := ZB.out.fz 10
  have g11 := ZB.out.fz 11
  have g12 := ZB.out.fz 12
  have g13 := ZB.out.fz 13
  have g14 := ZB.out.fz 14
  have g15 := ZB.out.fz 15
  have g16 := ZB.out.fz 16
  have g17 := ZB.out.fz 17
  clear h b1 hs hV
  go_enter Tryz.func26, Tryz.ntmps26
  go_upto_region 1 with fail
  rw [HV.out]
  go_wp2
  go_region
  all_goals
    go_wp2
    refine bodyPost_ret (ret_inext (q := {}) (A := none) (c := 0) (Blk.drew (ZB.out.sets zeroQ rfl)) rfl rfl rfl) rfl ?_
    exact zero_post HI.out rfl (Away.of B1.out) (fun k h => .inl h) HL.out
end Go.Proofs.YtgmjkkiahanekaaGreatDoor

