/- The texts OutC in one. -/
import Derived.Test.YtgmjkkiahanekaaDoorM21
/- The contracts of the reader's rest and chunked, and of its small questions. Printed by goutc.py. -/
set_option linter.unusedVariables false
set_option linter.unusedSimpArgs false
namespace Go.Proofs.YtgmjkkiahanekaaDoor
open Go.RowKit Lex

set_option maxRecDepth 100000 in
set_option maxHeartbeats 2000000 in
theorem orest_c (R D : Nat) (v : Value) (r : Rd) (hb : r.buf.length ≤ 4294967296) (w : World) (h : RdAt w R D v r) :
    Calls Tryd.prog 28 #[.pointer (some ⟨R, 0, none⟩)] w (StepPost w R D v r (restR r)) := by
  have c1 : w.cell? ⟨R, 1, none⟩ = some (.string (bs r.buf)) := h.blk.c 1 _ rfl
  have c2 : w.cell? ⟨R, 2, none⟩ = some (.bool r.closed) := h.blk.c 2 _ rfl
  have hlt := h.lt
  have hsz : (bs r.buf).size = r.buf.length := bs_size _
  obtain ⟨x, hx⟩ : ∃ x, restR r = x := ⟨_, rfl⟩
  rw [hx]
  unfold restR at hx
  have FPL := Lib.hid h.fp
  have b1 : Below w.heap.size w (w.alloc (.cells #[.int .i64 0, .string ⟨#[]⟩, .string ⟨#[]⟩, .int .i64 0, .string ⟨#[]⟩, .int .i64 0, .slice none 0 0, .string ⟨#[]⟩] 41)) := (Below.refl _ w).alloc (Nat.le_refl _) _
  have B1 := Lib.hid b1
  have H1 := Lib.hid (h.below b1)
  have Z1 := Lib.hid (blk_only w #[.int .i64 0, .string ⟨#[]⟩, .string ⟨#[]⟩, .int .i64 0, .string ⟨#[]⟩, .int .i64 0, .slice none 0 0, .string ⟨#[]⟩] 41 zeroP w.heap.size rfl rfl)
  have TK := fun w h => Lib.hid (otake_c R D v r r.buf.length (Nat.le_refl _) hb w h)
  have FI := fun w h => Lib.hid (ofinish_c R D v r w h)
  clear h b1
  by_cases h0 : r.buf = []
  · rw [if_neg (fun e => e h0)] at hx
    have e1 : (bs r.buf).toList = [] := empty_toList (by rw [hsz, h0]; rfl)
    generalize bs r.buf = t at *
    cases hc : r.closed with
    | true =>
      rw [if_pos hc] at hx
      subst hx
      rw [hc] at c2
      clear h0 hc
      go_enter Tryd.func28, Tryd.ntmps28
      go_wp2_with fail
      refine (FI _ H1.out).out.mono ?_
      rintro e w3 ⟨v', rfl, hr3, ha3, hf3⟩
      have Z3 := Z1.out.away (by simp) ha3 (fun e => by have := FPL.out _ (e.imp id (fun ⟨m, q⟩ => ⟨m, q⟩)); omega)
      have A3 := Lib.hid ((Away.of (F := FpR R D v r) B1.out).then ha3 (fun i _ hi => hi.imp id (fun ⟨m, q⟩ => ⟨m, q⟩)))
      have R3 := Lib.hid hr3
      have F3 := Lib.hid hf3
      obtain ⟨⟨d0, d1, d2, d3, d4, d5, d6, d7⟩, g0, g1, g2, g3, g4, g5, g6, g7⟩ := Z3.all8
      have ZZ := Lib.hid Z3
      clear hr3 ha3 hf3 Z3
      unfold pcV
      go_wp2
      refine bodyPost_ret (ret_orest (Blk.set8 ZZ.out _ _ _ _ _ _ _ _) rfl rfl rfl) rfl ?_
      refine StepPost.copy (v' := v') (D := D) R3.out A3.out (fun k hk => (F3.out k hk).imp (fun h => h.imp id (fun ⟨m, q⟩ => ⟨m, q⟩)) (fun h => ⟨by have := h.1; simp at this; omega, h.2⟩)) FPL.out rfl _ _ _ _ _ _ _ _ rfl rfl rfl
    | false =>
      rw [if_neg (by rw [hc]; simp)] at hx
      subst hx
      rw [hc] at c2
      clear h0 hc
      go_enter Tryd.func28, Tryd.ntmps28
      go_wp2
      refine bodyPost_ret (ret_orest (blk_only w _ _ _ _ rfl rfl) rfl rfl rfl) rfl ?_
      exact ⟨v, rfl, H1.out, Away.of B1.out, fun k h => .inl h⟩
  · rw [if_pos h0] at hx
    subst hx
    have e1 : (bs r.buf).toList.isEmpty = false := nonempty_toList (fun h => h0 (List.eq_nil_of_length_eq_zero (by rw [← hsz]; exact h)))
    have hb2 : (bs r.buf).size ≤ 4294967296 := by omega
    generalize bs r.buf = t at *
    clear h0
    · go_enter Tryd.func28, Tryd.ntmps28
      go_wp2_with fail
      refine (TK _ H1.out).out.mono ?_
      rintro e w3 ⟨v', rfl, hr3, ha3, hf3⟩
      have Z3 := Z1.out.away (by simp) ha3 (fun e => by have := FPL.out _ (e.imp id (fun ⟨m, q⟩ => ⟨m, q⟩)); omega)
      have A3 := Lib.hid ((Away.of (F := FpR R D v r) B1.out).then ha3 (fun i _ hi => hi.imp id (fun ⟨m, q⟩ => ⟨m, q⟩)))
      have R3 := Lib.hid hr3
      have F3 := Lib.hid hf3
      obtain ⟨⟨d0, d1, d2, d3, d4, d5, d6, d7⟩, g0, g1, g2, g3, g4, g5, g6, g7⟩ := Z3.all8
      have ZZ := Lib.hid Z3
      clear hr3 ha3 hf3 Z3
      unfold pcV
      go_wp2
      refine bodyPost_ret (ret_orest (Blk.set8 ZZ.out _ _ _ _ _ _ _ _) rfl rfl rfl) rfl ?_
      refine StepPost.copy (v' := v') (D := D) R3.out A3.out (fun k hk => (F3.out k hk).imp (fun h => h.imp id (fun ⟨m, q⟩ => ⟨m, q⟩)) (fun h => ⟨by have := h.1; simp at this; omega, h.2⟩)) FPL.out rfl _ _ _ _ _ _ _ _ rfl rfl rfl


/-- What chunked's Feed leaves of the reader. -/
theorem RdAt.fed {w w' : World} {R D : Nat} {v v' : Value} {r : Rd} {d : Dec} (h : RdAt w R D v r) (hm : r.mode = 2) (hd : DecAt w' D v' d) (ha : Away (fun k => k = D ∨ v.ownBlock = some k) w w') (hr : ∀ k, v'.ownBlock = some k → v.ownBlock = some k ∨ (w.heap.size ≤ k ∧ k < w'.heap.size)) :
    RdAt w' R D v' { r with dec := d } ∧ Away (FpR R D v r) w w' ∧ ∀ k, FpR R D v' { r with dec := d } k → FpR R D v r k ∨ (w.heap.size ≤ k ∧ k < w'.heap.size) := by
  obtain ⟨d1, d2, d3⟩ := h.dec hm
  have hlt := h.lt
  refine ⟨⟨h.blk.away h.lt ha (fun e => e.elim (fun e => d2 e.symm) d3), fun _ => ⟨hd, d2, fun e => ?_⟩⟩, ha.mono (fun k _ e => .inr ⟨hm, e⟩), ?_⟩
  · rcases hr _ e with h' | h'
    · exact d3 h'
    · omega
  · rintro k (rfl | ⟨m, rfl | e⟩)
    · exact .inl (.inl rfl)
    · exact .inl (.inr ⟨hm, .inl rfl⟩)
    · rcases hr k e with h' | h'
      · exact .inl (.inr ⟨hm, .inr h'⟩)
      · exact .inr h'

/-- Behind the decoder's Feed, the result's block laid before it. -/
def Fed (w : World) (R D : Nat) (v : Value) (r : Rd) (x : List UInt8 × Nat × Dec) (w' : World) : Prop :=
  ∃ v', RdAt w' R D v' { r with dec := x.2.2 } ∧ Away (FpR R D v r) w w' ∧ (∀ k, FpR R D v' { r with dec := x.2.2 } k → FpR R D v r k ∨ (w.heap.size < k ∧ k < w'.heap.size)) ∧ Blk w' w.heap.size zeroP
theorem Fed.of {w w' : World} {R D : Nat} {v v' : Value} {r : Rd} {x : List UInt8 × Nat × Dec} (h : RdAt w R D v r) (hm : r.mode = 2) (hd : DecAt w' D v' x.2.2)
    (ha : Away (fun k => k = D ∨ v.ownBlock = some k) (w.alloc (.cells #[.int .i64 0, .string ⟨#[]⟩, .string ⟨#[]⟩, .int .i64 0, .string ⟨#[]⟩, .int .i64 0, .slice none 0 0, .string ⟨#[]⟩] 41)).drew w') (hr : ∀ k, v'.ownBlock = some k → v.ownBlock = some k ∨ ((w.alloc (.cells #[.int .i64 0, .string ⟨#[]⟩, .string ⟨#[]⟩, .int .i64 0, .string ⟨#[]⟩, .int .i64 0, .slice none 0 0, .string ⟨#[]⟩] 41)).drew.heap.size ≤ k ∧ k < w'.heap.size)) : Fed w R D v r x w' := by
  have b0 : Below w.heap.size w (w.alloc (.cells #[.int .i64 0, .string ⟨#[]⟩, .string ⟨#[]⟩, .int .i64 0, .string ⟨#[]⟩, .int .i64 0, .slice none 0 0, .string ⟨#[]⟩] 41)).drew := ((Below.refl _ w).alloc (Nat.le_refl _) _).drew
  have hs : (w.alloc (.cells #[.int .i64 0, .string ⟨#[]⟩, .string ⟨#[]⟩, .int .i64 0, .string ⟨#[]⟩, .int .i64 0, .slice none 0 0, .string ⟨#[]⟩] 41)).drew.heap.size = w.heap.size + 1 := by simp
  obtain ⟨g1, g2, g3⟩ := (h.below b0).fed hm hd ha hr
  have z0 : Blk (w.alloc (.cells #[.int .i64 0, .string ⟨#[]⟩, .string ⟨#[]⟩, .int .i64 0, .string ⟨#[]⟩, .int .i64 0, .slice none 0 0, .string ⟨#[]⟩] 41)).drew w.heap.size zeroP := (blk_only w #[.int .i64 0, .string ⟨#[]⟩, .string ⟨#[]⟩, .int .i64 0, .string ⟨#[]⟩, .int .i64 0, .slice none 0 0, .string ⟨#[]⟩] 41 zeroP w.heap.size rfl rfl).drew
  refine ⟨v', g1, (Away.of b0).trans g2, fun k hk => (g3 k hk).imp id (fun q => ⟨by omega, q.2⟩), z0.away (by omega) ha (fun e => ?_)⟩
  obtain ⟨d1, d2, d3⟩ := h.dec hm
  rcases e with e | e
  · have := d1.lt; omega
  · have := (d1.own.lt _ e).2; omega
theorem Fed.ptr {w w' : World} {R D : Nat} {v : Value} {r : Rd} {x : List UInt8 × Nat × Dec} (h : Fed w R D v r x w') (hm : r.mode = 2) : w'.cell? ⟨R, 9, none⟩ = some (.pointer (some ⟨D, 0, none⟩)) := by
  obtain ⟨v', h1, _⟩ := h
  have := h1.blk.c 9 _ rfl
  rw [this, if_pos (by exact hm)]
theorem Fed.buf {w w' : World} {R D : Nat} {v : Value} {r : Rd} {x : List UInt8 × Nat × Dec} {t : ByteArray} (h : Fed w R D v r x w') (ht : bs r.buf = t) : w'.cell? ⟨R, 1, none⟩ = some (.string t) := by
  obtain ⟨v', h1, _⟩ := h
  rw [← ht]
  exact h1.blk.c 1 _ rfl
set_option maxRecDepth 100000 in
set_option maxHeartbeats 4000000 in
theorem ochunked_c (R D : Nat) (v : Value) (r : Rd) (hb : r.buf.length ≤ 4294967296) (hok : r.Ok) (hm : r.mode = 2) (w : World) (h : RdAt w R D v r) :
    Calls Tryd.prog 27 #[.pointer (some ⟨R, 0, none⟩)] w (StepPost w R D v r (chunkedR r)) := by
  have c1 : w.cell? ⟨R, 1, none⟩ = some (.string (bs r.buf)) := h.blk.c 1 _ rfl
  have c9 : w.cell? ⟨R, 9, none⟩ = some (.pointer (some ⟨D, 0, none⟩)) := (h.blk.c 9 _ rfl).trans (by rw [if_pos hm])
  have c10 : w.cell? ⟨R, 10, none⟩ = some (.bool r.over) := h.blk.c 10 _ rfl
  have hlt := h.lt
  have hsz : (bs r.buf).size = r.buf.length := bs_size _
  obtain ⟨y, hy⟩ : ∃ y, chunkedR r = y := ⟨_, rfl⟩
  rw [hy]
  unfold chunkedR at hy
  have FPL := Lib.hid h.fp
  have b1 : Below w.heap.size w (w.alloc (.cells #[.int .i64 0, .string ⟨#[]⟩, .string ⟨#[]⟩, .int .i64 0, .string ⟨#[]⟩, .int .i64 0, .slice none 0 0, .string ⟨#[]⟩] 41)) := (Below.refl _ w).alloc (Nat.le_refl _) _
  have B1 := Lib.hid b1
  have H1 := Lib.hid (h.below b1)
  have Z1 := Lib.hid (blk_only w #[.int .i64 0, .string ⟨#[]⟩, .string ⟨#[]⟩, .int .i64 0, .string ⟨#[]⟩, .int .i64 0, .slice none 0 0, .string ⟨#[]⟩] 41 zeroP w.heap.size rfl rfl)
  have FI := fun w r' v' h => Lib.hid (ofinish_c R D v' r' w h)
  have HR := Lib.hid h
  have HM := Lib.hid hm
  cases ho : r.over with
  | true =>
    rw [if_pos ho] at hy
    subst hy
    rw [ho] at c10
    clear h b1 ho hm
    · go_enter Tryd.func27, Tryd.ntmps27
      go_wp2_with fail
      refine (FI _ _ _ H1.out).out.mono ?_
      rintro e w3 ⟨v', rfl, hr3, ha3, hf3⟩
      have Z3 := Z1.out.away (by simp) ha3 (fun e => by have := FPL.out _ (e.imp id (fun ⟨m, q⟩ => ⟨m, q⟩)); omega)
      have A3 := Lib.hid ((Away.of (F := FpR R D v r) B1.out).then ha3 (fun i _ hi => hi.imp id (fun ⟨m, q⟩ => ⟨m, q⟩)))
      have R3 := Lib.hid hr3
      have F3 := Lib.hid hf3
      obtain ⟨⟨d0, d1, d2, d3, d4, d5, d6, d7⟩, g0, g1, g2, g3, g4, g5, g6, g7⟩ := Z3.all8
      have ZZ := Lib.hid Z3
      clear hr3 ha3 hf3 Z3
      unfold pcV
      go_wp2
      refine bodyPost_ret (ret_ochunked (Blk.set8 ZZ.out _ _ _ _ _ _ _ _) rfl rfl rfl) rfl ?_
      refine StepPost.copy (v' := v') (D := D) R3.out A3.out (fun k hk => (F3.out k hk).imp (fun h => h.imp id (fun ⟨m, q⟩ => ⟨m, q⟩)) (fun h => ⟨by have := h.1; simp at this; omega, h.2⟩)) FPL.out rfl _ _ _ _ _ _ _ _ rfl rfl rfl
  | false =>
    rw [if_neg (by rw [ho]; simp)] at hy
    rw [ho] at c10
    obtain ⟨x, hx⟩ : ∃ x, runD r.dec r.buf = x := ⟨_, rfl⟩
    rw [hx] at hy
    have hlen : x.2.1 ≤ r.buf.length := by rw [← hx]; exact runD_len _ _
    have k9 : (w.alloc (.cells #[.int .i64 0, .string ⟨#[]⟩, .string ⟨#[]⟩, .int .i64 0, .string ⟨#[]⟩, .int .i64 0, .slice none 0 0, .string ⟨#[]⟩] 41)).drew.cell? ⟨R, 9, none⟩ = some (.pointer (some ⟨D, 0, none⟩)) := cell_below b1.drew c9
    have k1 : (w.alloc (.cells #[.int .i64 0, .string ⟨#[]⟩, .string ⟨#[]⟩, .int .i64 0, .string ⟨#[]⟩, .int .i64 0, .slice none 0 0, .string ⟨#[]⟩] 41)).drew.cell? ⟨R, 1, none⟩ = some (.string (bs r.buf)) := cell_below b1.drew c1
    have FD := cfeed_c D v r.dec (bs r.buf) (w.alloc (.cells #[.int .i64 0, .string ⟨#[]⟩, .string ⟨#[]⟩, .int .i64 0, .string ⟨#[]⟩, .int .i64 0, .slice none 0 0, .string ⟨#[]⟩] 41)).drew (by omega) ((H1.out.dec hm).1.below (Below.drew (Below.refl _ _))) hok.dec
    rw [bs_list, hx] at FD
    unfold FeedPost at FD
    have DR := fun n hn => (show (bs r.buf).extract n (bs r.buf).size = bs (r.buf.drop n) by
      have : n ≤ r.buf.length := hn
      rw [← list_bs ((bs r.buf).extract n (bs r.buf).size), ext_list, bs_list, List.take_of_length_le (by rw [List.length_drop]; omega)])
    have DN := Lib.hid (DR x.2.1 hlen)
    clear h b1 ho hx DR hm
    generalize ht : bs r.buf = t at *
    have HT := Lib.hid ht
    obtain ⟨o, n, d⟩ := x
    simp only at hlen hy
    have nlt : ¬ (n : Int) < 0 := by omega
    have nle : n ≤ t.size := by omega
    have n0 : (0 : Int) ≤ (n : Int) := by omega
    have hbt : t.size ≤ 4294967296 := by omega
    clear ht c1 c9 hsz
    by_cases he : d.err ≠ 0
    · rw [if_pos he] at hy
      rw [feedVal_err (x := (o, n, d)) he] at FD
      replace FD := Lib.hid FD
      have be : (d.err != 0) = true := by rw [bne_iff_ne]; exact he
      subst hy
      clear he
      go_enter Tryd.func27, Tryd.ntmps27
      go_wp2
      go_region_held3 (fun w' => w'.cell? ⟨R, 9, none⟩ = some (.pointer (some ⟨D, 0, none⟩)) ∧ w'.cell? ⟨R, 1, none⟩ = some (.string t) ∧ (w' = (w.alloc (.cells #[.int .i64 0, .string ⟨#[]⟩, .string ⟨#[]⟩, .int .i64 0, .string ⟨#[]⟩, .int .i64 0, .slice none 0 0, .string ⟨#[]⟩] 41)).drew ∨ Fed w R D v r (o, n, d) w'))
        (first | assumption | exact ⟨k9, k1, .inl rfl⟩ | exact ⟨(by assumption : Fed w R D v r (o, n, d) _).ptr HM.out, (by assumption : Fed w R D v r (o, n, d) _).buf HT.out, .inr (by assumption)⟩)
        ((go_at_call 37; refine FD.out.mono ?_; rintro e w3 ⟨v', rfl, hd3, ha3, hr3⟩; have hfd : Fed w R D v r (o, n, d) w3 := Fed.of HR.out HM.out hd3 ha3 hr3))
      rename_i hheld
      obtain ⟨v3, r3, a3, f3, z3⟩ := hfd
      have R3 := Lib.hid r3
      have A3 := Lib.hid a3
      have F3 := Lib.hid f3
      have Z3 := Lib.hid z3
      have p1 : w3.cell? ⟨R, 1, none⟩ = some (.string t) := hheld.2.1
      have p10 : w3.cell? ⟨R, 10, none⟩ = some (.bool r.over) := r3.blk.c 10 _ rfl
      have y1 := r3.blk.fz 1
      have y10 := r3.blk.fz 10
      obtain ⟨⟨d0, d1, d2, d3, d4, d5, d6, d7⟩, g0, g1, g2, g3, g4, g5, g6, g7⟩ := z3.all8
      have hlt3 := r3.lt
      have hzl : w.heap.size < w3.heap.size := World.block_lt_of_cell? w3 _ d0
      clear hd3 ha3 hr3 hheld r3 a3 f3 z3 k9 k1 FD
      go_wp2
      refine bodyPost_ret (ret_ochunked (Blk.set8 Z3.out _ _ _ _ _ _ _ _) rfl rfl rfl) rfl ?_
      exact StepPost.copy (v' := v3) (D := D) R3.out A3.out F3.out FPL.out rfl _ _ _ _ _ _ _ _ rfl rfl rfl
    · have he0 : d.err = 0 := Decidable.not_not.1 he
      rw [if_neg he] at hy
      rw [feedVal_ok (x := (o, n, d)) he0] at FD
      replace FD := Lib.hid FD
      clear he he0
      obtain ⟨b4, hb4⟩ : ∃ b, decide (d.st = 4) = b := ⟨_, rfl⟩
      simp only at hy FD
      rw [hb4] at hy FD
      by_cases h0 : o = []
      · have e1 : (bs o).toList = [] := empty_toList (by rw [bs_size, h0]; rfl)
        rw [if_neg (fun e => e h0)] at hy
        cases b4 with
        | true =>
          rw [if_pos (of_decide_eq_true hb4)] at hy
          subst hy
          clear h0 hb4
          generalize bs o = so at *
          go_enter Tryd.func27, Tryd.ntmps27
          go_wp2
          go_region_held3 (fun w' => w'.cell? ⟨R, 9, none⟩ = some (.pointer (some ⟨D, 0, none⟩)) ∧ w'.cell? ⟨R, 1, none⟩ = some (.string t) ∧ (w' = (w.alloc (.cells #[.int .i64 0, .string ⟨#[]⟩, .string ⟨#[]⟩, .int .i64 0, .string ⟨#[]⟩, .int .i64 0, .slice none 0 0, .string ⟨#[]⟩] 41)).drew ∨ Fed w R D v r (o, n, d) w'))
            (first | assumption | exact ⟨k9, k1, .inl rfl⟩ | exact ⟨(by assumption : Fed w R D v r (o, n, d) _).ptr HM.out, (by assumption : Fed w R D v r (o, n, d) _).buf HT.out, .inr (by assumption)⟩)
            ((go_at_call 37; refine FD.out.mono ?_; rintro e w3 ⟨v', rfl, hd3, ha3, hr3⟩; have hfd : Fed w R D v r (o, n, d) w3 := Fed.of HR.out HM.out hd3 ha3 hr3))
          rename_i hheld
          obtain ⟨v3, r3, a3, f3, z3⟩ := hfd
          have R3 := Lib.hid r3
          have A3 := Lib.hid a3
          have F3 := Lib.hid f3
          have Z3 := Lib.hid z3
          have p1 : w3.cell? ⟨R, 1, none⟩ = some (.string t) := hheld.2.1
          have p10 : w3.cell? ⟨R, 10, none⟩ = some (.bool r.over) := r3.blk.c 10 _ rfl
          have y1 := r3.blk.fz 1
          have y10 := r3.blk.fz 10
          obtain ⟨⟨d0, d1, d2, d3, d4, d5, d6, d7⟩, g0, g1, g2, g3, g4, g5, g6, g7⟩ := z3.all8
          have hlt3 := r3.lt
          have hzl : w.heap.size < w3.heap.size := World.block_lt_of_cell? w3 _ d0
          clear hd3 ha3 hr3 hheld r3 a3 f3 z3 k9 k1 FD
          go_wp2_with fail
          have RV := Lib.hid ((R3.out.put (r' := { r with buf := r.buf.drop n, dec := d }) 1 (.string (bs (r.buf.drop n))) (by decide) rfl (fun m => ⟨m, rfl⟩)).put (r' := { r with buf := r.buf.drop n, dec := d, over := true }) 10 (.bool true) (by decide) rfl (fun m => ⟨m, rfl⟩))
          have AV := Lib.hid ((A3.out.put (by exact .inl rfl) 1 (.string (bs (r.buf.drop n)))).put (by exact .inl rfl) 10 (.bool true))
          have ZV := Lib.hid ((Z3.out.far ⟨R, 1, none⟩ (.string (bs (r.buf.drop n))) (by show R ≠ _; omega)).far ⟨R, 10, none⟩ (.bool true) (by show R ≠ _; omega))
          have SV := Lib.hid (show ((w3.setCell ⟨R, 1, none⟩ (.string (bs (r.buf.drop n)))).setCell ⟨R, 10, none⟩ (.bool true)).heap.size = w3.heap.size by simp [World.setCell])
          rw [DN.out]
          refine (FI _ _ _ RV.out).out.mono ?_
          rintro e w5 ⟨v5, rfl, hr5, ha5, hf5⟩
          have Z5 := ZV.out.away (by rw [SV.out]; exact hzl) ha5 (fun e => by
            have := F3.out _ (e.imp id (fun ⟨m, q⟩ => ⟨m, q⟩))
            rcases this with h' | h'
            · have := FPL.out _ h'; omega
            · omega)
          have A5 := Lib.hid (AV.out.then ha5 (fun i hi e => by
            rcases F3.out i (e.imp id (fun ⟨m, q⟩ => ⟨m, q⟩)) with h' | h'
            · exact h'
            · omega))
          have R5 := Lib.hid hr5
          have F5 : Hid (∀ k, FpR R D v5 _ k → FpR R D v r k ∨ (w.heap.size < k ∧ k < w5.heap.size)) := Lib.hid (fun k hk => by
            rcases hf5 k hk with h' | h'
            · rcases F3.out k (h'.imp id (fun ⟨m, q⟩ => ⟨m, q⟩)) with h2 | h2
              · exact .inl h2
              · exact .inr ⟨h2.1, by have := ha5.size; rw [SV.out] at this; omega⟩
            · exact .inr ⟨by have := SV.out; omega, h'.2⟩)
          obtain ⟨⟨d0, d1, d2, d3, d4, d5, d6, d7⟩, g0, g1, g2, g3, g4, g5, g6, g7⟩ := Z5.all8
          have ZZ := Lib.hid Z5
          clear hr5 ha5 hf5 Z5
          unfold pcV
          go_wp2
          refine bodyPost_ret (ret_ochunked (Blk.set8 ZZ.out _ _ _ _ _ _ _ _) rfl rfl rfl) rfl ?_
          exact StepPost.copy (v' := v5) (D := D) R5.out A5.out F5.out FPL.out rfl _ _ _ _ _ _ _ _ rfl rfl rfl
        | false =>
          rw [if_neg (of_decide_eq_false hb4)] at hy
          subst hy
          clear h0 hb4
          generalize bs o = so at *
          go_enter Tryd.func27, Tryd.ntmps27
          go_wp2
          go_region_held3 (fun w' => w'.cell? ⟨R, 9, none⟩ = some (.pointer (some ⟨D, 0, none⟩)) ∧ w'.cell? ⟨R, 1, none⟩ = some (.string t) ∧ (w' = (w.alloc (.cells #[.int .i64 0, .string ⟨#[]⟩, .string ⟨#[]⟩, .int .i64 0, .string ⟨#[]⟩, .int .i64 0, .slice none 0 0, .string ⟨#[]⟩] 41)).drew ∨ Fed w R D v r (o, n, d) w'))
            (first | assumption | exact ⟨k9, k1, .inl rfl⟩ | exact ⟨(by assumption : Fed w R D v r (o, n, d) _).ptr HM.out, (by assumption : Fed w R D v r (o, n, d) _).buf HT.out, .inr (by assumption)⟩)
            ((go_at_call 37; refine FD.out.mono ?_; rintro e w3 ⟨v', rfl, hd3, ha3, hr3⟩; have hfd : Fed w R D v r (o, n, d) w3 := Fed.of HR.out HM.out hd3 ha3 hr3))
          rename_i hheld
          obtain ⟨v3, r3, a3, f3, z3⟩ := hfd
          have R3 := Lib.hid r3
          have A3 := Lib.hid a3
          have F3 := Lib.hid f3
          have Z3 := Lib.hid z3
          have p1 : w3.cell? ⟨R, 1, none⟩ = some (.string t) := hheld.2.1
          have p10 : w3.cell? ⟨R, 10, none⟩ = some (.bool r.over) := r3.blk.c 10 _ rfl
          have y1 := r3.blk.fz 1
          have y10 := r3.blk.fz 10
          obtain ⟨⟨d0, d1, d2, d3, d4, d5, d6, d7⟩, g0, g1, g2, g3, g4, g5, g6, g7⟩ := z3.all8
          have hlt3 := r3.lt
          have hzl : w.heap.size < w3.heap.size := World.block_lt_of_cell? w3 _ d0
          clear hd3 ha3 hr3 hheld r3 a3 f3 z3 k9 k1 FD
          have RV := Lib.hid ((R3.out.put (r' := { r with buf := r.buf.drop n, dec := d }) 1 (.string (bs (r.buf.drop n))) (by decide) rfl (fun m => ⟨m, rfl⟩)).put (r' := { r with buf := r.buf.drop n, dec := d, over := false }) 10 (.bool false) (by decide) rfl (fun m => ⟨m, rfl⟩))
          have AV := Lib.hid ((A3.out.put (by exact .inl rfl) 1 (.string (bs (r.buf.drop n)))).put (by exact .inl rfl) 10 (.bool false))
          have ZV := Lib.hid ((Z3.out.far ⟨R, 1, none⟩ (.string (bs (r.buf.drop n))) (by show R ≠ _; omega)).far ⟨R, 10, none⟩ (.bool false) (by show R ≠ _; omega))
          have SV := Lib.hid (show ((w3.setCell ⟨R, 1, none⟩ (.string (bs (r.buf.drop n)))).setCell ⟨R, 10, none⟩ (.bool false)).heap.size = w3.heap.size by simp [World.setCell])
          go_wp2
          rw [DN.out]
          refine bodyPost_ret (ret_ochunked (Blk.set8 ZV.out _ _ _ _ _ _ _ _) rfl rfl rfl) rfl ?_
          exact StepPost.copy (v' := v3) (D := D) RV.out AV.out (fun k hk => by rw [SV.out]; exact F3.out k (hk.imp id (fun ⟨m, q⟩ => ⟨m, q⟩))) FPL.out rfl _ _ _ _ _ _ _ _ rfl rfl rfl
      · have e1 : (bs o).toList.isEmpty = false := nonempty_toList (fun h => h0 (List.eq_nil_of_length_eq_zero (by rw [← bs_size]; exact h)))
        rw [if_pos h0] at hy
        subst hy
        clear h0
        · skip
          clear hb4
          generalize hso : bs o = so at *
          have HSO := Lib.hid hso
          clear hso
          go_enter Tryd.func27, Tryd.ntmps27
          go_wp2
          go_region_held3 (fun w' => w'.cell? ⟨R, 9, none⟩ = some (.pointer (some ⟨D, 0, none⟩)) ∧ w'.cell? ⟨R, 1, none⟩ = some (.string t) ∧ (w' = (w.alloc (.cells #[.int .i64 0, .string ⟨#[]⟩, .string ⟨#[]⟩, .int .i64 0, .string ⟨#[]⟩, .int .i64 0, .slice none 0 0, .string ⟨#[]⟩] 41)).drew ∨ Fed w R D v r (o, n, d) w'))
            (first | assumption | exact ⟨k9, k1, .inl rfl⟩ | exact ⟨(by assumption : Fed w R D v r (o, n, d) _).ptr HM.out, (by assumption : Fed w R D v r (o, n, d) _).buf HT.out, .inr (by assumption)⟩)
            ((go_at_call 37; refine FD.out.mono ?_; rintro e w3 ⟨v', rfl, hd3, ha3, hr3⟩; have hfd : Fed w R D v r (o, n, d) w3 := Fed.of HR.out HM.out hd3 ha3 hr3))
          rename_i hheld
          obtain ⟨v3, r3, a3, f3, z3⟩ := hfd
          have R3 := Lib.hid r3
          have A3 := Lib.hid a3
          have F3 := Lib.hid f3
          have Z3 := Lib.hid z3
          have p1 : w3.cell? ⟨R, 1, none⟩ = some (.string t) := hheld.2.1
          have p10 : w3.cell? ⟨R, 10, none⟩ = some (.bool r.over) := r3.blk.c 10 _ rfl
          have y1 := r3.blk.fz 1
          have y10 := r3.blk.fz 10
          obtain ⟨⟨d0, d1, d2, d3, d4, d5, d6, d7⟩, g0, g1, g2, g3, g4, g5, g6, g7⟩ := z3.all8
          have hlt3 := r3.lt
          have hzl : w.heap.size < w3.heap.size := World.block_lt_of_cell? w3 _ d0
          clear hd3 ha3 hr3 hheld r3 a3 f3 z3 k9 k1 FD
          have RV := Lib.hid ((R3.out.put (r' := { r with buf := r.buf.drop n, dec := d }) 1 (.string (bs (r.buf.drop n))) (by decide) rfl (fun m => ⟨m, rfl⟩)).put (r' := { r with buf := r.buf.drop n, dec := d, over := b4 }) 10 (.bool b4) (by decide) rfl (fun m => ⟨m, rfl⟩))
          have AV := Lib.hid ((A3.out.put (by exact .inl rfl) 1 (.string (bs (r.buf.drop n)))).put (by exact .inl rfl) 10 (.bool b4))
          have ZV := Lib.hid ((Z3.out.far ⟨R, 1, none⟩ (.string (bs (r.buf.drop n))) (by show R ≠ _; omega)).far ⟨R, 10, none⟩ (.bool b4) (by show R ≠ _; omega))
          have SV := Lib.hid (show ((w3.setCell ⟨R, 1, none⟩ (.string (bs (r.buf.drop n)))).setCell ⟨R, 10, none⟩ (.bool b4)).heap.size = w3.heap.size by simp [World.setCell])
          go_wp2
          rw [DN.out]
          refine bodyPost_ret (ret_ochunked (Blk.set8 ZV.out _ _ _ _ _ _ _ _) rfl rfl rfl) rfl ?_
          exact StepPost.copy (v' := v3) (D := D) RV.out AV.out (fun k hk => by rw [SV.out]; exact F3.out k (hk.imp id (fun ⟨m, q⟩ => ⟨m, q⟩))) FPL.out rfl _ _ _ _ _ _ _ _ (by unfold pcV; rw [HSO.out]; rfl) rfl rfl

theorem oended_c (R D : Nat) (v : Value) (r : Rd) (w : World) (h : RdAt w R D v r) : Calls Tryd.prog 15 #[.pointer (some ⟨R, 0, none⟩)] w fun e w' => e = .returned (.bool r.ended) ∧ w = w' := by
  have c11 : w.cell? ⟨R, 11, none⟩ = some (.bool r.ended) := h.blk.c 11 _ rfl
  have hlt := h.lt
  clear h
  go_enter Tryd.func15, Tryd.ntmps15
  go_wp2
  go_ret
  exact ⟨rfl, rfl⟩
theorem olen_c (R D : Nat) (v : Value) (r : Rd) (w : World) (h : RdAt w R D v r) : Calls Tryd.prog 16 #[.pointer (some ⟨R, 0, none⟩)] w fun e w' => e = .returned (.int .i64 (r.buf.length : Int)) ∧ w = w' := by
  have c1 : w.cell? ⟨R, 1, none⟩ = some (.string (bs r.buf)) := h.blk.c 1 _ rfl
  have hlt := h.lt
  have hsz : (bs r.buf).size = r.buf.length := bs_size _
  clear h
  generalize bs r.buf = t at *
  go_enter Tryd.func16, Tryd.ntmps16
  go_wp2
  go_ret
  exact ⟨rfl, rfl⟩
theorem obrest_c (R D : Nat) (v : Value) (r : Rd) (w : World) (h : RdAt w R D v r) : Calls Tryd.prog 18 #[.pointer (some ⟨R, 0, none⟩)] w fun e w' => e = .returned (.string (bs r.buf)) ∧ RdAt w' R D v { r with buf := [] } ∧ Away (fun k => k = R) w w' := by
  have c1 : w.cell? ⟨R, 1, none⟩ = some (.string (bs r.buf)) := h.blk.c 1 _ rfl
  have f1 := h.blk.fz 1
  have hlt := h.lt
  have HR := Lib.hid (h.put (r' := { r with buf := [] }) 1 (.string ⟨#[]⟩) (by decide) rfl (fun m => ⟨m, rfl⟩))
  clear h
  generalize bs r.buf = t at *
  go_enter Tryd.func18, Tryd.ntmps18
  go_wp2
  go_ret
  exact ⟨rfl, HR.out, (Away.refl _ w).put (by exact rfl) _ _⟩
theorem oend_c (R D : Nat) (v : Value) (r : Rd) (w : World) (h : RdAt w R D v r) : Calls Tryd.prog 20 #[.pointer (some ⟨R, 0, none⟩)] w fun e w' => e = .returned (.tuple #[]) ∧ RdAt w' R D v { r with closed := true } ∧ Away (fun k => k = R) w w' := by
  have c2 : w.cell? ⟨R, 2, none⟩ = some (.bool r.closed) := h.blk.c 2 _ rfl
  have f2 := h.blk.fz 2
  have hlt := h.lt
  have HR := Lib.hid (h.put (r' := { r with closed := true }) 2 (.bool true) (by decide) rfl (fun m => ⟨m, rfl⟩))
  clear h
  go_enter Tryd.func20, Tryd.ntmps20
  go_wp2
  go_end0
  exact ⟨rfl, HR.out, (Away.refl _ w).put (by exact rfl) _ _⟩
theorem ofeed_c (R D : Nat) (v : Value) (r : Rd) (s : ByteArray) (w : World) (hb : r.buf.length + s.size ≤ 4294967296) (h : RdAt w R D v r) : Calls Tryd.prog 13 #[.pointer (some ⟨R, 0, none⟩), .string s] w fun e w' => e = .returned (.tuple #[]) ∧ RdAt w' R D v (feedR r s.data.toList) ∧ Away (fun k => k = R) w w' := by
  have c1 : w.cell? ⟨R, 1, none⟩ = some (.string (bs r.buf)) := h.blk.c 1 _ rfl
  have c2 : w.cell? ⟨R, 2, none⟩ = some (.bool r.closed) := h.blk.c 2 _ rfl
  have f1 := h.blk.fz 1
  have hlt := h.lt
  unfold feedR
  by_cases hc : r.closed = true
  · rw [hc] at c2
    rw [if_pos hc]
    have HR := Lib.hid h
    clear h hc
    go_enter Tryd.func13, Tryd.ntmps13
    go_wp2
    go_end0
    exact ⟨rfl, HR.out, Away.refl _ w⟩
  · rw [if_neg hc]
    rw [Bool.not_eq_true] at hc
    rw [hc] at c2
    have hsz : (bs r.buf).size + s.size ≤ 4294967296 := by rw [bs_size]; exact hb
    have happ : bs r.buf ++ s = bs (r.buf ++ s.data.toList) := by
      rw [← list_bs (bs r.buf ++ s)]
      congr 1
    have HA := Lib.hid happ
    have HR := Lib.hid (h.put (r' := { r with buf := r.buf ++ s.data.toList }) 1 (.string (bs (r.buf ++ s.data.toList))) (by decide) rfl (fun m => ⟨m, rfl⟩))
    clear h hb happ hc
    generalize bs r.buf = t at *
    go_enter Tryd.func13, Tryd.ntmps13
    go_wp2
    rw [HA.out]
    go_end0
    exact ⟨rfl, HR.out, (Away.refl _ w).put (by exact rfl) _ _⟩
theorem onew_c (s : ByteArray) (w : World) : Calls Tryd.prog 12 #[.string s] w fun e w' => e = .returned (.pointer (some ⟨w.heap.size, 0, none⟩)) ∧ RdAt w' w.heap.size 0 (.slice none 0 0) { method := s.data.toList } ∧ Below w.heap.size w w' ∧ w.heap.size < w'.heap.size := by
  go_enter Tryd.func12, Tryd.ntmps12
  go_wp2
  go_ret
  exact ⟨rfl, ⟨Blk.new _ _ _ _ (by unfold rdVs stepV; rw [list_bs]; rfl), fun m => by simp at m⟩, (Below.refl _ w).alloc (Nat.le_refl _) _, by simp⟩
theorem otunnel_c (R D : Nat) (v : Value) (r : Rd) (w : World) (h : RdAt w R D v r) : Calls Tryd.prog 19 #[.pointer (some ⟨R, 0, none⟩)] w fun e w' => e = .returned (.bool (r.head && decide (r.kind = 5))) ∧ w = w' := by
  have c4 : w.cell? ⟨R, 4, none⟩ = some (.bool r.head) := h.blk.c 4 _ rfl
  have c6 : w.cell? ⟨R, 6, none⟩ = some (.int .i64 r.kind) := h.blk.c 6 _ rfl
  have hlt := h.lt
  have e5 : (r.kind == 5) = decide (r.kind = 5) := rfl
  clear h
  generalize decide (r.kind = 5) = b at *
  cases hh : r.head with
  | true =>
    rw [hh] at c4
    clear hh
    go_enter Tryd.func19, Tryd.ntmps19
    go_wp2
    go_ret
    exact ⟨rfl, rfl⟩
  | false =>
    rw [hh] at c4
    clear hh
    go_enter Tryd.func19, Tryd.ntmps19
    go_wp2
    go_ret
    exact ⟨rfl, rfl⟩
/-- Reusable, told as a condition. -/
def reusR (r : Rd) : Bool := r.ended && (!decide (r.kind = 4)) && (!decide (r.kind = 5)) && r.keep && decide (r.buf = []) && !r.closed
theorem oreus_c (R D : Nat) (v : Value) (r : Rd) (w : World) (h : RdAt w R D v r) : Calls Tryd.prog 17 #[.pointer (some ⟨R, 0, none⟩)] w fun e w' => e = .returned (.bool (reusR r)) ∧ w = w' := by
  have c1 : w.cell? ⟨R, 1, none⟩ = some (.string (bs r.buf)) := h.blk.c 1 _ rfl
  have c2 : w.cell? ⟨R, 2, none⟩ = some (.bool r.closed) := h.blk.c 2 _ rfl
  have c5 : w.cell? ⟨R, 5, none⟩ = some (.bool r.keep) := h.blk.c 5 _ rfl
  have c6 : w.cell? ⟨R, 6, none⟩ = some (.int .i64 r.kind) := h.blk.c 6 _ rfl
  have c11 : w.cell? ⟨R, 11, none⟩ = some (.bool r.ended) := h.blk.c 11 _ rfl
  have hlt := h.lt
  have e4 : (r.kind != 4) = !decide (r.kind = 4) := rfl
  have e5 : (r.kind != 5) = !decide (r.kind = 5) := rfl
  have hb : ((bs r.buf).toList = [] ∧ decide (r.buf = []) = true) ∨ ((bs r.buf).toList.isEmpty = false ∧ decide (r.buf = []) = false) := by
    by_cases h0 : r.buf = []
    · exact .inl ⟨empty_toList (by rw [bs_size, h0]; rfl), decide_eq_true h0⟩
    · exact .inr ⟨nonempty_toList (fun h => h0 (List.eq_nil_of_length_eq_zero (by rw [← bs_size]; exact h))), decide_eq_false h0⟩
  clear h
  unfold reusR
  generalize decide (r.kind = 4) = k4 at *
  generalize decide (r.kind = 5) = k5 at *
  generalize decide (r.buf = []) = be at *
  generalize bs r.buf = t at *
  generalize r.ended = en at *
  generalize r.keep = ke at *
  generalize r.closed = cl at *
  cases en <;> cases k4 <;> cases k5 <;> cases ke <;> rcases hb with ⟨hb1, rfl⟩ | ⟨hb1, rfl⟩
  all_goals
    go_enter Tryd.func17, Tryd.ntmps17
    go_wp2
    go_ret
    exact ⟨rfl, rfl⟩
end Go.Proofs.YtgmjkkiahanekaaDoor

