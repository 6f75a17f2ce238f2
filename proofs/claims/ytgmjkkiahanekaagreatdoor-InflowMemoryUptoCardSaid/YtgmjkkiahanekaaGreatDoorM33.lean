/- The texts InL in one. -/
import Derived.Test.YtgmjkkiahanekaaGreatDoorM29
import Derived.Test.YtgmjkkiahanekaaGreatDoorM30
import Derived.Deep.DeepCutAuto
import Derived.Test.YtgmjkkiahanekaaGreatDoorM32
/- The contract of the reader's Next (layer 11), where its status is nought: a request that is whole. -/
set_option linter.unusedVariables false
set_option linter.unusedSimpArgs false
namespace Go.Proofs.YtgmjkkiahanekaaGreatDoor
open Go.RowKit Lex

set_option maxRecDepth 100000 in
set_option maxHeartbeats 8000000 in
theorem inext_whole (R : Nat) (r : In) (F : Nat → Prop) (M : Int) (w : World) (h : InAt w R r F) (hok : r.Ok) (hs : r.status = 0) (hb : r.buf.length ≤ 4194000) (hmx : w.cell? ⟨0, 0, none⟩ = some (.int .i64 M)) (h0 : ¬ F 0) (hz : (startI r).now ≠ none) (ht0 : ∀ q n, (startI r).now = some (q, n) → (finishI (startI r) q).1 = true) :
    Calls Tryz.prog 26 #[.pointer (some ⟨R, 0, none⟩)] w (NextI w R F (nextI r)) := by
  have hR := h.lt R h.self
  have HL := Lib.hid h.lt
  obtain ⟨V, hV⟩ : ∃ V, w.alloc (.cells #[.string ⟨#[]⟩, .string ⟨#[]⟩, .int .i64 0, .string ⟨#[]⟩, .int .i64 0, .slice none 0 0, .int .i64 0, .string ⟨#[]⟩, .int .i64 0, .string ⟨#[]⟩, .string ⟨#[]⟩, .bool false, .string ⟨#[]⟩, .int .i64 0, .string ⟨#[]⟩, .bool false, .bool false, .string ⟨#[]⟩] 46) = V := ⟨_, rfl⟩
  have b1 : Below w.heap.size w V := by rw [← hV]; exact (Below.refl _ w).alloc (Nat.le_refl _) _
  have HI := Lib.hid (h.below b1)
  have c1 := HI.out.three.c1
  rw [hs] at c1
  have ZB : Hid (Blk V w.heap.size zeroQ) := Lib.hid (by rw [← hV]; exact Blk.new _ _ _ _ rfl)
  have B1 := Lib.hid b1
  have HV := Lib.hid hV
  have MV := Lib.hid (cell_below b1 hmx)
  have HS := Lib.hid hs
  have hVz : V.heap.size = w.heap.size + 1 := by rw [← hV]; simp
  obtain ⟨p, c3⟩ : ∃ p, V.cell? ⟨R, 3, none⟩ = some (.pointer p) := by
    rcases HI.out with ⟨_, ⟨⟨k, l, u, K, ba, vb, hb⟩, _⟩, _⟩ | ⟨q, n, Q, D, A, c, v, vb, d, _, _, hb, _⟩
    · exact ⟨_, hb.c 3 _ rfl⟩
    · obtain ⟨ba, hb⟩ := hb.blk
      exact ⟨_, hb.c 3 _ rfl⟩
  have C3 := Lib.hid c3
  clear h b1 hs hV hmx
  go_enter Tryz.func26, Tryz.ntmps26
  go_upto_region 1 with fail
  rw [HV.out]
  go_upto_if 20 with fail
  go_cut [] (fun wx => LiveAt w R F r wx)
  case first =>
    rcases HI.out with ⟨hn, hi, hF⟩ | ⟨q, n, Q, D, A, c, v, vb, d, hn, hd, hbz, hF⟩
    · obtain ⟨⟨k, l, u, K, ba, vb, hbk⟩, hsh⟩ := hi
      have hp : p = none := by
        have := c3.symm.trans (hbk.c 3 _ rfl)
        injection this with this
        injection this
      subst hp
      have hst : startI r = beginI r := start_none hn
      have T3 := HI.out.three
      have hF0 : ¬ (0 : Nat) = R := fun e => h0 ((hF 0).2 e)
      have BG := Lib.hid (ibegin_c R r M V hb T3 MV.out)
      have HBK := Lib.hid hbk
      have HSH := Lib.hid hsh
      obtain ⟨y, hy⟩ : ∃ y, beginL r.most r.buf = y := ⟨_, rfl⟩
      rw [hy] at BG
      have HY := Lib.hid hy
      obtain ⟨_ | ⟨q, k2, l2, n⟩, e⟩ := y
      · have hbi : beginI r = { r with now := none, kind := 0, len := 0, used := 0, status := e } := by unfold beginI; rw [hy]
        rw [hst, hbi] at hz
        exact absurd rfl hz
      · have he0 : e = 0 := (begin_pos hy).2.2.2.1
        subst he0
        have hbi : beginI r = { r with now := some (q, n), kind := k2, len := l2, used := n, dec := some { most := r.most }, body := [] } := by unfold beginI; rw [hy]
        have HBI := Lib.hid (hst.trans hbi)
        clear hy hbk hsh T3 hst hbi
        go_wp2_with fail
        refine BG.out.mono ?_
        rintro e1 w1 ⟨Q, A, c, rfl, hq, hA, hown, hb1, hQ, hAQ⟩
        have K1 := Lib.hid (HBK.out.below (by omega) hb1)
        have S1 := Lib.hid ((shape_block (hb1.block R (by omega))).trans HSH.out)
        have k3 := K1.out.c 3 _ rfl
        have k4 := K1.out.c 4 _ rfl
        have k5 := K1.out.c 5 _ rfl
        have k6 := K1.out.c 6 _ rfl
        have k1 := K1.out.c 1 _ rfl
        have f1 := K1.out.fz 1
        have f3 := K1.out.fz 3
        have f4 := K1.out.fz 4
        have f5 := K1.out.fz 5
        have f6 := K1.out.fz 6
        have zw1 := hb1.size
        have hqw : Q < w1.heap.size := World.block_lt_of_cell? w1 _ (hq.c 0 _ rfl)
        obtain ⟨W, hW⟩ : ∃ W, ((((w1.setCell ⟨R, 3, none⟩ (.pointer (some ⟨Q, 0, none⟩))).setCell ⟨R, 4, none⟩ (.int .i64 k2)).setCell ⟨R, 5, none⟩ (.int .i64 l2)).setCell ⟨R, 6, none⟩ (.int .i64 (n : Int))).setCell ⟨R, 1, none⟩ (.int .i64 0) = W := ⟨_, rfl⟩
        have KW : Hid (Blk W R [.int .i64 r.most, .int .i64 0, .string (bs r.buf), .pointer (some ⟨Q, 0, none⟩), .int .i64 k2, .int .i64 l2, .int .i64 (n : Int), K, ba, vb]) := Lib.hid (by
          rw [← hW]
          exact ((((K1.out.set 3 (by simp) _).set 4 (by simp) _).set 5 (by simp) _).set 6 (by simp) _).set 1 (by simp) _)
        have SW : Hid (W.shape? R = some (114, 10)) := Lib.hid (by
          rw [← hW]
          simp only [shape_set]
          exact S1.out)
        have AW : Hid (Away (fun k => k = R) w1 W) := Lib.hid (by
          rw [← hW]
          exact (((((Away.refl _ w1).put (by exact rfl) _ _).put (by exact rfl) _ _).put (by exact rfl) _ _).put (by exact rfl) _ _).put (by exact rfl) _ _)
        have zW := AW.out.size
        have ZW := Lib.hid ((ZB.out.below (by omega) hb1).away (by omega) AW.out (by show ¬ w.heap.size = R; omega))
        have QW := Lib.hid (hq.away hqw AW.out (by show ¬ Q = R; omega))
        have OW := Lib.hid (own_away hown AW.out (fun k hk e => by have := (hown.lt k hk).1; omega))
        have AF : Hid (Away F w W) := Lib.hid ((Away.of (B1.out.trans (hb1.mono (by omega)))).then AW.out (fun i _ hi => (hF i).2 hi))
        have HW := Lib.hid hW
        have HA := Lib.hid hA
        have HAQ := Lib.hid hAQ
        have hg1 : ∀ g o, A = some ⟨g, o, none⟩ → V.heap.size ≤ g ∧ g < w1.heap.size := fun g o hg => hown.lt g (by rw [hg]; rfl)
        have HG1 := Lib.hid hg1
        clear hW hb1 HBK HSH hq hown hA hAQ hg1
        go_upto_region 5 with fail
        rw [HW.out]
        clear k1 k3 k4 k5 k6 f1 f3 f4 f5 f6 HW K1 S1
        have k0 := KW.out.c 0 _ rfl
        have k3 := KW.out.c 3 _ rfl
        have CN := Lib.hid (cnew_c r.most W)
        go_wp2_with fail
        refine CN.out.mono ?_
        rintro e2 w2 ⟨rfl, hd2, hb2, hz2⟩
        have K2 := Lib.hid (KW.out.below (by omega) hb2)
        have k7 := K2.out.c 7 _ rfl
        have f7 := K2.out.fz 7
        obtain ⟨W2, hW2⟩ : ∃ W2, w2.setCell ⟨R, 7, none⟩ (.pointer (some ⟨W.heap.size, 0, none⟩)) = W2 := ⟨_, rfl⟩
        have K3 : Hid (Blk W2 R [.int .i64 r.most, .int .i64 0, .string (bs r.buf), .pointer (some ⟨Q, 0, none⟩), .int .i64 k2, .int .i64 l2, .int .i64 (n : Int), .pointer (some ⟨W.heap.size, 0, none⟩), ba, vb]) := Lib.hid (by rw [← hW2]; exact K2.out.set 7 (by simp) _)
        have A3 : Hid (Away (fun k => k = R) w2 W2) := Lib.hid (by rw [← hW2]; exact (Away.refl _ w2).put (by exact rfl) _ _)
        have zz2 := hb2.size
        have zz3 := A3.out.size
        have S3 : Hid (W2.shape? R = some (114, 10)) := Lib.hid (by
          rw [← hW2, shape_set]
          exact (shape_block (hb2.block R (by omega))).trans SW.out)
        have D3 := Lib.hid (hd2.away A3.out (by show ¬ W.heap.size = R; omega) (fun k hk => by cases hk))
        have Z3 := Lib.hid ((ZW.out.below (by omega) hb2).away (by omega) A3.out (by show ¬ w.heap.size = R; omega))
        have Q3 := Lib.hid ((QW.out.below (by omega) hb2).away (by omega) A3.out (by show ¬ Q = R; omega))
        have O3 := Lib.hid (own_away (own_below OW.out hb2) A3.out (fun k hk e => by have := (OW.out.lt k hk).1; omega))
        have F3 := Lib.hid ((AF.out.low hb2).then A3.out (fun i _ hi => (hF i).2 hi))
        have HW2 := Lib.hid hW2
        have RS := Lib.hid (breset_c R 8 W2 (K3.out.c 8 _ rfl) (K3.out.c 9 _ rfl) (K3.out.fz 8) (K3.out.fz 9))
        clear hW2 hb2 hd2
        go_upto_region 8 with fail
        rw [HW2.out]
        clear k7 f7 HW2 K2
        go_wp2_with fail
        refine RS.out.mono ?_
        rintro e3 w3 ⟨rfl, hw3⟩
        have A4 : Away (fun k => k = R) W2 w3 := by rw [hw3]; exact ((Away.refl _ W2).put (by exact rfl) _ _).put (by exact rfl) _ _
        have K4 : Blk w3 R [.int .i64 r.most, .int .i64 0, .string (bs r.buf), .pointer (some ⟨Q, 0, none⟩), .int .i64 k2, .int .i64 l2, .int .i64 (n : Int), .pointer (some ⟨W.heap.size, 0, none⟩), .pointer none, .slice none 0 0] := by
          rw [hw3]; exact (K3.out.set 8 (by simp) _).set 9 (by simp) _
        have S4 : w3.shape? R = some (114, 10) := by rw [hw3, shape_set, shape_set]; exact S3.out
        have zz4 := A4.size
        have hoA : ∀ g o, A = some ⟨g, o, none⟩ → V.heap.size ≤ g ∧ g < w1.heap.size := HG1.out
        have hb4 : BusyAt w3 R Q W.heap.size A c (.slice none 0 0) (.slice none 0 0) (startI r) q { most := r.most } := by
          rw [HBI.out]
          refine ⟨⟨.pointer none, ?_⟩, ⟨S4, .inl (K4.c 8 _ rfl), K4.c 9 _ rfl, K4.fz, World.ownsRow_nil _ _ _ _, fun e => (by cases e), fun _ => rfl⟩, Q3.out.away (by omega) A4 (by show ¬ Q = R; omega), HA.out, ?_, D3.out.away A4 (by show ¬ W.heap.size = R; omega) (fun k hk => by cases hk), by omega, by omega, by omega, fun k hk => (by cases hk), fun k hk => (by cases hk), fun g o hg => ?_⟩
          · have := HS.out
            show Blk w3 R [.int .i64 r.most, .int .i64 r.status, .string (bs r.buf), .pointer (some ⟨Q, 0, none⟩), .int .i64 k2, .int .i64 l2, .int .i64 (n : Int), .pointer (some ⟨W.heap.size, 0, none⟩), .pointer none, .slice none 0 0]
            rw [this]
            exact K4
          · exact own_from (own_away O3.out A4 (fun k hk e => by have := (OW.out.lt k hk).1; omega)) (by omega)
          · have h1 := hoA g o hg
            exact ⟨by omega, HAQ.out g o hg, by omega, fun e => (by cases e), fun e => (by cases e)⟩
        have LV : Hid (LiveAt w R F r w3) := Lib.hid ⟨q, n, Q, W.heap.size, A, c, _, _, _, by rw [HBI.out], by rw [HBI.out], hb4, Z3.out.away (by omega) A4 (by show ¬ w.heap.size = R; omega), F3.out.then A4 (fun i _ hi => (hF i).2 hi), fun k hk => by
          rcases hk with rfl | rfl | rfl | e | e | ⟨o, e⟩
          · exact .inl ((hF _).2 rfl)
          · exact .inr ⟨by omega, by omega⟩
          · exact .inr ⟨by omega, by omega⟩
          · cases e
          · cases e
          · have := hoA k o e; exact .inr ⟨by omega, by omega⟩⟩
        clear hw3 A4 K4 S4 hb4 hoA
        go_wp2
        go_meet
        exact LV.out
    · obtain ⟨ba, hbk⟩ := hbz.blk
      have hp : p = some ⟨Q, 0, none⟩ := by
        have := c3.symm.trans (hbk.c 3 _ rfl)
        injection this with this
        injection this
      subst hp
      have LV : Hid (LiveAt w R F r V) := Lib.hid ⟨q, n, Q, D, A, c, v, vb, d, by rw [start_some hn]; exact hn, by rw [start_some hn]; exact hd, by rw [start_some hn]; exact hbz, ZB.out, Away.of B1.out, fun k hk => .inl ((hF k).2 hk)⟩
      clear hbk hbz
      go_wp2
      go_meet
      exact LV.out
  case rest =>
    obtain ⟨q, n, Q, D, A, c, v, vb, d, hn, hd, hbz, hz, ha, hf⟩ := hcut
    obtain ⟨a1, a2, a3, a4, a5⟩ := start_ok hok HS.out
    have hst := a5 _ hn
    have hkp := kept_of a1 hst hn hd
    obtain ⟨r1, hr1⟩ : ∃ r1, startI r = r1 := ⟨_, rfl⟩
    rw [hr1] at hn hd hbz a1 a2 a3 hst hkp
    have hRz : w.heap.size ≤ wc.heap.size := ha.size
    have hZl : w.heap.size < wc.heap.size := hz.lt
    have hZF : ∀ k, FootB R Q D A v vb k → ¬ k = w.heap.size := fun k hk e => by
      rcases hf k hk with h | h
      · have := HL.out k h; omega
      · omega
    have hblen : r1.buf.length ≤ 4194304 := by rw [a3]; omega
    rw [hr1] at ht0
    have hff := ht0 q n hn
    have FI := ifinish_c R Q D A c v vb r1 q d wc hbz hd hkp.kind hkp.used hblen hkp.len (fun h => ⟨(hkp.ok h).1, by have := (hkp.ok h).2; omega⟩)
    have ff := @fin_false r1 q
    have ft := @fin_true r1 q
    obtain ⟨x, hx⟩ : ∃ x, finishI r1 q = x := ⟨_, rfl⟩
    rw [hx] at FI ff ft hff
    obtain ⟨b, q', r2⟩ := x
    unfold FinPost at FI
    simp only at FI ff ft
    have BZ := Lib.hid hbz
    have ZC := Lib.hid hz
    have AC := Lib.hid ha
    have FC := Lib.hid hf
    have ZF := Lib.hid hZF
    obtain rfl : b = true := hff
    obtain ⟨ftu, ftb, fts, ftm⟩ := ft rfl hkp.used hkp.len.1
    have hnx : nextI r = (q', true, 0, { r2 with buf := r2.buf.drop r2.used, now := none, used := 0 }) := next_yes HS.out hr1 hn hx
    have HNX := Lib.hid hnx
    simp only [if_true] at FI
    have FII := Lib.hid FI
    have hu2 : r2.used ≤ r2.buf.length := by rw [ftb]; exact ftu
    have hb2 : r2.buf.length ≤ 4194304 := by rw [ftb]; exact hblen
    clear FI ff ft hx hn hd hbz hz ha hf hZF a1 a2 a3 a4 a5 hkp hnx hok ftu ftb fts ftm hblen
    go_wp2_with fail
    refine FII.out.mono ?_
    rintro e1 w1 ⟨rfl, ha1, hdn⟩
    obtain ⟨⟨K, ba, vb', hbk⟩, hsh, hrq, han, hrow, hqr, har⟩ := hdn
    have zz1 := ha1.size
    have Z1 := Lib.hid (ZC.out.away hZl ha1 (fun e => ZF.out _ e rfl))
    have A1 : Hid (Away F w w1) := Lib.hid (AC.out.then ha1 (fun i hi h => by
      rcases FC.out i h with h' | h'
      · exact h'
      · omega))
    have c3' := hbk.c 3 _ rfl
    obtain ⟨Y, hY⟩ : ∃ Y, w1.heap.size = Y := ⟨_, rfl⟩
    obtain ⟨V1, hV1⟩ : ∃ V1, w1.alloc (.cells #[.string ⟨#[]⟩, .string ⟨#[]⟩, .int .i64 0, .string ⟨#[]⟩, .int .i64 0, .slice none 0 0, .int .i64 0, .string ⟨#[]⟩, .int .i64 0, .string ⟨#[]⟩, .string ⟨#[]⟩, .bool false, .string ⟨#[]⟩, .int .i64 0, .string ⟨#[]⟩, .bool false, .bool false, .string ⟨#[]⟩] 46) = V1 := ⟨_, rfl⟩
    have y1 : Blk V1 Y zeroQ := by rw [← hV1, ← hY]; exact Blk.new _ _ _ _ rfl
    have hV1z : V1.heap.size = Y + 1 := by rw [← hV1, ← hY]; simp
    obtain ⟨V2, hV2⟩ : ∃ V2, V1.setCells Y 0 (rqVs q' A c) = V2 := ⟨_, rfl⟩
    have hV2' : setsFrom V1 Y 0 (rqVs q' A c) = V2 := by rw [← sets_cells, hV2]
    have b2 : Below w1.heap.size w1 V2 := by
      have b1' : Below w1.heap.size w1 V1 := by rw [← hV1]; exact (Below.refl _ w1).alloc (Nat.le_refl _) _
      have a2' : Away (fun k => k = Y) V1 V2 := by rw [← hV2']; exact away_sets (fun k => k = Y) Y rfl (rqVs q' A c) 0 V1 V1 (Away.refl _ _)
      exact b1'.trans (a2'.below (B := w1.heap.size) (by omega) (fun k h => by omega))
    have RQ := Lib.hid hrq.range
    have TH := Lib.hid (y1.there (n := (rqVs q' A c).toArray.size) rfl)
    have HV1 := Lib.hid hV1
    have hRl : R < w1.heap.size := by omega
    have K2 := Lib.hid (hbk.below hRl b2)
    have S2 := Lib.hid ((shape_block (b2.block R hRl)).trans hsh)
    have Y2 : Hid (Blk V2 Y (rqVs q' A c)) := Lib.hid (by rw [← hV2']; exact y1.sets (rqVs q' A c) rfl)
    have Z2 := Lib.hid (Z1.out.below (by omega) b2)
    have O2 := Lib.hid (own_below hrow b2)
    have A2 := Lib.hid (A1.out.low b2)
    have HA := Lib.hid han
    have HAR := Lib.hid har
    have HV2 := Lib.hid hV2
    have HY := Lib.hid hY
    have hV2z : V2.heap.size = Y + 1 := by rw [← hV2', sets_size]; exact hV1z
    have hgA : ∀ g o, A = some ⟨g, o, none⟩ → g < w1.heap.size := fun g o hg => (hrow.lt g (by rw [hg]; rfl)).2
    have HGA := Lib.hid hgA
    clear ha1 hbk hsh hrq han hrow har b2 hV2 hV2' hgA hY hV1 y1
    go_upto_region 12 with (first | (refine wpList_load_mid rfl 46 (.tmp 74) rfl Q 0 rfl (rqVs q' A c) _ RQ.out Tryz.underlying46 rfl info_rq ?_) | (refine wpList_store_mid rfl 46 (.tmp 5) (.tmp 75) rfl Y 0 (rqVs q' A c).toArray (by first | rfl | (rw [← HY.out]; rfl)) rfl (by rw [HV1.out]; exact TH.out) info_rq (one_rq q' A c) ?_; rw [HV1.out]))
    rw [HV2.out]
    try simp only [Act.put]
    clear c3' HV2
    obtain ⟨t, ht⟩ : ∃ t, bs r2.buf = t := ⟨_, rfl⟩
    have htz : t.size ≤ 4194304 := by rw [← ht, bs_size]; exact hb2
    have hut : r2.used ≤ t.size := by rw [← ht, bs_size]; exact hu2
    have hex : t.extract r2.used t.size = bs (r2.buf.drop r2.used) := by
      rw [← ht, ← list_bs ((bs r2.buf).extract r2.used (bs r2.buf).size), ext_list, bs_list, List.take_of_length_le (by rw [List.length_drop, bs_size]; exact Nat.le_refl _)]
    have HE := Lib.hid hex
    have k2 := K2.out.c 2 _ rfl
    rw [ht] at k2
    have k3 := K2.out.c 3 _ rfl
    have k6 := K2.out.c 6 _ rfl
    have f2 := K2.out.fz 2
    have f3 := K2.out.fz 3
    have f6 := K2.out.fz 6
    clear hex hu2 hb2
    generalize r2.used = u at *
    go_region
    go_upto_region 14 with fail
    rw [HE.out, HY.out]
    obtain ⟨W, hW⟩ : ∃ W, (((V2.setCell ⟨R, 2, none⟩ (.string (bs (r2.buf.drop u)))).setCell ⟨R, 3, none⟩ (.pointer none)).setCell ⟨R, 6, none⟩ (.int .i64 0)).drew = W := ⟨_, rfl⟩
    have AW : Hid (Away (fun k => k = R) V2 W) := Lib.hid (by
      rw [← hW]
      exact ((((Away.refl _ V2).put (by exact rfl) _ _).put (by exact rfl) _ _).put (by exact rfl) _ _).drew)
    have KW : Hid (Blk W R [.int .i64 r2.most, .int .i64 r2.status, .string (bs (r2.buf.drop u)), .pointer none, .int .i64 r2.kind, .int .i64 r2.len, .int .i64 0, K, ba, vb']) := Lib.hid (by
      rw [← hW]
      exact (((K2.out.set 2 (by simp) _).set 3 (by simp) _).set 6 (by simp) _).drew)
    have SW : Hid (W.shape? R = some (114, 10)) := Lib.hid (by
      rw [← hW]
      show (((V2.setCell ⟨R, 2, none⟩ (.string (bs (r2.buf.drop u)))).setCell ⟨R, 3, none⟩ (.pointer none)).setCell ⟨R, 6, none⟩ (.int .i64 0)).shape? R = _
      rw [shape_set, shape_set, shape_set]
      exact S2.out)
    have zW : W.heap.size = V2.heap.size := by
      rw [← hW]
      show (((V2.setCell ⟨R, 2, none⟩ (.string (bs (r2.buf.drop u)))).setCell ⟨R, 3, none⟩ (.pointer none)).setCell ⟨R, 6, none⟩ (.int .i64 0)).heap.size = _
      simp [World.setCell]
    have hyw := HY.out
    have YW := Lib.hid (Y2.out.away (by omega) AW.out (by show ¬ Y = R; omega))
    have ZW := Lib.hid (Z2.out.away (by omega) AW.out (by show ¬ w.heap.size = R; omega))
    have OW := Lib.hid (own_away O2.out AW.out (fun k hk e => (HAR.out k 0 (row_at O2.out hk)).1 e))
    have HW := Lib.hid hW
    rw [HW.out]
    clear k2 k3 k6 f2 f3 f6 hW HW
    have hne : ¬ w.heap.size = Y := by omega
    have RY : Hid (W.rangeAt Y 0 [.string (bs q'.head.method), .string (bs q'.head.target), .int .i64 q'.head.status, .string (bs q'.head.reason), .int .i64 q'.head.minor, .slice A q'.head.fields.length c, .int .i64 q'.tg.form, .string (bs q'.tg.host), .int .i64 q'.tg.port, .string (bs q'.tg.path), .string (bs q'.tg.query), .bool q'.tg.has, .string (bs q'.host), .int .i64 q'.port, .string (bs q'.body), .bool q'.sized, .bool q'.keep, .string (bs q'.upg)]) := Lib.hid YW.out.range
    have TZ := Lib.hid (ZW.out.there (n := (rqVs q' A c).toArray.size) rfl)
    obtain ⟨U, hU⟩ : ∃ U, W.setCells w.heap.size 0 (rqVs q' A c) = U := ⟨_, rfl⟩
    have hU' : setsFrom W w.heap.size 0 (rqVs q' A c) = U := by rw [← sets_cells, hU]
    have ZU : Hid (Blk U w.heap.size (rqVs q' A c)) := Lib.hid (by rw [← hU']; exact ZW.out.sets (rqVs q' A c) rfl)
    have AU : Hid (Away (fun k => k = w.heap.size) W U) := Lib.hid (by rw [← hU']; exact away_sets (fun k => k = w.heap.size) w.heap.size rfl (rqVs q' A c) 0 W W (Away.refl _ _))
    have HU := Lib.hid hU
    clear hU hU'
    go_wp2_with (first | (refine wpList_load_mid rfl 46 (.tmp 5) rfl Y 0 rfl [.string (bs q'.head.method), .string (bs q'.head.target), .int .i64 q'.head.status, .string (bs q'.head.reason), .int .i64 q'.head.minor, .slice A q'.head.fields.length c, .int .i64 q'.tg.form, .string (bs q'.tg.host), .int .i64 q'.tg.port, .string (bs q'.tg.path), .string (bs q'.tg.query), .bool q'.tg.has, .string (bs q'.host), .int .i64 q'.port, .string (bs q'.body), .bool q'.sized, .bool q'.keep, .string (bs q'.upg)] _ RY.out Tryz.underlying46 rfl info_rq ?_; simp only [Act.put]) | (refine wpList_store_mid rfl 46 (.tmp 2) (.tmp 94) rfl w.heap.size 0 (rqVs q' A c).toArray rfl rfl TZ.out info_rq (one_rq q' A c) ?_; rw [HU.out]; try simp only [Act.put]))
    refine bodyPost_ret (ret_inext (q := q') (A := A) (c := c) ZU.out rfl rfl rfl) rfl ?_
    rw [HNX.out]
    have hgA : ∀ g o, A = some ⟨g, o, none⟩ → g ≠ w.heap.size := fun g o hg e => ZF.out g (.inr (.inr (.inr (.inr (.inr ⟨o, hg⟩))))) e
    have a1 := AU.out
    refine ⟨A, c, (fun k => k = R), rfl, HA.out, own_away OW.out a1 (fun k hk e => hgA k 0 (row_at O2.out hk) e), fun g o hg => ⟨(HAR.out g o hg).1, ?_⟩, .inl ⟨rfl, ⟨⟨_, _, _, K, ba, vb', KW.out.away (by omega) a1 (by show ¬ R = w.heap.size; omega)⟩, (shape_block (a1.block R (by omega) (by show ¬ R = w.heap.size; omega))).trans SW.out⟩, fun _ => Iff.rfl⟩, ?_, fun k hk => .inl (by rw [hk]; exact HI.out.self)⟩
    · rcases FC.out g (.inr (.inr (.inr (.inr (.inr ⟨o, hg⟩))))) with h | h
      · exact .inl h
      · exact .inr (by omega)
    · refine (A2.out.then AW.out (fun i _ hi => by rw [hi]; exact HI.out.self)).then a1 (fun i hi hh => ?_)
      omega
end Go.Proofs.YtgmjkkiahanekaaGreatDoor

