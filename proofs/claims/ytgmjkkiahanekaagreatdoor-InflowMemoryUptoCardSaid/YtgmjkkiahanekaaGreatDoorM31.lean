/- The texts InK in one. -/
import Derived.Test.YtgmjkkiahanekaaGreatDoorM29
import Derived.Test.YtgmjkkiahanekaaGreatDoorM30
import Derived.Deep.DeepCutAuto
/- The contract of the reader's Next (layer 11), where its status is nought: a body that isn't whole or is wrong. -/
set_option linter.unusedVariables false
set_option linter.unusedSimpArgs false
namespace Go.Proofs.YtgmjkkiahanekaaGreatDoor
open Go.RowKit Lex

set_option maxRecDepth 100000 in
set_option maxHeartbeats 8000000 in
theorem inext_more (R : Nat) (r : In) (F : Nat → Prop) (M : Int) (w : World) (h : InAt w R r F) (hok : r.Ok) (hs : r.status = 0) (hb : r.buf.length ≤ 4194000) (hmx : w.cell? ⟨0, 0, none⟩ = some (.int .i64 M)) (h0 : ¬ F 0) (hz : (startI r).now ≠ none) (hf0 : ∀ q n, (startI r).now = some (q, n) → (finishI (startI r) q).1 = false) :
    Calls Tryz.prog 26 #[.pointer (some ⟨R, 0, none⟩)] w (NextI w R F (nextI r)) := by
  have hR := h.lt R h.self
  have HL := Lib.hid h.lt
  obtain ⟨V, hV⟩ : ∃ V, w.alloc (.cells #[.string ⟨#[]⟩, .string ⟨#[]⟩, .int .i64 0, .string ⟨#[]⟩, .int .i64 0, .slice none 0 0, .int .i64 0, .string ⟨#[]⟩, .int .i64 0, .string ⟨#[]⟩, .string ⟨#[]⟩, .bool false, .string ⟨#[]⟩, .int .i64 0, .string ⟨#[]⟩, .bool false, .bool false, .string ⟨#[]⟩] 46) = V := ⟨_, rfl⟩
  have b1 : Below w.heap.size w V := by rw [← hV]; exact (Below.refl _ w).alloc (Nat.le_refl _) _
  have HI := Lib.hid (h.below b1)
  have c1 := HI.out.three.c1
  rw [hs] at c1
  have ZB : Hid (Blk V w.heap.size zeroQ) := Lib.hid (by rw [← hV]; exact Blk.new _ _ _ _ rfl)
  have B1 := Lib.hid b1
  have HV := Lib.hid hV
  have MV := Lib.hid (cell_below b1 hmx)
  have HS := Lib.hid hs
  have hVz : V.heap.size = w.heap.size + 1 := by rw [← hV]; simp
  obtain ⟨p, c3⟩ : ∃ p, V.cell? ⟨R, 3, none⟩ = some (.pointer p) := by
    rcases HI.out with ⟨_, ⟨⟨k, l, u, K, ba, vb, hb⟩, _⟩, _⟩ | ⟨q, n, Q, D, A, c, v, vb, d, _, _, hb, _⟩
    · exact ⟨_, hb.c 3 _ rfl⟩
    · obtain ⟨ba, hb⟩ := hb.blk
      exact ⟨_, hb.c 3 _ rfl⟩
  have C3 := Lib.hid c3
  clear h b1 hs hV hmx
  go_enter Tryz.func26, Tryz.ntmps26
  go_upto_region 1 with fail
  rw [HV.out]
  go_upto_if 20 with fail
  go_cut [] (fun wx => LiveAt w R F r wx)
  case first =>
    rcases HI.out with ⟨hn, hi, hF⟩ | ⟨q, n, Q, D, A, c, v, vb, d, hn, hd, hbz, hF⟩
    · obtain ⟨⟨k, l, u, K, ba, vb, hbk⟩, hsh⟩ := hi
      have hp : p = none := by
        have := c3.symm.trans (hbk.c 3 _ rfl)
        injection this with this
        injection this
      subst hp
      have hst : startI r = beginI r := start_none hn
      have T3 := HI.out.three
      have hF0 : ¬ (0 : Nat) = R := fun e => h0 ((hF 0).2 e)
      have BG := Lib.hid (ibegin_c R r M V hb T3 MV.out)
      have HBK := Lib.hid hbk
      have HSH := Lib.hid hsh
      obtain ⟨y, hy⟩ : ∃ y, beginL r.most r.buf = y := ⟨_, rfl⟩
      rw [hy] at BG
      have HY := Lib.hid hy
      obtain ⟨_ | ⟨q, k2, l2, n⟩, e⟩ := y
      · have hbi : beginI r = { r with now := none, kind := 0, len := 0, used := 0, status := e } := by unfold beginI; rw [hy]
        rw [hst, hbi] at hz
        exact absurd rfl hz
      · have he0 : e = 0 := (begin_pos hy).2.2.2.1
        subst he0
        have hbi : beginI r = { r with now := some (q, n), kind := k2, len := l2, used := n, dec := some { most := r.most }, body := [] } := by unfold beginI; rw [hy]
        have HBI := Lib.hid (hst.trans hbi)
        clear hy hbk hsh T3 hst hbi
        go_wp2_with fail
        refine BG.out.mono ?_
        rintro e1 w1 ⟨Q, A, c, rfl, hq, hA, hown, hb1, hQ, hAQ⟩
        have K1 := Lib.hid (HBK.out.below (by omega) hb1)
        have S1 := Lib.hid ((shape_block (hb1.block R (by omega))).trans HSH.out)
        have k3 := K1.out.c 3 _ rfl
        have k4 := K1.out.c 4 _ rfl
        have k5 := K1.out.c 5 _ rfl
        have k6 := K1.out.c 6 _ rfl
        have k1 := K1.out.c 1 _ rfl
        have f1 := K1.out.fz 1
        have f3 := K1.out.fz 3
        have f4 := K1.out.fz 4
        have f5 := K1.out.fz 5
        have f6 := K1.out.fz 6
        have zw1 := hb1.size
        have hqw : Q < w1.heap.size := World.block_lt_of_cell? w1 _ (hq.c 0 _ rfl)
        obtain ⟨W, hW⟩ : ∃ W, ((((w1.setCell ⟨R, 3, none⟩ (.pointer (some ⟨Q, 0, none⟩))).setCell ⟨R, 4, none⟩ (.int .i64 k2)).setCell ⟨R, 5, none⟩ (.int .i64 l2)).setCell ⟨R, 6, none⟩ (.int .i64 (n : Int))).setCell ⟨R, 1, none⟩ (.int .i64 0) = W := ⟨_, rfl⟩
        have KW : Hid (Blk W R [.int .i64 r.most, .int .i64 0, .string (bs r.buf), .pointer (some ⟨Q, 0, none⟩), .int .i64 k2, .int .i64 l2, .int .i64 (n : Int), K, ba, vb]) := Lib.hid (by
          rw [← hW]
          exact ((((K1.out.set 3 (by simp) _).set 4 (by simp) _).set 5 (by simp) _).set 6 (by simp) _).set 1 (by simp) _)
        have SW : Hid (W.shape? R = some (114, 10)) := Lib.hid (by
          rw [← hW]
          simp only [shape_set]
          exact S1.out)
        have AW : Hid (Away (fun k => k = R) w1 W) := Lib.hid (by
          rw [← hW]
          exact (((((Away.refl _ w1).put (by exact rfl) _ _).put (by exact rfl) _ _).put (by exact rfl) _ _).put (by exact rfl) _ _).put (by exact rfl) _ _)
        have zW := AW.out.size
        have ZW := Lib.hid ((ZB.out.below (by omega) hb1).away (by omega) AW.out (by show ¬ w.heap.size = R; omega))
        have QW := Lib.hid (hq.away hqw AW.out (by show ¬ Q = R; omega))
        have OW := Lib.hid (own_away hown AW.out (fun k hk e => by have := (hown.lt k hk).1; omega))
        have AF : Hid (Away F w W) := Lib.hid ((Away.of (B1.out.trans (hb1.mono (by omega)))).then AW.out (fun i _ hi => (hF i).2 hi))
        have HW := Lib.hid hW
        have HA := Lib.hid hA
        have HAQ := Lib.hid hAQ
        have hg1 : ∀ g o, A = some ⟨g, o, none⟩ → V.heap.size ≤ g ∧ g < w1.heap.size := fun g o hg => hown.lt g (by rw [hg]; rfl)
        have HG1 := Lib.hid hg1
        clear hW hb1 HBK HSH hq hown hA hAQ hg1
        go_upto_region 5 with fail
        rw [HW.out]
        clear k1 k3 k4 k5 k6 f1 f3 f4 f5 f6 HW K1 S1
        have k0 := KW.out.c 0 _ rfl
        have k3 := KW.out.c 3 _ rfl
        have CN := Lib.hid (cnew_c r.most W)
        go_wp2_with fail
        refine CN.out.mono ?_
        rintro e2 w2 ⟨rfl, hd2, hb2, hz2⟩
        have K2 := Lib.hid (KW.out.below (by omega) hb2)
        have k7 := K2.out.c 7 _ rfl
        have f7 := K2.out.fz 7
        obtain ⟨W2, hW2⟩ : ∃ W2, w2.setCell ⟨R, 7, none⟩ (.pointer (some ⟨W.heap.size, 0, none⟩)) = W2 := ⟨_, rfl⟩
        have K3 : Hid (Blk W2 R [.int .i64 r.most, .int .i64 0, .string (bs r.buf), .pointer (some ⟨Q, 0, none⟩), .int .i64 k2, .int .i64 l2, .int .i64 (n : Int), .pointer (some ⟨W.heap.size, 0, none⟩), ba, vb]) := Lib.hid (by rw [← hW2]; exact K2.out.set 7 (by simp) _)
        have A3 : Hid (Away (fun k => k = R) w2 W2) := Lib.hid (by rw [← hW2]; exact (Away.refl _ w2).put (by exact rfl) _ _)
        have zz2 := hb2.size
        have zz3 := A3.out.size
        have S3 : Hid (W2.shape? R = some (114, 10)) := Lib.hid (by
          rw [← hW2, shape_set]
          exact (shape_block (hb2.block R (by omega))).trans SW.out)
        have D3 := Lib.hid (hd2.away A3.out (by show ¬ W.heap.size = R; omega) (fun k hk => by cases hk))
        have Z3 := Lib.hid ((ZW.out.below (by omega) hb2).away (by omega) A3.out (by show ¬ w.heap.size = R; omega))
        have Q3 := Lib.hid ((QW.out.below (by omega) hb2).away (by omega) A3.out (by show ¬ Q = R; omega))
        have O3 := Lib.hid (own_away (own_below OW.out hb2) A3.out (fun k hk e => by have := (OW.out.lt k hk).1; omega))
        have F3 := Lib.hid ((AF.out.low hb2).then A3.out (fun i _ hi => (hF i).2 hi))
        have HW2 := Lib.hid hW2
        have RS := Lib.hid (breset_c R 8 W2 (K3.out.c 8 _ rfl) (K3.out.c 9 _ rfl) (K3.out.fz 8) (K3.out.fz 9))
        clear hW2 hb2 hd2
        go_upto_region 8 with fail
        rw [HW2.out]
        clear k7 f7 HW2 K2
        go_wp2_with fail
        refine RS.out.mono ?_
        rintro e3 w3 ⟨rfl, hw3⟩
        have A4 : Away (fun k => k = R) W2 w3 := by rw [hw3]; exact ((Away.refl _ W2).put (by exact rfl) _ _).put (by exact rfl) _ _
        have K4 : Blk w3 R [.int .i64 r.most, .int .i64 0, .string (bs r.buf), .pointer (some ⟨Q, 0, none⟩), .int .i64 k2, .int .i64 l2, .int .i64 (n : Int), .pointer (some ⟨W.heap.size, 0, none⟩), .pointer none, .slice none 0 0] := by
          rw [hw3]; exact (K3.out.set 8 (by simp) _).set 9 (by simp) _
        have S4 : w3.shape? R = some (114, 10) := by rw [hw3, shape_set, shape_set]; exact S3.out
        have zz4 := A4.size
        have hoA : ∀ g o, A = some ⟨g, o, none⟩ → V.heap.size ≤ g ∧ g < w1.heap.size := HG1.out
        have hb4 : BusyAt w3 R Q W.heap.size A c (.slice none 0 0) (.slice none 0 0) (startI r) q { most := r.most } := by
          rw [HBI.out]
          refine ⟨⟨.pointer none, ?_⟩, ⟨S4, .inl (K4.c 8 _ rfl), K4.c 9 _ rfl, K4.fz, World.ownsRow_nil _ _ _ _, fun e => (by cases e), fun _ => rfl⟩, Q3.out.away (by omega) A4 (by show ¬ Q = R; omega), HA.out, ?_, D3.out.away A4 (by show ¬ W.heap.size = R; omega) (fun k hk => by cases hk), by omega, by omega, by omega, fun k hk => (by cases hk), fun k hk => (by cases hk), fun g o hg => ?_⟩
          · have := HS.out
            show Blk w3 R [.int .i64 r.most, .int .i64 r.status, .string (bs r.buf), .pointer (some ⟨Q, 0, none⟩), .int .i64 k2, .int .i64 l2, .int .i64 (n : Int), .pointer (some ⟨W.heap.size, 0, none⟩), .pointer none, .slice none 0 0]
            rw [this]
            exact K4
          · exact own_from (own_away O3.out A4 (fun k hk e => by have := (OW.out.lt k hk).1; omega)) (by omega)
          · have h1 := hoA g o hg
            exact ⟨by omega, HAQ.out g o hg, by omega, fun e => (by cases e), fun e => (by cases e)⟩
        have LV : Hid (LiveAt w R F r w3) := Lib.hid ⟨q, n, Q, W.heap.size, A, c, _, _, _, by rw [HBI.out], by rw [HBI.out], hb4, Z3.out.away (by omega) A4 (by show ¬ w.heap.size = R; omega), F3.out.then A4 (fun i _ hi => (hF i).2 hi), fun k hk => by
          rcases hk with rfl | rfl | rfl | e | e | ⟨o, e⟩
          · exact .inl ((hF _).2 rfl)
          · exact .inr ⟨by omega, by omega⟩
          · exact .inr ⟨by omega, by omega⟩
          · cases e
          · cases e
          · have := hoA k o e; exact .inr ⟨by omega, by omega⟩⟩
        clear hw3 A4 K4 S4 hb4 hoA
        go_wp2
        go_meet
        exact LV.out
    · obtain ⟨ba, hbk⟩ := hbz.blk
      have hp : p = some ⟨Q, 0, none⟩ := by
        have := c3.symm.trans (hbk.c 3 _ rfl)
        injection this with this
        injection this
      subst hp
      have LV : Hid (LiveAt w R F r V) := Lib.hid ⟨q, n, Q, D, A, c, v, vb, d, by rw [start_some hn]; exact hn, by rw [start_some hn]; exact hd, by rw [start_some hn]; exact hbz, ZB.out, Away.of B1.out, fun k hk => .inl ((hF k).2 hk)⟩
      clear hbk hbz
      go_wp2
      go_meet
      exact LV.out
  case rest =>
    obtain ⟨q, n, Q, D, A, c, v, vb, d, hn, hd, hbz, hz, ha, hf⟩ := hcut
    obtain ⟨a1, a2, a3, a4, a5⟩ := start_ok hok HS.out
    have hst := a5 _ hn
    have hkp := kept_of a1 hst hn hd
    obtain ⟨r1, hr1⟩ : ∃ r1, startI r = r1 := ⟨_, rfl⟩
    rw [hr1] at hn hd hbz a1 a2 a3 hst hkp
    have hRz : w.heap.size ≤ wc.heap.size := ha.size
    have hZl : w.heap.size < wc.heap.size := hz.lt
    have hZF : ∀ k, FootB R Q D A v vb k → ¬ k = w.heap.size := fun k hk e => by
      rcases hf k hk with h | h
      · have := HL.out k h; omega
      · omega
    have hblen : r1.buf.length ≤ 4194304 := by rw [a3]; omega
    rw [hr1] at hf0
    have hff := hf0 q n hn
    have FI := ifinish_c R Q D A c v vb r1 q d wc hbz hd hkp.kind hkp.used hblen hkp.len (fun h => ⟨(hkp.ok h).1, by have := (hkp.ok h).2; omega⟩)
    have ff := @fin_false r1 q
    have ft := @fin_true r1 q
    obtain ⟨x, hx⟩ : ∃ x, finishI r1 q = x := ⟨_, rfl⟩
    rw [hx] at FI ff ft hff
    obtain ⟨b, q', r2⟩ := x
    unfold FinPost at FI
    simp only at FI ff ft
    have BZ := Lib.hid hbz
    have ZC := Lib.hid hz
    have AC := Lib.hid ha
    have FC := Lib.hid hf
    have ZF := Lib.hid hZF
    obtain rfl : b = false := hff
    obtain ⟨ffq, ffn⟩ := ff rfl
    subst ffq
    have hnx : nextI r = ({}, false, r2.status, r2) := next_no HS.out hr1 hn hx
    have HNX := Lib.hid hnx
    have HN2 := Lib.hid (ffn.trans hn)
    simp only [Bool.false_eq_true, if_false] at FI
    have FII := Lib.hid FI
    clear FI ff ft hx hn hd hbz hz ha hf hZF a1 a2 a3 a4 a5 hkp ffn hnx hok
    go_wp2_with fail
    refine FII.out.mono ?_
    rintro e1 w1 ⟨rfl, ha1, v1, vb1, d1, hd1, hb1, hv1, hvb1⟩
    have zz1 := ha1.size
    have Z1 := Lib.hid (ZC.out.away hZl ha1 (fun e => ZF.out _ e rfl))
    have I1 : Hid (InAt w1 R r2 (FootB R Q D A v1 vb1)) := Lib.hid (.inr ⟨q', n, Q, D, A, c, v1, vb1, d1, HN2.out, hd1, hb1, fun _ => Iff.rfl⟩)
    have A1 : Hid (Away F w w1) := Lib.hid (AC.out.then ha1 (fun i hi h => by
      rcases FC.out i h with h' | h'
      · exact h'
      · omega))
    have F1 : Hid (∀ k, FootB R Q D A v1 vb1 k → F k ∨ (w.heap.size < k ∧ k < w1.heap.size)) := Lib.hid (fun k hk => by
      have old : FootB R Q D A v vb k → F k ∨ (w.heap.size < k ∧ k < w1.heap.size) := fun h => (FC.out k h).imp id (fun h => ⟨h.1, by omega⟩)
      rcases hk with h | h | h | h | h | h
      · exact old (.inl h)
      · exact old (.inr (.inl h))
      · exact old (.inr (.inr (.inl h)))
      · rcases hv1 k h with h' | h'
        · exact old (.inr (.inr (.inr (.inl h'))))
        · exact .inr ⟨by omega, h'.2⟩
      · rcases hvb1 k h with h' | h'
        · exact old (.inr (.inr (.inr (.inr (.inl h')))))
        · exact .inr ⟨by omega, h'.2⟩
      · exact old (.inr (.inr (.inr (.inr (.inr h))))))
    have k1 := I1.out.three.c1
    have hne : ¬ w.heap.size = R := by omega
    have d0 := Z1.out.c 0 _ rfl
    have d1 := Z1.out.c 1 _ rfl
    have d2 := Z1.out.c 2 _ rfl
    have d3 := Z1.out.c 3 _ rfl
    have d4 := Z1.out.c 4 _ rfl
    have d5 := Z1.out.c 5 _ rfl
    have d6 := Z1.out.c 6 _ rfl
    have d7 := Z1.out.c 7 _ rfl
    have d8 := Z1.out.c 8 _ rfl
    have d9 := Z1.out.c 9 _ rfl
    have d10 := Z1.out.c 10 _ rfl
    have d11 := Z1.out.c 11 _ rfl
    have d12 := Z1.out.c 12 _ rfl
    have d13 := Z1.out.c 13 _ rfl
    have d14 := Z1.out.c 14 _ rfl
    have d15 := Z1.out.c 15 _ rfl
    have d16 := Z1.out.c 16 _ rfl
    have d17 := Z1.out.c 17 _ rfl
    have g0 := Z1.out.fz 0
    have g1 := Z1.out.fz 1
    have g2 := Z1.out.fz 2
    have g3 := Z1.out.fz 3
    have g4 := Z1.out.fz 4
    have g5 := Z1.out.fz 5
    have g6 := Z1.out.fz 6
    have g7 := Z1.out.fz 7
    have g8 := Z1.out.fz 8
    have g9 := Z1.out.fz 9
    have g10 := Z1.out.fz 10
    have g11 := Z1.out.fz 11
    have g12 := Z1.out.fz 12
    have g13 := Z1.out.fz 13
    have g14 := Z1.out.fz 14
    have g15 := Z1.out.fz 15
    have g16 := Z1.out.fz 16
    have g17 := Z1.out.fz 17
    clear ha1 hd1 hb1 hv1 hvb1
    go_wp2
    go_region
    all_goals
      go_wp2
      refine bodyPost_ret (ret_inext (q := {}) (A := none) (c := 0) (Blk.drew (Z1.out.sets zeroQ rfl)) rfl rfl rfl) rfl ?_
      rw [HNX.out]
      exact zero_post I1.out rfl A1.out F1.out HL.out
end Go.Proofs.YtgmjkkiahanekaaGreatDoor

