/- The texts InJ in one. -/
import Derived.Test.YtgmjkkiahanekaaGreatDoorM29
import Derived.Deep.DeepCutAuto
/- The contract of the reader's Next (layer 11), where its status is nought: a head that isn't whole or is wrong. -/
set_option linter.unusedVariables false
set_option linter.unusedSimpArgs false
namespace Go.Proofs.YtgmjkkiahanekaaGreatDoor
open Go.RowKit Lex

theorem breset_c (b o : Nat) (w : World) {u0 u1 : Value} (h0 : w.cell? ⟨b, o, none⟩ = some u0) (h1 : w.cell? ⟨b, o + 1, none⟩ = some u1) (f0 : w.frozen? ⟨b, o, none⟩ = false) (f1 : w.frozen? ⟨b, o + 1, none⟩ = false) :
    Calls Tryz.prog 57 #[.pointer (some ⟨b, o, none⟩)] w fun e w' => e = .returned (.tuple #[]) ∧ w' = (w.setCell ⟨b, o, none⟩ (.pointer none)).setCell ⟨b, o + 1, none⟩ (.slice none 0 0) := by
  go_enter Tryz.func57, Tryz.ntmps57
  go_wp2
  go_end0
  exact ⟨rfl, rfl⟩
/-- A request is kept, and the result's block lies beside. -/
def LiveAt (w : World) (R : Nat) (F : Nat → Prop) (r : In) (wx : World) : Prop :=
  ∃ q n Q D A c v vb d, (startI r).now = some (q, n) ∧ (startI r).dec = some d ∧ BusyAt wx R Q D A c v vb (startI r) q d ∧ Blk wx w.heap.size zeroQ ∧ Away F w wx ∧ (∀ k, FootB R Q D A v vb k → F k ∨ (w.heap.size < k ∧ k < wx.heap.size))
set_option maxRecDepth 100000 in
set_option maxHeartbeats 8000000 in
theorem inext_fail (R : Nat) (r : In) (F : Nat → Prop) (M : Int) (w : World) (h : InAt w R r F) (hok : r.Ok) (hs : r.status = 0) (hb : r.buf.length ≤ 4194000) (hmx : w.cell? ⟨0, 0, none⟩ = some (.int .i64 M)) (h0 : ¬ F 0) (hz : (startI r).now = none) :
    Calls Tryz.prog 26 #[.pointer (some ⟨R, 0, none⟩)] w (NextI w R F (nextI r)) := by
  have hR := h.lt R h.self
  have HL := Lib.hid h.lt
  obtain ⟨V, hV⟩ : ∃ V, w.alloc (.cells #[.string ⟨#[]⟩, .string ⟨#[]⟩, .int .i64 0, .string ⟨#[]⟩, .int .i64 0, .slice none 0 0, .int .i64 0, .string ⟨#[]⟩, .int .i64 0, .string ⟨#[]⟩, .string ⟨#[]⟩, .bool false, .string ⟨#[]⟩, .int .i64 0, .string ⟨#[]⟩, .bool false, .bool false, .string ⟨#[]⟩] 46) = V := ⟨_, rfl⟩
  have b1 : Below w.heap.size w V := by rw [← hV]; exact (Below.refl _ w).alloc (Nat.le_refl _) _
  have HI := Lib.hid (h.below b1)
  have c1 := HI.out.three.c1
  rw [hs] at c1
  have ZB : Hid (Blk V w.heap.size zeroQ) := Lib.hid (by rw [← hV]; exact Blk.new _ _ _ _ rfl)
  have B1 := Lib.hid b1
  have HV := Lib.hid hV
  have MV := Lib.hid (cell_below b1 hmx)
  have HS := Lib.hid hs
  have hVz : V.heap.size = w.heap.size + 1 := by rw [← hV]; simp
  obtain ⟨p, c3⟩ : ∃ p, V.cell? ⟨R, 3, none⟩ = some (.pointer p) := by
    rcases HI.out with ⟨_, ⟨⟨k, l, u, K, ba, vb, hb⟩, _⟩, _⟩ | ⟨q, n, Q, D, A, c, v, vb, d, _, _, hb, _⟩
    · exact ⟨_, hb.c 3 _ rfl⟩
    · obtain ⟨ba, hb⟩ := hb.blk
      exact ⟨_, hb.c 3 _ rfl⟩
  have C3 := Lib.hid c3
  clear h b1 hs hV hmx
  go_enter Tryz.func26, Tryz.ntmps26
  go_upto_region 1 with fail
  rw [HV.out]
  rcases HI.out with ⟨hn, hi, hF⟩ | ⟨q, n, Q, D, A, c, v, vb, d, hn, hd, hbz, hF⟩
  · obtain ⟨⟨k, l, u, K, ba, vb, hbk⟩, hsh⟩ := hi
    have hp : p = none := by
      have := c3.symm.trans (hbk.c 3 _ rfl)
      injection this with this
      injection this
    subst hp
    have hst : startI r = beginI r := start_none hn
    have T3 := HI.out.three
    have hF0 : ¬ (0 : Nat) = R := fun e => h0 ((hF 0).2 e)
    have BG := Lib.hid (ibegin_c R r M V hb T3 MV.out)
    have HBK := Lib.hid hbk
    have HSH := Lib.hid hsh
    obtain ⟨y, hy⟩ : ∃ y, beginL r.most r.buf = y := ⟨_, rfl⟩
    rw [hy] at BG
    have HY := Lib.hid hy
    obtain ⟨_ | ⟨q, k2, l2, n⟩, e⟩ := y
    · have hbi : beginI r = { r with now := none, kind := 0, len := 0, used := 0, status := e } := by unfold beginI; rw [hy]
      have hnx : nextI r = ({}, false, e, { r with now := none, kind := 0, len := 0, used := 0, status := e }) := next_none HS.out (hst.trans hbi) rfl
      have HNX := Lib.hid hnx
      clear hy hbk hsh T3 hst hbi hnx
      go_wp2_with fail
      refine BG.out.mono ?_
      rintro e1 w1 ⟨rfl, hb1⟩
      have K1 := Lib.hid (HBK.out.below (by omega) hb1)
      have S1 := Lib.hid ((shape_block (hb1.block R (by omega))).trans HSH.out)
      have k3 := K1.out.c 3 _ rfl
      have k4 := K1.out.c 4 _ rfl
      have k5 := K1.out.c 5 _ rfl
      have k6 := K1.out.c 6 _ rfl
      have k1 := K1.out.c 1 _ rfl
      have f1 := K1.out.fz 1
      have f3 := K1.out.fz 3
      have f4 := K1.out.fz 4
      have f5 := K1.out.fz 5
      have f6 := K1.out.fz 6
      obtain ⟨W, hW⟩ : ∃ W, ((((w1.setCell ⟨R, 3, none⟩ (.pointer none)).setCell ⟨R, 4, none⟩ (.int .i64 0)).setCell ⟨R, 5, none⟩ (.int .i64 0)).setCell ⟨R, 6, none⟩ (.int .i64 0)).setCell ⟨R, 1, none⟩ (.int .i64 e) = W := ⟨_, rfl⟩
      have KW : Hid (Blk W R [.int .i64 r.most, .int .i64 e, .string (bs r.buf), .pointer none, .int .i64 0, .int .i64 0, .int .i64 0, K, ba, vb]) := Lib.hid (by
        rw [← hW]
        exact ((((K1.out.set 3 (by simp) _).set 4 (by simp) _).set 5 (by simp) _).set 6 (by simp) _).set 1 (by simp) _)
      have SW : Hid (W.shape? R = some (114, 10)) := Lib.hid (by
        rw [← hW]
        simp only [shape_set]
        exact S1.out)
      have AW : Hid (Away (fun k => k = R) w1 W) := Lib.hid (by
        rw [← hW]
        exact (((((Away.refl _ w1).put (by exact rfl) _ _).put (by exact rfl) _ _).put (by exact rfl) _ _).put (by exact rfl) _ _).put (by exact rfl) _ _)
      have zw1 := hb1.size
      have ZW := Lib.hid ((ZB.out.below (by omega) hb1).away (by omega) AW.out (by show ¬ w.heap.size = R; omega))
      have IW : Hid (InAt W R { r with now := none, kind := 0, len := 0, used := 0, status := e } F) := Lib.hid (.inl ⟨rfl, ⟨⟨0, 0, 0, K, ba, vb, KW.out⟩, SW.out⟩, hF⟩)
      have AF : Hid (Away F w W) := Lib.hid ((Away.of (B1.out.trans (hb1.mono (by omega)))).then AW.out (fun i _ hi => (hF i).2 hi))
      have HW := Lib.hid hW
      clear hW hb1 HBK HSH
      go_upto_region 5 with fail
      rw [HW.out]
      clear k1 k3 k4 k5 k6 f1 f3 f4 f5 f6 HW K1 S1
      have k3 := KW.out.c 3 _ rfl
      have k1 := KW.out.c 1 _ rfl
      have hne : ¬ w.heap.size = R := by omega
      have d0 := ZW.out.c 0 _ rfl
      have d1 := ZW.out.c 1 _ rfl
      have d2 := ZW.out.c 2 _ rfl
      have d3 := ZW.out.c 3 _ rfl
      have d4 := ZW.out.c 4 _ rfl
      have d5 := ZW.out.c 5 _ rfl
      have d6 := ZW.out.c 6 _ rfl
      have d7 := ZW.out.c 7 _ rfl
      have d8 := ZW.out.c 8 _ rfl
      have d9 := ZW.out.c 9 _ rfl
      have d10 := ZW.out.c 10 _ rfl
      have d11 := ZW.out.c 11 _ rfl
      have d12 := ZW.out.c 12 _ rfl
      have d13 := ZW.out.c 13 _ rfl
      have d14 := ZW.out.c 14 _ rfl
      have d15 := ZW.out.c 15 _ rfl
      have d16 := ZW.out.c 16 _ rfl
      have d17 := ZW.out.c 17 _ rfl
      have g0 := ZW.out.fz 0
      have g1 := ZW.out.fz 1
      have g2 := ZW.out.fz 2
      have g3 := ZW.out.fz 3
      have g4 := ZW.out.fz 4
      have g5 := ZW.out.fz 5
      have g6 := ZW.out.fz 6
      have g7 := ZW.out.fz 7
      have g8 := ZW.out.fz 8
      have g9 := ZW.out.fz 9
      have g10 := ZW.out.fz 10
      have g11 := ZW.out.fz 11
      have g12 := ZW.out.fz 12
      have g13 := ZW.out.fz 13
      have g14 := ZW.out.fz 14
      have g15 := ZW.out.fz 15
      have g16 := ZW.out.fz 16
      have g17 := ZW.out.fz 17
      go_wp2
      go_region
      all_goals
        go_wp2
        refine bodyPost_ret (ret_inext (q := {}) (A := none) (c := 0) (Blk.drew (ZW.out.sets zeroQ rfl)) rfl rfl rfl) rfl ?_
        rw [HNX.out]
        exact zero_post IW.out rfl AF.out (fun k h => .inl h) HL.out
    · have hbi : beginI r = { r with now := some (q, n), kind := k2, len := l2, used := n, dec := some { most := r.most }, body := [] } := by unfold beginI; rw [hy]
      rw [hst, hbi] at hz
      cases hz
  · rw [start_some hn, hn] at hz
    cases hz
end Go.Proofs.YtgmjkkiahanekaaGreatDoor

