/- The texts OutI in one. -/
import Derived.Test.YtgmjkkiahanekaaDoorM21
import Derived.Test.YtgmjkkiahanekaaDoorM25
/- The plain law of OutflowHead: a response without a body ends with its head. -/
set_option linter.unusedVariables false
set_option linter.unusedSimpArgs false
namespace Go.Proofs.YtgmjkkiahanekaaDoor
open Lex

def methW (i : Nat) : List UInt8 := if i = 0 then [72, 69, 65, 68] else if i = 1 then [71, 69, 84] else [80, 85, 84]
def codeW (i : Nat) : List UInt8 := if i = 0 then [50, 48, 48] else if i = 1 then [50, 48, 52] else [51, 48, 52]
def fieldW (j : Nat) : List UInt8 := if j = 0 then [] else if j = 1 then [67, 111, 110, 116, 101, 110, 116, 45, 76, 101, 110, 103, 116, 104, 58, 32, 53, 13, 10]
  else if j = 2 then [84, 114, 97, 110, 115, 102, 101, 114, 45, 69, 110, 99, 111, 100, 105, 110, 103, 58, 32, 99, 104, 117, 110, 107, 101, 100, 13, 10] else [67, 111, 110, 116, 101, 110, 116, 45, 76, 101, 110, 103, 116, 104, 58, 32, 120, 13, 10]
def headW (i j : Nat) : List UInt8 := [72, 84, 84, 80, 47, 49, 46, 49, 32] ++ codeW i ++ [32, 88, 13, 10] ++ fieldW j ++ [13, 10]
def goodW (i j : Nat) : Bool :=
  decide ((readAt statusL (headW i j)).2.2 = 0) && decide ((readAt statusL (headW i j)).2.1 = (headW i j).length) && decide (200 ≤ (readAt statusL (headW i j)).1.status)
   && decide (respF (methW i) (readAt statusL (headW i j)).1.status (readAt statusL (headW i j)).1.minor (readAt statusL (headW i j)).1.fields = (1, 0, 0))
   && keepF (readAt statusL (headW i j)).1.minor (readAt statusL (headW i j)).1.fields
theorem good_all : ∀ i, i < 3 → ∀ j, j < 4 → goodW i j = true := by decide +kernel
theorem headW_pos (i j : Nat) : 0 < (headW i j).length := by unfold headW; simp
/-- What Next tells of such a response. -/
structure HeadTold (me t : List UInt8) (B : List UInt8) (p : Pc) (r1 : Rd) : Prop where
  next : nextR (feedR { method := me } (B ++ t)) = (p, true, 0, r1)
  kind : p.kind = 1
  end1 : nextR r1 = ({ kind := 3 }, true, 0, endR r1)
  mode : r1.mode = 4
  ended : (endR r1).ended = true
  idle : nextR (endR r1) = ({}, false, 0, endR r1)
  buf : r1.buf = t
  reus : reusR (endR r1) = decide (t = [])
theorem head_told (i j : Nat) (hi : i < 3) (hj : j < 4) (t : List UInt8) : ∃ p r1, HeadTold (methW i) t (headW i j) p r1 := by
  have g := good_all i hi j hj
  unfold goodW at g
  simp only [Bool.and_eq_true, decide_eq_true_eq] at g
  obtain ⟨⟨⟨⟨g1, g2⟩, g3⟩, g4⟩, g5⟩ := g
  have hm := status_more t (B := headW i j) (.inr (by rw [g2]; exact headW_pos i j))
  have hf : feedR { method := methW i } (headW i j ++ t) = { method := methW i, buf := headW i j ++ t } := rfl
  have hr : headsR (methW i) ((headW i j ++ t).length + 1) (headW i j ++ t) = (some ((readAt statusL (headW i j)).1, 1, 0), 0, t) := by
    unfold headsR
    rw [hm, g1, g2, g4, if_neg (fun h => h.elim (fun h => h rfl) (fun h => by have := headW_pos i j; omega)), if_neg (by simp), if_neg (by omega), List.drop_left]
  have hn := next_0h (r := { method := methW i, buf := headW i j ++ t }) (by simp) rfl hr
  refine ⟨_, _, ⟨by rw [hf]; exact hn, rfl, next_4 (by simp [headed]) (by simp [headed]), by simp [headed], rfl, ?_, by simp [headed], ?_⟩⟩
  · rw [next_idle (.inl rfl)]; simp [endR, headed]
  · unfold reusR; simp [endR, headed, g5]
open Go.RowKit
theorem below_al {W w : World} (h : Below W.heap.size W w) (o : Obj) : Below W.heap.size W (w.alloc o) := h.alloc h.size o
theorem ToAt.al {w0 wr : World} {R D : Nat} {v : Value} {r : Rd} {b : List UInt8} {N : Nat} (h : ToAt w0 wr R D v r b N) (o : Obj) : ToAt w0 (wr.alloc o) R D v r b N :=
  ⟨h.rd.below ((Below.refl _ _).alloc (Nat.le_refl _) _), h.ok, h.bytes, h.below.alloc h.below.size _, h.low⟩
/-- New, packed. -/
theorem new_to (me : List UInt8) {W V : World} (s : ByteArray) (hs : s.data.toList = me) (hb : Below W.heap.size W V) (h0 : 0 < W.heap.size) :
    Calls Tryd.prog 12 #[.string s] V fun e w' => ∃ R, 0 < R ∧ W.heap.size ≤ R ∧ e = .returned (.pointer (some ⟨R, 0, none⟩)) ∧ ToAt W w' R 0 (.slice none 0 0) { method := me } [] 0 := by
  subst hs
  refine (onew_c s V).mono ?_
  rintro e w2 ⟨rfl, hr, hbb, hz⟩
  have := hb.size
  exact ⟨V.heap.size, by omega, hb.size, rfl, hr, new_ok _, Nat.le_refl _, below_then hb hbb, fun k hk => by
    rcases hk with e | ⟨e, _⟩
    · omega
    · simp at e⟩
/-- Feed, packed. -/
theorem feed_to (x : List UInt8) {W w : World} {R D : Nat} {v : Value} {r : Rd} {N : Nat} (s : ByteArray) (hs : s.data.toList = x) (h : ToAt W w R D v r [] N) (hN : N + x.length ≤ 4194304) :
    Calls Tryd.prog 13 #[.pointer (some ⟨R, 0, none⟩), .string s] w fun e w' => e = .returned (.tuple #[]) ∧ ToAt W w' R D v (feedR r x) [] (N + x.length) := by
  subst hs
  have hd : s.data.toList.length = s.size := rfl
  have hby := h.bytes
  simp only [List.length_nil, Nat.zero_add] at hby
  refine (ofeed_c R D v r s w (by omega) h.rd).mono ?_
  rintro e w' ⟨rfl, hr, ha⟩
  exact ⟨rfl, h.later hr (ha.mono (fun _ _ e => .inl e)) (fun k' hk' => .inl (by
    rcases hk' with e | ⟨e, q⟩
    · exact .inl e
    · exact .inr ⟨by revert e; unfold feedR; split <;> exact id, q⟩)) (feed_ok h.ok _) (by have := feed_bytes r s.data.toList; simp; omega)⟩
/-- Next, packed. -/
theorem next_to {W w : World} {R D : Nat} {v : Value} {r : Rd} {N : Nat} (h : ToAt W w R D v r [] N) (hN : N ≤ 4194304) (h0 : 0 < R) {M : Int} (hm : W.cell? ⟨0, 0, none⟩ = some (.int .i64 M)) {p : Pc} {ok : Bool} {e : Int} {r' : Rd} (hx : nextR r = (p, ok, e, r')) :
    Calls Tryd.prog 14 #[.pointer (some ⟨R, 0, none⟩)] w fun x w' => ∃ A c D' v', x = .returned (.tuple #[pcV p A c, .bool ok, .int .i64 e]) ∧ ToAt W w' R D' v' r' [] N ∧ Away (FpR R D v r) w w' := by
  have hby := h.bytes
  have NX := onext_c R D v r M (by simp only [List.length_nil, Nat.zero_add] at hby; omega) h.ok w h.rd ((h.below.cell (p := ⟨0, 0, none⟩) (World.block_lt_of_cell? W _ hm)).trans hm) h0
  have NK := next_keeps h.ok
  rw [hx] at NX NK
  refine NX.mono ?_
  rintro x w' ⟨A, c, D', v', rfl, hA, hF, hg, hR, ha, hf⟩
  exact ⟨A, c, D', v', rfl, h.later hR ha hf NK.good (by have := NK.bytes; simp only [List.length_nil, Nat.zero_add] at this hby ⊢; omega), ha⟩
theorem fp_mode4 {R D B : Nat} {v : Value} {r1 : Rd} (h : r1.mode = 4) (hB : R < B) : ¬ FpR R D v (endR r1) B := fun e => by
  rcases e with e | ⟨e, _⟩
  · omega
  · rw [show (endR r1).mode = r1.mode from rfl, h] at e
    omega
set_option maxRecDepth 100000 in
set_option maxHeartbeats 16000000 in
theorem head_walk {W : World} (i j : Int) (tl : ByteArray) (htl : tl.size ≤ 1048576) (M : Int) (W2 : World) (hW : W2 = W) (hm : W2.cell? ⟨0, 0, none⟩ = some (.int .i64 M)) :
    Calls Tryd.prog 6 #[.int .i64 i, .int .i64 j, .string tl] W2 fun e w' => e = .returned (.bool true) ∧ Below W2.heap.size W2 w' := by
  subst hW
  have hw0 := World.block_lt_of_cell? W2 _ hm
  have AN := Lib.hid (anchor12_c M W2 hm)
  have HM := Lib.hid hm
  clear hm
  go_enter Tryd.func6, Tryd.ntmps6
  go_wp2_with fail
  refine AN.out.mono ?_
  rintro e w1 ⟨rfl, hb1⟩
  have B1 := Lib.hid hb1
  have M1 := Lib.hid (cell_below hb1 HM.out)
  clear hb1
  by_cases hin : 0 ≤ i ∧ i ≤ 2 ∧ 0 ≤ j ∧ j ≤ 3 ∧ tl.size ≤ 1000
  · obtain ⟨a1, a2, a3, a4, a5⟩ := hin
    have ht : ¬ (1000 : Int) < (tl.size : Int) := by omega
    obtain ⟨m, hmi, hi⟩ : ∃ m : Nat, m < 3 ∧ ((i = 0 ∧ m = 0) ∨ (i = 1 ∧ m = 1) ∨ (i = 2 ∧ m = 2)) := ⟨i.toNat, by omega, by omega⟩
    obtain ⟨n, hnj, hj⟩ : ∃ n : Nat, n < 4 ∧ ((j = 0 ∧ n = 0) ∨ (j = 1 ∧ n = 1) ∨ (j = 2 ∧ n = 2) ∨ (j = 3 ∧ n = 3)) := ⟨j.toNat, by omega, by omega⟩
    obtain ⟨p, r1, ht1⟩ := head_told m n hmi hnj tl.data.toList
    obtain ⟨hb, hhb⟩ : ∃ x, x = headW m n := ⟨_, rfl⟩
    obtain ⟨mt, hmt⟩ : ∃ x, x = methW m := ⟨_, rfl⟩
    have hbl : hb.length ≤ 100 := by
      rw [hhb]
      rcases hi with ⟨_, rfl⟩ | ⟨_, rfl⟩ | ⟨_, rfl⟩ <;> rcases hj with ⟨_, rfl⟩ | ⟨_, rfl⟩ | ⟨_, rfl⟩ | ⟨_, rfl⟩ <;> decide
    have hN : 0 + (hb ++ tl.data.toList).length ≤ 4194304 := by
      rw [List.length_append]
      have : tl.data.toList.length = tl.size := rfl
      omega
    rw [← hhb, ← hmt] at ht1
    have hk := ht1.kind
    obtain ⟨k0, ph, pd⟩ := p
    simp only at hk
    subst hk
    have hbm : (tl = ⟨#[]⟩ ∧ decide (tl.data.toList = []) = true) ∨ (tl.toList.isEmpty = false ∧ tl.size ≠ 0 ∧ decide (tl.data.toList = []) = false) := by
      by_cases hz : tl.size = 0
      · left
        have : tl = ⟨#[]⟩ := by
          rw [← list_bs tl, List.eq_nil_of_length_eq_zero (l := tl.data.toList) hz]
        subst this
        exact ⟨rfl, by simp⟩
      · exact .inr ⟨nonempty_toList hz, hz, decide_eq_false (fun e => hz (by have := congrArg List.length e; exact this))⟩
    have HE := Lib.hid hbm
    have HT := Lib.hid ht1
    have HHB := Lib.hid hhb
    have HMT := Lib.hid hmt
    have HNN := Lib.hid hN
    clear hhb hmt hbl hN ht1 hbm AN a1 a2 a3 a4 hmi hnj
    rcases hi with ⟨rfl, rfl⟩ | ⟨rfl, rfl⟩ | ⟨rfl, rfl⟩ <;> rcases hj with ⟨rfl, rfl⟩ | ⟨rfl, rfl⟩ | ⟨rfl, rfl⟩ | ⟨rfl, rfl⟩
    all_goals first | skip | skip
    all_goals
      go_wp2
      go_region
      all_goals
        try go_wp2_with fail
        refine (new_to mt _ (by rw [HMT.out]; rfl) (below_al (below_al (below_al B1.out _) _) _).drew hw0).mono ?_
        rintro e w2 ⟨R, h0, hRl, rfl, ht2⟩
        have T2 := Lib.hid ht2
        clear ht2
        go_wp2_with fail
        refine (feed_to (hb ++ tl.data.toList) _ (by rw [HHB.out]; simp [ByteArray.data_append, headW, codeW, fieldW]) T2.out HNN.out).mono ?_
        rintro e w3 ⟨rfl, ht3⟩
        have T3 := Lib.hid ht3
        clear ht3 T2
        go_wp2_with fail
        refine (next_to T3.out HNN.out h0 HM.out HT.out.next).mono ?_
        rintro e w4 ⟨A4, c4, D4, v4, rfl, ht4, ha4⟩
        have X4 := blk_only w4 #[.int .i64 1, .string (bs ph.method), .string (bs ph.target), .int .i64 ph.status, .string (bs ph.reason), .int .i64 ph.minor, .slice A4 ph.fields.length c4, .string (bs pd)] 41 _ _ rfl rfl
        generalize hV4 : w4.alloc (.cells #[.int .i64 1, .string (bs ph.method), .string (bs ph.target), .int .i64 ph.status, .string (bs ph.reason), .int .i64 ph.minor, .slice A4 ph.fields.length c4, .string (bs pd)] 41) = V4 at *
        have T4 := Lib.hid (hV4 ▸ ht4.al _ : ToAt W2 V4 R D4 v4 r1 [] _)
        have F4 := Lib.hid ht4.rd.fp
        have HX4 := Lib.hid X4
        have HV4 := Lib.hid hV4
        clear ht4 ha4 T3 X4 hV4
        unfold pcV
        go_wp2_with fail
        rw [HV4.out]
        refine (next_to T4.out HNN.out h0 HM.out HT.out.end1).mono ?_
        rintro e w5 ⟨A5, c5, D5, v5, rfl, ht5, ha5⟩
        have HX5 := Lib.hid (HX4.out.away HX4.out.lt ha5 (fun e => by have := F4.out _ e; omega))
        have X6 := blk_only w5 #[.int .i64 3, .string ⟨#[]⟩, .string ⟨#[]⟩, .int .i64 0, .string ⟨#[]⟩, .int .i64 0, .slice A5 0 c5, .string ⟨#[]⟩] 41 _ _ rfl rfl
        generalize hV5 : w5.alloc (.cells #[.int .i64 3, .string ⟨#[]⟩, .string ⟨#[]⟩, .int .i64 0, .string ⟨#[]⟩, .int .i64 0, .slice A5 0 c5, .string ⟨#[]⟩] 41) = V5 at *
        have T5 := Lib.hid (hV5 ▸ ht5.al _ : ToAt W2 V5 R D5 v5 (endR r1) [] _)
        have F5 := Lib.hid ht5.rd.fp
        have F5b : Hid (¬ FpR R D5 v5 (endR r1) w4.heap.size) := Lib.hid (fp_mode4 HT.out.mode (F4.out R (.inl rfl)))
        have HX6 := Lib.hid X6
        have HX7 : Hid (Blk V5 w4.heap.size _) := Lib.hid (hV5 ▸ HX5.out.below HX5.out.lt ((Below.refl _ w5).alloc (Nat.le_refl _) _))
        have HV5 := Lib.hid hV5
        clear ht5 ha5 T4 X6 hV5 F4 HX4 HV4
        unfold pcV
        go_wp2_with fail
        rw [HV5.out]
        refine (next_to T5.out HNN.out h0 HM.out HT.out.idle).mono ?_
        rintro e w6 ⟨A6, c6, D6, v6, rfl, ht6, ha6⟩
        have HX8 := HX7.out.away HX7.out.lt ha6 F5b.out
        have HX9 := HX6.out.away HX6.out.lt ha6 (fun e => by have := F5.out _ e; omega)
        generalize hV6 : w6.alloc (.cells #[.int .i64 0, .string ⟨#[]⟩, .string ⟨#[]⟩, .int .i64 0, .string ⟨#[]⟩, .int .i64 0, .slice A6 0 c6, .string ⟨#[]⟩] 41) = V6 at *
        have T6 := Lib.hid (hV6 ▸ ht6.al _ : ToAt W2 V6 R D6 v6 (endR r1) [] _)
        have m0 := HX8.c 0 _ rfl
        have m1 := HX9.c 0 _ rfl
        have l0 := HX8.lt
        have l1 := HX9.lt
        have HV6 := Lib.hid hV6
        have EN := oended_c R D6 v6 (endR r1) V6 T6.out.rd
        have LE := olen_c R D6 v6 (endR r1) V6 T6.out.rd
        have RU := oreus_c R D6 v6 (endR r1) V6 T6.out.rd
        have RE := obrest_c R D6 v6 (endR r1) V6 T6.out.rd
        rw [HT.out.ended] at EN
        rw [show (endR r1).buf = tl.data.toList from HT.out.buf] at LE RE
        rw [HT.out.reus] at RU
        rw [show tl.data.toList.length = tl.size from rfl] at LE
        rw [list_bs] at RE
        have hB6 := T6.out.below
        have hR6 := T6.out.low R (.inl rfl)
        have K1 := Lib.hid EN
        have K2 := Lib.hid LE
        have K3 := Lib.hid RU
        have K4 := Lib.hid RE
        have K5 := Lib.hid hB6
        have K6 := Lib.hid hR6
        clear ht6 ha6 T5 hV6 F5 F5b HX5 HX6 HX7 HX8 HX9 HV5 EN LE RU RE hB6 hR6 T6
        unfold pcV
        go_wp2_with fail
        rw [HV6.out]
        refine K1.out.mono ?_
        rintro e w7 ⟨rfl, rfl⟩
        go_wp2_with fail
        refine K2.out.mono ?_
        rintro e w7 ⟨rfl, rfl⟩
        go_wp2_with fail
        refine K3.out.mono ?_
        rintro e w7 ⟨rfl, rfl⟩
        rcases HE.out with ⟨hz, hz2⟩ | ⟨hz, hz2, hz3⟩
        · rw [hz2]
          subst hz
          go_wp2_with fail
          refine K4.out.mono ?_
          rintro e w7 ⟨rfl, hr7, ha7⟩
          have B7 := Lib.hid (K5.out.trans (ha7.below K5.out.size (B := W2.heap.size) (fun k e => by rw [e]; exact K6.out)))
          clear hr7 ha7
          go_wp2
          go_ret
          exact ⟨by simp, B7.out⟩
        · rw [hz3]
          go_wp2_with fail
          refine K4.out.mono ?_
          rintro e w7 ⟨rfl, hr7, ha7⟩
          have B7 := Lib.hid (K5.out.trans (ha7.below K5.out.size (B := W2.heap.size) (fun k e => by rw [e]; exact K6.out)))
          clear hr7 ha7
          go_wp2
          go_ret
          exact ⟨by simp, B7.out⟩
  · have hx : i < 0 ∨ 2 < i ∨ j < 0 ∨ 3 < j ∨ (1000 : Int) < (tl.size : Int) := by omega
    have go : ∀ w, w = w1 → Below W2.heap.size W2 w := fun w e => e ▸ B1.out
    by_cases h1 : i < 0
    · go_wp2
      go_ret
      exact ⟨rfl, B1.out⟩
    · by_cases h2 : 2 < i
      · go_wp2
        go_ret
        exact ⟨rfl, B1.out⟩
      · by_cases h3 : j < 0
        · go_wp2
          go_ret
          exact ⟨rfl, B1.out⟩
        · by_cases h4 : 3 < j
          · go_wp2
            go_ret
            exact ⟨rfl, B1.out⟩
          · have h5 : (1000 : Int) < (tl.size : Int) := by omega
            go_wp2
            go_ret
            exact ⟨rfl, B1.out⟩
end Go.Proofs.YtgmjkkiahanekaaDoor

