/- The texts ChkE in one. -/
import Derived.Test.YtgmjkkiahanekaaGreatDoorM12
/- The contract of the decoder's Feed. -/
set_option linter.unusedVariables false
set_option linter.unusedSimpArgs false
namespace Go.Proofs.YtgmjkkiahanekaaGreatDoor
open Go.RowKit Lex

theorem bld_new (w : World) : BldAt 112 2 (w.alloc (.cells #[.pointer none, .slice none 0 0] 112)) w.heap.size 0 w.heap.size (.slice none 0 0) [] := by
  have hb := Blk.new w #[.pointer none, .slice none 0 0] 112 _ rfl
  exact ⟨by unfold World.shape?; rw [heap_alloc_new]; rfl, .inl (hb.c 0 _ rfl), hb.c 1 _ rfl, hb.fz, World.ownsRow_nil _ _ _ _, by simp [Value.ownBlock], fun _ => rfl⟩
theorem feedAt_start {w : World} {D : Nat} {v : Value} {d : Dec} {S : List UInt8} (hd : DecAt w D v d) (hok : d.Ok) (he : d.err = 0) :
    FeedAt w D v d S (w.alloc (.cells #[.pointer none, .slice none 0 0] 112)) 0 d v (.slice none 0 0) [] :=
  ⟨by simp, hok, he, hd.below ((Below.refl _ w).alloc (Nat.le_refl _) _), bld_new w, (Away.refl _ w).alloc _, fun k hk => .inl hk, fun k hk => ⟨by have := (hd.own.lt k hk).2; omega, by simp [Value.ownBlock]⟩, Nat.le_refl _, Nat.zero_le _⟩
theorem feedVal_ok {x : List UInt8 × Nat × Dec} (h : x.2.2.err = 0) : feedVal x = .tuple #[.string (bs x.1), .int .i64 (x.2.1 : Int), .bool (decide (x.2.2.st = 4)), .int .i64 0] := by unfold feedVal; rw [if_neg (fun e => e h)]
theorem feedVal_err {x : List UInt8 × Nat × Dec} (h : x.2.2.err ≠ 0) : feedVal x = .tuple #[.string ⟨#[]⟩, .int .i64 0, .bool false, .int .i64 x.2.2.err] := by unfold feedVal; rw [if_pos h]
theorem beq_i (a b : Int) : (a == b) = decide (a = b) := rfl
set_option maxRecDepth 100000 in
set_option maxHeartbeats 8000000 in
theorem cfeed_c (D : Nat) (v : Value) (d : Dec) (s : ByteArray) (w : World) (hs : s.size ≤ 4294967296) (hd : DecAt w D v d) (hok : d.Ok) :
    Calls Tryz.prog 87 #[.pointer (some ⟨D, 0, none⟩), .string s] w (FeedPost w D v (runD d s.data.toList)) := by
  obtain ⟨x, hx⟩ : ∃ x, runD d s.data.toList = x := ⟨_, rfl⟩
  rw [hx]
  have q7 : w.cell? ⟨D, 7, none⟩ = some (.int .i64 d.err) := hd.blk.c 7 _ rfl
  have hDw := hd.lt
  by_cases he : d.err = 0
  · have ST := Lib.hid (feedAt_start (S := s.data.toList) hd hok he)
    have HX := Lib.hid hx
    rw [he] at q7
    clear hx hd hok
    go_enter Tryz.func87, Tryz.ntmps87
    go_wp2
    go_loopw [9] (fun i wr => ∃ (k : Nat) (d1 : Dec) (v1 vb : Value) (o1 : List UInt8), i = .int .i64 k ∧ FeedAt w D v d s.data.toList wr k d1 v1 vb o1) (fun i _ => s.size - (intOf i).toNat)
    case atStart => exact ⟨0, d, v, .slice none 0 0, [], rfl, ST.out⟩
    case round =>
      clear q7 ST
      obtain ⟨k, d1, v1, vb, o1, rfl, hF⟩ := hrel
      have FA := Lib.hid hF
      obtain ⟨z1, z2, z3⟩ := hF.dlt hDw
      obtain ⟨q1, q2, q3, q4, q7, qf⟩ : wr.cell? ⟨D, 1, none⟩ = some (.int .i64 d1.size) ∧ wr.cell? ⟨D, 2, none⟩ = some (.int .i64 d1.st) ∧ wr.cell? ⟨D, 3, none⟩ = some (.int .i64 d1.left) ∧ wr.cell? ⟨D, 4, none⟩ = some v1 ∧ wr.cell? ⟨D, 7, none⟩ = some (.int .i64 d1.err) ∧ (∀ j, wr.frozen? ⟨D, j, none⟩ = false) :=
        ⟨hF.dec.blk.c 1 _ rfl, hF.dec.blk.c 2 _ rfl, hF.dec.blk.c 3 _ rfl, hF.dec.blk.c 4 _ rfl, hF.dec.blk.c 7 _ rfl, hF.dec.blk.fz⟩
      have f1 := qf 1
      have f2 := qf 2
      have f3 := qf 3
      have f7 := qf 7
      have hk := hF.le
      rw [size_list] at hk
      have hout := hF.out
      have hsz := hF.ok.size
      have hlf := hF.ok.left
      have hwf := hF.ok.wf
      clear qf hF z1
      have hEnd : ∀ (h : ¬ k < s.size ∨ d1.st = 4), x = (o1, k, d1) := by
        intro h
        have hr := FA.out.run
        have e0 : runD d1 (s.data.toList.drop k) = ([], 0, d1) := by
          rcases h with h | h
          · rw [List.drop_eq_nil_of_le (by rw [size_list]; omega)]; rfl
          · exact runD_stop (.inl h) _
        rw [e0] at hr
        rw [← HX.out, hr]
        simp
      by_cases hend : ¬ k < s.size ∨ d1.st = 4
      · obtain rfl := hEnd hend
        have hfin : feedVal (o1, k, d1) = .tuple #[.string (bs o1), .int .i64 (k : Int), .bool (decide (d1.st = 4)), .int .i64 0] := feedVal_ok FA.out.err
        have HF := Lib.hid hfin
        obtain ⟨W, hW⟩ : ∃ W, wr.drew = W := ⟨_, rfl⟩
        have BS := Lib.hid (bstr_c 112 2 w.heap.size 0 w.heap.size vb o1 wr.drew (FA.out.bld.below ((Below.refl _ wr).drew)) (by omega))
        have DE : ∀ w', Away (fun g => vb.ownBlock = some g) wr.drew w' → DecAt w' D v1 d1 ∧ Away (fun k => k = D ∨ v.ownBlock = some k) w w' ∧ wr.heap.size ≤ w'.heap.size := fun w' ha =>
          ⟨(FA.out.dec.below ((Below.refl _ wr).drew)).away ha (fun e => by have := ((FA.out.dlt hDw).1 _ e).1; omega) (fun g hg e => (FA.out.far g hg).2 e), FA.out.away.drew.then ha (fun i hi e => by have := ((FA.out.dlt hDw).1 _ e).1; omega), ha.size⟩
        have HE := Lib.hid DE
        have b4 : (d1.st != 4) = !decide (d1.st = 4) := rfl
        have e4 : (d1.st == 4) = decide (d1.st = 4) := rfl
        have hcase : (¬ k < s.size) ∨ (k < s.size ∧ decide (d1.st = 4) = true) := by
          rcases hend with h | h
          · exact .inl h
          · by_cases hlt : k < s.size
            · exact .inr ⟨hlt, decide_eq_true h⟩
            · exact .inl hlt
        generalize decide (d1.st = 4) = t at *
        clear hEnd hfin hW hend DE q1 q3 q4 q7 f1 f2 f3 f7
        rcases hcase with h | ⟨h, ht⟩
        · have k1 : ¬ (k : Int) < (s.size : Int) := by omega
          go_wp2
          go_region_held3 (fun w' => w'.cell? ⟨D, 2, none⟩ = some (.int .i64 d1.st) ∧ (w' = wr.drew ∨ Away (fun g => vb.ownBlock = some g) wr.drew w'))
            (first | assumption | exact ⟨q2, .inl rfl⟩ | exact ⟨(HE.out _ (by assumption)).1.blk.c 2 _ rfl, .inr (by assumption)⟩)
            ((go_at_call 89; refine BS.out.mono ?_; rintro e w5 ⟨rfl, ha5⟩))
          go_wp2
          refine bodyPost_ret (ret_feed rfl rfl rfl rfl) rfl ?_
          obtain ⟨r1, r2, r3⟩ := HE.out _ (by assumption)
          exact ⟨v1, congrArg Ending.returned HF.out.symm, r1, r2, fun k hk => (FA.out.row k hk).imp id (fun h => ⟨h.1, by omega⟩)⟩
        · have k1 : (k : Int) < (s.size : Int) := by omega
          subst ht
          go_wp2
          go_region_held3 (fun w' => w'.cell? ⟨D, 2, none⟩ = some (.int .i64 d1.st) ∧ (w' = wr.drew ∨ Away (fun g => vb.ownBlock = some g) wr.drew w'))
            (first | assumption | exact ⟨q2, .inl rfl⟩ | exact ⟨(HE.out _ (by assumption)).1.blk.c 2 _ rfl, .inr (by assumption)⟩)
            ((go_at_call 89; refine BS.out.mono ?_; rintro e w5 ⟨rfl, ha5⟩))
          go_wp2
          refine bodyPost_ret (ret_feed rfl rfl rfl rfl) rfl ?_
          obtain ⟨r1, r2, r3⟩ := HE.out _ (by assumption)
          exact ⟨v1, congrArg Ending.returned HF.out.symm, r1, r2, fun k hk => (FA.out.row k hk).imp id (fun h => ⟨h.1, by omega⟩)⟩
      · rw [not_or, Decidable.not_not] at hend
        obtain ⟨hlt, h4⟩ := hend
        have b4 : (d1.st != 4) = true := by rw [bne_iff_ne]; exact h4
        have hcons : s.data.toList.drop k = s[k] :: s.data.toList.drop (k + 1) := byte_at s k hlt
        clear hEnd
        by_cases h1 : d1.st = 1
        · have hdata := FA.out.ok.data h1
          obtain ⟨n, hn⟩ : ∃ n : Nat, min d1.left ((s.size : Int) - (k : Int)) = (n : Int) := ⟨(min d1.left ((s.size : Int) - (k : Int))).toNat, by omega⟩
          have n0 : 0 < n := by omega
          have nl : (n : Int) ≤ d1.left := by omega
          have ns : k + n ≤ s.size := by omega
          rw [h1] at q2
          have H1 := Lib.hid h1
          have k0 : (0 : Int) ≤ (k : Int) := by omega
          have k1 : (k : Int) < (s.size : Int) := by omega
          have hnm : min (d1.left) ((s.size : Int) - (k : Int)) = (n : Int) := hn
          have hxs : (s.extract k (k + n)).size ≤ s.size := by rw [← size_list, ext_list, List.length_take, List.length_drop, size_list]; omega
          have WS := Lib.hid (wstr_c 112 2 w.heap.size 0 w.heap.size vb o1 (s.extract k (k + n)) wr FA.out.bld (by decide) lies_builder (by omega) (by omega))
          have hxl : (s.extract k (k + n)).data.toList = (s.data.toList.drop k).take n := by rw [ext_list]; congr 1; omega
          have HXL := Lib.hid hxl
          have HLF := Lib.hid hdata.1
          clear hn hdata hcons hxl hxs
          go_wp2_with fail
          refine WS.out.mono ?_
          rintro e w2 ⟨vb2, rfl, hb2, ha2, _, hr2⟩
          rw [HXL.out] at hb2
          have DD := FA.out.dec.away ha2 (fun e => by
            rcases e with e | e
            · omega
            · have := ((FA.out.dlt hDw).1 _ e).1; omega) (fun g hg e => by
            rcases e with e | e
            · exact (FA.out.far g hg).1 e
            · exact (FA.out.far g hg).2 e)
          have D2 := Lib.hid DD
          have HB2 := Lib.hid hb2
          have HA2 := Lib.hid ha2
          have HR2 := Lib.hid hr2
          obtain ⟨q1, q2, q3, qf⟩ : w2.cell? ⟨D, 1, none⟩ = some (.int .i64 d1.size) ∧ w2.cell? ⟨D, 2, none⟩ = some (.int .i64 d1.st) ∧ w2.cell? ⟨D, 3, none⟩ = some (.int .i64 d1.left) ∧ (∀ j, w2.frozen? ⟨D, j, none⟩ = false) :=
            ⟨DD.blk.c 1 _ rfl, DD.blk.c 2 _ rfl, DD.blk.c 3 _ rfl, DD.blk.fz⟩
          have f1 := qf 1
          have f2 := qf 2
          have f3 := qf 3
          clear qf DD hb2 ha2 hr2 q7 q4 f7 b4 h4
          by_cases hz : d1.left - (n : Int) = 0
          · have hst : (if d1.left - (n : Int) = 0 then (2 : Int) else 1) = 2 := if_pos hz
            have HST := Lib.hid hst
            have hzb : (d1.left - (n : Int) == 0) = true := by rw [beq_iff_eq]; exact hz
            have HZ := Lib.hid hz
            clear hst hz
            go_wp2
            go_roundw
            case rel =>
              refine ⟨k + n, advD d1 n, v1, vb2, o1 ++ (s.data.toList.drop k).take n, by go_num, FA.out.data hDw H1.out n0 nl (by rw [size_list]; exact ns) HB2.out HA2.out HR2.out ?_ ?_ ?_⟩
              · unfold advD
                rw [HST.out]
                exact DecAt.put (d' := { d1 with size := d1.size + n, left := d1.left - n, st := 2 }) (DecAt.put (d' := { d1 with size := d1.size + n, left := d1.left - n }) (DecAt.put (d' := { d1 with size := d1.size + n }) D2.out 1 _ (by decide) rfl rfl) 3 _ (by decide) rfl rfl) 2 _ (by decide) rfl rfl
              · exact (((Away.refl _ w2).put (by exact rfl) _ _).put (by exact rfl) _ _).put (by exact rfl) _ _
              · simp [World.setCell]
            case measure => simp [intOf]; omega
          · have HST := Lib.hid (show (if d1.left - (n : Int) = 0 then (2 : Int) else 1) = 1 from if_neg hz)
            have hzb : (d1.left - (n : Int) == 0) = false := by rw [beq_eq_false_iff_ne]; exact hz
            clear hz
            go_wp2
            go_roundw
            case rel =>
              refine ⟨k + n, advD d1 n, v1, vb2, o1 ++ (s.data.toList.drop k).take n, by go_num, FA.out.data hDw H1.out n0 nl (by rw [size_list]; exact ns) HB2.out HA2.out HR2.out ?_ ?_ ?_⟩
              · unfold advD
                rw [HST.out]
                rw [show (1 : Int) = d1.st from H1.out.symm]
                exact DecAt.put (d' := { d1 with size := d1.size + n, left := d1.left - n }) (DecAt.put (d' := { d1 with size := d1.size + n }) D2.out 1 _ (by decide) rfl rfl) 3 _ (by decide) rfl rfl
              · exact ((Away.refl _ w2).put (by exact rfl) _ _).put (by exact rfl) _ _
              · simp [World.setCell]
            case measure => simp [intOf]; omega
        · have TK := Lib.hid (take_c D v1 d1 s[k] wr FA.out.dec FA.out.ok h4 FA.out.err)
          have hline := fun w2 v2 hd ha hr => FA.out.line (w2 := w2) (v2 := v2) (c := s[k]'hlt) hDw h1 h4 hcons (by rw [size_list]; exact hlt) hd ha hr
          have HL := Lib.hid hline
          have b1 : (d1.st == 1) = false := by rw [beq_eq_false_iff_ne]; exact h1
          have k0 : (0 : Int) ≤ (k : Int) := by omega
          have k1 : (k : Int) < (s.size : Int) := by omega
          unfold TakePost at TK
          generalize takeD d1 s[k] = y at *
          obtain ⟨y1, y2⟩ := y
          simp only at TK
          clear hline hcons h1 h4
          go_wp2_with fail
          refine TK.out.mono ?_
          rintro e w2 ⟨v2, rfl, hd2, ha2, hr2⟩
          obtain ⟨g1, g2, g3, g4, g5⟩ := HL.out w2 v2 hd2 ha2 hr2
          have G1 := Lib.hid g1
          have G2 := Lib.hid g2
          have G3 := Lib.hid g3
          have G4 := Lib.hid g4
          have G5 := Lib.hid g5
          have p7 : w2.cell? ⟨D, 7, none⟩ = some (.int .i64 y1.err) := hd2.blk.c 7 _ rfl
          have p7f := hd2.blk.fz 7
          clear hd2 ha2 hr2 g1 g2 g3 g4 g5 q1 q2 q3 q4 q7 f1 f2 f3 f7 b4 b1
          by_cases he2 : y2 = 0
          · subst he2
            go_wp2
            go_roundw
            case rel => exact ⟨k + 1, { y1 with err := 0 }, v2, vb, o1, by go_num, G5.out (by first | trivial | rfl)⟩
            case measure => simp [intOf]; omega
          · have bn : (y2 != 0) = true := by rw [bne_iff_ne]; exact he2
            have hrx : x = (o1, k + 1, { y1 with err := y2 }) := by
              have := G1.out
              rw [runD_stop (d := { y1 with err := y2 }) (.inr he2)] at this
              rw [← HX.out, this]
              simp
            subst hrx
            have HV := Lib.hid (feedVal_err (x := (o1, k + 1, { y1 with err := y2 })) he2)
            clear he2
            go_wp2
            go_quiet (fail)
            go_wp2
            refine bodyPost_ret (ret_feed rfl rfl rfl rfl) rfl ?_
            exact ⟨v2, congrArg Ending.returned HV.out.symm, G2.out.drewN _, G3.out.drewN _, G4.out⟩
  · have hr : x = ([], 0, d) := by rw [← hx, runD_stop (.inr he)]
    subst hr
    have bn : (d.err != 0) = true := by rw [bne_iff_ne]; exact he
    have HV := Lib.hid (feedVal_err (x := ([], 0, d)) he)
    have DA := Lib.hid hd
    clear hx hd hok he
    go_enter Tryz.func87, Tryz.ntmps87
    go_wp2
    go_quiet (fail)
    go_wp2
    refine bodyPost_ret (ret_feed rfl rfl rfl rfl) rfl ?_
    exact ⟨v, congrArg Ending.returned HV.out.symm, DA.out.drewN _, (Away.refl _ w).drewN _, fun k h => .inl h⟩
end Go.Proofs.YtgmjkkiahanekaaGreatDoor

