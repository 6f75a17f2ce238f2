/- The texts TgtH in one. -/
import Derived.Test.YtgmjkkiahanekaaGreatDoorM22
import Derived.Test.YtgmjkkiahanekaaGreatDoorM5
/- The contract of the document's local. -/
set_option linter.unusedVariables false
set_option linter.unusedSimpArgs false
namespace Go.Proofs.YtgmjkkiahanekaaGreatDoor
open Go.RowKit Lex

theorem ret_rlocal {w : World} {B : Nat} {v0 v1 v2 v3 v4 v5 e : Value} (h : Box6 w B v0 v1 v2 v3 v4 v5) {tmps : Array Value} (h4 : tmps[4]?.getD undef = .pointer (some ⟨B, 0, none⟩)) (h5 : tmps[5]?.getD undef = e) :
    (results Tryz.f122 tmps).run Tryz.prog w = .ok (.tuple #[.agg #[v0, v1, v2, v3, v4, v5], e]) w := by
  simp [results, Tryz.results122, go_sem, h4, h5, h.c0, h.c1, h.c2, h.c3, h.c4, h.c5]

theorem localT_cut {t : Tg} {s a q : List UInt8} {has : Bool} (h : cutB s 63 = (a, q, has)) :
    (normal a = none → localT t s = ({}, 50)) ∧ (∀ P, normal a = some P → q.all goodQ = false → localT t s = ({}, 60)) ∧ (∀ P, normal a = some P → q.all goodQ = true → localT t s = ({ t with path := P, query := q, has := has }, 0)) := by
  unfold localT
  rw [h]
  refine ⟨fun e => ?_, fun P e k => ?_, fun P e k => ?_⟩ <;> simp only [e, any_bad]
  · simp only [k]; rfl
  · simp only [k]; rfl

theorem Box6.st354 {w : World} {B : Nat} {v0 v1 v2 v3 v4 v5 : Value} (h : Box6 w B v0 v1 v2 v3 v4 v5) (u3 u4 u5 : Value) :
    Box6 (((w.setCell ⟨B, 3, none⟩ u3).setCell ⟨B, 5, none⟩ u5).setCell ⟨B, 4, none⟩ u4) B v0 v1 v2 u3 u4 u5 where
  c0 := by rw [setO _ _ 4 0 _ (by decide), setO _ _ 5 0 _ (by decide), setO _ _ 3 0 _ (by decide)]; exact h.c0
  c1 := by rw [setO _ _ 4 1 _ (by decide), setO _ _ 5 1 _ (by decide), setO _ _ 3 1 _ (by decide)]; exact h.c1
  c2 := by rw [setO _ _ 4 2 _ (by decide), setO _ _ 5 2 _ (by decide), setO _ _ 3 2 _ (by decide)]; exact h.c2
  c3 := by rw [setO _ _ 4 3 _ (by decide), setO _ _ 5 3 _ (by decide)]; exact setS _ h.c3
  c4 := by
    refine setS _ (v := v4) ?_
    rw [setO _ _ 5 4 _ (by decide), setO _ _ 3 4 _ (by decide)]; exact h.c4
  c5 := by
    rw [setO _ _ 4 5 _ (by decide)]
    refine setS _ (v := v5) ?_
    rw [setO _ _ 3 5 _ (by decide)]; exact h.c5
  fz := fun j => by rw [World.frozen?_setCell, World.frozen?_setCell, World.frozen?_setCell]; exact h.fz j

set_option maxRecDepth 100000 in
set_option maxHeartbeats 4000000 in
theorem rlocal_c (f p : Int) (h : ByteArray) (s : ByteArray) (w : World) (hs : s.size ≤ 4194304) :
    Calls Tryz.prog 122 #[.agg #[.int .i64 f, .string h, .int .i64 p, .string ⟨#[]⟩, .string ⟨#[]⟩, .bool false], .string s] w fun e w' => e = .returned (tgOut (localT { form := f, host := h.data.toList, port := p } s.data.toList)) ∧ Below w.heap.size w w' := by
  generalize ho : localT { form := f, host := h.data.toList, port := p } s.data.toList = out
  have HO := Lib.hid ho
  clear ho
  go_enter Tryz.func122, Tryz.ntmps122
  go_wp2
  go_loop [6] (fun i => ∃ k : Nat, k ≤ s.size ∧ i = .int .i64 k ∧ ∀ x ∈ s.data.toList.take k, x ≠ 63) (fun i => s.size - (intOf i).toNat)
  case atStart => exact ⟨0, Nat.zero_le _, rfl, by simp⟩
  case round =>
    obtain ⟨k, hk, rfl, ha⟩ := hrel
    have HA := Lib.hid ha
    clear ha
    have HB0 := Lib.hid (show Below w.heap.size w ((w.alloc (.cells #[.int .i64 f, .string h, .int .i64 p, .string ⟨#[]⟩, .string ⟨#[]⟩, .bool false] 48)).alloc (.cells #[.int .i64 0, .string ⟨#[]⟩, .int .i64 0, .string ⟨#[]⟩, .string ⟨#[]⟩, .bool false] 48)) from ((Below.refl _ w).alloc (Nat.le_refl _) _).alloc (by simp) _)
    by_cases hlt : k < s.size
    · by_cases h63 : s[k] = 63
      · have hx : (s.extract 0 k).data.toList = s.data.toList.take k := by rw [Lib.extract_data]; simp
        have hcut : cutB s.data.toList 63 = (s.data.toList.take k, s.data.toList.drop (k + 1), true) := by
          have e : s.data.toList = s.data.toList.take k ++ 63 :: s.data.toList.drop (k + 1) := by
            have := List.drop_eq_getElem_cons (l := s.data.toList) (i := k) (by rw [size_list]; exact hlt)
            rw [sget_list s k hlt, h63] at this
            rw [← this, List.take_append_drop]
          conv => lhs; rw [e]
          exact cutB_at HA.out
        have hy : (s.extract (k + 1) s.size).data.toList = s.data.toList.drop (k + 1) := by rw [Lib.extract_to_end]
        have hQs : (s.extract (k + 1) s.size).size ≤ s.size := by rw [← size_list, hy, List.length_drop, size_list]; omega
        rw [← hy] at hcut
        obtain ⟨Q, hQ⟩ : ∃ Q, s.extract (k + 1) s.size = Q := ⟨_, rfl⟩
        rw [hQ] at hcut hQs
        have HQ := Lib.hid hQ
        clear hQ
        have NO := fun w => Lib.hid (rnormal_c (s.extract 0 k) w (by rw [← size_list, hx, List.length_take]; omega))
        rw [hx] at NO
        obtain ⟨l1, l2, l3⟩ := localT_cut (t := { form := f, host := h.data.toList, port := p }) hcut
        rw [HO.out] at l1 l2 l3
        have L2 := Lib.hid l2
        have L3 := Lib.hid l3
        have hb63 : ((s[k].toNat : Int) != 63) = false := by rw [h63]; rfl
        clear hcut hx hy h63 l2 l3
        cases hn : normal (s.data.toList.take k) with
        | none =>
          rw [hn] at NO
          simp only [normVal, Option.getD_none, Option.isSome_none] at NO
          obtain rfl : out = ({}, 50) := l1 hn
          clear L2 L3 l1
          go_wp2_with fail
          refine (NO _).out.mono ?_
          rintro e w2 ⟨rfl, hb2⟩
          have X1 := Lib.hid (((box6_new w _ _ _ _ _ _ _).alloc _).below hb2)
          have X2 := Lib.hid ((box6_new (w.alloc _) _ _ _ _ _ _ _).below hb2)
          have BB := Lib.hid (HB0.out.trans (hb2.mono HB0.out.size))
          obtain ⟨c0, c1, c2, c3, c4, c5, fz⟩ := X2.out
          obtain ⟨d0, d1, d2, d3, d4, d5, gz⟩ := X1.out
          rw [show (w.alloc (Obj.cells #[Value.int IntKind.i64 f, Value.string h, Value.int IntKind.i64 p, Value.string ⟨#[]⟩, Value.string ⟨#[]⟩, Value.bool false] 48)).heap.size = w.heap.size + 1 from by simp] at c0 c1 c2 c3 c4 c5 fz
          have BX := Lib.hid (Box6.mk c0 c1 c2 c3 c4 c5 fz)
          have f0 := fz 0
          have f1 := fz 1
          have f2 := fz 2
          have f3 := fz 3
          have f4 := fz 4
          have f5 := fz 5
          have g3 := gz 3
          have g4 := gz 4
          have g5 := gz 5
          clear fz gz hb2 X1 X2
          go_wp2
          (try simp only [Exit.inBlock, Exit.then]); refine bodyPost_ret (ret_rlocal (Box6.stored BX.out _ _ _ _ _ _) rfl rfl) rfl ?_
          refine ⟨rfl, ?_⟩
          repeat refine Below.setCell ?_ (by simp) _
          exact BB.out
        | some P =>
          rw [hn] at NO
          simp only [normVal, Option.getD_some, Option.isSome_some, if_true] at NO
          have HL2 := Lib.hid (L2.out P hn)
          have HL3 := Lib.hid (L3.out P hn)
          clear L2 L3 l1
          go_wp2_with fail
          refine (NO _).out.mono ?_
          rintro e w2 ⟨rfl, hb2⟩
          have X1 := Lib.hid (((box6_new w _ _ _ _ _ _ _).alloc _).below hb2)
          have X2 := Lib.hid ((box6_new (w.alloc _) _ _ _ _ _ _ _).below hb2)
          have BB := Lib.hid (HB0.out.trans (hb2.mono HB0.out.size))
          obtain ⟨c0, c1, c2, c3, c4, c5, fz⟩ := X2.out
          obtain ⟨d0, d1, d2, d3, d4, d5, gz⟩ := X1.out
          rw [show (w.alloc (Obj.cells #[Value.int IntKind.i64 f, Value.string h, Value.int IntKind.i64 p, Value.string ⟨#[]⟩, Value.string ⟨#[]⟩, Value.bool false] 48)).heap.size = w.heap.size + 1 from by simp] at c0 c1 c2 c3 c4 c5 fz
          have BX := Lib.hid (Box6.mk c0 c1 c2 c3 c4 c5 fz)
          have BD := Lib.hid (Box6.mk d0 d1 d2 d3 d4 d5 gz)
          have f0 := fz 0
          have f1 := fz 1
          have f2 := fz 2
          have f3 := fz 3
          have f4 := fz 4
          have f5 := fz 5
          have g3 := gz 3
          have g4 := gz 4
          have g5 := gz 5
          clear fz gz hb2 X1 X2
          go_wp2
          rw [HQ.out]
          have HE := Lib.hid (show (Box6 (((w2.setCell ⟨w.heap.size, 3, none⟩ (.string (bs P))).setCell ⟨w.heap.size, 5, none⟩ (.bool true)).setCell ⟨w.heap.size, 4, none⟩ (.string Q)) w.heap.size (.int .i64 f) (.string h) (.int .i64 p) (.string (bs P)) (.string Q) (.bool true)) ∧ (Box6 (((w2.setCell ⟨w.heap.size, 3, none⟩ (.string (bs P))).setCell ⟨w.heap.size, 5, none⟩ (.bool true)).setCell ⟨w.heap.size, 4, none⟩ (.string Q)) (w.heap.size + 1) (.int .i64 0) (.string ⟨#[]⟩) (.int .i64 0) (.string ⟨#[]⟩) (.string ⟨#[]⟩) (.bool false)) ∧ Below w.heap.size w (((w2.setCell ⟨w.heap.size, 3, none⟩ (.string (bs P))).setCell ⟨w.heap.size, 5, none⟩ (.bool true)).setCell ⟨w.heap.size, 4, none⟩ (.string Q)) from
            ⟨Box6.st354 BD.out _ _ _, ((BX.out.far _ _ (by simp)).far _ _ (by simp)).far _ _ (by simp), ((BB.out.setCell (by simp) _).setCell (by simp) _).setCell (by simp) _⟩)
          clear c0 c1 c2 c3 c4 c5 d0 d1 d2 d3 d4 d5 f0 f1 f2 f3 f4 f5 g3 g4 g5 BX BB BD
          generalize (((w2.setCell ⟨w.heap.size, 3, none⟩ (.string (bs P))).setCell ⟨w.heap.size, 5, none⟩ (.bool true)).setCell ⟨w.heap.size, 4, none⟩ (.string Q)) = w3 at HE ⊢
          have BX := Lib.hid HE.out.2.1
          have BB := Lib.hid HE.out.2.2
          obtain ⟨c0, c1, c2, c3, c4, c5, fz⟩ := HE.out.2.1
          obtain ⟨d0, d1, d2, d3, d4, d5, gz⟩ := HE.out.1
          have f0 := fz 0
          have f1 := fz 1
          have f2 := fz 2
          have f3 := fz 3
          have f4 := fz 4
          have f5 := fz 5
          clear HE fz gz
          go_loop [9] (fun i => ∃ j : Nat, j ≤ Q.size ∧ i = .int .i64 j ∧ (Q.data.toList.take j).all goodQ = true) (fun i => Q.size - (intOf i).toNat)
          case atStart => exact ⟨0, Nat.zero_le _, rfl, by simp⟩
          case round =>
            obtain ⟨j, hj, rfl, hga⟩ := hrel
            have HG := Lib.hid hga
            clear hga
            by_cases hjt : j < Q.size
            · cases hq1 : goodQ Q[j] with
              | true =>
                have HS := Lib.hid (all_take_snoc _ Q j hjt HG.out hq1)
                simp only [goodQ, badQ, Bool.not_eq_true', Bool.or_eq_false_iff, decide_eq_false_iff_not] at hq1
                obtain ⟨⟨q1, q2⟩, q3⟩ := hq1
                have q3' : ((Q[j].toNat : Int) == 35) = false := by rw [beq_eq_false_iff_ne]; exact q3
                go_wp2
                go_round
                case rel => exact ⟨j + 1, by omega, by go_num, by first | exact HS.out | exact List.all_eq_true.1 HS.out⟩
                case measure => simp [intOf]; omega
              | false =>
                obtain rfl : out = ({}, 60) := HL2.out (all_of_take goodQ Q j hjt hq1)
                simp only [goodQ, badQ, Bool.not_eq_false', Bool.or_eq_true, decide_eq_true_eq] at hq1
                rcases hq1 with (q1 | q1) | q1
                · go_wp2
                  (try simp only [Exit.inBlock, Exit.then]); refine bodyPost_ret (ret_rlocal (Box6.stored BX.out _ _ _ _ _ _) rfl rfl) rfl ?_
                  refine ⟨rfl, ?_⟩
                  repeat refine Below.setCell ?_ (by simp) _
                  exact BB.out
                · go_wp2
                  (try simp only [Exit.inBlock, Exit.then]); refine bodyPost_ret (ret_rlocal (Box6.stored BX.out _ _ _ _ _ _) rfl rfl) rfl ?_
                  refine ⟨rfl, ?_⟩
                  repeat refine Below.setCell ?_ (by simp) _
                  exact BB.out
                · have q3' : ((Q[j].toNat : Int) == 35) = true := by rw [q1]; rfl
                  go_wp2
                  (try simp only [Exit.inBlock, Exit.then]); refine bodyPost_ret (ret_rlocal (Box6.stored BX.out _ _ _ _ _ _) rfl rfl) rfl ?_
                  refine ⟨rfl, ?_⟩
                  repeat refine Below.setCell ?_ (by simp) _
                  exact BB.out
            · have HL := Lib.hid (HL3.out (by have h := HG.out; rw [take_all Q j hjt] at h; exact h))
              go_wp2
              (try simp only [Exit.inBlock, Exit.then]); refine bodyPost_ret (ret_rlocal (Box6.stored BX.out _ _ _ _ _ _) rfl rfl) rfl ?_
              refine ⟨by rw [HL.out]; simp only [tgOut, tgVal, list_bs]; rfl, ?_⟩
              repeat refine Below.setCell ?_ (by simp) _
              exact BB.out
      · have hb63 : ((s[k].toNat : Int) != 63) = true := by
          rw [bne_iff_ne]; intro e; apply h63; rw [← UInt8.toNat_inj]; simp only [UInt8.reduceToNat]; omega
        have hs' : ∀ x ∈ s.data.toList.take (k + 1), x ≠ 63 := by
          intro x hx
          rw [take_snoc s k hlt] at hx
          rcases List.mem_append.1 hx with hx | hx
          · exact HA.out x hx
          · simp at hx; rw [hx]; exact h63
        have HS := Lib.hid hs'
        clear hs' h63
        go_wp2
        go_round
        case rel => exact ⟨k + 1, by omega, by go_num, HS.out⟩
        case measure => simp [intOf]; omega
    · obtain rfl : k = s.size := by omega
      have ht : s.data.toList.take s.size = s.data.toList := List.take_of_length_le (by rw [size_list]; exact Nat.le_refl _)
      have hcut : cutB s.data.toList 63 = (s.data.toList, [], false) := cutB_no (by have h := HA.out; rw [ht] at h; exact h)
      have NO := fun w => Lib.hid (rnormal_c s w hs)
      obtain ⟨l1, l2, l3⟩ := localT_cut (t := { form := f, host := h.data.toList, port := p }) hcut
      rw [HO.out] at l1 l3
      have L3 := Lib.hid l3
      clear hcut ht l2 l3
      cases hn : normal s.data.toList with
      | none =>
        rw [hn] at NO
        simp only [normVal, Option.getD_none, Option.isSome_none] at NO
        obtain rfl : out = ({}, 50) := l1 hn
        clear L3 l1
        go_wp2_with fail
        refine (NO _).out.mono ?_
        rintro e w2 ⟨rfl, hb2⟩
        have X1 := Lib.hid (((box6_new w _ _ _ _ _ _ _).alloc _).below hb2)
        have X2 := Lib.hid ((box6_new (w.alloc _) _ _ _ _ _ _ _).below hb2)
        have BB := Lib.hid (HB0.out.trans (hb2.mono HB0.out.size))
        obtain ⟨c0, c1, c2, c3, c4, c5, fz⟩ := X2.out
        obtain ⟨d0, d1, d2, d3, d4, d5, gz⟩ := X1.out
        rw [show (w.alloc (Obj.cells #[Value.int IntKind.i64 f, Value.string h, Value.int IntKind.i64 p, Value.string ⟨#[]⟩, Value.string ⟨#[]⟩, Value.bool false] 48)).heap.size = w.heap.size + 1 from by simp] at c0 c1 c2 c3 c4 c5 fz
        have BX := Lib.hid (Box6.mk c0 c1 c2 c3 c4 c5 fz)
        have f0 := fz 0
        have f1 := fz 1
        have f2 := fz 2
        have f3 := fz 3
        have f4 := fz 4
        have f5 := fz 5
        have g3 := gz 3
        have g4 := gz 4
        have g5 := gz 5
        clear fz gz hb2 X1 X2
        go_wp2
        (try simp only [Exit.inBlock, Exit.then]); refine bodyPost_ret (ret_rlocal (Box6.stored BX.out _ _ _ _ _ _) rfl rfl) rfl ?_
        refine ⟨rfl, ?_⟩
        repeat refine Below.setCell ?_ (by simp) _
        exact BB.out
      | some P =>
        rw [hn] at NO
        simp only [normVal, Option.getD_some, Option.isSome_some, if_true] at NO
        have HL3 := Lib.hid (L3.out P hn rfl)
        clear L3 l1
        go_wp2_with fail
        refine (NO _).out.mono ?_
        rintro e w2 ⟨rfl, hb2⟩
        have X1 := Lib.hid (((box6_new w _ _ _ _ _ _ _).alloc _).below hb2)
        have X2 := Lib.hid ((box6_new (w.alloc _) _ _ _ _ _ _ _).below hb2)
        have BB := Lib.hid (HB0.out.trans (hb2.mono HB0.out.size))
        obtain ⟨c0, c1, c2, c3, c4, c5, fz⟩ := X2.out
        obtain ⟨d0, d1, d2, d3, d4, d5, gz⟩ := X1.out
        rw [show (w.alloc (Obj.cells #[Value.int IntKind.i64 f, Value.string h, Value.int IntKind.i64 p, Value.string ⟨#[]⟩, Value.string ⟨#[]⟩, Value.bool false] 48)).heap.size = w.heap.size + 1 from by simp] at c0 c1 c2 c3 c4 c5 fz
        have BX := Lib.hid (Box6.mk c0 c1 c2 c3 c4 c5 fz)
        have f0 := fz 0
        have f1 := fz 1
        have f2 := fz 2
        have f3 := fz 3
        have f4 := fz 4
        have f5 := fz 5
        have g3 := gz 3
        have g4 := gz 4
        have g5 := gz 5
        clear fz gz hb2 X1 X2
        go_wp2
        (try simp only [Exit.inBlock, Exit.then]); refine bodyPost_ret (ret_rlocal (Box6.stored (BX.out.far _ _ (by simp)) _ _ _ _ _ _) rfl rfl) rfl ?_
        refine ⟨by rw [HL3.out]; simp only [tgOut, tgVal, list_bs]; rfl, ?_⟩
        repeat refine Below.setCell ?_ (by simp) _
        exact BB.out
end Go.Proofs.YtgmjkkiahanekaaGreatDoor

