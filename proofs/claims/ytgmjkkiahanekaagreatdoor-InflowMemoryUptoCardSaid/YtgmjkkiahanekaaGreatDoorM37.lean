/- The texts HdT in one. -/
import Derived.Test.YtgmjkkiahanekaaGreatDoorM22
import Derived.Test.YtgmjkkiahanekaaGreatDoorM36
/- The contracts of head.read with head.status, and of head.Response (printed by gh.py). -/
set_option linter.unusedVariables false
set_option linter.unusedSimpArgs false
namespace Go.Proofs.YtgmjkkiahanekaaGreatDoor
open Go.RowKit Lex

set_option maxRecDepth 100000 in
set_option maxHeartbeats 8000000 in
theorem readr_c (d : ByteArray) (M : Int) (w : World) (hs : d.size ≤ 4194304) (hm : w.cell? ⟨0, 0, none⟩ = some (.int .i64 M)) :
    Calls Tryz.prog 97 #[.string d, .bool false, .func (.func 98) #[] #[]] w (ReadPost (readL false statusL d.data.toList) w) := by
  obtain ⟨i0, hi, hz0, hz1, hz2⟩ := info_parts info_fieldH
  obtain ⟨x, hx⟩ : ∃ x, readL false statusL d.data.toList = x := ⟨_, rfl⟩
  rw [hx]
  have HX := Lib.hid hx
  clear hx
  have B0 := Lib.hid ((Below.refl _ w).alloc (Nat.le_refl _) (.cells #[.string ⟨#[]⟩, .string ⟨#[]⟩, .int .i64 0, .string ⟨#[]⟩, .int .i64 0, .slice none 0 0] 42))
  have X0 := Lib.hid (box6_new w (.string ⟨#[]⟩) (.string ⟨#[]⟩) (.int .i64 0) (.string ⟨#[]⟩) (.int .i64 0) (.slice none 0 0) 42)
  have HM := Lib.hid (cell_below B0.out hm)
  clear hm
  go_enter Tryz.func97, Tryz.ntmps97
  go_wp2
  generalize w.alloc (.cells #[.string ⟨#[]⟩, .string ⟨#[]⟩, .int .i64 0, .string ⟨#[]⟩, .int .i64 0, .slice none 0 0] 42) = V at *
  go_loop [9] (fun i => i = .int .i64 0) (fun i => d.size - (intOf i).toNat)
  case atStart => rfl
  case round =>
    subst hrel
    by_cases hpre : False
    · exact hpre.elim
    · obtain ⟨a, ha, hz⟩ : ∃ a : Nat, a ≤ d.size ∧ a = 0 := ⟨0, Nat.zero_le _, rfl⟩
      have HK : Hid (SkipAt false d.data.toList a) := Lib.hid (by unfold SkipAt; rw [hz]; rfl)
      have LN := fun w => Lib.hid (line_c d 1100 82 w (by omega))
      rw [show d.data.toList = d.data.toList.drop a from by rw [hz]; rfl] at LN
      have HZ := Lib.hid hz
      clear hpre hz
      go_wp2_with fail
      cases hl : lineL 82 1100 (d.data.toList.drop a) with
      | mk o e0 =>
        cases o with
        | none =>
          obtain rfl : x = ({}, 0, e0) := HX.out.symm.trans (readL_n HK.out hl)
          rw [hl] at LN
          simp only [lineVal, Option.getD_none, Option.isSome_none] at LN
          refine (LN _).out.mono ?_
          rintro e w2 ⟨rfl, rfl⟩
          obtain ⟨c0, c1, c2, c3, c4, c5, fz⟩ := X0.out
          have f0 := fz 0; have f1 := fz 1; have f2 := fz 2; have f3 := fz 3; have f4 := fz 4; have f5 := fz 5
          clear fz hl
          go_wp2
          refine bodyPost_ret (ret_read (Box6.stored X0.out _ _ _ _ _ _) rfl rfl rfl) rfl ?_
          exact post_empty (below_set6 B0.out (Nat.le_refl _) _ _ _ _ _ _)
        | some l =>
          obtain ⟨hend, hl1100, rfl⟩ := line_end hl
          rw [size_list] at hend
          have HL := Lib.hid hl
          rw [hl] at LN
          simp only [lineVal, Option.getD_some, Option.isSome_some] at LN
          refine (LN _).out.mono ?_
          rintro e w2 ⟨rfl, rfl⟩
          have ST := fun w => Lib.hid (status_c (bs l) w (by rw [bs_size]; omega))
          rw [bs_list] at ST
          unfold FirstPost hd0 at ST
          obtain ⟨y, hy⟩ : ∃ y, statusL l = y := ⟨_, rfl⟩
          rw [hy] at ST
          have HY := Lib.hid hy
          clear hl hy LN
          go_wp2_with fail
          refine (ST _).out.mono ?_
          rintro e w2 ⟨h, rfl, hh, hb2⟩
          have B2 := Lib.hid (below_then B0.out hb2)
          have X2 := Lib.hid (X0.out.below hb2)
          have HH := Lib.hid hh
          clear hh
          have hV2 : w.heap.size < w2.heap.size := World.block_lt_of_cell? w2 _ X2.out.c0
          obtain ⟨y1, y2⟩ := y
          obtain ⟨V2, hV2⟩ : ∃ V2, w2.alloc (.cells #[.string (bs h.method), .string (bs h.target), .int .i64 h.status, .string (bs h.reason), .int .i64 h.minor, .slice none 0 0] 42) = V2 := ⟨_, rfl⟩
          have BV : Hid (Below w.heap.size w V2) := Lib.hid (by rw [← hV2]; exact B2.out.alloc B2.out.size _)
          have XV : Hid (Box6 V2 w.heap.size (.string ⟨#[]⟩) (.string ⟨#[]⟩) (.int .i64 0) (.string ⟨#[]⟩) (.int .i64 0) (.slice none 0 0)) := Lib.hid (by rw [← hV2]; exact X2.out.alloc _)
          have XH : Hid (Box6 V2 w2.heap.size (.string (bs h.method)) (.string (bs h.target)) (.int .i64 h.status) (.string (bs h.reason)) (.int .i64 h.minor) (.slice none 0 0)) := Lib.hid (by rw [← hV2]; exact box6_new _ _ _ _ _ _ _ _)
          have HV2 := Lib.hid hV2
          clear hb2 hV2
          by_cases he : y2 = 0
          · subst he
            obtain rfl : h = y1 := HH.out rfl
            obtain ⟨a0, ha0⟩ : ∃ a0, a + (l.length + 2) = a0 := ⟨_, rfl⟩
            have HP2 : Hid (∀ e2, fieldsL 32 (d.data.toList.drop a0) = (none, e2) → x = ({}, 0, e2)) := Lib.hid (fun e2 hg => HX.out.symm.trans (readL_p (first := statusL) HK.out HL.out (by rw [HY.out]) (by rw [ha0]; exact hg)))
            have HW2 : Hid (∀ fs n e2, fieldsL 32 (d.data.toList.drop a0) = (some (fs, n), e2) → x = ({ h with fields := fs }, n + (l.length + 2) + a, 0)) := Lib.hid (fun fs n e2 hg => HX.out.symm.trans (by
              have := readL_w (first := statusL) HK.out HL.out (by rw [HY.out]) (by rw [ha0]; exact hg)
              rw [HY.out] at this; exact this))
            have hsum : (l.length : Int) + 2 = (a0 : Int) := by have := HZ.out; omega
            rw [ha0] at hend
            have HA0 := Lib.hid ha0
            clear HX ha0 ST
            obtain ⟨c0, c1, c2, c3, c4, c5, fz⟩ := XV.out
            clear fz
            go_wp2_with (refine wpList_at HV2.out ?_)
            go_loopw [9, 14, 15, 16, 17] (fun i _ _ _ _ wr => ∃ (a1 : Nat) (fs : List Fd) (A : Option Addr) (c : Nat), i = .int .i64 a1 ∧ a1 ≤ d.size ∧ SoFar d.data.toList a0 a1 fs ∧ Below w.heap.size w wr ∧
              Box6 wr w.heap.size (.string ⟨#[]⟩) (.string ⟨#[]⟩) (.int .i64 0) (.string ⟨#[]⟩) (.int .i64 0) (.slice none 0 0) ∧ wr.ownsRow (w2.heap.size + 1) 59 2 (.slice A fs.length c) fs.length (fvals fs) ∧ (A = none → c = 0) ∧
              Box6 wr w2.heap.size (.string (bs h.method)) (.string (bs h.target)) (.int .i64 h.status) (.string (bs h.reason)) (.int .i64 h.minor) (.slice A fs.length c)) (fun i _ _ _ _ _ => d.size - (intOf i).toNat)
            case atStart => exact ⟨a0, [], none, 0, rfl, hend, sofar_start _ _, BV.out, XV.out, World.ownsRow_nil _ _ _ _, fun _ => rfl, XH.out⟩
            case round =>
              clear c0 c1 c2 c3 c4 c5
              obtain ⟨a1, fs, A, c, rfl, ha1, hso, hB, hZ, hO, hA, hH⟩ := hrel
              have BR := Lib.hid hB
              have ZR := Lib.hid hZ
              have OR := Lib.hid hO
              have HR := Lib.hid hH
              have SO := Lib.hid hso
              have AR := Lib.hid hA
              have h32 := hso.2.2
              have hlt1 := World.block_lt_of_cell? wr _ hZ.c0
              have hlt2 := World.block_lt_of_cell? wr _ hH.c0
              simp only at hlt1 hlt2
              clear hso hB hZ hO hA hH
              have e1 : (d.extract a1 d.size).data.toList = d.data.toList.drop a1 := by rw [ext_list, List.take_of_length_le (by rw [List.length_drop, size_list]; exact Nat.le_refl _)]
              have hsz2 : (d.extract a1 d.size).size ≤ d.size := by rw [← size_list, e1, List.length_drop, size_list]; omega
              have LN := fun w => Lib.hid (line_c (d.extract a1 d.size) 512 83 w (by omega))
              rw [e1] at LN
              clear e1
              cases hl2 : lineL 83 512 (d.data.toList.drop a1) with
              | mk o e0 =>
                cases o with
                | none =>
                  obtain rfl := HP2.out _ (sofar_none SO.out hl2)
                  rw [hl2] at LN
                  simp only [lineVal, Option.getD_none, Option.isSome_none] at LN
                  obtain ⟨c0, c1, c2, c3, c4, c5, fz⟩ := ZR.out
                  have f0 := fz 0; have f1 := fz 1; have f2 := fz 2; have f3 := fz 3; have f4 := fz 4; have f5 := fz 5
                  clear fz hl2
                  go_wp2_with (go_at_call 126; refine (LN _).out.mono ?_; rintro e w3 ⟨rfl, rfl⟩)
                  refine bodyPost_ret (ret_read (Box6.stored ZR.out _ _ _ _ _ _) rfl rfl rfl) rfl ?_
                  exact post_empty (below_set6 BR.out (Nat.le_refl _) _ _ _ _ _ _)
                | some l2 =>
                  obtain ⟨hend2, hl512, rfl⟩ := line_end hl2
                  rw [size_list] at hend2
                  have HL2 := Lib.hid hl2
                  rw [hl2] at LN
                  simp only [lineVal, Option.getD_some, Option.isSome_some] at LN
                  clear hl2
                  by_cases h0 : l2 = []
                  · subst h0
                    obtain rfl := HW2.out _ _ _ (sofar_end SO.out HL2.out)
                    have hk : (a1 : Int) + 2 = ((2 + (a1 - a0) + (l.length + 2) + a : Nat) : Int) := by have := SO.out.2.1; have := HA0.out; omega
                    have HKK := Lib.hid hk
                    obtain ⟨c0, c1, c2, c3, c4, c5, fz⟩ := ZR.out
                    have f0 := fz 0; have f1 := fz 1; have f2 := fz 2; have f3 := fz 3; have f4 := fz 4; have f5 := fz 5
                    obtain ⟨d0, d1, d2, d3, d4, d5, gz⟩ := HR.out
                    clear fz gz hk
                    go_wp2_with (go_at_call 126; refine (LN _).out.mono ?_; rintro e w3 ⟨rfl, rfl⟩)
                    refine bodyPost_ret (ret_read (Box6.stored ZR.out _ _ _ _ _ _) rfl rfl rfl) rfl ?_
                    exact post_whole (Nat.le_succ_of_le (Nat.le_of_lt hV2)) HKK.out (own_set6 OR.out (by omega) _ _ _ _ _ _) AR.out (below_set6 BR.out (Nat.le_refl _) _ _ _ _ _ _)
                  · have hq : l2.isEmpty = false := by cases l2 with
                      | nil => exact absurd rfl h0
                      | cons => rfl
                    obtain ⟨c0, c1, c2, c3, c4, c5, fz⟩ := ZR.out
                    have f0 := fz 0; have f1 := fz 1; have f2 := fz 2; have f3 := fz 3; have f4 := fz 4; have f5 := fz 5
                    obtain ⟨d0, d1, d2, d3, d4, d5, gz⟩ := HR.out
                    clear fz gz
                    by_cases h3 : 32 ≤ fs.length
                    · obtain rfl := HP2.out _ (sofar_large SO.out HL2.out h0 h3)
                      have b32 : (32 : Int) ≤ (fs.length : Int) := by omega
                      clear h0
                      go_wp2_with (go_at_call 126; refine (LN _).out.mono ?_; rintro e w3 ⟨rfl, rfl⟩)
                      refine bodyPost_ret (ret_read (Box6.stored ZR.out _ _ _ _ _ _) rfl rfl rfl) rfl ?_
                      exact post_empty (below_set6 BR.out (Nat.le_refl _) _ _ _ _ _ _)
                    · have b32 : ¬ (32 : Int) ≤ (fs.length : Int) := by omega
                      have b32' : (fs.length : Int) < 32 := by omega
                      have FI := fun w => Lib.hid (hfield_c (bs l2) w (by rw [bs_size]; omega))
                      rw [bs_list] at FI
                      cases hf : fieldL l2 with
                      | none =>
                        obtain rfl := HP2.out _ (sofar_bad SO.out HL2.out h0 (by omega) hf)
                        rw [hf] at FI
                        simp only [fieldVal] at FI
                        clear h0 hf d0 d1 d2 d3 d4
                        go_wp2_with (go_at_call 126; refine (LN _).out.mono ?_; rintro e w3 ⟨rfl, rfl⟩)
                        refine (FI _).out.mono ?_
                        rintro e w4 ⟨rfl, hb4⟩
                        clear c0 c1 c2 c3 c4 c5 f0 f1 f2 f3 f4 f5 d5
                        obtain ⟨V3, hV3⟩ : ∃ V3, w4.alloc (.cells #[.string ⟨#[]⟩, .string ⟨#[]⟩] 59) = V3 := ⟨_, rfl⟩
                        have B4 := below_then BR.out hb4
                        have B5 : Hid (Below w.heap.size w V3) := Lib.hid (by rw [← hV3]; exact B4.alloc B4.size _)
                        have Z5 : Hid (Box6 V3 w.heap.size (.string ⟨#[]⟩) (.string ⟨#[]⟩) (.int .i64 0) (.string ⟨#[]⟩) (.int .i64 0) (.slice none 0 0)) := Lib.hid (by rw [← hV3]; exact (ZR.out.below hb4).alloc _)
                        have HV3 := Lib.hid hV3
                        clear hV3 hb4 B4
                        obtain ⟨c0, c1, c2, c3, c4, c5, fz⟩ := Z5.out
                        have f0 := fz 0; have f1 := fz 1; have f2 := fz 2; have f3 := fz 3; have f4 := fz 4; have f5 := fz 5
                        clear fz
                        go_wp2_with (refine wpList_at HV3.out ?_)
                        refine bodyPost_ret (ret_read (Box6.stored Z5.out _ _ _ _ _ _) rfl rfl rfl) rfl ?_
                        exact post_empty (below_set6 B5.out (Nat.le_refl _) _ _ _ _ _ _)
                      | some f =>
                        have SN := Lib.hid (sofar_step SO.out HL2.out h0 (by omega) hf)
                        rw [hf] at FI
                        simp only [fieldVal] at FI
                        clear h0 hf d0 d1 d2 d3 d4
                        go_wp2_with (go_at_call 126; refine (LN _).out.mono ?_; rintro e w3 ⟨rfl, rfl⟩)
                        refine (FI _).out.mono ?_
                        rintro e w4 ⟨rfl, hb4⟩
                        clear c0 c1 c2 c3 c4 c5 f0 f1 f2 f3 f4 f5 d5
                        obtain ⟨V3, hV3⟩ : ∃ V3, w4.alloc (.cells #[.string (bs f.1), .string (bs f.2)] 59) = V3 := ⟨_, rfl⟩
                        have hb5 : Below wr.heap.size wr V3 := by rw [← hV3]; exact hb4.alloc hb4.size _
                        have B5 := Lib.hid (below_then BR.out hb5)
                        have Z5 := Lib.hid (ZR.out.below hb5)
                        have H5 := Lib.hid (HR.out.below hb5)
                        have O5 := Lib.hid (own_below OR.out hb5)
                        have k0 : V3.cell? ⟨w4.heap.size, 0, none⟩ = some (.string (bs f.1)) := by rw [← hV3, World.cell?_alloc_new]; rfl
                        have k1 : V3.cell? ⟨w4.heap.size, 1, none⟩ = some (.string (bs f.2)) := by rw [← hV3, World.cell?_alloc_new]; rfl
                        have HV3 := Lib.hid hV3
                        have hz5 : w2.heap.size < V3.heap.size := World.block_lt_of_cell? V3 _ H5.out.c5
                        clear hV3 hb4 hb5
                        have d5 := H5.out.c5
                        have g5 := H5.out.fz 5
                        go_wp2_with (first | (refine wpList_at HV3.out ?_) | (at_builtin; refine wpList_append_own _ rfl (.tmp 90) (.tmp 92) 40 rfl (w2.heap.size + 1) 59 i0 (.agg #[.string ByteArray.empty, .string ByteArray.empty]) 2 32 Tryz.underlying40 hi hz0 hz1 hz2 rfl (by decide) _ fs.length _ rfl (O5.out.alloc _) ⟨V3.heap.size, 0, none⟩ 1 1 [.string (bs f.1), .string (bs f.2)] rfl rfl (news2H _ _ _ _) (ones_fieldH f) (by unfold maxLen; omega) (by omega) (by simp; omega) ?_; intro v' w5 hown' hgrow _; rw [show [Value.string (bs f.1), Value.string (bs f.2)] = fvals [f] from rfl, ← fvals_append, show fs.length + 1 = (fs ++ [f]).length from by simp] at hown'; have hbw : Below (w2.heap.size + 1) V3 w5 := ((Below.refl (w2.heap.size + 1) V3).alloc (by omega) _).grown hgrow (by simp; omega) (fun g hg => (O5.out.lt g hg).1); obtain ⟨A', c', rfl, hA', hF'⟩ := own_flds_h hown'; have O6 := Lib.hid hown'; have Z6 := Lib.hid (kept6 Z5.out hbw (by omega)); have H6 := Lib.hid (kept6 H5.out hbw (by omega)); have B6 := Lib.hid (B5.out.trans (hbw.mono (by omega))); have HA' := Lib.hid hA'; clear d5 g5 k0 k1 hown' hgrow hF' hA' hbw; have d5 := H6.out.c5; have g5 := H6.out.fz 5))
                        go_roundw
                        case rel => exact ⟨a1 + (l2.length + 2), fs ++ [f], A', c', by go_num, hend2, SN.out, B6.out.setCell (by simp; omega) _, Box6.far Z6.out _ _ (by simp; omega), ownsRow_setCell_below O6.out (by simp) _, HA'.out, by rw [show (fs ++ [f]).length = fs.length + 1 from by simp]; exact set6_5 H6.out _⟩
                        case measure => simp [intOf]; omega
          · obtain rfl : x = ({}, 0, y2) := HX.out.symm.trans (by have := readL_b (first := statusL) HK.out HL.out (by rw [HY.out]; exact he); rw [HY.out] at this; exact this)
            have be : (y2 != 0) = true := by rw [bne_iff_ne]; exact he
            obtain ⟨c0, c1, c2, c3, c4, c5, fz⟩ := XV.out
            have f0 := fz 0; have f1 := fz 1; have f2 := fz 2; have f3 := fz 3; have f4 := fz 4; have f5 := fz 5
            clear fz he
            go_wp2_with (refine wpList_at HV2.out ?_)
            refine bodyPost_ret (ret_read (Box6.stored XV.out _ _ _ _ _ _) rfl rfl rfl) rfl ?_
            exact post_empty (below_set6 BV.out (Nat.le_refl _) _ _ _ _ _ _)
theorem ret_response {w : World} {B : Nat} {v0 v1 v2 v3 v4 v5 n e : Value} (h : Box6 w B v0 v1 v2 v3 v4 v5) {tmps : Array Value} (h4 : tmps[2]?.getD undef = .pointer (some ⟨B, 0, none⟩)) (h5 : tmps[3]?.getD undef = n) (h6 : tmps[4]?.getD undef = e) :
    (results Tryz.f63 tmps).run Tryz.prog w = .ok (.tuple #[.agg #[v0, v1, v2, v3, v4, v5], n, e]) w := by
  simp [results, Tryz.results63, go_sem, h4, h5, h6, h.c0, h.c1, h.c2, h.c3, h.c4, h.c5]
set_option maxRecDepth 100000 in
set_option maxHeartbeats 4000000 in
theorem response_h (d : ByteArray) (M : Int) (w : World) (hs : d.size ≤ 4194304) (hm : w.cell? ⟨0, 0, none⟩ = some (.int .i64 M)) :
    Calls Tryz.prog 63 #[.string d] w (ReadPost (readL false statusL d.data.toList) w) := by
  have B0 := Lib.hid ((Below.refl _ w).alloc (Nat.le_refl _) (.cells #[.string ⟨#[]⟩, .string ⟨#[]⟩, .int .i64 0, .string ⟨#[]⟩, .int .i64 0, .slice none 0 0] 42))
  have X0 := Lib.hid (box6_new w (.string ⟨#[]⟩) (.string ⟨#[]⟩) (.int .i64 0) (.string ⟨#[]⟩) (.int .i64 0) (.slice none 0 0) 42)
  have hV : w.heap.size < (w.alloc (.cells #[.string ⟨#[]⟩, .string ⟨#[]⟩, .int .i64 0, .string ⟨#[]⟩, .int .i64 0, .slice none 0 0] 42)).heap.size := by simp
  have RD := Lib.hid (readr_c d M (w.alloc (.cells #[.string ⟨#[]⟩, .string ⟨#[]⟩, .int .i64 0, .string ⟨#[]⟩, .int .i64 0, .slice none 0 0] 42)) hs (cell_below B0.out hm))
  unfold ReadPost hdv at RD
  generalize readL false statusL d.data.toList = x at *
  obtain ⟨h, n, e⟩ := x
  go_enter Tryz.func63, Tryz.ntmps63
  go_wp2_with fail
  refine RD.out.mono ?_
  rintro e w1 ⟨A, c, rfl, hA, ho, hb⟩
  generalize w.alloc (.cells #[.string ⟨#[]⟩, .string ⟨#[]⟩, .int .i64 0, .string ⟨#[]⟩, .int .i64 0, .slice none 0 0] 42) = V at *
  have B1 := Lib.hid (below_then B0.out hb)
  have X1 := Lib.hid (X0.out.below hb)
  have O1 := Lib.hid ho
  have HA := Lib.hid hA
  obtain ⟨c0, c1, c2, c3, c4, c5, fz⟩ := X1.out
  have f0 := fz 0; have f1 := fz 1; have f2 := fz 2; have f3 := fz 3; have f4 := fz 4; have f5 := fz 5
  clear fz ho hA hb RD hm
  go_wp2
  refine bodyPost_ret (ret_response (Box6.stored X1.out _ _ _ _ _ _) rfl rfl rfl) rfl ?_
  exact ⟨A, c, rfl, HA.out, own_from (own_set6 O1.out hV _ _ _ _ _ _) (Nat.le_of_lt hV), below_set6 B1.out (Nat.le_refl _) _ _ _ _ _ _⟩
end Go.Proofs.YtgmjkkiahanekaaGreatDoor

