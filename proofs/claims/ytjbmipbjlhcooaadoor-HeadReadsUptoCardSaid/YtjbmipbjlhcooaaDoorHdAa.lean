/- The contract of the document's Read of a response; the walk over HeadReads. -/
import Derived.Test.YtjbmipbjlhcooaaDoorHdU
import Derived.Test.YtjbmipbjlhcooaaDoorHdZ
set_option linter.unusedVariables false
set_option linter.unusedSimpArgs false
namespace Go.Proofs.YtjbmipbjlhcooaaDoor
open Go.RowKit Lex

set_option maxRecDepth 100000 in
set_option maxHeartbeats 16000000 in
theorem rreadr_c (d : ByteArray) (w : World) (hs : d.size ≤ 4194304) :
    Calls Tryd.prog 33 #[.string d, .bool true] w (ReadPost (readL false statusL d.data.toList) w) := by
  obtain ⟨i0, hi, hz0, hz1, hz2⟩ := info_parts info_fieldH
  obtain ⟨x, hx⟩ : ∃ x, readL false statusL d.data.toList = x := ⟨_, rfl⟩
  rw [hx]
  have HX := Lib.hid hx
  clear hx
  have b0 := ((Below.refl _ w).alloc (Nat.le_refl _) (.cells #[.string ⟨#[]⟩, .string ⟨#[]⟩, .int .i64 0, .string ⟨#[]⟩, .int .i64 0, .slice none 0 0] 43))
  have x0 := box6_new w (.string ⟨#[]⟩) (.string ⟨#[]⟩) (.int .i64 0) (.string ⟨#[]⟩) (.int .i64 0) (.slice none 0 0) 43
  obtain ⟨V, hV⟩ : ∃ V, w.alloc (.cells #[.string ⟨#[]⟩, .string ⟨#[]⟩, .int .i64 0, .string ⟨#[]⟩, .int .i64 0, .slice none 0 0] 43) = V := ⟨_, rfl⟩
  have hVs : V.heap.size = w.heap.size + 1 := by rw [← hV]; simp
  rw [hV] at b0 x0
  have HV := Lib.hid hV
  clear hV
  obtain ⟨U, hU⟩ : ∃ U, V.alloc (.cells #[.string ⟨#[]⟩, .string ⟨#[]⟩, .int .i64 0, .string ⟨#[]⟩, .int .i64 0, .slice none 0 0] 43) = U := ⟨_, rfl⟩
  have BU : Hid (Below w.heap.size w U) := Lib.hid (by rw [← hU]; exact b0.alloc b0.size _)
  have ZU : Hid (Box6 U w.heap.size (.string ⟨#[]⟩) (.string ⟨#[]⟩) (.int .i64 0) (.string ⟨#[]⟩) (.int .i64 0) (.slice none 0 0)) := Lib.hid (by rw [← hU]; exact x0.alloc _)
  have XU : Hid (Box6 U (w.heap.size + 1) (.string ⟨#[]⟩) (.string ⟨#[]⟩) (.int .i64 0) (.string ⟨#[]⟩) (.int .i64 0) (.slice none 0 0)) := Lib.hid (by rw [← hVs, ← hU]; exact box6_new _ _ _ _ _ _ _ _)
  have HU := Lib.hid hU
  have hne : w.heap.size ≠ w.heap.size + 1 := by omega
  have hnl : w.heap.size ≤ w.heap.size + 1 := by omega
  clear hU b0 x0
  go_enter Tryd.func33, Tryd.ntmps33
  go_wp2_with fail
  rw [HV.out]
  go_loop [7] (fun i => ∃ a : Nat, a ≤ d.size ∧ i = .int .i64 a ∧ a = 0) (fun i => d.size - (intOf i).toNat)
  case atStart => exact ⟨0, Nat.zero_le _, rfl, rfl⟩
  case round =>
    obtain ⟨a, ha, rfl, hz⟩ := hrel
    have hka : SkipAt false d.data.toList a := by unfold SkipAt; rw [hz]; rfl
    clear hz
    have KA := Lib.hid hka
    clear hka
    go_wp2_with fail
    rw [HU.out]
    clear HU HV
    try clear p4
    try clear p3
    try clear p1
    go_loopw [7, 9] (fun at_ nn wr => (at_ = .int .i64 a ∧ nn = .int .i64 (-1) ∧ wr = U) ∨ (∃ (h : Hd) (a0 a1 : Nat) (fs : List Fd) (A : Option Addr) (c : Nat), at_ = .int .i64 a1 ∧ nn = .int .i64 fs.length ∧ a1 ≤ d.size ∧ SoFar d.data.toList a0 a1 fs ∧ After d.data.toList x h a0 ∧ Below w.heap.size w wr ∧
      Box6 wr w.heap.size (.string ⟨#[]⟩) (.string ⟨#[]⟩) (.int .i64 0) (.string ⟨#[]⟩) (.int .i64 0) (.slice none 0 0) ∧ wr.ownsRow (w.heap.size + 2) 50 2 (.slice A fs.length c) fs.length (fvals fs) ∧ (A = none → c = 0) ∧
      Box6 wr (w.heap.size + 1) (.string (bs h.method)) (.string (bs h.target)) (.int .i64 h.status) (.string (bs h.reason)) (.int .i64 h.minor) (.slice A fs.length c))) (fun _ nn _ => (33 - intOf nn).toNat)
    case atStart => exact .inl ⟨rfl, rfl, rfl⟩
    case round =>
      rcases hrel with ⟨rfl, rfl, rfl⟩ | ⟨h, a0, a1, fs, A, c, rfl, rfl, ha1, hso, hAf, hB, hZ, hO, hA, hH⟩
      · have LN := fun w => Lib.hid (rend_c d a 1100 82 w (by omega) ha (by decide))
        obtain ⟨c0, c1, c2, c3, c4, c5, fz⟩ := ZU.out
        have f0 := fz 0; have f1 := fz 1; have f2 := fz 2; have f3 := fz 3; have f4 := fz 4; have f5 := fz 5
        clear fz
        cases hl : lineL 82 1100 (d.data.toList.drop a) with
        | mk o e0 =>
          cases o with
          | none =>
            obtain rfl : x = ({}, 0, e0) := HX.out.symm.trans (readL_n KA.out hl)
            rw [hl] at LN
            simp only [endVal] at LN
            clear hl
            go_wp2_with (go_at_call 55; refine (LN _).out.mono ?_; rintro e w3 ⟨rfl, rfl⟩)
            refine bodyPost_ret (ret_rread (Box6.stored ZU.out _ _ _ _ _ _) rfl rfl rfl) rfl ?_
            exact post_empty (below_set6 BU.out (Nat.le_refl _) _ _ _ _ _ _)
          | some l =>
            obtain ⟨eL, hend, hl1100, rfl⟩ := line_text hl
            have HL := Lib.hid hl
            rw [hl] at LN
            simp only [endVal] at LN
            obtain ⟨en, hen⟩ : ∃ en, a + l.length = en := ⟨_, rfl⟩
            rw [hen] at LN eL
            have hen2 : a + (l.length + 2) = en + 2 := by omega
            have q1 : (0 : Int) ≤ (en : Int) := by omega
            have q2 : (a : Int) ≤ (en : Int) := by omega
            have q3 : (en : Int) ≤ (d.size : Int) := by omega
            have hT : (d.extract a en).size ≤ 4194304 := by rw [← size_list, eL]; omega
            have ST := fun w => Lib.hid (rstart_c (d.extract a en) w hT)
            have ST2 := fun w => Lib.hid (rstatus_c (d.extract a en) w hT)
            rw [eL] at ST2
            unfold FirstPost hd0 at ST2
            obtain ⟨y, hy⟩ : ∃ y, statusL l = y := ⟨_, rfl⟩
            rw [hy] at ST2
            have HY := Lib.hid hy
            clear hy
            rw [eL] at ST
            unfold FirstPost hd0 at ST
            clear hl eL hT
            go_wp2_with (go_at_call 55; refine (LN _).out.mono ?_; rintro e w3 ⟨rfl, rfl⟩)
            refine (ST _).out.mono ?_
            rintro e w2 ⟨h, rfl, hh, hb2⟩
            have X2 := XU.out.below hb2
            obtain ⟨V2, hV2⟩ : ∃ V2, ((((((w2.setCell ⟨w.heap.size + 1, 0, none⟩ (.string (bs h.method))).setCell ⟨w.heap.size + 1, 1, none⟩ (.string (bs h.target))).setCell ⟨w.heap.size + 1, 2, none⟩ (.int .i64 h.status)).setCell ⟨w.heap.size + 1, 3, none⟩ (.string (bs h.reason))).setCell ⟨w.heap.size + 1, 4, none⟩ (.int .i64 h.minor)).setCell ⟨w.heap.size + 1, 5, none⟩ (.slice none 0 0)) = V2 := ⟨_, rfl⟩
            have BV : Hid (Below w.heap.size w V2) := Lib.hid (by rw [← hV2]; exact below_set6 (below_then BU.out hb2) hnl _ _ _ _ _ _)
            have XV : Hid (Box6 V2 w.heap.size (.string ⟨#[]⟩) (.string ⟨#[]⟩) (.int .i64 0) (.string ⟨#[]⟩) (.int .i64 0) (.slice none 0 0)) := Lib.hid (by rw [← hV2]; exact far6 (ZU.out.below hb2) (Ne.symm hne) _ _ _ _ _ _)
            have XH : Hid (Box6 V2 (w.heap.size + 1) (.string (bs h.method)) (.string (bs h.target)) (.int .i64 h.status) (.string (bs h.reason)) (.int .i64 h.minor) (.slice none 0 0)) := Lib.hid (by rw [← hV2]; exact Box6.stored X2 _ _ _ _ _ _)
            have HV2 := Lib.hid hV2
            obtain ⟨d0, d1, d2, d3, d4, d5, gz⟩ := X2
            have g0 := gz 0; have g1 := gz 1; have g2 := gz 2; have g3 := gz 3; have g4 := gz 4; have g5 := gz 5
            clear gz hV2 hb2 hh c0 c1 c2 c3 c4 c5 f0 f1 f2 f3 f4 f5
            go_wp2_with (rw [HV2.out])
            clear HV2 d0 d1 d2 d3 d4 d5 g0 g1 g2 g3 g4 g5
            refine (ST2 _).out.mono ?_
            rintro e w5 ⟨hz, rfl, hh, hb5⟩
            have HH := Lib.hid hh
            obtain ⟨y1, y2⟩ := y
            obtain ⟨BO, hBO⟩ : ∃ BO, BO = BV := ⟨_, rfl⟩
            have X5 := XH.out.below hb5
            have Z5 := XV.out.below hb5
            have B5 := below_then BV.out hb5
            clear BO hBO XH XV BV
            obtain ⟨V2, hV2⟩ : ∃ V2, ((((((w5.setCell ⟨w.heap.size + 1, 0, none⟩ (.string (bs hz.method))).setCell ⟨w.heap.size + 1, 1, none⟩ (.string (bs hz.target))).setCell ⟨w.heap.size + 1, 2, none⟩ (.int .i64 hz.status)).setCell ⟨w.heap.size + 1, 3, none⟩ (.string (bs hz.reason))).setCell ⟨w.heap.size + 1, 4, none⟩ (.int .i64 hz.minor)).setCell ⟨w.heap.size + 1, 5, none⟩ (.slice none 0 0)) = V2 := ⟨_, rfl⟩
            have BV : Hid (Below w.heap.size w V2) := Lib.hid (by rw [← hV2]; exact below_set6 B5 hnl _ _ _ _ _ _)
            have XV : Hid (Box6 V2 w.heap.size (.string ⟨#[]⟩) (.string ⟨#[]⟩) (.int .i64 0) (.string ⟨#[]⟩) (.int .i64 0) (.slice none 0 0)) := Lib.hid (by rw [← hV2]; exact far6 Z5 (Ne.symm hne) _ _ _ _ _ _)
            have XH : Hid (Box6 V2 (w.heap.size + 1) (.string (bs hz.method)) (.string (bs hz.target)) (.int .i64 hz.status) (.string (bs hz.reason)) (.int .i64 hz.minor) (.slice none 0 0)) := Lib.hid (by rw [← hV2]; exact Box6.stored X5 _ _ _ _ _ _)
            have HV2 := Lib.hid hV2
            obtain ⟨d0, d1, d2, d3, d4, d5, gz⟩ := X5
            have g0 := gz 0; have g1 := gz 1; have g2 := gz 2; have g3 := gz 3; have g4 := gz 4; have g5 := gz 5
            clear gz hV2 hb5 hh Z5 B5
            obtain ⟨c0, c1, c2, c3, c4, c5, fz⟩ := XV.out
            have f0 := fz 0; have f1 := fz 1; have f2 := fz 2; have f3 := fz 3; have f4 := fz 4; have f5 := fz 5
            clear fz
            by_cases he : y2 = 0
            · subst he
              obtain rfl : hz = y1 := HH.out rfl
              have AF := Lib.hid (after_line HX.out KA.out HL.out HY.out)
              rw [hen2] at AF
              clear HX ST ST2
              go_wp2_with (rw [HV2.out])
              go_roundw
              case rel => exact .inr ⟨hz, en + 2, en + 2, [], none, 0, by go_num, rfl, by omega, sofar_start _ _, AF.out, BV.out, XV.out, World.ownsRow_nil _ _ _ _, fun _ => rfl, XH.out⟩
              case measure => simp [intOf]
            · have hx2 : x = ({}, 0, y2) := HX.out.symm.trans (by have := readL_b (first := statusL) KA.out HL.out (by rw [HY.out]; exact he); rw [HY.out] at this; exact this)
              subst hx2
              have be : (y2 != 0) = true := by rw [bne_iff_ne]; exact he
              clear he
              go_wp2_with (rw [HV2.out])
              refine bodyPost_ret (ret_rread (Box6.stored XV.out _ _ _ _ _ _) rfl rfl rfl) rfl ?_
              exact post_empty (below_set6 BV.out (Nat.le_refl _) _ _ _ _ _ _)
      · have BR := Lib.hid hB
        have ZR := Lib.hid hZ
        have OR := Lib.hid hO
        have HR := Lib.hid hH
        have SO := Lib.hid hso
        have AR := Lib.hid hA
        have AF := Lib.hid hAf
        have h32 := hso.2.2
        have hlt2 := World.block_lt_of_cell? wr _ hH.c0
        simp only at hlt2
        have LN := fun w => Lib.hid (rend_c d a1 512 83 w (by omega) ha1 (by decide))
        obtain ⟨c0, c1, c2, c3, c4, c5, fz⟩ := hZ
        have f0 := fz 0; have f1 := fz 1; have f2 := fz 2; have f3 := fz 3; have f4 := fz 4; have f5 := fz 5
        have n1 : (-1 : Int) ≠ (fs.length : Int) := by omega
        have n2 : (fs.length : Int) ≤ 32 := by omega
        have n3 : ¬ (fs.length : Int) < 0 := by omega
        clear fz hso hB hO hA hH hAf HX XU BU ZU KA
        cases hl2 : lineL 83 512 (d.data.toList.drop a1) with
        | mk o e0 =>
          cases o with
          | none =>
            obtain rfl := AF.out.1 _ (sofar_none SO.out hl2)
            rw [hl2] at LN
            simp only [endVal] at LN
            clear hl2
            go_wp2_with (go_at_call 55; refine (LN _).out.mono ?_; rintro e w3 ⟨rfl, rfl⟩)
            refine bodyPost_ret (ret_rread (Box6.stored ZR.out _ _ _ _ _ _) rfl rfl rfl) rfl ?_
            exact post_empty (below_set6 BR.out (Nat.le_refl _) _ _ _ _ _ _)
          | some l2 =>
            obtain ⟨eL, hend2, hl512, rfl⟩ := line_text hl2
            have HL2 := Lib.hid hl2
            rw [hl2] at LN
            simp only [endVal] at LN
            obtain ⟨en, hen⟩ : ∃ en, a1 + l2.length = en := ⟨_, rfl⟩
            rw [hen] at LN eL
            have hen2 : a1 + (l2.length + 2) = en + 2 := by omega
            have q1 : (0 : Int) ≤ (en : Int) := by omega
            have q2 : (a1 : Int) ≤ (en : Int) := by omega
            have q3 : (en : Int) ≤ (d.size : Int) := by omega
            have q4 : ¬ (en : Int) < 0 := by omega
            have EL := Lib.hid eL
            clear hl2
            by_cases h0 : l2 = []
            · subst h0
              obtain rfl := AF.out.2 _ _ _ (sofar_end SO.out HL2.out)
              have hk : (en : Int) + 2 = ((2 + (a1 - a0) + a0 : Nat) : Int) := by have := SO.out.2.1; simp at hen; omega
              have HKK := Lib.hid hk
              have hemp : (d.extract a1 en).toList = [] := by rw [Lib.toList_data]; exact eL
              obtain ⟨d0, d1, d2, d3, d4, d5, gz⟩ := HR.out
              clear gz hk eL
              go_wp2_with (go_at_call 55; refine (LN _).out.mono ?_; rintro e w3 ⟨rfl, rfl⟩)
              refine bodyPost_ret (ret_rread (Box6.stored ZR.out _ _ _ _ _ _) rfl rfl rfl) rfl ?_
              exact post_whole (by omega) HKK.out (own_set6 OR.out (by omega) _ _ _ _ _ _) AR.out (below_set6 BR.out (Nat.le_refl _) _ _ _ _ _ _)
            · have hemp : ¬ (d.extract a1 en).toList = [] := by rw [Lib.toList_data, eL]; exact h0
              have hemp2 : (d.extract a1 en).toList.isEmpty = false := by cases h : (d.extract a1 en).toList with
                | nil => exact absurd h hemp
                | cons => rfl
              by_cases h3 : 32 ≤ fs.length
              · obtain rfl := AF.out.1 _ (sofar_large SO.out HL2.out h0 h3)
                have b32 : ((fs.length : Int) == 32) = true := by rw [beq_iff_eq]; omega
                clear h0 eL
                go_wp2_with (go_at_call 55; refine (LN _).out.mono ?_; rintro e w3 ⟨rfl, rfl⟩)
                refine bodyPost_ret (ret_rread (Box6.stored ZR.out _ _ _ _ _ _) rfl rfl rfl) rfl ?_
                exact post_empty (below_set6 BR.out (Nat.le_refl _) _ _ _ _ _ _)
              · have b32 : ((fs.length : Int) == 32) = false := by rw [beq_eq_false_iff_ne]; omega
                have FI := fun w => Lib.hid (rfield_c (d.extract a1 en) w (by rw [← size_list, eL]; omega))
                rw [eL] at FI
                cases hf : fieldL l2 with
                | none =>
                  obtain rfl := AF.out.1 _ (sofar_bad SO.out HL2.out h0 (by omega) hf)
                  rw [hf] at FI
                  simp only [fieldVal] at FI
                  clear h0 hf eL c0 c1 c2 c3 c4 c5 f0 f1 f2 f3 f4 f5
                  go_wp2_with (go_at_call 55; refine (LN _).out.mono ?_; rintro e w3 ⟨rfl, rfl⟩)
                  refine (FI _).out.mono ?_
                  rintro e w4 ⟨rfl, hb4⟩
                  obtain ⟨V3, hV3⟩ : ∃ V3, w4.alloc (.cells #[.string ⟨#[]⟩, .string ⟨#[]⟩] 50) = V3 := ⟨_, rfl⟩
                  have B4 := below_then BR.out hb4
                  have B5 : Hid (Below w.heap.size w V3) := Lib.hid (by rw [← hV3]; exact B4.alloc B4.size _)
                  have Z5 : Hid (Box6 V3 w.heap.size (.string ⟨#[]⟩) (.string ⟨#[]⟩) (.int .i64 0) (.string ⟨#[]⟩) (.int .i64 0) (.slice none 0 0)) := Lib.hid (by rw [← hV3]; exact (ZR.out.below hb4).alloc _)
                  have HV3 := Lib.hid hV3
                  clear hV3 hb4 B4
                  obtain ⟨c0, c1, c2, c3, c4, c5, fz⟩ := Z5.out
                  have f0 := fz 0; have f1 := fz 1; have f2 := fz 2; have f3 := fz 3; have f4 := fz 4; have f5 := fz 5
                  clear fz
                  go_wp2_with (refine wpList_at HV3.out ?_)
                  refine bodyPost_ret (ret_rread (Box6.stored Z5.out _ _ _ _ _ _) rfl rfl rfl) rfl ?_
                  exact post_empty (below_set6 B5.out (Nat.le_refl _) _ _ _ _ _ _)
                | some f =>
                  have SN := Lib.hid (sofar_step SO.out HL2.out h0 (by omega) hf)
                  rw [hen2] at SN
                  rw [hf] at FI
                  simp only [fieldVal] at FI
                  clear h0 hf eL c0 c1 c2 c3 c4 c5 f0 f1 f2 f3 f4 f5
                  go_wp2_with (go_at_call 55; refine (LN _).out.mono ?_; rintro e w3 ⟨rfl, rfl⟩)
                  refine (FI _).out.mono ?_
                  rintro e w4 ⟨rfl, hb4⟩
                  obtain ⟨V3, hV3⟩ : ∃ V3, w4.alloc (.cells #[.string (bs f.1), .string (bs f.2)] 50) = V3 := ⟨_, rfl⟩
                  have hb5 : Below wr.heap.size wr V3 := by rw [← hV3]; exact hb4.alloc hb4.size _
                  have B5 := Lib.hid (below_then BR.out hb5)
                  have Z5 := Lib.hid (ZR.out.below hb5)
                  have H5 := Lib.hid (HR.out.below hb5)
                  have O5 := Lib.hid (own_below OR.out hb5)
                  have k0 : V3.cell? ⟨w4.heap.size, 0, none⟩ = some (.string (bs f.1)) := by rw [← hV3, World.cell?_alloc_new]; rfl
                  have k1 : V3.cell? ⟨w4.heap.size, 1, none⟩ = some (.string (bs f.2)) := by rw [← hV3, World.cell?_alloc_new]; rfl
                  have HV3 := Lib.hid hV3
                  have hz5 : w.heap.size + 1 < V3.heap.size := World.block_lt_of_cell? V3 _ H5.out.c5
                  clear hV3 hb4 hb5
                  have d5 := H5.out.c5
                  have g5 := H5.out.fz 5
                  go_wp2_with (first | (rw [HV3.out]) | (at_builtin; refine wpList_append_own _ rfl (.tmp 99) (.tmp 101) 41 rfl (w.heap.size + 2) 50 i0 (.agg #[.string ByteArray.empty, .string ByteArray.empty]) 2 32 Tryd.underlying41 hi hz0 hz1 hz2 rfl (by decide) _ fs.length _ rfl (O5.out.alloc _) ⟨V3.heap.size, 0, none⟩ 1 1 [.string (bs f.1), .string (bs f.2)] rfl rfl (news2H _ _ _ _) (ones_fieldH f) (by unfold maxLen; omega) (by omega) (by simp; omega) ?_; intro v' w5 hown' hgrow _; rw [show [Value.string (bs f.1), Value.string (bs f.2)] = fvals [f] from rfl, ← fvals_append, show fs.length + 1 = (fs ++ [f]).length from by simp] at hown'; have hbw : Below (w.heap.size + 2) V3 w5 := ((Below.refl (w.heap.size + 2) V3).alloc (by omega) _).grown hgrow (by simp; omega) (fun g hg => (O5.out.lt g hg).1); obtain ⟨A', c', rfl, hA', hF'⟩ := own_flds_h hown'; have O6 := Lib.hid hown'; have Z6 := Lib.hid (kept6 Z5.out hbw (by omega)); have H6 := Lib.hid (kept6 H5.out hbw (by omega)); have B6 := Lib.hid (B5.out.trans (hbw.mono (by omega))); have HA' := Lib.hid hA'; clear d5 g5 k0 k1 hown' hgrow hF' hA' hbw; have d5 := H6.out.c5; have g5 := H6.out.fz 5))
                  go_roundw
                  case rel => exact .inr ⟨h, a0, en + 2, fs ++ [f], A', c', by go_num, by rw [List.length_append, List.length_singleton]; go_num, by omega, SN.out, AF.out, B6.out.setCell (by simp) _, Box6.far Z6.out _ _ (by simp), ownsRow_setCell_below O6.out (by simp) _, HA'.out, by rw [show (fs ++ [f]).length = fs.length + 1 from by simp]; exact set6_5 H6.out _⟩
                  case measure => simp [intOf]; omega

set_option maxRecDepth 100000 in
set_option maxHeartbeats 16000000 in
theorem reads_walk {W : World} (s : ByteArray) (hs : s.size ≤ 1048576) (M : Int) (W2 : World) (hW : W2 = W) (hm : W2.cell? ⟨0, 0, none⟩ = some (.int .i64 M)) :
    Calls Tryd.prog 13 #[.string s] W2 fun e w' => e = .returned (.bool true) ∧ Below W2.heap.size W2 w' := by
  subst hW
  have AN := Lib.hid (anchor8_c M W2 hm)
  have HM := Lib.hid hm
  have RQ := fun w h => Lib.hid (request_h s M w (by omega) h)
  have RP := fun w h => Lib.hid (response_h s M w (by omega) h)
  have DQ := fun w => Lib.hid (rreadq_c s w (by omega))
  have DP := fun w => Lib.hid (rreadr_c s w (by omega))
  obtain ⟨h, n, e, hx⟩ : ∃ h n e, readL true startL s.data.toList = (h, n, e) := ⟨_, _, _, rfl⟩
  obtain ⟨g, m, f, hy⟩ : ∃ h n e, readL false statusL s.data.toList = (h, n, e) := ⟨_, _, _, rfl⟩
  have hfew := readL_few true startL s.data.toList
  have gfew := readL_few false statusL s.data.toList
  rw [hx] at RQ DQ hfew
  rw [hy] at RP DP gfew
  simp only at hfew gfew
  have SH := fun A A' c c' w h1 h2 => Lib.hid (samehead_c (bs h.method) (bs h.target) (bs h.reason) h.status h.minor A A' c c' h.fields w h1 h2 (by omega))
  have SG := fun A A' c c' w h1 h2 => Lib.hid (samehead_c (bs g.method) (bs g.target) (bs g.reason) g.status g.minor A A' c c' g.fields w h1 h2 (by omega))
  unfold ReadPost hdv at RQ RP DQ DP
  simp only at RQ RP DQ DP
  clear hx hy hm hfew gfew
  go_enter Tryd.func13, Tryd.ntmps13
  go_wp2_with fail
  refine AN.out.mono ?_
  rintro e' w1 ⟨rfl, hb1⟩
  have B1 := Lib.hid hb1
  have M1 := Lib.hid (cell_below hb1 HM.out)
  clear hb1
  go_wp2_with fail
  refine (RQ _ M1.out).out.mono ?_
  rintro e' w2 ⟨A, c, rfl, hA, ho, hb2⟩
  obtain ⟨V2, hV2⟩ : ∃ V2, w2.alloc (.cells #[.string (bs h.method), .string (bs h.target), .int .i64 h.status, .string (bs h.reason), .int .i64 h.minor, .slice A h.fields.length c] 43) = V2 := ⟨_, rfl⟩
  have b2 := below_then B1.out hb2
  have hbv : Below w2.heap.size w2 V2 := by rw [← hV2]; exact (Below.refl _ w2).alloc (Nat.le_refl _) _
  have B2 := Lib.hid (below_then b2 hbv)
  have X2 : Hid (HBox V2 w2.heap.size h A c) := Lib.hid (by rw [← hV2]; exact box6_new _ _ _ _ _ _ _ _)
  have F2 := Lib.hid ((flds_own ho).below hbv)
  have HV2 := Lib.hid hV2
  have HB := Lib.hid b2.size
  clear hV2 hA ho hb2 b2 hbv
  go_wp2_with fail
  rw [HV2.out]
  clear HV2
  refine (DQ _).out.mono ?_
  rintro e' w3 ⟨A3, c3, rfl, hA, ho, hb3⟩
  obtain ⟨V3, hV3⟩ : ∃ V3, w3.alloc (.cells #[.string (bs h.method), .string (bs h.target), .int .i64 h.status, .string (bs h.reason), .int .i64 h.minor, .slice A3 h.fields.length c3] 43) = V3 := ⟨_, rfl⟩
  have b3 := below_then B2.out hb3
  have hbv : Below w3.heap.size w3 V3 := by rw [← hV3]; exact (Below.refl _ w3).alloc (Nat.le_refl _) _
  have B3 := Lib.hid (below_then b3 hbv)
  have X3 := Lib.hid ((X2.out.below hb3).below hbv)
  have F3 := Lib.hid ((F2.out.below hb3).below hbv)
  have Y3 : Hid (HBox V3 w3.heap.size h A3 c3) := Lib.hid (by rw [← hV3]; exact box6_new _ _ _ _ _ _ _ _)
  have G3 := Lib.hid ((flds_own ho).below hbv)
  have hne : w2.heap.size < w3.heap.size := World.block_lt_of_cell? w3 _ (X2.out.below hb3).c0
  have HB2 := Lib.hid b3.size
  have HV3 := Lib.hid hV3
  clear hV3 hA ho hb3 b3 hbv X2 F2 B2
  obtain ⟨c0, c1, c2, c3', c4, c5, fz⟩ := X3.out
  obtain ⟨d0, d1, d2, d3, d4, d5, gz⟩ := Y3.out
  clear fz gz
  go_wp2_with (rw [HV3.out])
  clear HV3 c0 c1 c2 c3' c4 c5 d0 d1 d2 d3 d4 d5
  refine (SH _ _ _ _ _ F3.out G3.out).out.mono ?_
  rintro e' w4 ⟨rfl, hb4⟩
  have B4 := Lib.hid (below_then B3.out hb4)
  have X4 := Lib.hid (X3.out.below hb4)
  have Y4 := Lib.hid (Y3.out.below hb4)
  have M4 := Lib.hid (cell_below B4.out HM.out)
  clear hb4 X3 Y3 F3 G3 B3
  go_wp2_with fail
  refine (RP _ M4.out).out.mono ?_
  rintro e' w5 ⟨A5, c5, rfl, hA, ho, hb5⟩
  have hl1 := World.block_lt_of_cell? _ _ X4.out.c0
  have hl2 := World.block_lt_of_cell? _ _ Y4.out.c0
  simp only at hl1 hl2
  have X5 := X4.out.below hb5
  have Y5 := Y4.out.below hb5
  have b5 := below_then B4.out hb5
  obtain ⟨V5, hV5⟩ : ∃ V5, ((((((w5.setCell ⟨w2.heap.size, 0, none⟩ (.string (bs g.method))).setCell ⟨w2.heap.size, 1, none⟩ (.string (bs g.target))).setCell ⟨w2.heap.size, 2, none⟩ (.int .i64 g.status)).setCell ⟨w2.heap.size, 3, none⟩ (.string (bs g.reason))).setCell ⟨w2.heap.size, 4, none⟩ (.int .i64 g.minor)).setCell ⟨w2.heap.size, 5, none⟩ (.slice A5 g.fields.length c5)) = V5 := ⟨_, rfl⟩
  have B5 : Hid (Below W2.heap.size W2 V5) := Lib.hid (by rw [← hV5]; exact below_set6 b5 HB.out _ _ _ _ _ _)
  have P5 : Hid (HBox V5 w2.heap.size g A5 c5) := Lib.hid (by rw [← hV5]; exact Box6.stored X5 _ _ _ _ _ _)
  have Q5 : Hid (HBox V5 w3.heap.size h A3 c3) := Lib.hid (by rw [← hV5]; exact far6 Y5 (Nat.ne_of_lt hne) _ _ _ _ _ _)
  have O5 : Hid (V5.ownsRow w4.heap.size 50 2 (.slice A5 g.fields.length c5) g.fields.length (fvals g.fields)) := Lib.hid (by rw [← hV5]; exact own_set6 ho hl1 _ _ _ _ _ _)
  have HV5 := Lib.hid hV5
  obtain ⟨c0, c1, c2, c3', c4, c5', fz⟩ := X5
  have f0 := fz 0; have f1 := fz 1; have f2 := fz 2; have f3 := fz 3; have f4 := fz 4; have f5 := fz 5
  clear hV5 hA ho hb5 b5 Y5 X4 Y4 B4 fz
  go_wp2_with (rw [HV5.out])
  clear HV5 c0 c1 c2 c3' c4 c5' f0 f1 f2 f3 f4 f5
  refine (DP _).out.mono ?_
  rintro e' w6 ⟨A6, c6, rfl, hA, ho, hb6⟩
  have hl3 := World.block_lt_of_cell? _ _ Q5.out.c0
  simp only at hl3
  have X6 := P5.out.below hb6
  have Y6 := Q5.out.below hb6
  have b6 := below_then B5.out hb6
  obtain ⟨V6, hV6⟩ : ∃ V6, ((((((w6.setCell ⟨w3.heap.size, 0, none⟩ (.string (bs g.method))).setCell ⟨w3.heap.size, 1, none⟩ (.string (bs g.target))).setCell ⟨w3.heap.size, 2, none⟩ (.int .i64 g.status)).setCell ⟨w3.heap.size, 3, none⟩ (.string (bs g.reason))).setCell ⟨w3.heap.size, 4, none⟩ (.int .i64 g.minor)).setCell ⟨w3.heap.size, 5, none⟩ (.slice A6 g.fields.length c6)) = V6 := ⟨_, rfl⟩
  have B6 : Hid (Below W2.heap.size W2 V6) := Lib.hid (by rw [← hV6]; exact below_set6 b6 HB2.out _ _ _ _ _ _)
  have P6 : Hid (HBox V6 w2.heap.size g A5 c5) := Lib.hid (by rw [← hV6]; exact far6 X6 (Ne.symm (Nat.ne_of_lt hne)) _ _ _ _ _ _)
  have Q6 : Hid (HBox V6 w3.heap.size g A6 c6) := Lib.hid (by rw [← hV6]; exact Box6.stored Y6 _ _ _ _ _ _)
  have F6 : Hid (Flds V6 A5 g.fields) := Lib.hid (by rw [← hV6]; exact flds_own (own_set6 (own_below O5.out hb6) hl2 _ _ _ _ _ _))
  have G6 : Hid (Flds V6 A6 g.fields) := Lib.hid (by rw [← hV6]; exact flds_own (own_set6 ho hl3 _ _ _ _ _ _))
  have HV6 := Lib.hid hV6
  obtain ⟨k0, k1, k2, k3, k4, k5, fz⟩ := Y6
  have f0 := fz 0; have f1 := fz 1; have f2 := fz 2; have f3 := fz 3; have f4 := fz 4; have f5 := fz 5
  obtain ⟨c0, c1, c2, c3', c4, c5', hz⟩ := P6.out
  obtain ⟨d0, d1, d2, d3, d4, d5, gz⟩ := Q6.out
  clear hV6 hA ho hb6 b6 X6 fz gz hz P5 Q5
  go_wp2_with (rw [HV6.out])
  clear HV6 c0 c1 c2 c3' c4 c5' d0 d1 d2 d3 d4 d5 k0 k1 k2 k3 k4 k5 f0 f1 f2 f3 f4 f5
  refine (SG _ _ _ _ _ F6.out G6.out).out.mono ?_
  rintro e' w7 ⟨rfl, hb7⟩
  have B7 := Lib.hid (below_then B6.out hb7)
  clear hb7
  go_wp2
  go_ret
  exact ⟨rfl, B7.out⟩
end Go.Proofs.YtjbmipbjlhcooaaDoor
