/- The contracts of the document's Read (printed by gz.py). -/
import Derived.Test.YtjbmipbjlhcooaaDoorHdY
import Derived.Test.YtjbmipbjlhcooaaDoorHdJ
import Derived.Test.YtjbmipbjlhcooaaDoorHdG
set_option linter.unusedVariables false
set_option linter.unusedSimpArgs false
namespace Go.Proofs.YtjbmipbjlhcooaaDoor
open Go.RowKit Lex

theorem ret_rread {w : World} {B : Nat} {v0 v1 v2 v3 v4 v5 n e : Value} (h : Box6 w B v0 v1 v2 v3 v4 v5) {tmps : Array Value} (h4 : tmps[4]?.getD undef = .pointer (some ⟨B, 0, none⟩)) (h5 : tmps[5]?.getD undef = n) (h6 : tmps[6]?.getD undef = e) :
    (results Tryd.f33 tmps).run Tryd.prog w = .ok (.tuple #[.agg #[v0, v1, v2, v3, v4, v5], n, e]) w := by
  simp [results, Tryd.results33, go_sem, h4, h5, h6, h.c0, h.c1, h.c2, h.c3, h.c4, h.c5]
theorem far6 {w : World} {B B' : Nat} {v0 v1 v2 v3 v4 v5 : Value} (h : Box6 w B v0 v1 v2 v3 v4 v5) (hn : B' ≠ B) (u0 u1 u2 u3 u4 u5 : Value) :
    Box6 ((((((w.setCell ⟨B', 0, none⟩ u0).setCell ⟨B', 1, none⟩ u1).setCell ⟨B', 2, none⟩ u2).setCell ⟨B', 3, none⟩ u3).setCell ⟨B', 4, none⟩ u4).setCell ⟨B', 5, none⟩ u5) B v0 v1 v2 v3 v4 v5 :=
  Box6.far (Box6.far (Box6.far (Box6.far (Box6.far (Box6.far h _ _ hn) _ _ hn) _ _ hn) _ _ hn) _ _ hn) _ _ hn
/-- What follows from the fields behind the first line. -/
def After (D : List UInt8) (x : Hd × Nat × Int) (h : Hd) (a0 : Nat) : Prop :=
  (∀ e2, fieldsL 32 (D.drop a0) = (none, e2) → x = ({}, 0, e2)) ∧ (∀ fs n e2, fieldsL 32 (D.drop a0) = (some (fs, n), e2) → x = ({ h with fields := fs }, n + a0, 0))
theorem after_line {skip : Bool} {first : List UInt8 → Hd × Int} {D l : List UInt8} {a : Nat} {e : Int} {h : Hd} {x : Hd × Nat × Int} (hx : readL skip first D = x) (hk : SkipAt skip D a) (hl : lineL 82 1100 (D.drop a) = (some l, e)) (hf : first l = (h, 0)) : After D x h (a + (l.length + 2)) := by
  refine ⟨fun e2 hg => hx.symm.trans (readL_p hk hl (by rw [hf]) hg), fun fs n e2 hg => hx.symm.trans ?_⟩
  have := readL_w (first := first) hk hl (by rw [hf]) hg
  rw [hf] at this
  rw [this]
  congr 2
  omega
theorem line_text {over : Int} {room : Nat} {s : ByteArray} {a : Nat} {l : List UInt8} {e : Int} (h : lineL over room (s.data.toList.drop a) = (some l, e)) : (s.extract a (a + l.length)).data.toList = l ∧ a + (l.length + 2) ≤ s.size ∧ l.length ≤ room ∧ e = 0 := by
  obtain ⟨h1, h2, h3⟩ := line_end h
  obtain ⟨r, hr, _⟩ := lineL_some h
  refine ⟨?_, by rw [size_list] at h1; exact h1, h2, h3⟩
  rw [ext_list, hr, Nat.add_sub_cancel_left, List.take_left]
set_option maxRecDepth 100000 in
set_option maxHeartbeats 16000000 in
theorem rreadq_c (d : ByteArray) (w : World) (hs : d.size ≤ 4194304) :
    Calls Tryd.prog 33 #[.string d, .bool false] w (ReadPost (readL true startL d.data.toList) w) := by
  obtain ⟨i0, hi, hz0, hz1, hz2⟩ := info_parts info_fieldH
  obtain ⟨x, hx⟩ : ∃ x, readL true startL d.data.toList = x := ⟨_, rfl⟩
  rw [hx]
  have HX := Lib.hid hx
  clear hx
  have b0 := ((Below.refl _ w).alloc (Nat.le_refl _) (.cells #[.string ⟨#[]⟩, .string ⟨#[]⟩, .int .i64 0, .string ⟨#[]⟩, .int .i64 0, .slice none 0 0] 43))
  have x0 := box6_new w (.string ⟨#[]⟩) (.string ⟨#[]⟩) (.int .i64 0) (.string ⟨#[]⟩) (.int .i64 0) (.slice none 0 0) 43
  obtain ⟨V, hV⟩ : ∃ V, w.alloc (.cells #[.string ⟨#[]⟩, .string ⟨#[]⟩, .int .i64 0, .string ⟨#[]⟩, .int .i64 0, .slice none 0 0] 43) = V := ⟨_, rfl⟩
  have hVs : V.heap.size = w.heap.size + 1 := by rw [← hV]; simp
  rw [hV] at b0 x0
  have HV := Lib.hid hV
  clear hV
  obtain ⟨U, hU⟩ : ∃ U, V.alloc (.cells #[.string ⟨#[]⟩, .string ⟨#[]⟩, .int .i64 0, .string ⟨#[]⟩, .int .i64 0, .slice none 0 0] 43) = U := ⟨_, rfl⟩
  have BU : Hid (Below w.heap.size w U) := Lib.hid (by rw [← hU]; exact b0.alloc b0.size _)
  have ZU : Hid (Box6 U w.heap.size (.string ⟨#[]⟩) (.string ⟨#[]⟩) (.int .i64 0) (.string ⟨#[]⟩) (.int .i64 0) (.slice none 0 0)) := Lib.hid (by rw [← hU]; exact x0.alloc _)
  have XU : Hid (Box6 U (w.heap.size + 1) (.string ⟨#[]⟩) (.string ⟨#[]⟩) (.int .i64 0) (.string ⟨#[]⟩) (.int .i64 0) (.slice none 0 0)) := Lib.hid (by rw [← hVs, ← hU]; exact box6_new _ _ _ _ _ _ _ _)
  have HU := Lib.hid hU
  have hne : w.heap.size ≠ w.heap.size + 1 := by omega
  have hnl : w.heap.size ≤ w.heap.size + 1 := by omega
  clear hU b0 x0
  go_enter Tryd.func33, Tryd.ntmps33
  go_wp2_with fail
  rw [HV.out]
  go_loop [7] (fun i => ∃ a : Nat, a ≤ d.size ∧ i = .int .i64 a ∧ ∃ j, a = 2 * j ∧ ahead d.data.toList = j + ahead (d.data.toList.drop a)) (fun i => d.size - (intOf i).toNat)
  case atStart => exact ⟨0, Nat.zero_le _, rfl, 0, rfl, by simp⟩
  case round =>
    obtain ⟨a, ha, rfl, hj⟩ := hrel
    have HJ := Lib.hid hj
    clear hj
    have cs : ((((a : Int) + 1 < (d.size : Int)) ∧ (0 : Int) ≤ (a : Int) + 1 ∧ ∃ (h0 : a < d.size) (h1 : a + 1 < d.size), (((d[a].toNat : Int) == 13) = true ∧ ((d[a + 1].toNat : Int) == 10) = true) ∧ ∃ j, a + 2 = 2 * j ∧ ahead d.data.toList = j + ahead (d.data.toList.drop (a + 2)))) ∨
        (SkipAt true d.data.toList a ∧ ((¬ (a : Int) + 1 < (d.size : Int)) ∨ (((a : Int) + 1 < (d.size : Int)) ∧ (0 : Int) ≤ (a : Int) + 1 ∧ ∃ (h0 : a < d.size) (h1 : a + 1 < d.size), (((d[a].toNat : Int) == 13) = false ∨ (((d[a].toNat : Int) == 13) = true ∧ ((d[a + 1].toNat : Int) == 10) = false))))) := by
      obtain ⟨j, hj1, hj2⟩ := HJ.out
      have sk : (∀ t, d.data.toList.drop a ≠ 13 :: 10 :: t) → SkipAt true d.data.toList a := fun h => by
        unfold SkipAt
        rw [if_pos rfl, hj2, fresh_iff.2 h]; omega
      by_cases h1 : a + 1 < d.size
      · have h0 : a < d.size := by omega
        have e : d.data.toList.drop a = d[a] :: d[a + 1] :: d.data.toList.drop (a + 2) := by rw [byte_at d a h0, byte_at d (a + 1) h1]
        have b13 := eqN d[a] 13 13 rfl
        have b10 := eqN d[a + 1] 10 10 rfl
        by_cases h13 : d[a] = 13
        · by_cases h10 : d[a + 1] = 10
          · refine .inl ⟨by omega, by omega, h0, h1, ⟨b13.trans (decide_eq_true h13), b10.trans (decide_eq_true h10)⟩, j + 1, by omega, ?_⟩
            rw [hj2, e, h13, h10, ahead_cons2]; omega
          · exact .inr ⟨sk (fun t ht => by rw [e] at ht; injection ht with _ ht; injection ht with ht _; exact h10 ht), .inr ⟨by omega, by omega, h0, h1, .inr ⟨b13.trans (decide_eq_true h13), b10.trans (decide_eq_false h10)⟩⟩⟩
        · exact .inr ⟨sk (fun t ht => by rw [e] at ht; injection ht with ht _; exact h13 ht), .inr ⟨by omega, by omega, h0, h1, .inl (b13.trans (decide_eq_false h13))⟩⟩
      · refine .inr ⟨sk (fun t ht => ?_), .inl (by omega)⟩
        have := congrArg List.length ht
        rw [List.length_drop, size_list] at this
        simp at this; omega
    clear HJ
    rcases cs with ⟨p1, p2, h0, h1, ⟨p3, p4⟩, hj⟩ | ⟨hka, cs⟩
    · have HJ := Lib.hid hj
      clear hj
      go_wp2_with fail
      go_round
      case rel => exact ⟨a + 2, by omega, by go_num, HJ.out⟩
      case measure => simp [intOf]; omega
    all_goals rcases cs with p1 | ⟨p1, p2, h0, h1, p3 | ⟨p3, p4⟩⟩
    all_goals
    have KA := Lib.hid hka
    clear hka
    go_wp2_with fail
    rw [HU.out]
    clear HU HV
    try clear p4
    try clear p3
    try clear p1
    go_loopw [7, 9] (fun at_ nn wr => (at_ = .int .i64 a ∧ nn = .int .i64 (-1) ∧ wr = U) ∨ (∃ (h : Hd) (a0 a1 : Nat) (fs : List Fd) (A : Option Addr) (c : Nat), at_ = .int .i64 a1 ∧ nn = .int .i64 fs.length ∧ a1 ≤ d.size ∧ SoFar d.data.toList a0 a1 fs ∧ After d.data.toList x h a0 ∧ Below w.heap.size w wr ∧
      Box6 wr w.heap.size (.string ⟨#[]⟩) (.string ⟨#[]⟩) (.int .i64 0) (.string ⟨#[]⟩) (.int .i64 0) (.slice none 0 0) ∧ wr.ownsRow (w.heap.size + 2) 50 2 (.slice A fs.length c) fs.length (fvals fs) ∧ (A = none → c = 0) ∧
      Box6 wr (w.heap.size + 1) (.string (bs h.method)) (.string (bs h.target)) (.int .i64 h.status) (.string (bs h.reason)) (.int .i64 h.minor) (.slice A fs.length c))) (fun _ nn _ => (33 - intOf nn).toNat)
    case atStart => exact .inl ⟨rfl, rfl, rfl⟩
    case round =>
      rcases hrel with ⟨rfl, rfl, rfl⟩ | ⟨h, a0, a1, fs, A, c, rfl, rfl, ha1, hso, hAf, hB, hZ, hO, hA, hH⟩
      · have LN := fun w => Lib.hid (rend_c d a 1100 82 w (by omega) ha (by decide))
        obtain ⟨c0, c1, c2, c3, c4, c5, fz⟩ := ZU.out
        have f0 := fz 0; have f1 := fz 1; have f2 := fz 2; have f3 := fz 3; have f4 := fz 4; have f5 := fz 5
        clear fz
        cases hl : lineL 82 1100 (d.data.toList.drop a) with
        | mk o e0 =>
          cases o with
          | none =>
            obtain rfl : x = ({}, 0, e0) := HX.out.symm.trans (readL_n KA.out hl)
            rw [hl] at LN
            simp only [endVal] at LN
            clear hl
            go_wp2_with (go_at_call 55; refine (LN _).out.mono ?_; rintro e w3 ⟨rfl, rfl⟩)
            refine bodyPost_ret (ret_rread (Box6.stored ZU.out _ _ _ _ _ _) rfl rfl rfl) rfl ?_
            exact post_empty (below_set6 BU.out (Nat.le_refl _) _ _ _ _ _ _)
          | some l =>
            obtain ⟨eL, hend, hl1100, rfl⟩ := line_text hl
            have HL := Lib.hid hl
            rw [hl] at LN
            simp only [endVal] at LN
            obtain ⟨en, hen⟩ : ∃ en, a + l.length = en := ⟨_, rfl⟩
            rw [hen] at LN eL
            have hen2 : a + (l.length + 2) = en + 2 := by omega
            have q1 : (0 : Int) ≤ (en : Int) := by omega
            have q2 : (a : Int) ≤ (en : Int) := by omega
            have q3 : (en : Int) ≤ (d.size : Int) := by omega
            have hT : (d.extract a en).size ≤ 4194304 := by rw [← size_list, eL]; omega
            have ST := fun w => Lib.hid (rstart_c (d.extract a en) w hT)
            rw [eL] at ST
            unfold FirstPost hd0 at ST
            obtain ⟨y, hy⟩ : ∃ y, startL l = y := ⟨_, rfl⟩
            rw [hy] at ST
            have HY := Lib.hid hy
            clear hl hy eL hT
            go_wp2_with (go_at_call 55; refine (LN _).out.mono ?_; rintro e w3 ⟨rfl, rfl⟩)
            refine (ST _).out.mono ?_
            rintro e w2 ⟨h, rfl, hh, hb2⟩
            have HH := Lib.hid hh
            obtain ⟨y1, y2⟩ := y
            have X2 := XU.out.below hb2
            obtain ⟨V2, hV2⟩ : ∃ V2, ((((((w2.setCell ⟨w.heap.size + 1, 0, none⟩ (.string (bs h.method))).setCell ⟨w.heap.size + 1, 1, none⟩ (.string (bs h.target))).setCell ⟨w.heap.size + 1, 2, none⟩ (.int .i64 h.status)).setCell ⟨w.heap.size + 1, 3, none⟩ (.string (bs h.reason))).setCell ⟨w.heap.size + 1, 4, none⟩ (.int .i64 h.minor)).setCell ⟨w.heap.size + 1, 5, none⟩ (.slice none 0 0)) = V2 := ⟨_, rfl⟩
            have BV : Hid (Below w.heap.size w V2) := Lib.hid (by rw [← hV2]; exact below_set6 (below_then BU.out hb2) hnl _ _ _ _ _ _)
            have XV : Hid (Box6 V2 w.heap.size (.string ⟨#[]⟩) (.string ⟨#[]⟩) (.int .i64 0) (.string ⟨#[]⟩) (.int .i64 0) (.slice none 0 0)) := Lib.hid (by rw [← hV2]; exact far6 (ZU.out.below hb2) (Ne.symm hne) _ _ _ _ _ _)
            have XH : Hid (Box6 V2 (w.heap.size + 1) (.string (bs h.method)) (.string (bs h.target)) (.int .i64 h.status) (.string (bs h.reason)) (.int .i64 h.minor) (.slice none 0 0)) := Lib.hid (by rw [← hV2]; exact Box6.stored X2 _ _ _ _ _ _)
            have HV2 := Lib.hid hV2
            obtain ⟨d0, d1, d2, d3, d4, d5, gz⟩ := X2
            have g0 := gz 0; have g1 := gz 1; have g2 := gz 2; have g3 := gz 3; have g4 := gz 4; have g5 := gz 5
            clear gz hV2 hb2 hh c0 c1 c2 c3 c4 c5 f0 f1 f2 f3 f4 f5
            obtain ⟨c0, c1, c2, c3, c4, c5, fz⟩ := XV.out
            have f0 := fz 0; have f1 := fz 1; have f2 := fz 2; have f3 := fz 3; have f4 := fz 4; have f5 := fz 5
            clear fz
            by_cases he : y2 = 0
            · subst he
              obtain rfl : h = y1 := HH.out rfl
              have AF := Lib.hid (after_line HX.out KA.out HL.out HY.out)
              rw [hen2] at AF
              clear HX ST
              go_wp2_with (rw [HV2.out])
              go_roundw
              case rel => exact .inr ⟨h, en + 2, en + 2, [], none, 0, by go_num, rfl, by omega, sofar_start _ _, AF.out, BV.out, XV.out, World.ownsRow_nil _ _ _ _, fun _ => rfl, XH.out⟩
              case measure => simp [intOf]
            · have hx2 : x = ({}, 0, y2) := HX.out.symm.trans (by have := readL_b (first := startL) KA.out HL.out (by rw [HY.out]; exact he); rw [HY.out] at this; exact this)
              subst hx2
              have be : (y2 != 0) = true := by rw [bne_iff_ne]; exact he
              clear he
              go_wp2_with (rw [HV2.out])
              refine bodyPost_ret (ret_rread (Box6.stored XV.out _ _ _ _ _ _) rfl rfl rfl) rfl ?_
              exact post_empty (below_set6 BV.out (Nat.le_refl _) _ _ _ _ _ _)
      · have BR := Lib.hid hB
        have ZR := Lib.hid hZ
        have OR := Lib.hid hO
        have HR := Lib.hid hH
        have SO := Lib.hid hso
        have AR := Lib.hid hA
        have AF := Lib.hid hAf
        have h32 := hso.2.2
        have hlt2 := World.block_lt_of_cell? wr _ hH.c0
        simp only at hlt2
        have LN := fun w => Lib.hid (rend_c d a1 512 83 w (by omega) ha1 (by decide))
        obtain ⟨c0, c1, c2, c3, c4, c5, fz⟩ := hZ
        have f0 := fz 0; have f1 := fz 1; have f2 := fz 2; have f3 := fz 3; have f4 := fz 4; have f5 := fz 5
        have n1 : (-1 : Int) ≠ (fs.length : Int) := by omega
        have n2 : (fs.length : Int) ≤ 32 := by omega
        have n3 : ¬ (fs.length : Int) < 0 := by omega
        clear fz hso hB hO hA hH hAf HX XU BU ZU KA
        cases hl2 : lineL 83 512 (d.data.toList.drop a1) with
        | mk o e0 =>
          cases o with
          | none =>
            obtain rfl := AF.out.1 _ (sofar_none SO.out hl2)
            rw [hl2] at LN
            simp only [endVal] at LN
            clear hl2
            go_wp2_with (go_at_call 55; refine (LN _).out.mono ?_; rintro e w3 ⟨rfl, rfl⟩)
            refine bodyPost_ret (ret_rread (Box6.stored ZR.out _ _ _ _ _ _) rfl rfl rfl) rfl ?_
            exact post_empty (below_set6 BR.out (Nat.le_refl _) _ _ _ _ _ _)
          | some l2 =>
            obtain ⟨eL, hend2, hl512, rfl⟩ := line_text hl2
            have HL2 := Lib.hid hl2
            rw [hl2] at LN
            simp only [endVal] at LN
            obtain ⟨en, hen⟩ : ∃ en, a1 + l2.length = en := ⟨_, rfl⟩
            rw [hen] at LN eL
            have hen2 : a1 + (l2.length + 2) = en + 2 := by omega
            have q1 : (0 : Int) ≤ (en : Int) := by omega
            have q2 : (a1 : Int) ≤ (en : Int) := by omega
            have q3 : (en : Int) ≤ (d.size : Int) := by omega
            have q4 : ¬ (en : Int) < 0 := by omega
            have EL := Lib.hid eL
            clear hl2
            by_cases h0 : l2 = []
            · subst h0
              obtain rfl := AF.out.2 _ _ _ (sofar_end SO.out HL2.out)
              have hk : (en : Int) + 2 = ((2 + (a1 - a0) + a0 : Nat) : Int) := by have := SO.out.2.1; simp at hen; omega
              have HKK := Lib.hid hk
              have hemp : (d.extract a1 en).toList = [] := by rw [Lib.toList_data]; exact eL
              obtain ⟨d0, d1, d2, d3, d4, d5, gz⟩ := HR.out
              clear gz hk eL
              go_wp2_with (go_at_call 55; refine (LN _).out.mono ?_; rintro e w3 ⟨rfl, rfl⟩)
              refine bodyPost_ret (ret_rread (Box6.stored ZR.out _ _ _ _ _ _) rfl rfl rfl) rfl ?_
              exact post_whole (by omega) HKK.out (own_set6 OR.out (by omega) _ _ _ _ _ _) AR.out (below_set6 BR.out (Nat.le_refl _) _ _ _ _ _ _)
            · have hemp : ¬ (d.extract a1 en).toList = [] := by rw [Lib.toList_data, eL]; exact h0
              have hemp2 : (d.extract a1 en).toList.isEmpty = false := by cases h : (d.extract a1 en).toList with
                | nil => exact absurd h hemp
                | cons => rfl
              by_cases h3 : 32 ≤ fs.length
              · obtain rfl := AF.out.1 _ (sofar_large SO.out HL2.out h0 h3)
                have b32 : ((fs.length : Int) == 32) = true := by rw [beq_iff_eq]; omega
                clear h0 eL
                go_wp2_with (go_at_call 55; refine (LN _).out.mono ?_; rintro e w3 ⟨rfl, rfl⟩)
                refine bodyPost_ret (ret_rread (Box6.stored ZR.out _ _ _ _ _ _) rfl rfl rfl) rfl ?_
                exact post_empty (below_set6 BR.out (Nat.le_refl _) _ _ _ _ _ _)
              · have b32 : ((fs.length : Int) == 32) = false := by rw [beq_eq_false_iff_ne]; omega
                have FI := fun w => Lib.hid (rfield_c (d.extract a1 en) w (by rw [← size_list, eL]; omega))
                rw [eL] at FI
                cases hf : fieldL l2 with
                | none =>
                  obtain rfl := AF.out.1 _ (sofar_bad SO.out HL2.out h0 (by omega) hf)
                  rw [hf] at FI
                  simp only [fieldVal] at FI
                  clear h0 hf eL c0 c1 c2 c3 c4 c5 f0 f1 f2 f3 f4 f5
                  go_wp2_with (go_at_call 55; refine (LN _).out.mono ?_; rintro e w3 ⟨rfl, rfl⟩)
                  refine (FI _).out.mono ?_
                  rintro e w4 ⟨rfl, hb4⟩
                  obtain ⟨V3, hV3⟩ : ∃ V3, w4.alloc (.cells #[.string ⟨#[]⟩, .string ⟨#[]⟩] 50) = V3 := ⟨_, rfl⟩
                  have B4 := below_then BR.out hb4
                  have B5 : Hid (Below w.heap.size w V3) := Lib.hid (by rw [← hV3]; exact B4.alloc B4.size _)
                  have Z5 : Hid (Box6 V3 w.heap.size (.string ⟨#[]⟩) (.string ⟨#[]⟩) (.int .i64 0) (.string ⟨#[]⟩) (.int .i64 0) (.slice none 0 0)) := Lib.hid (by rw [← hV3]; exact (ZR.out.below hb4).alloc _)
                  have HV3 := Lib.hid hV3
                  clear hV3 hb4 B4
                  obtain ⟨c0, c1, c2, c3, c4, c5, fz⟩ := Z5.out
                  have f0 := fz 0; have f1 := fz 1; have f2 := fz 2; have f3 := fz 3; have f4 := fz 4; have f5 := fz 5
                  clear fz
                  go_wp2_with (refine wpList_at HV3.out ?_)
                  refine bodyPost_ret (ret_rread (Box6.stored Z5.out _ _ _ _ _ _) rfl rfl rfl) rfl ?_
                  exact post_empty (below_set6 B5.out (Nat.le_refl _) _ _ _ _ _ _)
                | some f =>
                  have SN := Lib.hid (sofar_step SO.out HL2.out h0 (by omega) hf)
                  rw [hen2] at SN
                  rw [hf] at FI
                  simp only [fieldVal] at FI
                  clear h0 hf eL c0 c1 c2 c3 c4 c5 f0 f1 f2 f3 f4 f5
                  go_wp2_with (go_at_call 55; refine (LN _).out.mono ?_; rintro e w3 ⟨rfl, rfl⟩)
                  refine (FI _).out.mono ?_
                  rintro e w4 ⟨rfl, hb4⟩
                  obtain ⟨V3, hV3⟩ : ∃ V3, w4.alloc (.cells #[.string (bs f.1), .string (bs f.2)] 50) = V3 := ⟨_, rfl⟩
                  have hb5 : Below wr.heap.size wr V3 := by rw [← hV3]; exact hb4.alloc hb4.size _
                  have B5 := Lib.hid (below_then BR.out hb5)
                  have Z5 := Lib.hid (ZR.out.below hb5)
                  have H5 := Lib.hid (HR.out.below hb5)
                  have O5 := Lib.hid (own_below OR.out hb5)
                  have k0 : V3.cell? ⟨w4.heap.size, 0, none⟩ = some (.string (bs f.1)) := by rw [← hV3, World.cell?_alloc_new]; rfl
                  have k1 : V3.cell? ⟨w4.heap.size, 1, none⟩ = some (.string (bs f.2)) := by rw [← hV3, World.cell?_alloc_new]; rfl
                  have HV3 := Lib.hid hV3
                  have hz5 : w.heap.size + 1 < V3.heap.size := World.block_lt_of_cell? V3 _ H5.out.c5
                  clear hV3 hb4 hb5
                  have d5 := H5.out.c5
                  have g5 := H5.out.fz 5
                  go_wp2_with (first | (rw [HV3.out]) | (at_builtin; refine wpList_append_own _ rfl (.tmp 99) (.tmp 101) 41 rfl (w.heap.size + 2) 50 i0 (.agg #[.string ByteArray.empty, .string ByteArray.empty]) 2 32 Tryd.underlying41 hi hz0 hz1 hz2 rfl (by decide) _ fs.length _ rfl (O5.out.alloc _) ⟨V3.heap.size, 0, none⟩ 1 1 [.string (bs f.1), .string (bs f.2)] rfl rfl (news2H _ _ _ _) (ones_fieldH f) (by unfold maxLen; omega) (by omega) (by simp; omega) ?_; intro v' w5 hown' hgrow _; rw [show [Value.string (bs f.1), Value.string (bs f.2)] = fvals [f] from rfl, ← fvals_append, show fs.length + 1 = (fs ++ [f]).length from by simp] at hown'; have hbw : Below (w.heap.size + 2) V3 w5 := ((Below.refl (w.heap.size + 2) V3).alloc (by omega) _).grown hgrow (by simp; omega) (fun g hg => (O5.out.lt g hg).1); obtain ⟨A', c', rfl, hA', hF'⟩ := own_flds_h hown'; have O6 := Lib.hid hown'; have Z6 := Lib.hid (kept6 Z5.out hbw (by omega)); have H6 := Lib.hid (kept6 H5.out hbw (by omega)); have B6 := Lib.hid (B5.out.trans (hbw.mono (by omega))); have HA' := Lib.hid hA'; clear d5 g5 k0 k1 hown' hgrow hF' hA' hbw; have d5 := H6.out.c5; have g5 := H6.out.fz 5))
                  go_roundw
                  case rel => exact .inr ⟨h, a0, en + 2, fs ++ [f], A', c', by go_num, by rw [List.length_append, List.length_singleton]; go_num, by omega, SN.out, AF.out, B6.out.setCell (by simp) _, Box6.far Z6.out _ _ (by simp), ownsRow_setCell_below O6.out (by simp) _, HA'.out, by rw [show (fs ++ [f]).length = fs.length + 1 from by simp]; exact set6_5 H6.out _⟩
                  case measure => simp [intOf]; omega
end Go.Proofs.YtjbmipbjlhcooaaDoor
