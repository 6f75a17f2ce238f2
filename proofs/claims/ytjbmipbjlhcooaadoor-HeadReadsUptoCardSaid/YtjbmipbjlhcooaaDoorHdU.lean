/- The walk over HeadSteady. -/
import Derived.Test.YtjbmipbjlhcooaaDoorHdN
import Derived.Test.YtjbmipbjlhcooaaDoorHdT
set_option linter.unusedVariables false
set_option linter.unusedSimpArgs false
namespace Go.Proofs.YtjbmipbjlhcooaaDoor
open Go.RowKit Lex

abbrev HBox (w : World) (B : Nat) (h : Hd) (A : Option Addr) (c : Nat) : Prop := Box6 w B (.string (bs h.method)) (.string (bs h.target)) (.int .i64 h.status) (.string (bs h.reason)) (.int .i64 h.minor) (.slice A h.fields.length c)
theorem told_cases {h : Hd} {n : Nat} {e : Int} (h0 : e ≠ 0 → n = 0) : ((e != 0) = true) ∨ (e = 0 ∧ (0 : Int) < (n : Int)) ∨ (e = 0 ∧ n = 0) := by
  by_cases he : e = 0
  · by_cases hn : n = 0
    · exact .inr (.inr ⟨he, hn⟩)
    · exact .inr (.inl ⟨he, by omega⟩)
  · exact .inl (by rw [bne_iff_ne]; exact he)
set_option maxRecDepth 100000 in
set_option maxHeartbeats 16000000 in
theorem steady_walk {W : World} (s : ByteArray) (hs : s.size ≤ 1048576) (t : ByteArray) (ht : t.size ≤ 1048576) (M : Int) (W2 : World) (hW : W2 = W) (hm : W2.cell? ⟨0, 0, none⟩ = some (.int .i64 M)) :
    Calls Tryd.prog 14 #[.string s, .string t] W2 fun e w' => e = .returned (.bool true) ∧ Below W2.heap.size W2 w' := by
  subst hW
  have AN := Lib.hid (anchor8_c M W2 hm)
  have HM := Lib.hid hm
  have RQ := fun w h => Lib.hid (request_h s M w (by omega) h)
  have RP := fun w h => Lib.hid (response_h s M w (by omega) h)
  have hsz : (s ++ t).size ≤ 4194304 := by rw [← size_list, app_list, List.length_append, size_list, size_list]; omega
  obtain ⟨h, n, e, hx⟩ : ∃ h n e, readL true startL s.data.toList = (h, n, e) := ⟨_, _, _, rfl⟩
  obtain ⟨g, m, f, hy⟩ : ∃ h n e, readL false statusL s.data.toList = (h, n, e) := ⟨_, _, _, rfl⟩
  have RQ2 : (e ≠ 0 ∨ 0 < n) → ∀ w, w.cell? ⟨0, 0, none⟩ = some (.int .i64 M) → Hid (Calls Tryd.prog 26 #[.string (s ++ t)] w (ReadPost (h, n, e) w)) := by
    intro hq w h'
    have := request_h (s ++ t) M w hsz h'
    rw [app_list, readL_more t.data.toList (by rw [hx]; exact hq), hx] at this
    exact Lib.hid this
  have RP2 : (f ≠ 0 ∨ 0 < m) → ∀ w, w.cell? ⟨0, 0, none⟩ = some (.int .i64 M) → Hid (Calls Tryd.prog 34 #[.string (s ++ t)] w (ReadPost (g, m, f) w)) := by
    intro hq w h'
    have := response_h (s ++ t) M w hsz h'
    rw [app_list, readL_more t.data.toList (by rw [hy]; exact hq), hy] at this
    exact Lib.hid this
  have hfew := readL_few true startL s.data.toList
  have gfew := readL_few false statusL s.data.toList
  have herr := readL_err (skip := true) (first := startL) (d := s.data.toList)
  have gerr := readL_err (skip := false) (first := statusL) (d := s.data.toList)
  have gempty := readL_empty (skip := false) (first := statusL) (d := s.data.toList)
  rw [hx] at RQ hfew herr
  rw [hy] at RP gfew gerr gempty
  simp only at hfew gfew herr gerr gempty
  have SH := fun A A' c c' w h1 h2 => Lib.hid (samehead_c (bs h.method) (bs h.target) (bs h.reason) h.status h.minor A A' c c' h.fields w h1 h2 (by omega))
  have SG := fun A A' c c' w h1 h2 => Lib.hid (samehead_c (bs g.method) (bs g.target) (bs g.reason) g.status g.minor A A' c c' g.fields w h1 h2 (by omega))
  unfold ReadPost hdv at RQ RP RQ2 RP2
  simp only at RQ RP RQ2 RP2
  have HC := told_cases (h := h) herr
  have GC := Lib.hid (told_cases (h := g) gerr)
  have GE := Lib.hid gempty
  have hn0 : (0 : Int) ≤ (n : Int) := by omega
  have hm0 : (0 : Int) ≤ (m : Int) := by omega
  clear hx hy hm hfew gfew herr gerr gempty hsz
  rcases HC with he | ⟨he, hn⟩ | ⟨he, hn⟩
  case' inl => have RQ3 := RQ2 (.inl (by rw [bne_iff_ne] at he; exact he))
  case' inr.inl => have RQ3 := RQ2 (.inr (by omega))
  case' inr.inr => have RQ3 := True.intro
  all_goals
    clear RQ2
    go_enter Tryd.func14, Tryd.ntmps14
    go_wp2_with fail
    refine AN.out.mono ?_
    rintro e' w1 ⟨rfl, hb1⟩
    have B1 := Lib.hid hb1
    have M1 := Lib.hid (cell_below hb1 HM.out)
    clear hb1
    go_wp2_with fail
    refine (RQ _ M1.out).out.mono ?_
    rintro e' w2 ⟨A, c, rfl, hA, ho, hb2⟩
    obtain ⟨V2, hV2⟩ : ∃ V2, w2.alloc (.cells #[.string (bs h.method), .string (bs h.target), .int .i64 h.status, .string (bs h.reason), .int .i64 h.minor, .slice A h.fields.length c] 43) = V2 := ⟨_, rfl⟩
    have b2 := below_then B1.out hb2
    have hbv : Below w2.heap.size w2 V2 := by rw [← hV2]; exact (Below.refl _ w2).alloc (Nat.le_refl _) _
    have B2 := Lib.hid (below_then b2 hbv)
    have M2 := Lib.hid (cell_below B2.out HM.out)
    have X2 : Hid (HBox V2 w2.heap.size h A c) := Lib.hid (by rw [← hV2]; exact box6_new _ _ _ _ _ _ _ _)
    have F2 := Lib.hid ((flds_own ho).below hbv)
    have HV2 := Lib.hid hV2
    have HB := Lib.hid b2.size
    clear hV2 hA ho hb2 b2 hbv
    go_wp2_with fail
    rw [HV2.out]
    clear HV2
    first
    | (obtain rfl := hn
       have B6 := B2
       have X6 := X2
       have M6 := M2
       clear B2 X2 M2 F2)
    | (refine (RQ3 _ M2.out).out.mono ?_
       rintro e' w5 ⟨A5, c5, rfl, hA, ho, hb5⟩
       have B5 := Lib.hid (below_then B2.out hb5)
       have X5 := X2.out.below hb5
       have F5 := Lib.hid (F2.out.below hb5)
       have G5 := Lib.hid (flds_own ho)
       have X5' := Lib.hid X5
       obtain ⟨c0, c1, c2, c3', c4, c5', fz⟩ := X5
       have hlt := World.block_lt_of_cell? w5 _ c0
       clear hA ho hb5 fz
       go_wp2_with fail
       refine (SH _ _ _ _ _ (F5.out.below ((Below.refl _ w5).alloc (Nat.le_refl _) _)) (G5.out.below ((Below.refl _ w5).alloc (Nat.le_refl _) _))).out.mono ?_
       rintro e' w6 ⟨rfl, hb6⟩
       have B6 := Lib.hid (below_then B5.out (belowAh hb6))
       have X6 := Lib.hid (X5'.out.below (belowAh hb6))
       have M6 := Lib.hid (cell_below B6.out HM.out)
       clear hb6 B2 X2 M2 B5 X5' F5 G5 F2 c0 c1 c2 c3' c4 c5' hlt
       go_wp2_with fail)
  all_goals
    refine (RP _ M6.out).out.mono ?_
    rintro e' w7 ⟨A7, c7, rfl, hA, ho, hb7⟩
    have hlt6 := World.block_lt_of_cell? _ _ X6.out.c0
    simp only at hlt6
    have B7 := Lib.hid (below_then B6.out hb7)
    have X7 := X6.out.below hb7
    obtain ⟨V8, hV8⟩ : ∃ V8, ((((((w7.setCell ⟨w2.heap.size, 0, none⟩ (.string (bs g.method))).setCell ⟨w2.heap.size, 1, none⟩ (.string (bs g.target))).setCell ⟨w2.heap.size, 2, none⟩ (.int .i64 g.status)).setCell ⟨w2.heap.size, 3, none⟩ (.string (bs g.reason))).setCell ⟨w2.heap.size, 4, none⟩ (.int .i64 g.minor)).setCell ⟨w2.heap.size, 5, none⟩ (.slice A7 g.fields.length c7)) = V8 := ⟨_, rfl⟩
    have B8 : Hid (Below W2.heap.size W2 V8) := Lib.hid (by rw [← hV8]; exact below_set6 B7.out HB.out _ _ _ _ _ _)
    have X8 : Hid (HBox V8 w2.heap.size g A7 c7) := Lib.hid (by rw [← hV8]; exact Box6.stored X7 _ _ _ _ _ _)
    have F8 : Hid (Flds V8 A7 g.fields) := Lib.hid (by rw [← hV8]; exact flds_own (own_set6 ho hlt6 _ _ _ _ _ _))
    have M8 := Lib.hid (cell_below B8.out HM.out)
    have HV8 := Lib.hid hV8
    obtain ⟨c0, c1, c2, c3, c4, c5, fz⟩ := X7
    have f0 := fz 0; have f1 := fz 1; have f2 := fz 2; have f3 := fz 3; have f4 := fz 4; have f5 := fz 5
    clear hV8 ho hb7 hA fz B7 B6 X6 M6 hlt6
    rcases GC.out with gf | ⟨gf, gm⟩ | ⟨gf, gm⟩
    case' inl => have RP3 := RP2 (.inl (by rw [bne_iff_ne] at gf; exact gf))
    case' inr.inl => have RP3 := RP2 (.inr (by omega))
    case' inr.inr =>
      have RP3 := True.intro
      have gm2 := Lib.hid (GE.out gm)
    all_goals
      clear RP2 GE GC
      obtain ⟨d0, d1, d2, d3, d4, d5, gz⟩ := X8.out
      clear gz
      go_wp2_with (rw [HV8.out])
      clear c0 c1 c2 c3 c4 c5 f0 f1 f2 f3 f4 f5 d0 d1 d2 d3 d4 d5 HV8
      first
      | (refine (RP3 _ M8.out).out.mono ?_
         rintro e' w9 ⟨A9, c9, rfl, hA, ho, hb9⟩
         have B9 := Lib.hid (below_then B8.out hb9)
         have X9 := X8.out.below hb9
         have F9 := Lib.hid (F8.out.below hb9)
         have G9 := Lib.hid (flds_own ho)
         obtain ⟨c0, c1, c2, c3', c4, c5', fz⟩ := X9
         have hlt := World.block_lt_of_cell? w9 _ c0
         clear hA ho hb9 fz
         go_wp2_with fail
         refine (SG _ _ _ _ _ (F9.out.below ((Below.refl _ w9).alloc (Nat.le_refl _) _)) (G9.out.below ((Below.refl _ w9).alloc (Nat.le_refl _) _))).out.mono ?_
         rintro e' w10 ⟨rfl, hb10⟩
         have B10 := Lib.hid (below_then B9.out (belowAh hb10))
         clear hb10
         go_wp2
         go_ret
         exact ⟨rfl, B10.out⟩)
      | (have gm3 := gm2.out
         subst gm3
         refine (SG A7 none c7 0 _ F8.out (Flds.nil _ _)).out.mono ?_
         rintro e' w9 ⟨rfl, hb9⟩
         have B9 := Lib.hid (below_then B8.out hb9)
         clear hb9
         go_wp2
         go_ret
         exact ⟨rfl, B9.out⟩)
end Go.Proofs.YtjbmipbjlhcooaaDoor
