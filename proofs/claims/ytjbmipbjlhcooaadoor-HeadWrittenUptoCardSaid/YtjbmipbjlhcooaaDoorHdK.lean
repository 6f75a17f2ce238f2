/- The document's Same and SameHead at equal heads; the walk over HeadUsed. -/
import Derived.Test.YtjbmipbjlhcooaaDoorHdI
import Derived.BigQuiet
set_option linter.unusedVariables false
set_option linter.unusedSimpArgs false
namespace Go.Proofs.YtjbmipbjlhcooaaDoor
open Go.RowKit Lex

theorem wpList_at2 {P : Program} {ops : Array Oper} {Q : Exit → Act → World → Prop} {o o2 : Oper} {a : Act} {w w' : World} (e : w = w') (h : wpList P ops Q [o, o2] a w') : wpList P ops Q [o, o2] a w := by subst e; exact h
theorem belowAh {w w1 : World} {o : Obj} (hb : Below (w.alloc o).heap.size (w.alloc o) w1) : Below w.heap.size w w1 := ((Below.refl _ w).alloc (Nat.le_refl _) o).trans (hb.mono (by simp))
theorem sameh_c (A A' : Option Addr) (c c' : Nat) (l : List Fd) (w : World) (h1 : Flds w A l) (h2 : Flds w A' l) (hl : l.length ≤ 4398046511104) :
    Calls Tryd.prog 48 #[.slice A l.length c, .slice A' l.length c'] w fun e w' => e = .returned (.bool true) ∧ Below w.heap.size w w' := by
  have H1 := Lib.hid h1
  have H2 := Lib.hid h2
  clear h1 h2
  go_enter Tryd.func48, Tryd.ntmps48
  go_wp2
  go_loopw [5] (fun i wr => ∃ k : Nat, k ≤ l.length ∧ i = .int .i64 k ∧ Below w.heap.size w wr) (fun i _ => l.length - (intOf i).toNat)
  case atStart => exact ⟨0, Nat.zero_le _, rfl, Below.refl _ _⟩
  case round =>
    obtain ⟨k, hk, rfl, hB⟩ := hrel
    by_cases hlt : k < l.length
    · obtain ⟨g, o, hA, c1, c2⟩ := H1.out.below hB k hlt
      obtain ⟨g', o', hA', c1', c2'⟩ := H2.out.below hB k hlt
      rw [hA, hA']
      generalize bs l[k].1 = x at *
      generalize bs l[k].2 = y at *
      clear hA hA'
      have k0 : (0 : Int) ≤ (k : Int) := by omega
      have k1 : (k : Int) < (l.length : Int) := by omega
      go_wp2
      go_quiet (fail)
      go_wp2
      go_roundw
      case rel => exact ⟨k + 1, by omega, by go_num, hB.trans ⟨rfl, rfl, rfl, Nat.le_refl _, fun _ _ => rfl⟩⟩
      case measure => simp [intOf]; omega
    · go_wp2
      go_ret
      exact ⟨rfl, hB⟩
set_option maxHeartbeats 4000000 in
theorem samehead_c (m t r : ByteArray) (s mi : Int) (A A' : Option Addr) (c c' : Nat) (l : List Fd) (w : World) (h1 : Flds w A l) (h2 : Flds w A' l) (hl : l.length ≤ 4398046511104) :
    Calls Tryd.prog 27 #[.agg #[.string m, .string t, .int .i64 s, .string r, .int .i64 mi, .slice A l.length c], .agg #[.string m, .string t, .int .i64 s, .string r, .int .i64 mi, .slice A' l.length c']] w fun e w' => e = .returned (.bool true) ∧ Below w.heap.size w w' := by
  have b := ((Below.refl _ w).alloc (Nat.le_refl _) (.cells #[.string m, .string t, .int .i64 s, .string r, .int .i64 mi, .slice A l.length c] 43)).alloc (by simp) (.cells #[.string m, .string t, .int .i64 s, .string r, .int .i64 mi, .slice A' l.length c'] 43)
  have SM := Lib.hid (sameh_c A A' c c' l _ (h1.below b) (h2.below b) hl)
  have B := Lib.hid b
  clear b h1 h2 hl
  go_enter Tryd.func27, Tryd.ntmps27
  go_wp2_with (go_at_call 48; refine SM.out.mono ?_; rintro e w1 ⟨rfl, hb⟩)
  go_ret
  exact ⟨rfl, B.out.trans (hb.mono B.out.size)⟩
theorem readAt_few (first : List UInt8 → Hd × Int) (d : List UInt8) : (readAt first d).1.fields.length ≤ 32 := by
  rcases readAt_cases first d with ⟨e, h1, h2⟩ | ⟨l, e, h1, h3, h2⟩ | ⟨l, e, e2, h1, h3, h4, h2⟩ | ⟨l, e, e2, fs, n, h1, h3, h4, h2⟩ <;> rw [h2]
  · exact Nat.zero_le _
  · exact Nat.zero_le _
  · exact Nat.zero_le _
  · exact (fieldsL_used 32 h4).2.2.1
theorem readL_few (skip : Bool) (first : List UInt8 → Hd × Int) (d : List UInt8) : (readL skip first d).1.fields.length ≤ 32 := readAt_few first _
def zeroH (A : Option Addr) (c : Nat) : Value := .agg #[.string ⟨#[]⟩, .string ⟨#[]⟩, .int .i64 0, .string ⟨#[]⟩, .int .i64 0, .slice A 0 c]
set_option maxRecDepth 100000 in
set_option maxHeartbeats 8000000 in
theorem used_walk {W : World} (s : ByteArray) (hs : s.size ≤ 1048576) (cut : Int) (hcut : (Lit.int .i64 cut).wf = true) (M : Int) (W2 : World) (hW : W2 = W) (hm : W2.cell? ⟨0, 0, none⟩ = some (.int .i64 M)) :
    Calls Tryd.prog 8 #[.string s, .int .i64 cut] W2 fun e w' => e = .returned (.bool true) ∧ Below W2.heap.size W2 w' := by
  subst hW
  have AN := Lib.hid (anchor8_c M W2 hm)
  have HM := Lib.hid hm
  have RQ := fun w h => Lib.hid (request_h s M w (by omega) h)
  obtain ⟨h, n, e, hx⟩ : ∃ h n e, readL true startL s.data.toList = (h, n, e) := ⟨_, _, _, rfl⟩
  have hempty := readL_empty (skip := true) (first := startL) (d := s.data.toList)
  have herr := readL_err (skip := true) (first := startL) (d := s.data.toList)
  have hlen := readL_len (skip := true) (first := startL) (d := s.data.toList)
  have hused := readL_used (first := startL) (d := s.data.toList)
  have hfew := readL_few true startL s.data.toList
  rw [hx] at RQ hempty herr hlen hused hfew
  simp only at hempty herr hlen hused hfew
  rw [size_list] at hlen
  unfold ReadPost at RQ
  simp only at RQ
  clear hm hx
  have fin : ∀ (n1 : n = 0) (h1 : h = {}) (be : (e != 0) = true ∨ ((e != 0) = false)), Calls Tryd.prog 8 #[.string s, .int .i64 cut] W2 fun e w' => e = .returned (.bool true) ∧ Below W2.heap.size W2 w' := by
    intro n1 h1 be
    subst n1 h1
    rw [show hdv {} = zeroH from rfl] at RQ
    simp only [zeroH] at RQ
    have SH := fun A A' c c' w => Lib.hid (samehead_c ⟨#[]⟩ ⟨#[]⟩ ⟨#[]⟩ 0 0 A A' c c' [] w (fun j hj => absurd hj (by simp)) (fun j hj => absurd hj (by simp)) (by decide))
    simp only [List.length_nil] at SH
    clear hempty herr hlen hused hfew
    rcases be with be | be
    all_goals
      go_enter Tryd.func8, Tryd.ntmps8
      go_wp2_with fail
      refine AN.out.mono ?_
      rintro e w1 ⟨rfl, hb1⟩
      have B1 := Lib.hid hb1
      have M1 := Lib.hid (cell_below hb1 HM.out)
      clear hb1
      go_wp2_with fail
      refine (RQ _ M1.out).out.mono ?_
      rintro e w2 ⟨A, c, rfl, hA, ho, hb2⟩
      have B2 := Lib.hid (below_then B1.out hb2)
      clear hA ho hb2
      go_wp2_with fail
      refine (SH _ _ _ _ _).out.mono ?_
      rintro e w3 ⟨rfl, hb3⟩
      have B3 := Lib.hid (below_then B2.out (belowAh hb3))
      clear hb3
      go_wp2
      go_ret
      exact ⟨rfl, B3.out⟩
  by_cases he : e = 0
  · by_cases hn : n = 0
    · exact fin hn (hempty hn) (by cases (e != 0) <;> simp)
    · subst he
      obtain ⟨_, hcutk, hsame⟩ := hused (by omega)
      have n0 : (n : Int) ≠ 0 := by omega
      have bn : ((n : Int) == 0) = false := by rw [beq_eq_false_iff_ne]; exact n0
      have bn2 : ((n : Int) != 0) = true := by rw [bne_iff_ne]; exact n0
      have nlt : ¬ (n : Int) < 0 := by omega
      have nle : ¬ (s.size : Int) < (n : Int) := by omega
      have e2 : (s.extract 0 n).data.toList = s.data.toList.take n := by rw [ext_list]; rfl
      have R3 := fun w h => Lib.hid (request_h (s.extract 0 n) M w (by rw [← size_list, e2, List.length_take, size_list]; omega) h)
      rw [e2, hsame] at R3
      unfold ReadPost at R3
      simp only at R3
      have SH := fun A A' c c' w h1 h2 => Lib.hid (samehead_c (bs h.method) (bs h.target) (bs h.reason) h.status h.minor A A' c c' h.fields w h1 h2 (by omega))
      unfold hdv at RQ R3
      by_cases hcc : 0 ≤ cut ∧ cut < n
      · obtain ⟨k, rfl⟩ : ∃ k : Nat, cut = k := ⟨cut.toNat, by omega⟩
        have hkn : k < n := by omega
        have e1 : (s.extract 0 k).data.toList = s.data.toList.take k := by rw [ext_list]; rfl
        have R2 := fun w h => Lib.hid (request_h (s.extract 0 k) M w (by rw [← size_list, e1, List.length_take, size_list]; omega) h)
        rw [e1, hcutk k hkn] at R2
        unfold ReadPost at R2
        rw [show hdv {} = zeroH from rfl] at R2
        simp only [zeroH] at R2
        have q1 : (0 : Int) ≤ (k : Int) := by omega
        have q2 : (k : Int) < (n : Int) := by omega
        have hks : k ≤ s.size := by omega
        clear hempty herr hused hfew fin hsame hcutk e1 e2 hcc
        go_enter Tryd.func8, Tryd.ntmps8
        go_wp2_with fail
        refine AN.out.mono ?_
        rintro e w1 ⟨rfl, hb1⟩
        have B1 := Lib.hid hb1
        have M1 := Lib.hid (cell_below hb1 HM.out)
        clear hb1
        go_wp2_with fail
        refine (RQ _ M1.out).out.mono ?_
        rintro e w2 ⟨A, c, rfl, hA, ho, hb2⟩
        obtain ⟨V2, hV2⟩ : ∃ V2, w2.alloc (.cells #[.string (bs h.method), .string (bs h.target), .int .i64 h.status, .string (bs h.reason), .int .i64 h.minor, .slice A h.fields.length c] 43) = V2 := ⟨_, rfl⟩
        have b2 := below_then B1.out hb2
        have hbv : Below w2.heap.size w2 V2 := by rw [← hV2]; exact (Below.refl _ w2).alloc (Nat.le_refl _) _
        have B2 := Lib.hid (below_then b2 hbv)
        have M2 := Lib.hid (cell_below B2.out HM.out)
        have X2 : Hid (Box6 V2 w2.heap.size (.string (bs h.method)) (.string (bs h.target)) (.int .i64 h.status) (.string (bs h.reason)) (.int .i64 h.minor) (.slice A h.fields.length c)) := Lib.hid (by rw [← hV2]; exact box6_new _ _ _ _ _ _ _ _)
        have F2 := Lib.hid ((flds_own ho).below hbv)
        have HV2 := Lib.hid hV2
        clear hV2 hA ho hb2 b2 hbv
        go_wp2_with (refine wpList_at2 HV2.out ?_)
        refine (R2 _ M2.out).out.mono ?_
        rintro e w3 ⟨A3, c3, rfl, hA, ho, hb3⟩
        have B3 := Lib.hid (below_then B2.out hb3)
        have X3 := Lib.hid (X2.out.below hb3)
        have F3 := Lib.hid (F2.out.below hb3)
        obtain ⟨V4, hV4⟩ : ∃ V4, w3.alloc (.cells #[.string ⟨#[]⟩, .string ⟨#[]⟩, .int .i64 0, .string ⟨#[]⟩, .int .i64 0, .slice A3 0 c3] 43) = V4 := ⟨_, rfl⟩
        have hbv : Below w3.heap.size w3 V4 := by rw [← hV4]; exact (Below.refl _ w3).alloc (Nat.le_refl _) _
        have B4 := Lib.hid (below_then B3.out hbv)
        have M4 := Lib.hid (cell_below B4.out HM.out)
        have X4 := Lib.hid (X3.out.below hbv)
        have F4 := Lib.hid (F3.out.below hbv)
        have HV4 := Lib.hid hV4
        clear hV4 hA ho hb3 hbv
        go_wp2_with (refine wpList_at2 HV4.out ?_)
        refine (R3 _ M4.out).out.mono ?_
        rintro e w5 ⟨A5, c5, rfl, hA, ho, hb5⟩
        have B5 := Lib.hid (below_then B4.out hb5)
        have X5 := X4.out.below hb5
        have F5 := Lib.hid (F4.out.below hb5)
        have G5 := Lib.hid (flds_own ho)
        obtain ⟨c0, c1, c2, c3', c4, c5', fz⟩ := X5
        have hlt := World.block_lt_of_cell? w5 _ c0
        clear hA ho hb5 fz
        go_wp2_with fail
        refine (SH _ _ _ _ _ (F5.out.below ((Below.refl _ w5).alloc (Nat.le_refl _) _)) (G5.out.below ((Below.refl _ w5).alloc (Nat.le_refl _) _))).out.mono ?_
        rintro e w6 ⟨rfl, hb6⟩
        have B6 := Lib.hid (below_then B5.out (belowAh hb6))
        clear hb6
        go_wp2
        go_ret
        exact ⟨rfl, B6.out⟩
      · clear hempty herr hused hfew fin hsame hcutk e2
        rcases (by omega : ¬ 0 ≤ cut ∨ (0 ≤ cut ∧ ¬ cut < (n : Int))) with q1 | ⟨q1, q2⟩
        all_goals
          go_enter Tryd.func8, Tryd.ntmps8
          go_wp2_with fail
          refine AN.out.mono ?_
          rintro e w1 ⟨rfl, hb1⟩
          have B1 := Lib.hid hb1
          have M1 := Lib.hid (cell_below hb1 HM.out)
          clear hb1
          go_wp2_with fail
          refine (RQ _ M1.out).out.mono ?_
          rintro e w2 ⟨A, c, rfl, hA, ho, hb2⟩
          obtain ⟨V2, hV2⟩ : ∃ V2, w2.alloc (.cells #[.string (bs h.method), .string (bs h.target), .int .i64 h.status, .string (bs h.reason), .int .i64 h.minor, .slice A h.fields.length c] 43) = V2 := ⟨_, rfl⟩
          have b2 := below_then B1.out hb2
          have hbv : Below w2.heap.size w2 V2 := by rw [← hV2]; exact (Below.refl _ w2).alloc (Nat.le_refl _) _
          have B2 := Lib.hid (below_then b2 hbv)
          have M2 := Lib.hid (cell_below B2.out HM.out)
          have X2 : Hid (Box6 V2 w2.heap.size (.string (bs h.method)) (.string (bs h.target)) (.int .i64 h.status) (.string (bs h.reason)) (.int .i64 h.minor) (.slice A h.fields.length c)) := Lib.hid (by rw [← hV2]; exact box6_new _ _ _ _ _ _ _ _)
          have F2 := Lib.hid ((flds_own ho).below hbv)
          have HV2 := Lib.hid hV2
          clear hV2 hA ho hb2 b2 hbv
          go_wp2_with (refine wpList_at2 HV2.out ?_)
          refine (R3 _ M2.out).out.mono ?_
          rintro e w5 ⟨A5, c5, rfl, hA, ho, hb5⟩
          have B5 := Lib.hid (below_then B2.out hb5)
          have X5 := X2.out.below hb5
          have F5 := Lib.hid (F2.out.below hb5)
          have G5 := Lib.hid (flds_own ho)
          obtain ⟨c0, c1, c2, c3', c4, c5', fz⟩ := X5
          have hlt := World.block_lt_of_cell? w5 _ c0
          clear hA ho hb5 fz
          go_wp2_with fail
          refine (SH _ _ _ _ _ (F5.out.below ((Below.refl _ w5).alloc (Nat.le_refl _) _)) (G5.out.below ((Below.refl _ w5).alloc (Nat.le_refl _) _))).out.mono ?_
          rintro e w6 ⟨rfl, hb6⟩
          have B6 := Lib.hid (below_then B5.out (belowAh hb6))
          clear hb6
          go_wp2
          go_ret
          exact ⟨rfl, B6.out⟩
  · exact fin (herr he) (hempty (herr he)) (by cases (e != 0) <;> simp)
end Go.Proofs.YtjbmipbjlhcooaaDoor
