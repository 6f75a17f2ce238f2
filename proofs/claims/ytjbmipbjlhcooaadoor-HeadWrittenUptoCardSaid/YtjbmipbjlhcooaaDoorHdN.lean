/- The walk over HeadAhead. -/
import Derived.Test.YtjbmipbjlhcooaaDoorHdK
set_option linter.unusedVariables false
set_option linter.unusedSimpArgs false
namespace Go.Proofs.YtjbmipbjlhcooaaDoor
open Go.RowKit Lex

theorem app_list (a b : ByteArray) : (a ++ b).data.toList = a.data.toList ++ b.data.toList := by simp
set_option maxRecDepth 100000 in
set_option maxHeartbeats 8000000 in
theorem ahead_walk {W : World} (s : ByteArray) (hs : s.size ≤ 1048576) (lines : Int) (hlines : (Lit.int .i64 lines).wf = true) (M : Int) (W2 : World) (hW : W2 = W) (hm : W2.cell? ⟨0, 0, none⟩ = some (.int .i64 M)) :
    Calls Tryd.prog 12 #[.string s, .int .i64 lines] W2 fun e w' => e = .returned (.bool true) ∧ Below W2.heap.size W2 w' := by
  subst hW
  have AN := Lib.hid (anchor8_c M W2 hm)
  have HM := Lib.hid hm
  have RQ := fun w h => Lib.hid (request_h s M w (by omega) h)
  have R2 := fun (a : ByteArray) (L : Nat) (ha : a.data.toList = crlfs L) (hL : L ≤ 500) w h => Lib.hid (by
    have := request_h (a ++ s) M w (by rw [← size_list, app_list, List.length_append, ha, crlfs_length, size_list]; omega) h
    rw [app_list, ha, readL_ahead] at this
    exact this)
  obtain ⟨h, n, e, hx⟩ : ∃ h n e, readL true startL s.data.toList = (h, n, e) := ⟨_, _, _, rfl⟩
  have hfew := readL_few true startL s.data.toList
  have hlen := readL_len (skip := true) (first := startL) (d := s.data.toList)
  rw [hx] at RQ R2 hfew hlen
  rw [size_list] at hlen
  unfold ReadPost at RQ R2
  simp only at RQ R2 hfew hlen
  have SH := fun A A' c c' w h1 h2 => Lib.hid (samehead_c (bs h.method) (bs h.target) (bs h.reason) h.status h.minor A A' c c' h.fields w h1 h2 (by omega))
  unfold hdv at RQ R2
  clear hm hx hfew
  by_cases hin : 0 ≤ lines ∧ lines ≤ 500
  · obtain ⟨L, rfl⟩ : ∃ L : Nat, lines = L := ⟨lines.toNat, by omega⟩
    have hL : L ≤ 500 := by omega
    have l1 : ¬ (L : Int) < 0 := by omega
    have l2 : ¬ (500 : Int) < (L : Int) := by omega
    clear hin
    have fin : ∀ (m : Nat), (if n = 0 then 0 else n + 2 * L) = m → (n = 0 ∧ m = 0 ∨ 0 < n ∧ m = n + 2 * L) := by
      intro m hm
      by_cases hn : n = 0
      · rw [if_pos hn] at hm; exact .inl ⟨hn, hm.symm⟩
      · rw [if_neg hn] at hm; exact .inr ⟨by omega, hm.symm⟩
    obtain ⟨m, hmm⟩ : ∃ m, (if n = 0 then 0 else n + 2 * L) = m := ⟨_, rfl⟩
    have fm := fin m hmm
    clear fin
    have R3 := fun (a : ByteArray) (ha : a.data.toList = crlfs L) w h => R2 a L ha hL w h
    rw [hmm] at R3
    clear hmm R2
    rcases fm with ⟨rfl, rfl⟩ | ⟨hn, hm2⟩
    case' inr =>
      have n0 : ((n : Int) == 0) = false := by rw [beq_eq_false_iff_ne]; omega
      have n1 : (0 : Int) < (n : Int) := by omega
      have m1 : ((m : Int) == (n : Int) + 2 * (L : Int)) = true := by rw [beq_iff_eq]; omega
      have mb : (m : Int) = (n : Int) + 2 * (L : Int) := by omega
      clear hm2
    all_goals
      go_enter Tryd.func12, Tryd.ntmps12
      go_wp2_with fail
      refine AN.out.mono ?_
      rintro e w1 ⟨rfl, hb1⟩
      have B1 := Lib.hid hb1
      have M1 := Lib.hid (cell_below hb1 HM.out)
      clear hb1
      go_wp2_with fail
      go_loop [5, 6] (fun v i => ∃ (k : Nat) (a : ByteArray), k ≤ L ∧ i = .int .i64 k ∧ v = .string a ∧ a.data.toList = crlfs k ∧ a.size = 2 * k) (fun _ i => L - (intOf i).toNat)
      case atStart => exact ⟨0, ⟨#[]⟩, Nat.zero_le _, rfl, rfl, rfl, rfl⟩
      case round =>
        obtain ⟨k, a, hk, rfl, rfl, ha, hsz⟩ := hrel
        have HA := Lib.hid ha
        clear ha
        by_cases hlt : k < L
        · go_wp2_with fail
          go_round
          case rel => exact ⟨k + 1, a ++ ⟨#[13, 10]⟩, by omega, by go_num, rfl, by rw [app_list, HA.out, crlfs_succ], by rw [← size_list, app_list, List.length_append, size_list, hsz]; show 2 * k + 2 = _; omega⟩
          case measure => simp [intOf]; omega
        · obtain rfl : k = L := by omega
          have RA := Lib.hid (R3 a HA.out)
          clear R3 HA
          go_wp2_with fail
          refine (RQ _ M1.out).out.mono ?_
          rintro e w2 ⟨A, c, rfl, hA, ho, hb2⟩
          obtain ⟨V2, hV2⟩ : ∃ V2, w2.alloc (.cells #[.string (bs h.method), .string (bs h.target), .int .i64 h.status, .string (bs h.reason), .int .i64 h.minor, .slice A h.fields.length c] 43) = V2 := ⟨_, rfl⟩
          have b2 := below_then B1.out hb2
          have hbv : Below w2.heap.size w2 V2 := by rw [← hV2]; exact (Below.refl _ w2).alloc (Nat.le_refl _) _
          have B2 := Lib.hid (below_then b2 hbv)
          have M2 := Lib.hid (cell_below B2.out HM.out)
          have X2 : Hid (Box6 V2 w2.heap.size (.string (bs h.method)) (.string (bs h.target)) (.int .i64 h.status) (.string (bs h.reason)) (.int .i64 h.minor) (.slice A h.fields.length c)) := Lib.hid (by rw [← hV2]; exact box6_new _ _ _ _ _ _ _ _)
          have F2 := Lib.hid ((flds_own ho).below hbv)
          have HV2 := Lib.hid hV2
          clear hV2 hA ho hb2 b2 hbv
          go_wp2_with fail
          rw [HV2.out]
          refine (RA.out _ M2.out).out.mono ?_
          rintro e w5 ⟨A5, c5, rfl, hA, ho, hb5⟩
          have B5 := Lib.hid (below_then B2.out hb5)
          have X5 := X2.out.below hb5
          have F5 := Lib.hid (F2.out.below hb5)
          have G5 := Lib.hid (flds_own ho)
          obtain ⟨c0, c1, c2, c3', c4, c5', fz⟩ := X5
          have hlt5 := World.block_lt_of_cell? w5 _ c0
          clear hA ho hb5 fz RA
          go_wp2_with fail
          refine (SH _ _ _ _ _ (F5.out.below ((Below.refl _ w5).alloc (Nat.le_refl _) _)) (G5.out.below ((Below.refl _ w5).alloc (Nat.le_refl _) _))).out.mono ?_
          rintro e w6 ⟨rfl, hb6⟩
          have B6 := Lib.hid (below_then B5.out (belowAh hb6))
          clear hb6
          go_wp2
          go_ret
          exact ⟨rfl, B6.out⟩
  · have hq : lines < 0 ∨ (¬ lines < 0 ∧ 500 < lines) := by omega
    clear hin RQ R2 SH
    rcases hq with q1 | ⟨q1, q2⟩
    all_goals
      go_enter Tryd.func12, Tryd.ntmps12
      go_wp2_with fail
      refine AN.out.mono ?_
      rintro e w1 ⟨rfl, hb1⟩
      have B1 := Lib.hid hb1
      clear hb1
      go_wp2
      go_ret
      exact ⟨rfl, B1.out⟩
end Go.Proofs.YtjbmipbjlhcooaaDoor
