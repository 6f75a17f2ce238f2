/- The walk over HeadBare. -/
import Derived.Test.YtjbmipbjlhcooaaDoorHdU
set_option linter.unusedVariables false
set_option linter.unusedSimpArgs false
namespace Go.Proofs.YtjbmipbjlhcooaaDoor
open Go.RowKit Lex

theorem bare_bytes {s : ByteArray} {n : Nat} (hn : n ≤ s.size) (h : bare (s.data.toList.take n) = true) (k : Nat) (hk : k < n) (hks : k < s.size) :
    (s[k] = 10 → ∃ j, ∃ hj : j < s.size, k = j + 1 ∧ s[j] = 13) ∧ (s[k] = 13 → ∃ hj : k + 1 < s.size, k + 1 < n ∧ s[k + 1] = 10) := by
  have hl : (s.data.toList.take n).length = n := by rw [List.length_take, size_list]; omega
  obtain ⟨h1, h2⟩ := bare_at _ _ (Nat.le_refl _) h k (by omega)
  have e : ∀ i (hi : i < s.size) (hi2 : i < (s.data.toList.take n).length), (s.data.toList.take n)[i] = s[i] := by
    intro i hi hi2
    have a := at_list s i hi
    rw [List.getElem_take]
    rw [List.getElem?_eq_getElem (by rw [size_list]; exact hi)] at a
    injection a
  rw [e k hks] at h1 h2
  refine ⟨fun hc => ?_, fun hc => ?_⟩
  · obtain ⟨h0, h3⟩ := h1 hc
    obtain ⟨j, rfl⟩ : ∃ j, k = j + 1 := ⟨k - 1, by omega⟩
    refine ⟨j, by omega, rfl, ?_⟩
    rw [← e j (by omega) (by omega)]
    simpa using h3
  · obtain ⟨h0, h3⟩ := h2 hc
    rw [hl] at h0
    refine ⟨by omega, h0, ?_⟩
    rw [← e (k + 1) (by omega) (by omega)]
    exact h3
set_option maxRecDepth 100000 in
set_option maxHeartbeats 16000000 in
theorem bare_walk {W : World} (s : ByteArray) (hs : s.size ≤ 1048576) (M : Int) (W2 : World) (hW : W2 = W) (hm : W2.cell? ⟨0, 0, none⟩ = some (.int .i64 M)) :
    Calls Tryd.prog 15 #[.string s] W2 fun e w' => e = .returned (.bool true) ∧ Below W2.heap.size W2 w' := by
  subst hW
  have AN := Lib.hid (anchor8_c M W2 hm)
  have HM := Lib.hid hm
  have RQ := fun w h => Lib.hid (request_h s M w (by omega) h)
  have RP := fun w h => Lib.hid (response_h s M w (by omega) h)
  obtain ⟨h, n, e, hx⟩ : ∃ h n e, readL true startL s.data.toList = (h, n, e) := ⟨_, _, _, rfl⟩
  obtain ⟨g, m, f, hy⟩ : ∃ h n e, readL false statusL s.data.toList = (h, n, e) := ⟨_, _, _, rfl⟩
  have herr := readL_err (skip := true) (first := startL) (d := s.data.toList)
  have gerr := readL_err (skip := false) (first := statusL) (d := s.data.toList)
  have hbare := bare_readL true startL s.data.toList
  have gbare := bare_readL false statusL s.data.toList
  have hlen := readL_len (skip := true) (first := startL) (d := s.data.toList)
  have glen := readL_len (skip := false) (first := statusL) (d := s.data.toList)
  rw [hx] at RQ herr hbare hlen
  rw [hy] at RP gerr gbare glen
  rw [size_list] at hlen glen
  simp only at herr gerr hbare gbare hlen glen
  unfold ReadPost hdv at RQ RP
  simp only at RQ RP
  have HC : ((e != 0) = true ∧ ((n : Int) != 0) = false) ∨ (e != 0) = false := by
    by_cases he : e = 0
    · exact .inr (by rw [bne_eq_false_iff_eq]; exact he)
    · exact .inl ⟨by rw [bne_iff_ne]; exact he, by rw [herr he]; rfl⟩
  have GC : ((f != 0) = true ∧ ((m : Int) != 0) = false) ∨ (f != 0) = false := by
    by_cases he : f = 0
    · exact .inr (by rw [bne_eq_false_iff_eq]; exact he)
    · exact .inl ⟨by rw [bne_iff_ne]; exact he, by rw [gerr he]; rfl⟩
  have hn0 : ¬ (n : Int) < 0 := by omega
  have hm0 : ¬ (m : Int) < 0 := by omega
  have hn1 : ¬ (s.size : Int) < (n : Int) := by omega
  have hm1 : ¬ (s.size : Int) < (m : Int) := by omega
  obtain ⟨N, hN⟩ : ∃ N, (N = m ∧ (n : Int) < (m : Int)) ∨ (N = n ∧ ¬ (n : Int) < (m : Int)) := by
    by_cases h : (n : Int) < (m : Int)
    · exact ⟨m, .inl ⟨rfl, h⟩⟩
    · exact ⟨n, .inr ⟨rfl, h⟩⟩
  have hNs : N ≤ s.size := by omega
  have BB := Lib.hid (bare_bytes hNs (by rcases hN with ⟨rfl, _⟩ | ⟨rfl, _⟩ <;> assumption))
  clear hx hy hm herr gerr hbare gbare
  rcases HC with ⟨he, hz⟩ | he
  all_goals rcases GC with ⟨hf, hz2⟩ | hf
  all_goals rcases hN with ⟨hN1, hN2⟩ | ⟨hN1, hN2⟩
  all_goals subst hN1
  all_goals
    go_enter Tryd.func15, Tryd.ntmps15
    go_wp2_with fail
    refine AN.out.mono ?_
    rintro e' w1 ⟨rfl, hb1⟩
    have B1 := Lib.hid hb1
    have M1 := Lib.hid (cell_below hb1 HM.out)
    clear hb1
    go_wp2_with fail
    refine (RQ _ M1.out).out.mono ?_
    rintro e' w2 ⟨A, c, rfl, hA, ho, hb2⟩
    obtain ⟨V2, hV2⟩ : ∃ V2, w2.alloc (.cells #[.string (bs h.method), .string (bs h.target), .int .i64 h.status, .string (bs h.reason), .int .i64 h.minor, .slice A h.fields.length c] 43) = V2 := ⟨_, rfl⟩
    have B2 : Hid (Below W2.heap.size W2 V2) := Lib.hid (by rw [← hV2]; exact (below_then B1.out hb2).alloc (below_then B1.out hb2).size _)
    have M2 := Lib.hid (cell_below B2.out HM.out)
    have HV2 := Lib.hid hV2
    clear hV2 hA ho hb2
    go_wp2_with fail
    rw [HV2.out]
    refine (RP _ M2.out).out.mono ?_
    rintro e' w3 ⟨A3, c3, rfl, hA, ho, hb3⟩
    obtain ⟨V4, hV4⟩ : ∃ V4, w3.alloc (.cells #[.string (bs g.method), .string (bs g.target), .int .i64 g.status, .string (bs g.reason), .int .i64 g.minor, .slice A3 g.fields.length c3] 43) = V4 := ⟨_, rfl⟩
    have B4 : Hid (Below W2.heap.size W2 V4) := Lib.hid (by rw [← hV4]; exact (below_then B2.out hb3).alloc (below_then B2.out hb3).size _)
    have HV4 := Lib.hid hV4
    clear hV4 hA ho hb3 HV2 RQ RP AN HM M1 M2 B1 B2
    go_wp2_with fail
    rw [HV4.out]
    clear HV4
    go_loop [9] (fun i => ∃ k : Nat, k ≤ N ∧ i = .int .i64 k) (fun i => N - (intOf i).toNat)
    case atStart => exact ⟨0, Nat.zero_le _, rfl⟩
    case round =>
      obtain ⟨k, hk, rfl⟩ := hrel
      by_cases hlt : k < N
      · have hks : k < s.size := by omega
        obtain ⟨b1, b2⟩ := BB.out k hlt hks
        by_cases h10 : s[k] = 10
        · obtain ⟨j, hj, rfl, h13⟩ := b1 h10
          have q1 := eqN s[j + 1] 10 10 rfl
          have q2 := neN s[j] 13 13 rfl
          have q3 := eqN s[j + 1] 13 13 rfl
          have q4 : (((j : Int) + 1) == 0) = false := by rw [beq_eq_false_iff_ne]; omega
          rw [decide_eq_true h10] at q1
          rw [decide_eq_true h13] at q2
          rw [h10, show (decide ((10 : UInt8) = 13)) = false from rfl, ← h10] at q3
          have q6 : (0 : Int) ≤ (j : Int) + 1 := by omega
          have q7 : (j : Int) + 1 < (s.size : Int) := by omega
          have q8 : (j : Int) < (s.size : Int) := by omega
          clear b1 b2 h10 h13
          go_wp2
          go_round
          case rel => exact ⟨j + 1 + 1, by omega, by go_num⟩
          case measure => simp [intOf]; omega
        · have q1 := eqN s[k] 10 10 rfl
          rw [decide_eq_false h10] at q1
          by_cases h13 : s[k] = 13
          · obtain ⟨hj, hjN, h1⟩ := b2 h13
            have q3 := eqN s[k] 13 13 rfl
            have q2 := neN s[k + 1] 10 10 rfl
            rw [decide_eq_true h13] at q3
            rw [decide_eq_true h1] at q2
            have q5 : ¬ (N : Int) ≤ (k : Int) + 1 := by omega
            have q6 : (0 : Int) ≤ (k : Int) + 1 := by omega
            have q7 : (k : Int) + 1 < (s.size : Int) := by omega
            clear b1 b2 h10 h13 h1
            go_wp2
            go_round
            case rel => exact ⟨k + 1, by omega, by go_num⟩
            case measure => simp [intOf]; omega
          · have q3 := eqN s[k] 13 13 rfl
            rw [decide_eq_false h13] at q3
            clear b1 b2 h10 h13
            go_wp2
            go_round
            case rel => exact ⟨k + 1, by omega, by go_num⟩
            case measure => simp [intOf]; omega
      · go_wp2
        go_ret
        exact ⟨rfl, B4.out⟩
end Go.Proofs.YtjbmipbjlhcooaaDoor
