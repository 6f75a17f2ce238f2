/- The texts HdS in one. -/
import Derived.Test.YtgmjkkiahanekaaGreatDoorM20
/- The contract of head.status. -/
set_option linter.unusedVariables false
set_option linter.unusedSimpArgs false
namespace Go.Proofs.YtgmjkkiahanekaaGreatDoor
open Go.RowKit Lex

theorem wpList_at0 {P : Program} {ops : Array Oper} {Q : Exit → Act → World → Prop} {a : Act} {w w' : World} (e : w = w') (h : wpList P ops Q [] a w') : wpList P ops Q [] a w := by subst e; exact h
theorem ret_status {w : World} {B : Nat} {v0 v1 v2 v3 v4 v5 e : Value} (h : Box6 w B v0 v1 v2 v3 v4 v5) {tmps : Array Value} (h4 : tmps[2]?.getD undef = .pointer (some ⟨B, 0, none⟩)) (h5 : tmps[3]?.getD undef = e) :
    (results Tryz.f98 tmps).run Tryz.prog w = .ok (.tuple #[.agg #[v0, v1, v2, v3, v4, v5], e]) w := by
  simp [results, Tryz.results98, go_sem, h4, h5, h.c0, h.c1, h.c2, h.c3, h.c4, h.c5]
theorem status_1 {l : List UInt8} (h : l.length < 12 ∨ l[8]? ≠ some 32 ∨ (12 < l.length ∧ l[12]? ≠ some 32)) : statusL l = ({}, 80) := by unfold statusL; rw [if_pos h]
theorem status_2 {l : List UInt8} (h : ¬ (l.length < 12 ∨ l[8]? ≠ some 32 ∨ (12 < l.length ∧ l[12]? ≠ some 32))) (h2 : ¬ ((decimal ((l.drop 9).take 3) 3).2 = true ∧ 100 ≤ (decimal ((l.drop 9).take 3) 3).1 ∧ (decimal ((l.drop 9).take 3) 3).1 ≤ 599)) : statusL l = ({}, 80) := by unfold statusL; rw [if_neg h, if_neg h2]
theorem status_3 {l : List UInt8} (h : ¬ (l.length < 12 ∨ l[8]? ≠ some 32 ∨ (12 < l.length ∧ l[12]? ≠ some 32))) (h2 : (decimal ((l.drop 9).take 3) 3).2 = true ∧ 100 ≤ (decimal ((l.drop 9).take 3) 3).1 ∧ (decimal ((l.drop 9).take 3) 3).1 ≤ 599) (h3 : (l.drop 13).all okv = false) : statusL l = ({}, 80) := by
  unfold statusL; rw [if_neg h, if_pos h2, if_neg (by rw [h3]; decide)]
theorem status_4 {l : List UInt8} {n : Int} {ok : Bool} (h : ¬ (l.length < 12 ∨ l[8]? ≠ some 32 ∨ (12 < l.length ∧ l[12]? ≠ some 32))) (hd : decimal ((l.drop 9).take 3) 3 = (n, ok)) (h2 : ok = true ∧ 100 ≤ n ∧ n ≤ 599) (h3 : (l.drop 13).all okv = true) :
    statusL l = (if (versionL (l.take 8)).2 = 0 then ({ status := n, reason := l.drop 13, minor := (versionL (l.take 8)).1 }, 0) else ({}, (versionL (l.take 8)).2)) := by
  unfold statusL; rw [if_neg h, hd, if_pos h2, if_pos h3]
theorem okv_not {c : UInt8} (h9 : ((c.toNat : Int) != 9) = true) (h : (c.toNat : Int) < 32 ∨ ((c.toNat : Int) == 127) = true) : okv c = false := by
  rw [bne_iff_ne] at h9
  unfold okv
  rcases h with h | h
  · simp [h9, h]
  · rw [beq_iff_eq] at h; simp [h]
theorem okv_is {c : UInt8} (h : ((c.toNat : Int) != 9) = false ∨ (¬ (c.toNat : Int) < 32 ∧ ((c.toNat : Int) == 127) = false)) : okv c = true := by
  unfold okv
  rcases h with h | ⟨h1, h2⟩
  · rw [bne_eq_false_iff_eq] at h; simp [h]
  · rw [beq_eq_false_iff_ne] at h2; simp [h1, h2]
theorem first_bad {w w' : World} {e : Int} (he : e ≠ 0) (h : Below w.heap.size w w') : FirstPost ({}, e) w (.returned (.tuple #[.agg #[.string ⟨#[]⟩, .string ⟨#[]⟩, .int .i64 0, .string ⟨#[]⟩, .int .i64 0, .slice none 0 0], .int .i64 e])) w' :=
  ⟨{}, rfl, fun h => absurd h he, h⟩
set_option maxRecDepth 100000 in
set_option maxHeartbeats 8000000 in
theorem status_c (s : ByteArray) (w : World) (hs : s.size ≤ 4194304) :
    Calls Tryz.prog 98 #[.string s] w (FirstPost (statusL s.data.toList) w) := by
  have B0 := Lib.hid ((Below.refl _ w).alloc (Nat.le_refl _) (.cells #[.string ⟨#[]⟩, .string ⟨#[]⟩, .int .i64 0, .string ⟨#[]⟩, .int .i64 0, .slice none 0 0] 42))
  have X0 := Lib.hid (box6_new w (.string ⟨#[]⟩) (.string ⟨#[]⟩) (.int .i64 0) (.string ⟨#[]⟩) (.int .i64 0) (.slice none 0 0) 42)
  obtain ⟨x, hx⟩ : ∃ x, statusL s.data.toList = x := ⟨_, rfl⟩
  rw [hx]
  have HX := Lib.hid hx
  clear hx
  obtain ⟨V, hV⟩ : ∃ V, w.alloc (.cells #[.string ⟨#[]⟩, .string ⟨#[]⟩, .int .i64 0, .string ⟨#[]⟩, .int .i64 0, .slice none 0 0] 42) = V := ⟨_, rfl⟩
  have hVs : V.heap.size = w.heap.size + 1 := by rw [← hV]; simp
  rw [hV] at B0 X0
  have HV := Lib.hid hV
  clear hV
  obtain ⟨c0, c1, c2, c3, c4, c5, fz⟩ := X0.out
  have f0 := fz 0; have f1 := fz 1; have f2 := fz 2; have f3 := fz 3; have f4 := fz 4; have f5 := fz 5
  clear fz
  by_cases h12 : s.size < 12
  · obtain rfl := HX.out.symm.trans (status_1 (.inl h12))
    have b12 : (s.size : Int) < 12 := by omega
    go_enter Tryz.func98, Tryz.ntmps98
    go_wp2_with (rw [HV.out])
    refine bodyPost_ret (ret_status (Box6.stored X0.out _ _ _ _ _ _) rfl rfl) rfl ?_
    exact first_bad (by decide) (below_set6 B0.out (Nat.le_refl _) _ _ _ _ _ _)
  · have b12 : ¬ (s.size : Int) < 12 := by omega
    have e8 := at_list s 8 (by omega)
    have n8 := neN s[8] 32 32 rfl
    by_cases h8 : s[8] = 32
    · rw [decide_eq_true h8] at n8
      by_cases hg : 12 < s.size ∧ ∃ h : 12 < s.size, s[12] ≠ 32
      · obtain ⟨h13, _, hne⟩ := hg
        have n12 := neN s[12] 32 32 rfl
        rw [decide_eq_false hne] at n12
        obtain rfl := HX.out.symm.trans (status_1 (.inr (.inr ⟨h13, by rw [at_list s 12 h13]; exact fun h => hne (by injection h)⟩)))
        have b13 : (12 : Int) < (s.size : Int) := by omega
        clear e8 h8 hne
        go_enter Tryz.func98, Tryz.ntmps98
        go_wp2_with (rw [HV.out])
        refine bodyPost_ret (ret_status (Box6.stored X0.out _ _ _ _ _ _) rfl rfl) rfl ?_
        exact first_bad (by decide) (below_set6 B0.out (Nat.le_refl _) _ _ _ _ _ _)
      · have hok : ¬ (s.data.toList.length < 12 ∨ s.data.toList[8]? ≠ some 32 ∨ (12 < s.data.toList.length ∧ s.data.toList[12]? ≠ some 32)) := by
          rw [size_list, e8, h8]
          rintro (h | h | ⟨h, h2⟩)
          · omega
          · exact h rfl
          · exact hg ⟨h, h, fun h3 => h2 (by rw [at_list s 12 h, h3])⟩
        have HOK := Lib.hid hok
        have eD : (s.extract 9 12).data.toList = (s.data.toList.drop 9).take 3 := by rw [ext_list]
        have DC := fun w => Lib.hid (decimal_c (s.extract 9 12) 3 w)
        rw [eD] at DC
        obtain ⟨n, ok, hd⟩ : ∃ n ok, decimal ((s.data.toList.drop 9).take 3) 3 = (n, ok) := ⟨_, _, rfl⟩
        rw [hd] at DC
        have HD := Lib.hid hd
        -- the thirteenth byte
        have g12 : (s.size = 12) ∨ (12 < s.size ∧ ∃ h : 12 < s.size, ((s[12].toNat : Int) != 32) = false) := by
          by_cases h : 12 < s.size
          · refine .inr ⟨h, h, ?_⟩
            rw [neN s[12] 32 32 rfl]
            by_cases h3 : s[12] = 32
            · rw [decide_eq_true h3]; rfl
            · exact absurd ⟨h, h, h3⟩ hg
          · exact .inl (by omega)
        clear hok eD hd e8 h8 hg
        by_cases hn : ok = true ∧ 100 ≤ n ∧ n ≤ 599
        · have eV : (s.extract 0 8).data.toList = s.data.toList.take 8 := by rw [ext_list]; rfl
          have VE := fun w => Lib.hid (version_c (s.extract 0 8) w (by rw [← size_list, eV, List.length_take, size_list]; omega))
          rw [eV] at VE
          clear eV
          have HNN := Lib.hid hn.2
          have hok := hn.1
          subst hok
          have k1 : ¬ n < 100 := by omega
          have k2 : ¬ 599 < n := by omega
          clear hn
          rcases g12 with g | ⟨g, _, g2⟩
          · have b13 : ¬ (12 : Int) < (s.size : Int) := by omega
            obtain ⟨U, hU⟩ : ∃ U, V.alloc (.cells #[.string ⟨#[]⟩, .string ⟨#[]⟩, .int .i64 n, .string ⟨#[]⟩, .int .i64 0, .slice none 0 0] 42) = U := ⟨_, rfl⟩
            have BU : Hid (Below w.heap.size w U) := Lib.hid (by rw [← hU]; exact B0.out.alloc B0.out.size _)
            have ZU : Hid (Box6 U w.heap.size (.string ⟨#[]⟩) (.string ⟨#[]⟩) (.int .i64 0) (.string ⟨#[]⟩) (.int .i64 0) (.slice none 0 0)) := Lib.hid (by rw [← hU]; exact X0.out.alloc _)
            have HU6 : Hid (Box6 U (w.heap.size + 1) (.string ⟨#[]⟩) (.string ⟨#[]⟩) (.int .i64 n) (.string ⟨#[]⟩) (.int .i64 0) (.slice none 0 0)) := Lib.hid (by rw [← hVs, ← hU]; exact box6_new _ _ _ _ _ _ _ _)
            have HUe := Lib.hid hU
            have hne : w.heap.size ≠ w.heap.size + 1 := by omega
            have hnl : w.heap.size ≤ w.heap.size + 1 := by omega
            clear hU
            have ER : Hid ((⟨#[]⟩ : ByteArray).data.toList = s.data.toList.drop 13) := Lib.hid (by rw [List.drop_eq_nil_of_le (by rw [size_list]; omega)])
            go_enter Tryz.func98, Tryz.ntmps98
            go_wp2_with (first | (rw [HV.out]) | (go_at_call 128; refine (DC _).out.mono ?_; rintro e w1 ⟨rfl, rfl⟩))
            rw [HUe.out]
            clear c0 c1 c2 c3 c4 c5 f0 f1 f2 f3 f4 f5
            obtain ⟨c0, c1, c2, c3, c4, c5, fz⟩ := ZU.out
            have f0 := fz 0; have f1 := fz 1; have f2 := fz 2; have f3 := fz 3; have f4 := fz 4; have f5 := fz 5
            obtain ⟨d0, d1, d2, d3, d4, d5, gz⟩ := HU6.out
            have g4 := gz 4
            clear fz gz
            have HALL : Hid ((s.data.toList.drop 13).all okv = true) := Lib.hid (by rw [← ER.out]; rfl)
            go_loop [7, 8, 58] (fun _ _ i => i = .int .i64 0) (fun _ _ i => 0 - (intOf i).toNat)
            case atStart => rfl
            case round =>
              subst hrel
              have hst := HX.out.symm.trans (status_4 HOK.out HD.out ⟨rfl, HNN.out⟩ HALL.out)
              obtain ⟨y, hy⟩ : ∃ y, versionL (s.data.toList.take 8) = y := ⟨_, rfl⟩
              rw [hy] at hst VE
              obtain ⟨mn, ve⟩ := y
              simp only [verVal] at VE hst
              have hv2 : x.2 = ve := by rw [hst]; split <;> simp_all
              have HV1 : Hid (ve = 0 → x.1 = { status := n, reason := s.data.toList.drop 13, minor := mn }) := Lib.hid (fun h => by rw [hst, if_pos h])
              obtain ⟨x1, x2⟩ := x
              simp only at hv2 HV1
              subst hv2
              clear hst hy HX
              go_wp2_with (go_at_call 129; refine (VE _).out.mono ?_; rintro e w3 ⟨rfl, rfl⟩)
              refine bodyPost_ret (ret_status (Box6.stored (Box6.far ZU.out _ _ (Ne.symm hne)) _ _ _ _ _ _) rfl rfl) rfl ?_
              refine ⟨{ status := n, reason := (⟨#[]⟩ : ByteArray).data.toList, minor := mn }, ?_, ?_, below_set6 (BU.out.setCell hnl _) (Nat.le_refl _) _ _ _ _ _ _⟩
              · unfold hd0; simp only [list_bs]; rfl
              · intro h; have hh := (HV1.out h).symm; rw [← ER.out] at hh; exact hh
          · have b13 : (12 : Int) < (s.size : Int) := by omega
            obtain ⟨R, hR⟩ : ∃ R, s.extract 13 s.size = R := ⟨_, rfl⟩
            have HRe := Lib.hid hR
            obtain ⟨U, hU⟩ : ∃ U, V.alloc (.cells #[.string ⟨#[]⟩, .string ⟨#[]⟩, .int .i64 n, .string R, .int .i64 0, .slice none 0 0] 42) = U := ⟨_, rfl⟩
            have BU : Hid (Below w.heap.size w U) := Lib.hid (by rw [← hU]; exact B0.out.alloc B0.out.size _)
            have ZU : Hid (Box6 U w.heap.size (.string ⟨#[]⟩) (.string ⟨#[]⟩) (.int .i64 0) (.string ⟨#[]⟩) (.int .i64 0) (.slice none 0 0)) := Lib.hid (by rw [← hU]; exact X0.out.alloc _)
            have HU6 : Hid (Box6 U (w.heap.size + 1) (.string ⟨#[]⟩) (.string ⟨#[]⟩) (.int .i64 n) (.string R) (.int .i64 0) (.slice none 0 0)) := Lib.hid (by rw [← hVs, ← hU]; exact box6_new _ _ _ _ _ _ _ _)
            have HUe := Lib.hid hU
            have hne : w.heap.size ≠ w.heap.size + 1 := by omega
            have hnl : w.heap.size ≤ w.heap.size + 1 := by omega
            clear hU
            have eR : R.data.toList = s.data.toList.drop 13 := by rw [← hR, ext_list, List.take_of_length_le (by rw [List.length_drop, size_list]; exact Nat.le_refl _)]
            have sR : R.size = s.size - 13 := by rw [← size_list, eR, List.length_drop, size_list]
            have ER := Lib.hid eR
            clear eR hR
            go_enter Tryz.func98, Tryz.ntmps98
            go_wp2_with (first | (rw [HV.out]) | (go_at_call 128; refine (DC _).out.mono ?_; rintro e w1 ⟨rfl, rfl⟩))
            rw [HRe.out, HUe.out]
            clear c0 c1 c2 c3 c4 c5 f0 f1 f2 f3 f4 f5
            obtain ⟨c0, c1, c2, c3, c4, c5, fz⟩ := ZU.out
            have f0 := fz 0; have f1 := fz 1; have f2 := fz 2; have f3 := fz 3; have f4 := fz 4; have f5 := fz 5
            obtain ⟨d0, d1, d2, d3, d4, d5, gz⟩ := HU6.out
            have g4 := gz 4
            clear fz gz
            go_loop [7, 8, 58] (fun _ _ i => ∃ k : Nat, k ≤ R.size ∧ i = .int .i64 k ∧ (R.data.toList.take k).all okv = true) (fun _ _ i => R.size - (intOf i).toNat)
            case atStart => exact ⟨0, Nat.zero_le _, rfl, rfl⟩
            case round =>
              obtain ⟨k, hk, rfl, hall⟩ := hrel
              have HA := Lib.hid hall
              clear hall
              by_cases hls : k < s.size - 13
              · have hlt : k < R.size := by omega
                by_cases ht : ((R[k].toNat : Int) != 9) = false ∨ (¬ (R[k].toNat : Int) < 32 ∧ ((R[k].toNat : Int) == 127) = false)
                · have HN := Lib.hid (all_take_snoc okv R k hlt HA.out (okv_is ht))
                  rcases ht with t1 | ⟨t1, t2⟩
                  · go_wp2
                    go_round
                    case rel => exact ⟨k + 1, by omega, by go_num, HN.out⟩
                    case measure => simp [intOf]; omega
                  · cases t0 : ((R[k].toNat : Int) != 9)
                    all_goals
                      go_wp2
                      go_round
                      case rel => exact ⟨k + 1, by omega, by go_num, HN.out⟩
                      case measure => simp [intOf]; omega
                · have t0 : ((R[k].toNat : Int) != 9) = true := by cases h : ((R[k].toNat : Int) != 9); exact absurd (.inl h) ht; rfl
                  have t1 : (R[k].toNat : Int) < 32 ∨ (¬ (R[k].toNat : Int) < 32 ∧ ((R[k].toNat : Int) == 127) = true) := by
                    by_cases h : (R[k].toNat : Int) < 32
                    · exact .inl h
                    · refine .inr ⟨h, ?_⟩; cases h2 : ((R[k].toNat : Int) == 127); exact absurd (.inr ⟨h, h2⟩) ht; rfl
                  have hbad := all_of_take okv R k hlt (okv_not t0 (t1.imp id (·.2)))
                  obtain rfl := HX.out.symm.trans (status_3 HOK.out (by rw [HD.out]; exact ⟨rfl, HNN.out⟩) (by rw [← ER.out]; exact hbad))
                  clear ht hbad
                  rcases t1 with t1 | ⟨t1, t2⟩
                  all_goals
                    go_wp2
                    refine bodyPost_ret (ret_status (Box6.stored ZU.out _ _ _ _ _ _) rfl rfl) rfl ?_
                    exact first_bad (by decide) (below_set6 BU.out (Nat.le_refl _) _ _ _ _ _ _)
              · have hlt : ¬ k < R.size := by omega
                have HALL : Hid ((s.data.toList.drop 13).all okv = true) := Lib.hid (by have := HA.out; rw [take_all _ k hlt] at this; rw [← ER.out]; exact this)
                have hst := HX.out.symm.trans (status_4 HOK.out HD.out ⟨rfl, HNN.out⟩ HALL.out)
                obtain ⟨y, hy⟩ : ∃ y, versionL (s.data.toList.take 8) = y := ⟨_, rfl⟩
                rw [hy] at hst VE
                obtain ⟨mn, ve⟩ := y
                simp only [verVal] at VE hst
                have hv2 : x.2 = ve := by rw [hst]; split <;> simp_all
                have HV1 : Hid (ve = 0 → x.1 = { status := n, reason := s.data.toList.drop 13, minor := mn }) := Lib.hid (fun h => by rw [hst, if_pos h])
                obtain ⟨x1, x2⟩ := x
                simp only at hv2 HV1
                subst hv2
                clear hst hy HX
                go_wp2_with (go_at_call 129; refine (VE _).out.mono ?_; rintro e w3 ⟨rfl, rfl⟩)
                refine bodyPost_ret (ret_status (Box6.stored (Box6.far ZU.out _ _ (Ne.symm hne)) _ _ _ _ _ _) rfl rfl) rfl ?_
                refine ⟨{ status := n, reason := R.data.toList, minor := mn }, ?_, ?_, below_set6 (BU.out.setCell hnl _) (Nat.le_refl _) _ _ _ _ _ _⟩
                · unfold hd0; simp only [list_bs]; rfl
                · intro h; have hh := (HV1.out h).symm; rw [← ER.out] at hh; exact hh
        · obtain rfl := HX.out.symm.trans (status_2 HOK.out (by rw [HD.out]; exact hn))
          have cs : ok = false ∨ (ok = true ∧ n < 100) ∨ (ok = true ∧ ¬ n < 100 ∧ 599 < n) := by
            cases ok
            · exact .inl rfl
            · refine .inr ?_; simp only [true_and] at hn ⊢; omega
          clear hn
          rcases cs with rfl | ⟨rfl, k1⟩ | ⟨rfl, k1, k2⟩
          all_goals rcases g12 with g | ⟨g, _, g2⟩
          case' inl.inl => have b13 : ¬ (12 : Int) < (s.size : Int) := by omega
          case' inl.inr => have b13 : (12 : Int) < (s.size : Int) := by omega
          case' inr.inl.inl => have b13 : ¬ (12 : Int) < (s.size : Int) := by omega
          case' inr.inl.inr => have b13 : (12 : Int) < (s.size : Int) := by omega
          case' inr.inr.inl => have b13 : ¬ (12 : Int) < (s.size : Int) := by omega
          case' inr.inr.inr => have b13 : (12 : Int) < (s.size : Int) := by omega
          all_goals
            go_enter Tryz.func98, Tryz.ntmps98
            go_wp2_with (first | (rw [HV.out]) | (go_at_call 128; refine (DC _).out.mono ?_; rintro e w1 ⟨rfl, rfl⟩))
            refine bodyPost_ret (ret_status (Box6.stored X0.out _ _ _ _ _ _) rfl rfl) rfl ?_
            exact first_bad (by decide) (below_set6 B0.out (Nat.le_refl _) _ _ _ _ _ _)
    · rw [decide_eq_false h8] at n8
      obtain rfl := HX.out.symm.trans (status_1 (.inr (.inl (by rw [e8]; exact fun h => h8 (by injection h)))))
      clear e8 h8
      go_enter Tryz.func98, Tryz.ntmps98
      go_wp2_with (rw [HV.out])
      refine bodyPost_ret (ret_status (Box6.stored X0.out _ _ _ _ _ _) rfl rfl) rfl ?_
      exact first_bad (by decide) (below_set6 B0.out (Nat.le_refl _) _ _ _ _ _ _)
end Go.Proofs.YtgmjkkiahanekaaGreatDoor

