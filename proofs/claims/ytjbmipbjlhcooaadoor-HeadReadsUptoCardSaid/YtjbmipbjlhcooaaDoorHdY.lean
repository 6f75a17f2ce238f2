/- The contract of the document's Status. -/
import Derived.Test.YtjbmipbjlhcooaaDoorHdW
set_option linter.unusedVariables false
set_option linter.unusedSimpArgs false
namespace Go.Proofs.YtjbmipbjlhcooaaDoor
open Go.RowKit Lex

theorem ret_rstatus {w : World} {B : Nat} {v0 v1 v2 v3 v4 v5 e : Value} (h : Box6 w B v0 v1 v2 v3 v4 v5) {tmps : Array Value} (h4 : tmps[2]?.getD undef = .pointer (some ⟨B, 0, none⟩)) (h5 : tmps[3]?.getD undef = e) :
    (results Tryd.f57 tmps).run Tryd.prog w = .ok (.tuple #[.agg #[v0, v1, v2, v3, v4, v5], e]) w := by
  simp [results, Tryd.results57, go_sem, h4, h5, h.c0, h.c1, h.c2, h.c3, h.c4, h.c5]
theorem okv_cases (c : UInt8) : (okv c = true ∧ ((c.toNat : Int) == 127) = false ∧ ((¬ (c.toNat : Int) < 32) ∨ ((c.toNat : Int) < 32 ∧ ((c.toNat : Int) != 9) = false))) ∨ (okv c = false ∧ (((c.toNat : Int) == 127) = true ∨ (((c.toNat : Int) == 127) = false ∧ (c.toNat : Int) < 32 ∧ ((c.toNat : Int) != 9) = true))) := by
  have key : ∀ c : Fin 256, (okv (UInt8.ofNat c.val) = true ∧ ((c.val : Int) == 127) = false ∧ ((¬ (c.val : Int) < 32) ∨ ((c.val : Int) < 32 ∧ ((c.val : Int) != 9) = false))) ∨ (okv (UInt8.ofNat c.val) = false ∧ (((c.val : Int) == 127) = true ∨ (((c.val : Int) == 127) = false ∧ (c.val : Int) < 32 ∧ ((c.val : Int) != 9) = true))) := by decide +kernel
  have := key ⟨c.toNat, c.toNat_lt⟩
  simpa using this
set_option maxRecDepth 100000 in
set_option maxHeartbeats 8000000 in
theorem rstatus_c (s : ByteArray) (w : World) (hs : s.size ≤ 4194304) :
    Calls Tryd.prog 57 #[.string s] w (FirstPost (statusL s.data.toList) w) := by
  have B0 := Lib.hid ((Below.refl _ w).alloc (Nat.le_refl _) (.cells #[.string ⟨#[]⟩, .string ⟨#[]⟩, .int .i64 0, .string ⟨#[]⟩, .int .i64 0, .slice none 0 0] 43))
  have X0 := Lib.hid (box6_new w (.string ⟨#[]⟩) (.string ⟨#[]⟩) (.int .i64 0) (.string ⟨#[]⟩) (.int .i64 0) (.slice none 0 0) 43)
  obtain ⟨x, hx⟩ : ∃ x, statusL s.data.toList = x := ⟨_, rfl⟩
  rw [hx]
  have HX := Lib.hid hx
  clear hx
  obtain ⟨V, hV⟩ : ∃ V, w.alloc (.cells #[.string ⟨#[]⟩, .string ⟨#[]⟩, .int .i64 0, .string ⟨#[]⟩, .int .i64 0, .slice none 0 0] 43) = V := ⟨_, rfl⟩
  have hVs : V.heap.size = w.heap.size + 1 := by rw [← hV]; simp
  rw [hV] at B0 X0
  have HV := Lib.hid hV
  clear hV
  obtain ⟨c0, c1, c2, c3, c4, c5, fz⟩ := X0.out
  have f0 := fz 0; have f1 := fz 1; have f2 := fz 2; have f3 := fz 3; have f4 := fz 4; have f5 := fz 5
  clear fz
  have leaf : ∀ e : Int, e ≠ 0 → FirstPost ({}, e) w (.returned (.tuple #[.agg #[.string ⟨#[]⟩, .string ⟨#[]⟩, .int .i64 0, .string ⟨#[]⟩, .int .i64 0, .slice none 0 0], .int .i64 e])) ((((((V.setCell ⟨w.heap.size, 0, none⟩ (.string ⟨#[]⟩)).setCell ⟨w.heap.size, 1, none⟩ (.string ⟨#[]⟩)).setCell ⟨w.heap.size, 2, none⟩ (.int .i64 0)).setCell ⟨w.heap.size, 3, none⟩ (.string ⟨#[]⟩)).setCell ⟨w.heap.size, 4, none⟩ (.int .i64 0)).setCell ⟨w.heap.size, 5, none⟩ (.slice none 0 0)) :=
    fun e he => first_bad he (below_set6 B0.out (Nat.le_refl _) _ _ _ _ _ _)
  have LF := Lib.hid leaf
  clear leaf
  by_cases h12 : s.size < 12
  · obtain rfl := HX.out.symm.trans (status_1 (.inl h12))
    have b12 : (s.size : Int) < 12 := by omega
    go_enter Tryd.func57, Tryd.ntmps57
    go_wp2_with (rw [HV.out])
    refine bodyPost_ret (ret_rstatus (Box6.stored X0.out _ _ _ _ _ _) rfl rfl) rfl ?_
    exact LF.out 80 (by decide)
  · have b12 : ¬ (s.size : Int) < 12 := by omega
    have e8 := at_list s 8 (by omega)
    rcases ne_cases s[8] 32 32 rfl with ⟨n8, h8⟩ | ⟨n8, h8⟩
    · obtain rfl := HX.out.symm.trans (status_1 (.inr (.inl (by rw [e8]; exact fun h => h8 (by injection h)))))
      clear e8 h8
      go_enter Tryd.func57, Tryd.ntmps57
      go_wp2_with (rw [HV.out])
      refine bodyPost_ret (ret_rstatus (Box6.stored X0.out _ _ _ _ _ _) rfl rfl) rfl ?_
      exact LF.out 80 (by decide)
    · have eD : (s.extract 9 12).data.toList = (s.data.toList.drop 9).take 3 := by rw [ext_list]
      have DC := fun w => Lib.hid (rdecimal_c (s.extract 9 12) 3 w)
      rw [eD] at DC
      obtain ⟨n, ok, hd⟩ : ∃ n ok, decimal ((s.data.toList.drop 9).take 3) 3 = (n, ok) := ⟨_, _, rfl⟩
      rw [hd] at DC
      have HD := Lib.hid hd
      have HE8 : Hid (s.data.toList[8]? = some 32) := Lib.hid (by rw [e8, h8])
      clear e8 h8 eD hd
      by_cases hn : ok = true ∧ 100 ≤ n ∧ n ≤ 599
      · have HNN := Lib.hid hn.2
        have hok := hn.1
        subst hok
        have k1 : ¬ n < 100 := by omega
        have k2 : ¬ 600 ≤ n := by omega
        clear hn
        by_cases hg : 12 < s.size ∧ ∃ h : 12 < s.size, s[12] ≠ 32
        · obtain ⟨g, _, hne⟩ := hg
          have g2 : ((s[12].toNat : Int) != 32) = true := by rw [neN s[12] 32 32 rfl, decide_eq_false hne]; rfl
          obtain rfl := HX.out.symm.trans (status_1 (.inr (.inr ⟨g, by rw [at_list s 12 g]; exact fun h => hne (by injection h)⟩)))
          have b13 : (12 : Int) < (s.size : Int) := by omega
          clear hne
          go_enter Tryd.func57, Tryd.ntmps57
          go_wp2_with (first | (rw [HV.out]) | (go_at_call 40; refine (DC _).out.mono ?_; rintro e w1 ⟨rfl, rfl⟩))
          refine bodyPost_ret (ret_rstatus (Box6.stored X0.out _ _ _ _ _ _) rfl rfl) rfl ?_
          exact LF.out 80 (by decide)
        · have HOK : Hid (¬ (s.data.toList.length < 12 ∨ s.data.toList[8]? ≠ some 32 ∨ (12 < s.data.toList.length ∧ s.data.toList[12]? ≠ some 32))) := Lib.hid (by
            rw [size_list, HE8.out]
            rintro (h | h | ⟨h, h2⟩)
            · omega
            · exact h rfl
            · exact hg ⟨h, h, fun h3 => h2 (by rw [at_list s 12 h, h3])⟩)
          have eV : (s.extract 0 8).data.toList = s.data.toList.take 8 := by rw [ext_list]; rfl
          have VE := fun w => Lib.hid (rversion_c (s.extract 0 8) w (by rw [← size_list, eV, List.length_take, size_list]; omega))
          rw [eV] at VE
          obtain ⟨y, hy⟩ : ∃ y, versionL (s.data.toList.take 8) = y := ⟨_, rfl⟩
          rw [hy] at VE
          obtain ⟨mn, ve⟩ := y
          simp only [verVal] at VE
          have HY := Lib.hid hy
          clear eV hy
          have g12 : ((s.size : Int) ≤ 12 ∧ ∃ R : ByteArray, R = ⟨#[]⟩ ∧ R.data.toList = s.data.toList.drop 13) ∨ ((12 : Int) < s.size ∧ ∃ h : 12 < s.size, ((s[12].toNat : Int) != 32) = false) := by
            by_cases h : 12 < s.size
            · refine .inr ⟨by omega, h, ?_⟩
              rw [neN s[12] 32 32 rfl]
              by_cases h3 : s[12] = 32
              · rw [decide_eq_true h3]; rfl
              · exact absurd ⟨h, h, h3⟩ hg
            · exact .inl ⟨by omega, ⟨#[]⟩, rfl, by rw [List.drop_eq_nil_of_le (by rw [size_list]; omega)]⟩
          clear hg
          rcases g12 with ⟨b13, R, hR, eR⟩ | ⟨b13, g, g2⟩
          case' inr =>
            obtain ⟨R, hR⟩ : ∃ R, R = s.extract 13 s.size := ⟨_, rfl⟩
            have eR : R.data.toList = s.data.toList.drop 13 := by rw [hR, ext_list, List.take_of_length_le (by rw [List.length_drop, size_list]; exact Nat.le_refl _)]
          all_goals
            have hRs : R.size ≤ s.size := by rw [← size_list, eR, List.length_drop, size_list]; omega
            have ER := Lib.hid eR
            have HR := Lib.hid hR
            have BADR : Hid ((R.data.toList.all okv = false) → x = ({}, 80)) := Lib.hid (fun hb => HX.out.symm.trans (status_3 HOK.out (by rw [HD.out]; exact ⟨rfl, HNN.out⟩) (by rw [← ER.out]; exact hb)))
            have GOODR : Hid ((R.data.toList.all okv = true) → x = (if ve = 0 then ({ status := n, reason := R.data.toList, minor := mn }, 0) else ({}, ve))) := Lib.hid (fun hb => by
              have := HX.out.symm.trans (status_4 HOK.out HD.out ⟨rfl, HNN.out⟩ (by rw [← ER.out]; exact hb))
              rw [HY.out] at this
              rw [ER.out]; exact this)
            clear eR hR
            go_enter Tryd.func57, Tryd.ntmps57
            go_wp2_with (first | (rw [HV.out]) | (go_at_call 40; refine (DC _).out.mono ?_; rintro e w1 ⟨rfl, rfl⟩))
            rw [← HR.out]
            clear HX HOK HD HNN HE8 DC HR
            go_loop [7] (fun i => ∃ k : Nat, k ≤ R.size ∧ i = .int .i64 k ∧ (R.data.toList.take k).all okv = true) (fun i => R.size - (intOf i).toNat)
            case atStart => exact ⟨0, Nat.zero_le _, rfl, rfl⟩
            case round =>
              obtain ⟨k, hk, rfl, hall⟩ := hrel
              have HA := Lib.hid hall
              clear hall
              by_cases hlt : k < R.size
              · rcases okv_cases R[k] with ⟨ho, t1, t2⟩ | ⟨ho, t1⟩
                · have HN := Lib.hid (all_take_snoc okv R k hlt HA.out ho)
                  clear ho
                  rcases t2 with t2 | ⟨t2, t3⟩
                  all_goals
                    go_wp2_with fail
                    go_round
                    case rel => exact ⟨k + 1, by omega, by go_num, HN.out⟩
                    case measure => simp [intOf]; omega
                · obtain rfl := BADR.out (all_of_take okv R k hlt ho)
                  clear ho
                  rcases t1 with t1 | ⟨t1, t2, t3⟩
                  all_goals
                    go_wp2_with fail
                    refine bodyPost_ret (ret_rstatus (Box6.stored X0.out _ _ _ _ _ _) rfl rfl) rfl ?_
                    exact LF.out 80 (by decide)
              · have hst := GOODR.out (by have := HA.out; rw [take_all _ k hlt] at this; exact this)
                by_cases hve : ve = 0
                · subst hve
                  rw [if_pos rfl] at hst
                  subst hst
                  have ve0 : ((0 : Int) != 0) = false := rfl
                  clear BADR GOODR
                  go_wp2_with (go_at_call 81; refine (VE _).out.mono ?_; rintro e w3 ⟨rfl, rfl⟩)
                  refine bodyPost_ret (ret_rstatus (Box6.stored X0.out _ _ _ _ _ _) rfl rfl) rfl ?_
                  refine ⟨{ status := n, reason := R.data.toList, minor := mn }, ?_, fun _ => rfl, below_set6 B0.out (Nat.le_refl _) _ _ _ _ _ _⟩
                  unfold hd0; simp only [list_bs]; rfl
                · rw [if_neg hve] at hst
                  subst hst
                  have ve0 : (ve != 0) = true := by rw [bne_iff_ne]; exact hve
                  clear BADR GOODR
                  go_wp2_with (go_at_call 81; refine (VE _).out.mono ?_; rintro e w3 ⟨rfl, rfl⟩)
                  refine bodyPost_ret (ret_rstatus (Box6.stored X0.out _ _ _ _ _ _) rfl rfl) rfl ?_
                  exact LF.out ve hve
      · have hx0 : statusL s.data.toList = ({}, 80) := by
          by_cases hok : (s.data.toList.length < 12 ∨ s.data.toList[8]? ≠ some 32 ∨ (12 < s.data.toList.length ∧ s.data.toList[12]? ≠ some 32))
          · exact status_1 hok
          · exact status_2 hok (by rw [HD.out]; exact hn)
        obtain rfl := HX.out.symm.trans hx0
        have cs : ok = false ∨ (ok = true ∧ n < 100) ∨ (ok = true ∧ ¬ n < 100 ∧ 600 ≤ n) := by
          cases ok
          · exact .inl rfl
          · refine .inr ?_; simp only [true_and] at hn ⊢; omega
        clear hn hx0
        rcases cs with rfl | ⟨rfl, k1⟩ | ⟨rfl, k1, k2⟩
        all_goals
          go_enter Tryd.func57, Tryd.ntmps57
          go_wp2_with (first | (rw [HV.out]) | (go_at_call 40; refine (DC _).out.mono ?_; rintro e w1 ⟨rfl, rfl⟩))
          refine bodyPost_ret (ret_rstatus (Box6.stored X0.out _ _ _ _ _ _) rfl rfl) rfl ?_
          exact LF.out 80 (by decide)
end Go.Proofs.YtjbmipbjlhcooaaDoor
