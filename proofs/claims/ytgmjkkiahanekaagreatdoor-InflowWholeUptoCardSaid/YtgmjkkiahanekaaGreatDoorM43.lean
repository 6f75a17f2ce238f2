/- The texts FrmF in one. -/
import Derived.Test.YtgmjkkiahanekaaGreatDoorM42
/- The contracts of the document's Has, Length and Coding over every head. -/
set_option linter.unusedVariables false
set_option linter.unusedSimpArgs false
namespace Go.Proofs.YtgmjkkiahanekaaGreatDoor
open Go.RowKit Lex

set_option maxRecDepth 100000 in
set_option maxHeartbeats 1000000 in
theorem rhas_c (m t : ByteArray) (s : Int) (r : ByteArray) (mi : Int) (A : Option Addr) (cap : Nat) (fs : List Fd) (name : ByteArray) (w : World) (hnm : name.size ≤ 140737488351232) (hB : FB fs) (hF : Flds w A fs) :
    Calls Tryz.prog 49 #[hv m t s r mi A fs.length cap, .string name] w fun e w' => e = .returned (.bool (decide (0 < (getF fs name.data.toList).2))) ∧ Below w.heap.size w w' := by
  have G := fun w h => Lib.hid (rget_c A cap fs name w hnm hB h)
  have HF := Lib.hid (hF.below ((Below.refl _ w).alloc (Nat.le_refl _) (.cells #[.string m, .string t, .int .i64 s, .string r, .int .i64 mi, .slice A fs.length cap] 42)))
  clear hF hB
  generalize getF fs name.data.toList = g at *
  obtain ⟨v, n⟩ := g
  simp only at G ⊢
  unfold hv
  go_enter Tryz.func49, Tryz.ntmps49
  go_wp2_with fail
  refine (G _ HF.out).out.mono ?_
  rintro e w1 ⟨rfl, hb⟩
  have hB1 := Lib.hid (belowA hb)
  clear hb
  go_wp2
  go_ret
  exact ⟨by first | rfl | (apply ret_bool; rw [Bool.eq_iff_iff, decide_eq_true_eq, decide_eq_true_eq]; omega), hB1.out⟩

def rlenVal (x : Option (Option Int)) : Int := match x with | some (some n) => n | _ => -1
theorem alike_clen (a : List UInt8) : alike a clenL = (lower a == clenL) := by unfold alike; rw [show lower clenL = clenL from by decide +kernel]
set_option maxRecDepth 100000 in
set_option maxHeartbeats 4000000 in
theorem rlength_c (m t : ByteArray) (s : Int) (r : ByteArray) (mi : Int) (A : Option Addr) (cap : Nat) (fs : List Fd) (w : World) (hB : FB fs) (hF : Flds w A fs) :
    Calls Tryz.prog 51 #[hv m t s r mi A fs.length cap] w fun e w' => e = .returned (.int .i64 (rlenVal (lengthF fs))) ∧ Below w.heap.size w w' := by
  generalize hv0 : rlenVal (lengthF fs) = out
  have HOUT := Lib.hid hv0
  have W0 : Below w.heap.size w (w.alloc (.cells #[.string m, .string t, .int .i64 s, .string r, .int .i64 mi, .slice A fs.length cap] 42)) := (Below.refl _ w).alloc (Nat.le_refl _) _
  have F0 := Lib.hid (hF.below W0)
  have X0 := Lib.hid (box6_new w (.string m) (.string t) (.int .i64 s) (.string r) (.int .i64 mi) (.slice A fs.length cap) 42)
  have B0 := Lib.hid W0
  have HBB := Lib.hid hB
  have hl := hB.len
  clear hF hB W0 hv0
  unfold hv
  go_enter Tryz.func51, Tryz.ntmps51
  go_wp2
  generalize w.alloc (.cells #[.string m, .string t, .int .i64 s, .string r, .int .i64 mi, .slice A fs.length cap] 42) = V at *
  go_loopw [3, 4, 5, 6, 7, 8, 9, 10] (fun num i _ _ _ _ _ _ wr => ∃ (k : Nat) (st : Option Int), k ≤ fs.length ∧ i = .int .i64 k ∧ num = .int .i64 (st.getD (-1)) ∧ (∀ y, st = some y → 0 ≤ y) ∧ LenAt fs st (partsF (fs.drop k)) ∧ Below V.heap.size V wr) (fun _ i _ _ _ _ _ _ _ => fs.length - (intOf i).toNat)
  case atStart => exact ⟨0, none, Nat.zero_le _, rfl, rfl, (fun _ e => by cases e), ⟨rfl⟩, Below.refl _ _⟩
  case round =>
    obtain ⟨k, st, hk, rfl, rfl, hpos, hL, hB⟩ := hrel
    have HL := Lib.hid hL
    have HP := Lib.hid hpos
    clear hL hpos
    obtain ⟨x0, x1, x2, x3, x4, x5, fz⟩ := X0.out.below hB
    clear fz
    by_cases hlt : k < fs.length
    · obtain ⟨g, o, hA, c1, c2⟩ := F0.out.below hB k hlt
      subst hA
      have hg := World.block_lt_of_cell? wr _ c1
      have hn1 := HBB.out.nm _ (List.getElem_mem hlt)
      have hn2 := HBB.out.vl _ (List.getElem_mem hlt)
      have LO := fun w => Lib.hid (rlower_c (bs fs[k].1) w (by rw [bs_size]; omega))
      have hdr := HL.out
      rw [show partsF (fs.drop k) = _ from partsF_drop fs k hlt] at hdr
      rw [bs_list] at LO
      obtain ⟨f, hf⟩ : ∃ f, fs[k] = f := ⟨_, rfl⟩
      rw [hf] at c1 c2 LO hdr hn1 hn2
      clear hf
      have hal := alike_clen f.1
      rw [hal] at hdr
      clear hal
      generalize lower f.1 = q at *
      cases hq : (q == clenL) with
      | false =>
        rw [hq] at hdr
        have bq : (q == [99, 111, 110, 116, 101, 110, 116, 45, 108, 101, 110, 103, 116, 104]) = false := hq
        have HN := Lib.hid (show LenAt fs st (partsF (fs.drop (k + 1))) by simpa using hdr)
        clear hdr hq
        go_wp2_with (go_at_call 76; refine (LO _).out.mono ?_; rintro e w1 ⟨rfl, hb⟩)
        go_roundw
        case rel => exact ⟨k + 1, st, by omega, by go_num, rfl, HP.out, HN.out, below_then hB hb⟩
        case measure => simp [intOf]; omega
      | true =>
        rw [hq, if_pos rfl] at hdr
        have bq : (q == [99, 111, 110, 116, 101, 110, 116, 45, 108, 101, 110, 103, 116, 104]) = true := hq
        have hst : AtC (bs f.2) 0 0 (pieces 44 f.2) := AtC.start (bs f.2)
        have hsz : (bs f.2).size ≤ 4194304 := hn2
        have HD := Lib.hid hdr
        have HS := Lib.hid hst
        clear hdr hst hq
        generalize pieces 44 f.2 = ps at *
        generalize bs f.2 = v at *
        go_wp2_with fail
        refine (LO _).out.mono ?_
        rintro e w1 ⟨rfl, hb⟩
        have HB1 := Lib.hid (below_then hB hb)
        have d2 := held1 hb c2
        have y0 := held1 hb x0
        have y5 := held1 hb x5
        clear hb c1 c2 hB x0 x1 x2 x3 x4 x5
        go_wp2
        clear d2 y0 y5
        go_loop [3, 6, 7, 8, 9, 10] (fun num fr kk _ _ _ => ∃ (F I : Nat) (R : List (List UInt8)) (st : Option Int), I ≤ v.size + 1 ∧ kk = .int .i64 I ∧ fr = .int .i64 F ∧ num = .int .i64 (st.getD (-1)) ∧ (∀ y, st = some y → 0 ≤ y) ∧ AtC v F I R ∧ LenAt fs st (R ++ partsF (fs.drop (k + 1)))) (fun _ _ kk _ _ _ => v.size + 1 - (intOf kk).toNat)
        case atStart => exact ⟨0, 0, ps, st, Nat.zero_le _, rfl, rfl, rfl, HP.out, HS.out, HD.out⟩
        case round =>
          clear HD HS HL HP
          obtain ⟨F, I, R, st2, hI, rfl, rfl, rfl, hpos, hA, hL2⟩ := hrel
          have HA := Lib.hid hA
          have HL2 := Lib.hid hL2
          have HP := Lib.hid hpos
          clear hA hL2 hpos
          by_cases hle : I ≤ v.size
          · have hfi := HA.out.from_le hle
            by_cases hgo : ∃ h : I < v.size, v[I] ≠ 44
            · obtain ⟨hlt2, hc⟩ := hgo
              have HN := Lib.hid (HA.out.next hlt2 hc)
              have g1 : ((v[I].toNat : Int) != 44) = true := by
                rw [bne_iff_ne]; intro h; apply hc
                exact UInt8.toNat_inj.1 (by have : (44 : UInt8).toNat = 44 := rfl; omega)
              clear hc
              go_wp2
              go_round
              case rel => exact ⟨F, I + 1, R, st2, by omega, by go_num, rfl, rfl, HP.out, HN.out, HL2.out⟩
              case measure => simp [intOf]; omega
            · have hc : ∀ h : I < v.size, v[I] = 44 := fun h => Classical.byContradiction fun hh => hgo ⟨h, hh⟩
              obtain ⟨R', hR, hA'⟩ := HA.out.cut hle hc
              have hC := HL2.out
              rw [hR, List.cons_append] at hC
              have HA' := Lib.hid hA'
              have K := fun w => Lib.hid (rtrim_c (v.extract F I) w (by rw [ByteArray.size_extract]; omega))
              have D := fun w => Lib.hid (rdecimal_c (bs (trim (v.extract F I).data.toList)) 15 w)
              rw [bs_list] at D
              have Cs : I < v.size ∧ (∀ h : I < v.size, ((v[I].toNat : Int) != 44) = false) ∨ I = v.size := by
                by_cases h : I < v.size
                · exact .inl ⟨h, fun h' => by rw [hc h]; rfl⟩
                · exact .inr (by omega)
              have hbad := fun n h => hC.bad (n := n) h
              have hok := fun n h hs => hC.ok (n := n) h hs
              have hne := fun n h hs => hC.ne (n := n) h hs
              have hnb : ∀ n, decimal (trim (v.extract F I).data.toList) 15 = (n, true) → 0 ≤ n := fun n h => (partN_bound (p := (v.extract F I).data.toList) (n := n) (by unfold partN; rw [h]; rfl)).1
              clear hC hR hc hA' hgo
              generalize trim (v.extract F I).data.toList = y at *
              generalize hdv : decimal y 15 = dv at *
              obtain ⟨n, okb⟩ := dv
              simp only at D
              cases okb with
              | false =>
                have HV := Lib.hid (show out = -1 by rw [← HOUT.out, hbad n rfl]; rfl)
                clear hbad hok hne hdv hnb
                rcases Cs with ⟨hlt2, g1⟩ | hEq
                · have g1 := g1 hlt2
                  go_wp2_with (first | (go_at_call 77; refine (K _).out.mono ?_; rintro e w' ⟨rfl, rfl⟩) | (go_at_call 78; refine (D _).out.mono ?_; rintro e w' ⟨rfl, rfl⟩))
                  go_ret
                  exact ⟨ret_int HV.out.symm, below_then B0.out HB1.out⟩
                · subst hEq
                  go_wp2_with (first | (go_at_call 77; refine (K _).out.mono ?_; rintro e w' ⟨rfl, rfl⟩) | (go_at_call 78; refine (D _).out.mono ?_; rintro e w' ⟨rfl, rfl⟩))
                  go_ret
                  exact ⟨ret_int HV.out.symm, below_then B0.out HB1.out⟩
              | true =>
                have hn0 := hnb n rfl
                by_cases hst : st2 = none ∨ st2 = some n
                · have HN := Lib.hid (hok n rfl hst)
                  have HNP := Lib.hid (show ∀ y, some n = some y → 0 ≤ y from fun y e => by injection e with e; omega)
                  clear hbad hok hne hdv hnb
                  rcases hst with rfl | rfl
                  all_goals
                    simp only [Option.getD_some, Option.getD_none]
                    rcases Cs with ⟨hlt2, g1⟩ | hEq
                  · have g1 := g1 hlt2
                    go_wp2_with (first | (go_at_call 77; refine (K _).out.mono ?_; rintro e w' ⟨rfl, rfl⟩) | (go_at_call 78; refine (D _).out.mono ?_; rintro e w' ⟨rfl, rfl⟩))
                    go_round
                    case rel => exact ⟨I + 1, I + 1, R', some n, by omega, by go_num, by go_num, rfl, HNP.out, HA'.out, HN.out⟩
                    case measure => simp [intOf]; omega
                  · subst hEq
                    go_wp2_with (first | (go_at_call 77; refine (K _).out.mono ?_; rintro e w' ⟨rfl, rfl⟩) | (go_at_call 78; refine (D _).out.mono ?_; rintro e w' ⟨rfl, rfl⟩))
                    go_round
                    case rel => exact ⟨v.size + 1, v.size + 1, R', some n, by omega, by go_num, by go_num, rfl, HNP.out, HA'.out, HN.out⟩
                    case measure => simp [intOf]
                  · have g1 := g1 hlt2
                    go_wp2_with (first | (go_at_call 77; refine (K _).out.mono ?_; rintro e w' ⟨rfl, rfl⟩) | (go_at_call 78; refine (D _).out.mono ?_; rintro e w' ⟨rfl, rfl⟩))
                    go_round
                    case rel => exact ⟨I + 1, I + 1, R', some n, by omega, by go_num, by go_num, rfl, HNP.out, HA'.out, HN.out⟩
                    case measure => simp [intOf]; omega
                  · subst hEq
                    go_wp2_with (first | (go_at_call 77; refine (K _).out.mono ?_; rintro e w' ⟨rfl, rfl⟩) | (go_at_call 78; refine (D _).out.mono ?_; rintro e w' ⟨rfl, rfl⟩))
                    go_round
                    case rel => exact ⟨v.size + 1, v.size + 1, R', some n, by omega, by go_num, by go_num, rfl, HNP.out, HA'.out, HN.out⟩
                    case measure => simp [intOf]
                · have HV := Lib.hid (show out = -1 by rw [← HOUT.out, hne n rfl hst]; rfl)
                  obtain ⟨y, rfl⟩ : ∃ y, st2 = some y := by
                    cases st2 with
                    | none => exact absurd (.inl rfl) hst
                    | some y => exact ⟨y, rfl⟩
                  have bn : (n != y) = true := by rw [bne_iff_ne]; rintro rfl; exact hst (.inr rfl)
                  have hy := HP.out y rfl
                  clear hbad hok hne hdv hnb hst
                  simp only [Option.getD_some]
                  rcases Cs with ⟨hlt2, g1⟩ | hEq
                  · have g1 := g1 hlt2
                    go_wp2_with (first | (go_at_call 77; refine (K _).out.mono ?_; rintro e w' ⟨rfl, rfl⟩) | (go_at_call 78; refine (D _).out.mono ?_; rintro e w' ⟨rfl, rfl⟩))
                    go_ret
                    exact ⟨ret_int HV.out.symm, below_then B0.out HB1.out⟩
                  · subst hEq
                    go_wp2_with (first | (go_at_call 77; refine (K _).out.mono ?_; rintro e w' ⟨rfl, rfl⟩) | (go_at_call 78; refine (D _).out.mono ?_; rintro e w' ⟨rfl, rfl⟩))
                    go_ret
                    exact ⟨ret_int HV.out.symm, below_then B0.out HB1.out⟩
          · have hR := HA.out.done hle
            have HN := Lib.hid (show LenAt fs st2 (partsF (fs.drop (k + 1))) by have h := HL2.out; rwa [hR, List.nil_append] at h)
            clear hR
            go_wp2
            go_roundw
            case rel => exact ⟨k + 1, st2, by omega, by go_num, rfl, HP.out, HN.out, HB1.out⟩
            case measure => simp [intOf]; omega
    · have hd : fs.drop k = [] := List.drop_eq_nil_of_le (by omega)
      have HV := Lib.hid (show out = st.getD (-1) by
        have h := HL.out.eq
        rw [hd, partsF_nil] at h
        rw [← HOUT.out, h]
        cases st <;> rfl)
      clear hd
      go_wp2
      go_ret
      exact ⟨ret_int HV.out.symm, below_then B0.out hB⟩
end Go.Proofs.YtgmjkkiahanekaaGreatDoor

