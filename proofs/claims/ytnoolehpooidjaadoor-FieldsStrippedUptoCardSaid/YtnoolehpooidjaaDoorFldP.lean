/- The walk over FieldsStripped. -/
import Derived.Test.YtnoolehpooidjaaDoorFldL
import Derived.Test.YtnoolehpooidjaaDoorFldM
set_option linter.unusedVariables false
set_option linter.unusedSimpArgs false
namespace Go.Proofs.YtnoolehpooidjaaDoor
open Go.RowKit Lex

set_option maxRecDepth 100000 in
set_option maxHeartbeats 8000000 in
theorem stripped_walk {W : World} (A : Option Addr) (cap : Nat) (l : List Fd) (hA : A = none → cap = 0) (hF : Flds W A l) (hl : In l) (m : Int) (W2 : World) (hW : W2 = W) (hm : W2.cell? ⟨0, 0, none⟩ = some (.int .i64 m)) :
    Calls Tryd.prog 5 #[.slice A l.length cap] W2 fun e w' => e = .returned (.bool true) ∧ Below W2.heap.size W2 w' := by
  subst hW
  have hfb := hl.fb
  obtain ⟨j0, ji, jz0, jz1, jz2⟩ := info_parts info_str
  have AN := Lib.hid (anchor7_c m W2 hm)
  have HA := Lib.hid hA
  have HF := Lib.hid hF
  have HM := Lib.hid hm
  have hl1 := hl.1
  have hstl : (stripF l).length ≤ l.length := List.length_filter_le _ _
  have P1 := fun a c w ha h h2 => Lib.hid (stripf_c a c l m w hfb ha h h2)
  have hsfb : FB (stripF l) := ⟨by have := hfb.len; omega, fun f hf => hfb.nm f (stripF_mem hf).1, fun f hf => hfb.vl f (stripF_mem hf).1⟩
  have P2 := fun a c w ha h h2 => Lib.hid (stripf_c a c (stripF l) m w hsfb ha h h2)
  rw [strip_strip] at P2
  have EL := fun a c w h h2 => Lib.hid (elementsf_c a c l ⟨#[67, 111, 110, 110, 101, 99, 116, 105, 111, 110]⟩ m w (by decide) hfb.len (fun f hf => Nat.le_trans (hfb.nm f hf) (by decide)) (fun f hf => hfb.vl f hf) h h2)
  rw [show (⟨#[67, 111, 110, 110, 101, 99, 116, 105, 111, 110]⟩ : ByteArray).data.toList = conn from rfl] at EL
  have hec := elementsF_length hfb l.length conn
  rw [List.take_length] at hec
  have hem := fun x h => elementsF_mem (name := conn) (x := x) hfb h
  have GS := fun (nm : ByteArray) (hn : nm.size ≤ 4194304) (hin : nm.data.toList ∈ elementsF l conn ++ lowN) a c w h => by
    have K := get_c a c (stripF l) nm w (by omega) (by omega) (fun f hf => Nat.le_trans (hsfb.nm f hf) (by decide)) (fun f hf => Nat.le_trans (hsfb.vl f hf) (by decide)) h
    rw [strip_none hin] at K
    exact Lib.hid K
  have SP := fun a a' c c' w h h' => Lib.hid (samef_c a a' c c' (stripF l) w h h' (by omega))
  have hlow : strs lowN = [.string ⟨#[99, 111, 110, 110, 101, 99, 116, 105, 111, 110]⟩, .string ⟨#[107, 101, 101, 112, 45, 97, 108, 105, 118, 101]⟩, .string ⟨#[112, 114, 111, 120, 121, 45, 99, 111, 110, 110, 101, 99, 116, 105, 111, 110]⟩, .string ⟨#[116, 101]⟩, .string ⟨#[116, 114, 97, 105, 108, 101, 114]⟩, .string ⟨#[116, 114, 97, 110, 115, 102, 101, 114, 45, 101, 110, 99, 111, 100, 105, 110, 103]⟩, .string ⟨#[117, 112, 103, 114, 97, 100, 101]⟩] := rfl
  have hlown : lowN.length = 7 := rfl
  have hnm : ∀ x ∈ elementsF l conn ++ lowN, x.length ≤ 4194304 := by
    intro x hx
    rcases List.mem_append.1 hx with hx | hx
    · exact hem x hx
    · have : ∀ y ∈ lowN, y.length ≤ 4194304 := by decide +kernel
      exact this x hx
  have PA := fun k h => Lib.hid (place_at l k h)
  have PL := fun k => Lib.hid (place_le l k)
  have PN := fun k h => Lib.hid (place_snoc l k h)
  have PE := Lib.hid (place_all l)
  generalize hpf : placeF l = pf at *
  have hp0 : pf 0 = 0 := by rw [← hpf]; rfl
  have HP0 := Lib.hid hp0
  generalize hns : elementsF l conn ++ lowN = ns at *
  have HNS := Lib.hid hns
  have HNM := Lib.hid hnm
  have HLOW := Lib.hid hlow
  have hnl : ns.length = (elementsF l conn).length + 7 := by rw [← hns, List.length_append, hlown]
  have HNL := Lib.hid hnl
  have hnsl : ns.length ≤ 4398148223007 := by omega
  generalize elementsF l conn = E at *
  generalize stripF l = S at *
  clear hA hF hm hl hfb hsfb hem hlow hlown hpf hns hnm hnl hp0
  go_enter Tryd.func5, Tryd.ntmps5
  go_wp2_with fail
  refine AN.out.mono ?_
  rintro e w1 ⟨rfl, hb1⟩
  have F1 := Lib.hid (HF.out.below hb1)
  have M1 := Lib.hid (held1 hb1 HM.out)
  have B1 := Lib.hid hb1
  clear hb1
  go_wp2_with (at_builtin; refine wpList_copy_flds rfl (.tmp 14) (.tmp 15) rfl rfl A cap l HA.out rfl F1.out (by omega) ?_; intro v2 w2 ho2 hb2)
  obtain ⟨a2, c2, rfl, hn2, hF2⟩ := own_flds ho2
  have A2 := Lib.hid hF2
  have N2 := Lib.hid hn2
  have F2 := Lib.hid (F1.out.below hb2)
  have M2 := Lib.hid (held1 hb2 M1.out)
  have B2 := Lib.hid (below_then B1.out hb2)
  clear hb2 ho2 hF2 F1 M1 B1 hn2
  go_wp2_with fail
  refine (P1 _ _ _ N2.out A2.out M2.out).out.mono ?_
  rintro e w3 ⟨v3, rfl, ho3, hb3⟩
  obtain ⟨a3, c3, rfl, hn3, hF3⟩ := own_flds ho3
  have S3 := Lib.hid hF3
  have N3 := Lib.hid hn3
  have F3 := Lib.hid (F2.out.below hb3)
  have M3 := Lib.hid (held1 hb3 M2.out)
  have B3 := Lib.hid (below_then B2.out hb3)
  clear hb3 ho3 hF3 F2 M2 B2 hn3 N2 A2
  go_wp2_with fail
  refine (EL _ _ _ F3.out M3.out).out.mono ?_
  rintro e w4 ⟨v4, rfl, ho4, hb4⟩
  have O4 := Lib.hid ho4
  have hz4 := hb4.size
  have HB4 := Lib.hid hb4
  clear hb4 ho4
  have E1 := Lib.hid (show strs E ++ strs lowN = strs ns by rw [← HNS.out]; simp [strs])
  go_wp2_with (at_builtin; refine wpList_append_rows rfl (.tmp 19) (.tmp 20) 32 rfl w3.heap.size w4.heap.size 9 j0 (.string ByteArray.empty) 1 16 Tryd.underlying32 ji jz0 jz1 jz2 rfl (by decide) _ E.length _ rfl (O4.out.alloc _) _ 7 (strs lowN) rfl (by rw [HLOW.out]; exact World.ownsRow_lit (base := w4.heap.size) (e := 9) (size := 1) w4 _ 7 (Nat.le_refl _) (by decide) rfl) (ones_strs _) (by unfold maxLen; omega) (by omega) (by simp; omega) ?_; intro v6 w6 ho6 hg6 _; rw [E1.out, ← HNL.out] at ho6; obtain ⟨na, nc, rfl⟩ := own_slice' ho6)
  have hb6 : Below w3.heap.size w3 w6 := (HB4.out.alloc hz4 _).grown hg6 (by simp; omega) (fun g hg => (O4.out.lt g hg).1)
  have T6 := Lib.hid (texts_of ho6)
  have S6 := Lib.hid (S3.out.below hb6)
  have F6 := Lib.hid (F3.out.below hb6)
  have M6 := Lib.hid (held1 hb6 M3.out)
  have B6 := Lib.hid (below_then B3.out hb6)
  clear hb6 ho6 hg6 E1 HB4 O4 S3 F3 M3 B3 hz4
  go_wp2
  go_loopw [6, 7, 8, 24] (fun _ _ _ i wr => ∃ k : Nat, k ≤ ns.length ∧ i = .int .i64 k ∧ Below w6.heap.size w6 wr) (fun _ _ _ i _ => ns.length - (intOf i).toNat)
  case atStart => exact ⟨0, Nat.zero_le _, rfl, Below.refl _ _⟩
  case round =>
    obtain ⟨k, hk, rfl, hB⟩ := hrel
    by_cases hlt : k < ns.length
    · obtain ⟨g, hAe, c1⟩ := T6.out.below hB k hlt
      have G := fun w h => Lib.hid (GS (bs ns[k]) (HNM.out _ (List.getElem_mem hlt)) (List.getElem_mem hlt) a3 c3 w h).out
      have SK := Lib.hid (S6.out.below hB)
      have HBK := Lib.hid hB
      subst hAe
      clear hB
      generalize bs ns[k] = nm at *
      have k0 : (0 : Int) ≤ (k : Int) := by omega
      have k1 : (k : Int) < (ns.length : Int) := by omega
      go_wp2_with fail
      refine (G _ SK.out).out.mono ?_
      rintro e w7 ⟨rfl, hb7⟩
      go_wp2
      go_roundw
      case rel => exact ⟨k + 1, by omega, by go_num, below_then HBK.out hb7⟩
      case measure => simp [intOf]; omega
    · obtain rfl : k = ns.length := by omega
      have S7 := Lib.hid (S6.out.below hB)
      have F7 := Lib.hid (F6.out.below hB)
      have M7 := Lib.hid (held1 hB M6.out)
      have B7 := Lib.hid (below_then B6.out hB)
      clear hB S6 F6 M6 B6 T6
      obtain ⟨wo, rfl⟩ : ∃ wo : World, wo = wr := ⟨_, rfl⟩
      go_wp2
      go_loopw [9, 11, 39] (fun at_ _ i wr => ∃ k : Nat, k ≤ l.length ∧ i = .int .i64 k ∧ at_ = .int .i64 (pf k) ∧ Below wo.heap.size wo wr) (fun _ _ i _ => l.length - (intOf i).toNat)
      case atStart => exact ⟨0, Nat.zero_le _, rfl, by rw [HP0.out]; rfl, Below.refl _ _⟩
      case round =>
        obtain ⟨k, hk, rfl, rfl, hB⟩ := hrel
        have hpl := (PL k).out
        by_cases hlt : k < l.length
        · obtain ⟨g, o, hAe, c1, c2⟩ := F7.out.below hB k hlt
          have hg := World.block_lt_of_cell? wr _ c1
          have PK := PA k hlt
          have PS := PN k hlt
          have SK := Lib.hid (S7.out.below hB)
          obtain ⟨f, hf⟩ : ∃ f, l[k] = f := ⟨_, rfl⟩
          rw [hf] at c1 c2 PK PS
          have HBK := Lib.hid hB
          subst hAe
          clear hf
          have k0 : (0 : Int) ≤ (k : Int) := by omega
          have k1 : (k : Int) < (l.length : Int) := by omega
          rcases PK.out with ⟨hkp, hp, he⟩ | ⟨hkp, hnp⟩
          · rw [hkp, if_pos rfl] at PS
            obtain ⟨gs, os, hAs, d1, d2⟩ := SK.out (pf k) hp
            rw [he] at d1 d2
            subst hAs
            generalize bs f.1 = x at *
            generalize bs f.2 = y at *
            generalize hq : pf k = q at *
            have HQ := Lib.hid hq
            have HPN := Lib.hid PS.out
            have hgs := World.block_lt_of_cell? wr _ d1
            have q0 : (0 : Int) ≤ (q : Int) := by omega
            have q1 : (q : Int) < (S.length : Int) := by omega
            clear hq hkp he PK PS hB
            go_wp2
            go_quiet (fail)
            go_wp2
            go_roundw
            case rel => exact ⟨k + 1, by omega, by go_num, by rw [HPN.out]; go_num, (HBK.out.alloc HBK.out.size _).trans ⟨rfl, rfl, rfl, Nat.le_refl _, fun _ _ => rfl⟩⟩
            case measure => simp [intOf]; omega
          · rw [hkp] at PS
            have HPN := Lib.hid (show pf (k + 1) = pf k by rw [PS.out]; simp)
            by_cases hp : pf k < S.length
            · have hne := hnp hp
              obtain ⟨gs, os, hAs, d1, d2⟩ := SK.out (pf k) hp
              subst hAs
              obtain ⟨f', hf'⟩ : ∃ f', S[pf k] = f' := ⟨_, rfl⟩
              rw [hf'] at d1 d2 hne
              generalize hq : pf k = q at *
              have HQ := Lib.hid hq
              have hgs := World.block_lt_of_cell? wr _ d1
              have q0 : (0 : Int) ≤ (q : Int) := by omega
              have q1 : (q : Int) < (S.length : Int) := by omega
              clear hq hkp PK PS hB hf' hnp
              by_cases h1 : f'.1 = f.1
              · have h2 : f'.2 ≠ f.2 := fun h2 => hne (Prod.ext h1 h2)
                have n2 : (f'.2 == f.2) = false := by rw [beq_eq_false_iff_ne]; exact h2
                rw [h1] at d1
                clear hne h1 h2
                generalize f.1 = x1 at *
                generalize f.2 = x2 at *
                generalize f'.2 = y2 at *
                go_wp2
                go_quiet (fail)
                go_wp2
                go_roundw
                case rel => exact ⟨k + 1, by omega, by go_num, by rw [HPN.out], (HBK.out.alloc HBK.out.size _).trans ⟨rfl, rfl, rfl, Nat.le_refl _, fun _ _ => rfl⟩⟩
                case measure => simp [intOf]; omega
              · have n2 : (f'.1 == f.1) = false := by rw [beq_eq_false_iff_ne]; exact h1
                clear hne h1
                generalize f.1 = x1 at *
                generalize f.2 = x2 at *
                generalize f'.1 = y1 at *
                generalize f'.2 = y2 at *
                go_wp2
                go_quiet (fail)
                go_wp2
                go_roundw
                case rel => exact ⟨k + 1, by omega, by go_num, by rw [HPN.out], (HBK.out.alloc HBK.out.size _).trans ⟨rfl, rfl, rfl, Nat.le_refl _, fun _ _ => rfl⟩⟩
                case measure => simp [intOf]; omega
            · generalize hq : pf k = q at *
              have HQ := Lib.hid hq
              have q1 : (S.length : Int) ≤ (q : Int) := by omega
              have q2 : decide ((q : Int) < (S.length : Int)) = false := by simp; omega
              clear hq hkp PK PS hB hnp
              go_wp2
              go_quiet (fail)
              go_wp2
              go_roundw
              case rel => exact ⟨k + 1, by omega, by go_num, by rw [HPN.out], (HBK.out.alloc HBK.out.size _).trans ⟨rfl, rfl, rfl, Nat.le_refl _, fun _ _ => rfl⟩⟩
              case measure => simp [intOf]; omega
        · obtain rfl : k = l.length := by omega
          have he := PE.out
          rw [he]
          have S8 := Lib.hid (S7.out.below hB)
          have M8 := Lib.hid (held1 hB M7.out)
          have B8 := Lib.hid (below_then B7.out hB)
          clear hB hpl he
          go_wp2_with fail
          refine (P2 _ _ _ N3.out S8.out M8.out).out.mono ?_
          rintro e w9 ⟨v9, rfl, ho9, hb9⟩
          obtain ⟨a9, c9, rfl, _, hF9⟩ := own_flds ho9
          have S9 := Lib.hid (SP a9 a3 c9 c3 w9 hF9 (S8.out.below hb9)).out
          have B9 := Lib.hid (below_then B8.out hb9)
          clear hb9 ho9 hF9
          go_wp2_with fail
          refine S9.out.mono ?_
          rintro e w10 ⟨rfl, hb10⟩
          go_wp2
          go_ret
          exact ⟨rfl, below_then B9.out hb10⟩
end Go.Proofs.YtnoolehpooidjaaDoor
