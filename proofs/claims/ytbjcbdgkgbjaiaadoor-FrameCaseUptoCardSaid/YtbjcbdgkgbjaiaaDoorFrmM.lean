/- The walk over FrameOneWay. -/
import Derived.Test.YtbjcbdgkgbjaiaaDoorFrmL
set_option linter.unusedVariables false
set_option linter.unusedSimpArgs false
namespace Go.Proofs.YtbjcbdgkgbjaiaaDoor
open Go.RowKit Lex

theorem alike_tenc (a : List UInt8) : alike a tencL = (lower a == tencL) := by unfold alike; rw [show lower tencL = tencL from by decide +kernel]
theorem values_none {l : List Fd} {name : List UInt8} (h : valuesF l name = []) : ∀ k (hk : k < l.length), alike l[k].1 name = false := by
  intro k hk
  cases hq : alike l[k].1 name with
  | false => rfl
  | true =>
    have : l[k].2 ∈ valuesF l name := by unfold valuesF; exact List.mem_map.2 ⟨l[k], List.mem_filter.2 ⟨List.getElem_mem hk, hq⟩, rfl⟩
    rw [h] at this; cases this
theorem own_some1 {w : World} {base : Nat} {e : TypeId} {z n : Nat} {v : Value} {xs : List Value} (h : w.ownsRow base e z v n xs) : ∃ a c, v = .slice a n c := by
  rcases h.2 with ⟨rfl, rfl⟩ | ⟨g, cap, cur, rfl, _⟩
  · exact ⟨_, _, rfl⟩
  · exact ⟨_, _, rfl⟩
set_option maxRecDepth 100000 in
set_option maxHeartbeats 8000000 in
theorem oneway_walk {W : World} (m t : ByteArray) (s : Int) (r : ByteArray) (mi : Int) (A : Option Addr) (cap : Nat) (l : List Fd) (hA : A = none → cap = 0) (hF : Flds W A l) (hl : InF l) (most : Int) (hmost : (Lit.int .i64 most).wf = true) (M : Int) (W2 : World) (hW : W2 = W) (hm : W2.cell? ⟨0, 0, none⟩ = some (.int .i64 M)) :
    Calls Tryd.prog 3 #[hv m t s r mi A l.length cap, .int .i64 most] W2 fun e w' => e = .returned (.bool true) ∧ Below W2.heap.size W2 w' := by
  subst hW
  have hB := hl.fb
  have AN := Lib.hid (anchor9_c M (W2.alloc (.cells #[.string m, .string t, .int .i64 s, .string r, .int .i64 mi, .slice A l.length cap] 24)) (cell_below ((Below.refl _ W2).alloc (Nat.le_refl _) _) hm))
  have CP := fun w (hb : Below W2.heap.size W2 w) => Lib.hid (copied_c m t s r mi A cap l w hB hA (hF.below hb))
  have HF := Lib.hid hF
  have HM := Lib.hid hm
  have B0 := Lib.hid ((Below.refl _ W2).alloc (Nat.le_refl _) (.cells #[.string m, .string t, .int .i64 s, .string r, .int .i64 mi, .slice A l.length cap] 24))
  have X0 := Lib.hid (box6_new W2 (.string m) (.string t) (.int .i64 s) (.string r) (.int .i64 mi) (.slice A l.length cap) 24)
  have RP := fun a c w h hm => Lib.hid (request_c m t s r mi a c l most M w hB h hm)
  have EL := fun w (hb : Below W2.heap.size W2 w) => Lib.hid (relementsf_c A cap l ⟨#[116, 114, 97, 110, 115, 102, 101, 114, 45, 101, 110, 99, 111, 100, 105, 110, 103]⟩ w (by decide) hB (hF.below hb))
  rw [show (ByteArray.mk #[116, 114, 97, 110, 115, 102, 101, 114, 45, 101, 110, 99, 111, 100, 105, 110, 103]).data.toList = tencL from rfl] at EL
  have HBB := Lib.hid hB
  have hll := hl.1
  obtain ⟨i0, hi, hz0, hz1, hz2⟩ := info_parts info_str
  unfold Copied hv at CP
  unfold hv at RP ⊢
  rcases req_cases mi l most with ⟨e1, hx, he⟩ | ⟨hx, hcl, hte⟩ | ⟨n, hx, hte, hcl, hn0, hn1, hall⟩ | ⟨hx, hcl, hmi, x, hel, hlx⟩
  · rw [hx] at RP
    have b2 : (e1 != 0) = true := by rw [bne_iff_ne]; omega
    simp only [frVal] at RP
    clear hF hm hA hB hl hmost he hx EL
    go_enter Tryd.func3, Tryd.ntmps3
    go_wp2_with fail
    refine AN.out.mono ?_
    rintro e w1 ⟨rfl, hb1⟩
    have B1 := Lib.hid (below_then B0.out hb1)
    have X1 := Lib.hid (X0.out.below hb1)
    obtain ⟨c0_1, c1_1, c2_1, c3_1, c4_1, c5_1, fz1⟩ := X1.out
    clear hb1 fz1
    go_wp2_with fail
    refine (CP _ B1.out).out.mono ?_
    rintro e w2 ⟨a2, k2, rfl, hn2, ho2, hb2⟩
    have B2 := Lib.hid (below_then B1.out hb2)
    have X2 := Lib.hid (X1.out.below hb2)
    obtain ⟨c0_2, c1_2, c2_2, c3_2, c4_2, c5_2, fz2⟩ := X2.out
    clear fz2
    have hlt2 : W2.heap.size < w2.heap.size := World.block_lt_of_cell? w2 _ c0_2
    have F2 := Lib.hid (flds_own ho2)
    have M2 := Lib.hid (cell_below B2.out HM.out)
    clear hb2 ho2
    go_wp2_with fail
    refine (RP _ _ _ F2.out M2.out).out.mono ?_
    rintro e w3 ⟨rfl, hb3⟩
    have B3 := Lib.hid (below_then B2.out hb3)
    have X3 := Lib.hid (X2.out.below hb3)
    obtain ⟨c0_3, c1_3, c2_3, c3_3, c4_3, c5_3, fz3⟩ := X3.out
    clear fz3
    have hlt3 : W2.heap.size < w3.heap.size := World.block_lt_of_cell? w3 _ c0_3
    clear hb3
    go_wp2
    go_ret
    exact ⟨rfl, B3.out.alloc B3.out.size _⟩
  · rw [hx] at RP
    simp only [frVal] at RP
    have N1 := Lib.hid (values_none hcl)
    have N2 := Lib.hid (values_none hte)
    clear hF hm hA hB hl hmost hx hcl hte EL
    go_enter Tryd.func3, Tryd.ntmps3
    go_wp2_with fail
    refine AN.out.mono ?_
    rintro e w1 ⟨rfl, hb1⟩
    have B1 := Lib.hid (below_then B0.out hb1)
    have X1 := Lib.hid (X0.out.below hb1)
    obtain ⟨c0_1, c1_1, c2_1, c3_1, c4_1, c5_1, fz1⟩ := X1.out
    clear hb1 fz1
    go_wp2_with fail
    refine (CP _ B1.out).out.mono ?_
    rintro e w2 ⟨a2, k2, rfl, hn2, ho2, hb2⟩
    have B2 := Lib.hid (below_then B1.out hb2)
    have X2 := Lib.hid (X1.out.below hb2)
    obtain ⟨c0_2, c1_2, c2_2, c3_2, c4_2, c5_2, fz2⟩ := X2.out
    clear fz2
    have hlt2 : W2.heap.size < w2.heap.size := World.block_lt_of_cell? w2 _ c0_2
    have F2 := Lib.hid (flds_own ho2)
    have M2 := Lib.hid (cell_below B2.out HM.out)
    clear hb2 ho2
    go_wp2_with fail
    refine (RP _ _ _ F2.out M2.out).out.mono ?_
    rintro e w3 ⟨rfl, hb3⟩
    have B3 := Lib.hid (below_then B2.out hb3)
    have X3 := Lib.hid (X2.out.below hb3)
    obtain ⟨c0_3, c1_3, c2_3, c3_3, c4_3, c5_3, fz3⟩ := X3.out
    clear fz3
    have hlt3 : W2.heap.size < w3.heap.size := World.block_lt_of_cell? w3 _ c0_3
    clear hb3
    go_wp2
    have B4 := Lib.hid (B3.out.alloc B3.out.size (.cells #[.int .i64 1, .int .i64 0] 27))
    have X4 := Lib.hid (X3.out.alloc (.cells #[.int .i64 1, .int .i64 0] 27))
    have Y4 := Lib.hid (box2_new w3 (.int .i64 1) (.int .i64 0) 27)
    have hV : w3.heap.size < (w3.alloc (.cells #[.int .i64 1, .int .i64 0] 27)).heap.size := by simp
    generalize w3.alloc (.cells #[.int .i64 1, .int .i64 0] 27) = V at *
    clear c0_1 c1_1 c2_1 c3_1 c4_1 c5_1 c0_2 c1_2 c2_2 c3_2 c4_2 c5_2 c0_3 c1_3 c2_3 c3_3 c4_3 c5_3
    go_loopw [7, 8, 10, 35] (fun a b _ i wr => ∃ k : Nat, k ≤ l.length ∧ i = .int .i64 k ∧ a = .slice none 0 0 ∧ b = .slice none 0 0 ∧ Below V.heap.size V wr) (fun _ _ _ i _ => l.length - (intOf i).toNat)
    case atStart => exact ⟨0, Nat.zero_le _, rfl, rfl, rfl, Below.refl _ _⟩
    case round =>
      obtain ⟨k, hk, rfl, rfl, rfl, hB⟩ := hrel
      by_cases hlt : k < l.length
      · have m1 := N1.out k hlt
        have m2 := N2.out k hlt
        obtain ⟨g, o, hA2, d1, d2⟩ := (HF.out.below (below_then B4.out hB)) k hlt
        subst hA2
        have hg := World.block_lt_of_cell? wr _ d1
        have hn1 := HBB.out.nm _ (List.getElem_mem hlt)
        have hn2 := HBB.out.vl _ (List.getElem_mem hlt)
        have LO := fun w => Lib.hid (rlower_c (bs l[k].1) w (by rw [bs_size]; omega))
        rw [bs_list] at LO
        have e1 := alike_clen l[k].1
        have e2 := alike_tenc l[k].1
        rw [m1] at e1
        rw [m2] at e2
        obtain ⟨f, hf⟩ : ∃ f, l[k] = f := ⟨_, rfl⟩
        rw [hf] at d1 d2 LO e1 e2 hn1 hn2
        clear hf
        generalize lower f.1 = q at *
        have bq1 : (q == [99, 111, 110, 116, 101, 110, 116, 45, 108, 101, 110, 103, 116, 104]) = false := e1.symm
        have bq2 : (q == [116, 114, 97, 110, 115, 102, 101, 114, 45, 101, 110, 99, 111, 100, 105, 110, 103]) = false := e2.symm
        clear e1 e2 m1 m2
        go_wp2_with (go_at_call 12; refine (LO _).out.mono ?_; rintro e w5 ⟨rfl, hb5⟩)
        go_roundw
        case rel => exact ⟨k + 1, by omega, by go_num, rfl, rfl, below_then hB (belowA hb5)⟩
        case measure => simp [intOf]; omega
      · obtain ⟨d0, d1, gz⟩ := Y4.out.below hB
        clear gz
        go_wp2
        go_ret
        exact ⟨rfl, below_then B4.out hB⟩
  · rw [hx] at RP
    simp only [frVal] at RP
    have N2 := Lib.hid (values_none hte)
    have HALL := Lib.hid hall
    have HVS := Lib.hid (fun (v : List UInt8) (hv : v ∈ valuesF l clenL) => by obtain ⟨f, hf, e⟩ := valuesF_mem hv; have := hB.vl f hf; rw [e] at this; exact this)
    have hcp : 0 < (valuesF l clenL).length := List.length_pos_iff.2 hcl
    have hcm := valuesF_length l clenL
    have hn1' : ¬ most < n := by omega
    have hn0' : ¬ n < 0 := by omega
    clear hF hm hA hB hl hmost hx hcl hte hall EL
    go_enter Tryd.func3, Tryd.ntmps3
    go_wp2_with fail
    refine AN.out.mono ?_
    rintro e w1 ⟨rfl, hb1⟩
    have B1 := Lib.hid (below_then B0.out hb1)
    have X1 := Lib.hid (X0.out.below hb1)
    obtain ⟨c0_1, c1_1, c2_1, c3_1, c4_1, c5_1, fz1⟩ := X1.out
    clear hb1 fz1
    go_wp2_with fail
    refine (CP _ B1.out).out.mono ?_
    rintro e w2 ⟨a2, k2, rfl, hn2, ho2, hb2⟩
    have B2 := Lib.hid (below_then B1.out hb2)
    have X2 := Lib.hid (X1.out.below hb2)
    obtain ⟨c0_2, c1_2, c2_2, c3_2, c4_2, c5_2, fz2⟩ := X2.out
    clear fz2
    have hlt2 : W2.heap.size < w2.heap.size := World.block_lt_of_cell? w2 _ c0_2
    have F2 := Lib.hid (flds_own ho2)
    have M2 := Lib.hid (cell_below B2.out HM.out)
    clear hb2 ho2
    go_wp2_with fail
    refine (RP _ _ _ F2.out M2.out).out.mono ?_
    rintro e w3 ⟨rfl, hb3⟩
    have B3 := Lib.hid (below_then B2.out hb3)
    have X3 := Lib.hid (X2.out.below hb3)
    obtain ⟨c0_3, c1_3, c2_3, c3_3, c4_3, c5_3, fz3⟩ := X3.out
    clear fz3
    have hlt3 : W2.heap.size < w3.heap.size := World.block_lt_of_cell? w3 _ c0_3
    clear hb3
    go_wp2
    have B4 := Lib.hid (B3.out.alloc B3.out.size (.cells #[.int .i64 2, .int .i64 n] 27))
    have X4 := Lib.hid (X3.out.alloc (.cells #[.int .i64 2, .int .i64 n] 27))
    have Y4 := Lib.hid (box2_new w3 (.int .i64 2) (.int .i64 n) 27)
    have hV : w3.heap.size < (w3.alloc (.cells #[.int .i64 2, .int .i64 n] 27)).heap.size := by simp
    generalize w3.alloc (.cells #[.int .i64 2, .int .i64 n] 27) = V at *
    clear c0_1 c1_1 c2_1 c3_1 c4_1 c5_1 c0_2 c1_2 c2_2 c3_2 c4_2 c5_2 c0_3 c1_3 c2_3 c3_3 c4_3 c5_3
    go_loopw [7, 8, 10, 35] (fun a b _ i wr => ∃ k : Nat, k ≤ l.length ∧ i = .int .i64 k ∧ wr.ownsRow V.heap.size 9 1 a (valuesF (l.take k) clenL).length (strs (valuesF (l.take k) clenL)) ∧ b = .slice none 0 0 ∧ Below V.heap.size V wr) (fun _ _ _ i _ => l.length - (intOf i).toNat)
    case atStart => exact ⟨0, Nat.zero_le _, rfl, World.ownsRow_nil _ _ _ _, rfl, Below.refl _ _⟩
    case round =>
      obtain ⟨k, hk, rfl, hown, rfl, hB⟩ := hrel
      have HO := Lib.hid hown
      have hzz := hB.size
      clear hown
      by_cases hlt : k < l.length
      · have m2 := N2.out k hlt
        have hst := valuesF_take l k hlt clenL
        have hvl := valuesF_length (l.take k) clenL
        rw [List.length_take] at hvl
        obtain ⟨g, o, hA2, d1, d2⟩ := (HF.out.below (below_then B4.out hB)) k hlt
        subst hA2
        have hg := World.block_lt_of_cell? wr _ d1
        have hn1 := HBB.out.nm _ (List.getElem_mem hlt)
        have hn2 := HBB.out.vl _ (List.getElem_mem hlt)
        have LO := fun w => Lib.hid (rlower_c (bs l[k].1) w (by rw [bs_size]; omega))
        rw [bs_list] at LO
        have e1 := alike_clen l[k].1
        have e2 := alike_tenc l[k].1
        rw [m2] at e2
        rw [e1] at hst
        obtain ⟨f, hf⟩ : ∃ f, l[k] = f := ⟨_, rfl⟩
        rw [hf] at d1 d2 LO e1 e2 hn1 hn2 hst
        clear hf
        generalize lower f.1 = q at *
        have bq2 : (q == [116, 114, 97, 110, 115, 102, 101, 114, 45, 101, 110, 99, 111, 100, 105, 110, 103]) = false := e2.symm
        clear e1 e2 m2
        generalize valuesF (l.take k) clenL = R at *
        cases hq : (q == clenL) with
        | false =>
          have bq1 : (q == [99, 111, 110, 116, 101, 110, 116, 45, 108, 101, 110, 103, 116, 104]) = false := hq
          have HS := Lib.hid (show valuesF (l.take (k + 1)) clenL = R by rw [hst, hq]; simp)
          clear hq hst
          go_wp2_with (go_at_call 12; refine (LO _).out.mono ?_; rintro e w5 ⟨rfl, hb5⟩)
          go_roundw
          case rel => exact ⟨k + 1, by omega, by go_num, by rw [HS.out]; exact own_below HO.out (belowA hb5), rfl, below_then hB (belowA hb5)⟩
          case measure => simp [intOf]; omega
        | true =>
          have bq1 : (q == [99, 111, 110, 116, 101, 110, 116, 45, 108, 101, 110, 103, 116, 104]) = true := hq
          have HS := Lib.hid (show valuesF (l.take (k + 1)) clenL = R ++ [f.2] by rw [hst, hq]; simp)
          clear hq hst
          go_wp2_with fail
          refine (LO _).out.mono ?_
          rintro e w5 ⟨rfl, hb5⟩
          have q1 := held1 hb5 (cell_first wr (.string (bs f.1)) (.string (bs f.2)) 34)
          have q2 := held1 hb5 (cell_second wr (.string (bs f.1)) (.string (bs f.2)) 34)
          have HO5 := Lib.hid (own_below HO.out (belowA hb5))
          have HB5 := Lib.hid (below_then hB (belowA hb5))
          have hz5 := HB5.out.size
          clear hb5 d1 d2
          go_wp2_with (at_builtin; refine wpList_append_own _ rfl (.tmp 44) (.tmp 47) 32 rfl V.heap.size 9 i0 (.string ByteArray.empty) 1 16 Tryd.underlying32 hi hz0 hz1 hz2 rfl (by decide) _ R.length _ rfl (HO5.out.alloc _) ⟨w5.heap.size, 0, none⟩ 1 1 [.string (bs f.2)] rfl rfl ?_ ?_ ?_ ?_ ?_ ?_)
          any_goals first | exact cell_one_new _ _ _ | (intro u hu; simp at hu; subst hu; rfl) | (show Value.oneCell' _ = true; rfl) | (unfold maxLen; omega) | omega | (simp; omega)
          intro v' w6 hown' hgrow _
          have ee : strs R ++ [.string (bs f.2)] = strs (R ++ [f.2]) := by simp [strs]
          rw [ee] at hown'
          have HO6 := Lib.hid hown'
          have HB6 := Lib.hid (show Below V.heap.size V w6 from (HB5.out.alloc hz5 _).grown hgrow (by simp; omega) (fun g hg => (HO5.out.lt g hg).1))
          clear hown' hgrow ee q1 q2
          go_wp2
          go_roundw
          case rel => exact ⟨k + 1, by omega, by go_num, by rw [HS.out, List.length_append]; exact HO6.out, rfl, HB6.out⟩
          case measure => simp [intOf]; omega
      · obtain rfl : k = l.length := by omega
        have ho := HO.out
        rw [List.take_length] at ho
        obtain ⟨a7, c7, rfl⟩ := own_some1 ho
        have HT := Lib.hid (texts_of ho)
        have HBw := Lib.hid (below_then B4.out hB)
        have HY := Lib.hid (Y4.out.below hB)
        clear ho HO
        generalize valuesF l clenL = L at *
        obtain ⟨d0, d1, gz⟩ := HY.out
        have hb0 : ((L.length : Int) == 0) = false := by rw [beq_eq_false_iff_ne]; omega
        clear gz hB
        go_wp2
        obtain ⟨wo, rfl⟩ : ∃ wo : World, wo = wr := ⟨_, rfl⟩
        go_loopw [12, 14, 15, 16, 92, 99] (fun _ _ _ _ i _ wz => ∃ k : Nat, k ≤ L.length ∧ i = .int .i64 k ∧ Below wo.heap.size wo wz) (fun _ _ _ _ i _ _ => L.length - (intOf i).toNat)
        case atStart => exact ⟨0, Nat.zero_le _, rfl, Below.refl _ _⟩
        case round =>
          obtain ⟨k, hk, rfl, hB⟩ := hrel
          have HBz := Lib.hid (below_then HBw.out hB)
          have HYz := Lib.hid (HY.out.below hB)
          by_cases hlt : k < L.length
          · obtain ⟨g7, hA7, c1⟩ := HT.out.below hB k hlt
            subst hA7
            have hvs := HVS.out L[k] (List.getElem_mem hlt)
            have RE := fun w => Lib.hid (relements_c (bs L[k]) w (by rw [bs_size]; omega))
            have hall := HALL.out L[k] (List.getElem_mem hlt)
            have hem := elems_mem (l := L[k])
            have hne := elems_length L[k]
            rw [bs_list] at RE
            obtain ⟨x, hx⟩ : ∃ x, L[k] = x := ⟨_, rfl⟩
            rw [hx] at c1 RE hall hem hvs hne
            have HAL := Lib.hid hall
            have HEM := Lib.hid hem
            clear hx hall hem
            generalize elems x = E at *
            go_wp2_with fail
            refine (RE _).out.mono ?_
            rintro e w6 ⟨v6, rfl, ho6, hb6⟩
            obtain ⟨a6, c6, rfl⟩ := own_some1 ho6
            have HT6 := Lib.hid (texts_of ho6)
            have HB6 := Lib.hid (below_then hB hb6)
            have HBe := Lib.hid (below_then HBz.out hb6)
            have HY6 := Lib.hid (HYz.out.below hb6)
            clear hb6 ho6 c1 hB d0 d1
            obtain ⟨d0, d1, gz⟩ := HY6.out
            clear gz
            go_wp2
            go_loop [14, 15, 16, 99] (fun _ _ _ j => ∃ q : Nat, q ≤ E.length ∧ j = .int .i64 q) (fun _ _ _ j => E.length - (intOf j).toNat)
            case atStart => exact ⟨0, Nat.zero_le _, rfl⟩
            case round =>
              obtain ⟨q, hq, rfl⟩ := hrel
              by_cases hlq : q < E.length
              · obtain ⟨g8, hA8, c8⟩ := HT6.out q hlq
                subst hA8
                have hdec := HAL.out E[q] (List.getElem_mem hlq)
                have DE := fun w => Lib.hid (rdecimal_c (bs E[q]) 15 w)
                rw [bs_list, hdec] at DE
                simp only at DE
                clear hdec
                generalize bs E[q] = pb at *
                go_wp2_with (go_at_call 14; refine (DE _).out.mono ?_; rintro e w' ⟨rfl, rfl⟩)
                go_round
                case rel => exact ⟨q + 1, by omega, by go_num⟩
                case measure => simp [intOf]; omega
              · go_wp2
                go_roundw
                case rel => exact ⟨k + 1, by omega, by go_num, HB6.out⟩
                case measure => simp [intOf]; omega
          · clear d0 d1
            go_wp2
            go_ret
            exact ⟨rfl, HBz.out⟩
  · rw [hx] at RP
    simp only [frVal] at RP
    have N1 := Lib.hid (values_none hcl)
    have hcm := valuesF_length l tencL
    rw [hel] at EL
    have hxl : x.length ≤ 4194304 := elementsF_mem (name := tencL) hB (by rw [hel]; simp)
    have LX := fun w => Lib.hid (rlower_c (bs x) w (by rw [bs_size]; omega))
    rw [bs_list, hlx] at LX
    have bmi : (mi != 0) = true := by rw [bne_iff_ne]; exact hmi
    clear hF hm hA hB hl hmost hx hcl hel hlx hmi
    go_enter Tryd.func3, Tryd.ntmps3
    go_wp2_with fail
    refine AN.out.mono ?_
    rintro e w1 ⟨rfl, hb1⟩
    have B1 := Lib.hid (below_then B0.out hb1)
    have X1 := Lib.hid (X0.out.below hb1)
    obtain ⟨c0_1, c1_1, c2_1, c3_1, c4_1, c5_1, fz1⟩ := X1.out
    clear hb1 fz1
    go_wp2_with fail
    refine (CP _ B1.out).out.mono ?_
    rintro e w2 ⟨a2, k2, rfl, hn2, ho2, hb2⟩
    have B2 := Lib.hid (below_then B1.out hb2)
    have X2 := Lib.hid (X1.out.below hb2)
    obtain ⟨c0_2, c1_2, c2_2, c3_2, c4_2, c5_2, fz2⟩ := X2.out
    clear fz2
    have hlt2 : W2.heap.size < w2.heap.size := World.block_lt_of_cell? w2 _ c0_2
    have F2 := Lib.hid (flds_own ho2)
    have M2 := Lib.hid (cell_below B2.out HM.out)
    clear hb2 ho2
    go_wp2_with fail
    refine (RP _ _ _ F2.out M2.out).out.mono ?_
    rintro e w3 ⟨rfl, hb3⟩
    have B3 := Lib.hid (below_then B2.out hb3)
    have X3 := Lib.hid (X2.out.below hb3)
    obtain ⟨c0_3, c1_3, c2_3, c3_3, c4_3, c5_3, fz3⟩ := X3.out
    clear fz3
    have hlt3 : W2.heap.size < w3.heap.size := World.block_lt_of_cell? w3 _ c0_3
    clear hb3
    go_wp2
    have B4 := Lib.hid (B3.out.alloc B3.out.size (.cells #[.int .i64 3, .int .i64 0] 27))
    have X4 := Lib.hid (X3.out.alloc (.cells #[.int .i64 3, .int .i64 0] 27))
    have Y4 := Lib.hid (box2_new w3 (.int .i64 3) (.int .i64 0) 27)
    have hV : w3.heap.size < (w3.alloc (.cells #[.int .i64 3, .int .i64 0] 27)).heap.size := by simp
    generalize w3.alloc (.cells #[.int .i64 3, .int .i64 0] 27) = V at *
    clear c0_1 c1_1 c2_1 c3_1 c4_1 c5_1 c0_2 c1_2 c2_2 c3_2 c4_2 c5_2 c0_3 c1_3 c2_3 c3_3 c4_3 c5_3
    go_loopw [7, 8, 10, 35] (fun b a _ i wr => ∃ k : Nat, k ≤ l.length ∧ i = .int .i64 k ∧ wr.ownsRow V.heap.size 9 1 a (valuesF (l.take k) tencL).length (strs (valuesF (l.take k) tencL)) ∧ b = .slice none 0 0 ∧ Below V.heap.size V wr) (fun _ _ _ i _ => l.length - (intOf i).toNat)
    case atStart => exact ⟨0, Nat.zero_le _, rfl, World.ownsRow_nil _ _ _ _, rfl, Below.refl _ _⟩
    case round =>
      obtain ⟨k, hk, rfl, hown, rfl, hB⟩ := hrel
      have HO := Lib.hid hown
      have hzz := hB.size
      clear hown
      by_cases hlt : k < l.length
      · have m2 := N1.out k hlt
        have hst := valuesF_take l k hlt tencL
        have hvl := valuesF_length (l.take k) tencL
        rw [List.length_take] at hvl
        obtain ⟨g, o, hA2, d1, d2⟩ := (HF.out.below (below_then B4.out hB)) k hlt
        subst hA2
        have hg := World.block_lt_of_cell? wr _ d1
        have hn1 := HBB.out.nm _ (List.getElem_mem hlt)
        have hn2 := HBB.out.vl _ (List.getElem_mem hlt)
        have LO := fun w => Lib.hid (rlower_c (bs l[k].1) w (by rw [bs_size]; omega))
        rw [bs_list] at LO
        have e1 := alike_clen l[k].1
        have e2 := alike_tenc l[k].1
        rw [m2] at e1
        rw [e2] at hst
        obtain ⟨f, hf⟩ : ∃ f, l[k] = f := ⟨_, rfl⟩
        rw [hf] at d1 d2 LO e1 e2 hn1 hn2 hst
        clear hf
        generalize lower f.1 = q at *
        have bq1 : (q == [99, 111, 110, 116, 101, 110, 116, 45, 108, 101, 110, 103, 116, 104]) = false := e1.symm
        clear e1 e2 m2
        generalize valuesF (l.take k) tencL = R at *
        cases hq : (q == tencL) with
        | false =>
          have bq2 : (q == [116, 114, 97, 110, 115, 102, 101, 114, 45, 101, 110, 99, 111, 100, 105, 110, 103]) = false := hq
          have HS := Lib.hid (show valuesF (l.take (k + 1)) tencL = R by rw [hst, hq]; simp)
          clear hq hst
          go_wp2_with (go_at_call 12; refine (LO _).out.mono ?_; rintro e w5 ⟨rfl, hb5⟩)
          go_roundw
          case rel => exact ⟨k + 1, by omega, by go_num, by rw [HS.out]; exact own_below HO.out (belowA hb5), rfl, below_then hB (belowA hb5)⟩
          case measure => simp [intOf]; omega
        | true =>
          have bq2 : (q == [116, 114, 97, 110, 115, 102, 101, 114, 45, 101, 110, 99, 111, 100, 105, 110, 103]) = true := hq
          have HS := Lib.hid (show valuesF (l.take (k + 1)) tencL = R ++ [f.2] by rw [hst, hq]; simp)
          clear hq hst
          go_wp2_with fail
          refine (LO _).out.mono ?_
          rintro e w5 ⟨rfl, hb5⟩
          have q1 := held1 hb5 (cell_first wr (.string (bs f.1)) (.string (bs f.2)) 34)
          have q2 := held1 hb5 (cell_second wr (.string (bs f.1)) (.string (bs f.2)) 34)
          have HO5 := Lib.hid (own_below HO.out (belowA hb5))
          have HB5 := Lib.hid (below_then hB (belowA hb5))
          have hz5 := HB5.out.size
          clear hb5 d1 d2
          go_wp2_with (at_builtin; refine wpList_append_own _ rfl (.tmp 51) (.tmp 54) 32 rfl V.heap.size 9 i0 (.string ByteArray.empty) 1 16 Tryd.underlying32 hi hz0 hz1 hz2 rfl (by decide) _ R.length _ rfl (HO5.out.alloc _) ⟨w5.heap.size, 0, none⟩ 1 1 [.string (bs f.2)] rfl rfl ?_ ?_ ?_ ?_ ?_ ?_)
          any_goals first | exact cell_one_new _ _ _ | (intro u hu; simp at hu; subst hu; rfl) | (show Value.oneCell' _ = true; rfl) | (unfold maxLen; omega) | omega | (simp; omega)
          intro v' w6 hown' hgrow _
          have ee : strs R ++ [.string (bs f.2)] = strs (R ++ [f.2]) := by simp [strs]
          rw [ee] at hown'
          have HO6 := Lib.hid hown'
          have HB6 := Lib.hid (show Below V.heap.size V w6 from (HB5.out.alloc hz5 _).grown hgrow (by simp; omega) (fun g hg => (HO5.out.lt g hg).1))
          clear hown' hgrow ee q1 q2
          go_wp2
          go_roundw
          case rel => exact ⟨k + 1, by omega, by go_num, by rw [HS.out, List.length_append]; exact HO6.out, rfl, HB6.out⟩
          case measure => simp [intOf]; omega
      · have HBw := Lib.hid (below_then B4.out hB)
        have HXw := Lib.hid (X4.out.below hB)
        obtain ⟨d0, d1, gz⟩ := Y4.out.below hB
        obtain ⟨c0, c1, c2, c3, c4, c5, fz⟩ := HXw.out
        clear gz fz hB HO
        go_wp2_with fail
        refine (EL _ HBw.out).out.mono ?_
        rintro e w6 ⟨v6, rfl, ho6, hb6⟩
        obtain ⟨a6, c6, rfl⟩ := own_some1 ho6
        obtain ⟨g6, hA6, t0⟩ := (texts_of ho6) 0 (by simp)
        subst hA6
        have HB6 := Lib.hid (below_then HBw.out hb6)
        obtain ⟨z0, z1, z2, z3, z4, z5, fz⟩ := HXw.out.below hb6
        simp only [List.getElem_cons_zero] at t0
        clear fz hb6 ho6 c0 c1 c2 c3 c4 c5 d0 d1
        go_wp2_with fail
        refine (LX _).out.mono ?_
        rintro e w7 ⟨rfl, hb7⟩
        have HB7 := Lib.hid (below_then HB6.out hb7)
        clear hb7
        go_wp2
        go_ret
        exact ⟨rfl, HB7.out⟩
end Go.Proofs.YtbjcbdgkgbjaiaaDoor
