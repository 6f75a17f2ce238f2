/- The walk over FrameCase. -/
import Derived.Test.YtbjcbdgkgbjaiaaDoorFrmR
set_option linter.unusedVariables false
set_option linter.unusedSimpArgs false
namespace Go.Proofs.YtbjcbdgkgbjaiaaDoor
open Go.RowKit Lex

theorem kc_below {X : World → Prop} {w w' : World} {b0 b1 b2 b3 b4 b5 : Nat} {vb00 vb01 vb02 vb03 vb04 vb05 vb10 vb11 vb12 vb13 vb14 vb15 vb20 vb21 vb30 vb31 vb40 vb41 vb50 vb51 : Value} (h : X w ∧ w.cell? ⟨b0, 0, none⟩ = some vb00 ∧ w.cell? ⟨b0, 1, none⟩ = some vb01 ∧ w.cell? ⟨b0, 2, none⟩ = some vb02 ∧ w.cell? ⟨b0, 3, none⟩ = some vb03 ∧ w.cell? ⟨b0, 4, none⟩ = some vb04 ∧ w.cell? ⟨b0, 5, none⟩ = some vb05 ∧ w.cell? ⟨b1, 0, none⟩ = some vb10 ∧ w.cell? ⟨b1, 1, none⟩ = some vb11 ∧ w.cell? ⟨b1, 2, none⟩ = some vb12 ∧ w.cell? ⟨b1, 3, none⟩ = some vb13 ∧ w.cell? ⟨b1, 4, none⟩ = some vb14 ∧ w.cell? ⟨b1, 5, none⟩ = some vb15 ∧ w.cell? ⟨b2, 0, none⟩ = some vb20 ∧ w.cell? ⟨b2, 1, none⟩ = some vb21 ∧ w.cell? ⟨b3, 0, none⟩ = some vb30 ∧ w.cell? ⟨b3, 1, none⟩ = some vb31 ∧ w.cell? ⟨b4, 0, none⟩ = some vb40 ∧ w.cell? ⟨b4, 1, none⟩ = some vb41 ∧ w.cell? ⟨b5, 0, none⟩ = some vb50 ∧ w.cell? ⟨b5, 1, none⟩ = some vb51) (hb : Below w.heap.size w w') (XB : ∀ w w', X w → Below w.heap.size w w' → X w') :
    X w' ∧ w'.cell? ⟨b0, 0, none⟩ = some vb00 ∧ w'.cell? ⟨b0, 1, none⟩ = some vb01 ∧ w'.cell? ⟨b0, 2, none⟩ = some vb02 ∧ w'.cell? ⟨b0, 3, none⟩ = some vb03 ∧ w'.cell? ⟨b0, 4, none⟩ = some vb04 ∧ w'.cell? ⟨b0, 5, none⟩ = some vb05 ∧ w'.cell? ⟨b1, 0, none⟩ = some vb10 ∧ w'.cell? ⟨b1, 1, none⟩ = some vb11 ∧ w'.cell? ⟨b1, 2, none⟩ = some vb12 ∧ w'.cell? ⟨b1, 3, none⟩ = some vb13 ∧ w'.cell? ⟨b1, 4, none⟩ = some vb14 ∧ w'.cell? ⟨b1, 5, none⟩ = some vb15 ∧ w'.cell? ⟨b2, 0, none⟩ = some vb20 ∧ w'.cell? ⟨b2, 1, none⟩ = some vb21 ∧ w'.cell? ⟨b3, 0, none⟩ = some vb30 ∧ w'.cell? ⟨b3, 1, none⟩ = some vb31 ∧ w'.cell? ⟨b4, 0, none⟩ = some vb40 ∧ w'.cell? ⟨b4, 1, none⟩ = some vb41 ∧ w'.cell? ⟨b5, 0, none⟩ = some vb50 ∧ w'.cell? ⟨b5, 1, none⟩ = some vb51 := by
  obtain ⟨hX, h0, h1, h2, h3, h4, h5, h6, h7, h8, h9, h10, h11, h12, h13, h14, h15, h16, h17, h18, h19⟩ := h
  exact ⟨XB _ _ hX hb, cell_below hb h0, cell_below hb h1, cell_below hb h2, cell_below hb h3, cell_below hb h4, cell_below hb h5, cell_below hb h6, cell_below hb h7, cell_below hb h8, cell_below hb h9, cell_below hb h10, cell_below hb h11, cell_below hb h12, cell_below hb h13, cell_below hb h14, cell_below hb h15, cell_below hb h16, cell_below hb h17, cell_below hb h18, cell_below hb h19⟩
set_option maxRecDepth 100000 in
set_option maxHeartbeats 8000000 in
theorem casing_walk {W : World} (m t : ByteArray) (s : Int) (r : ByteArray) (mi : Int) (A : Option Addr) (cap : Nat) (l : List Fd) (hA : A = none → cap = 0) (hF : Flds W A l) (hl : InF l) (most : Int) (hmost : (Lit.int .i64 most).wf = true) (M : Int) (W2 : World) (hW : W2 = W) (hm : W2.cell? ⟨0, 0, none⟩ = some (.int .i64 M)) :
    Calls Tryd.prog 8 #[hv m t s r mi A l.length cap, .int .i64 most] W2 fun e w' => e = .returned (.bool true) ∧ Below W2.heap.size W2 w' := by
  subst hW
  have hB := hl.fb
  have AN := Lib.hid (anchor9_c M (W2.alloc (.cells #[.string m, .string t, .int .i64 s, .string r, .int .i64 mi, .slice A l.length cap] 24)) (cell_below ((Below.refl _ W2).alloc (Nat.le_refl _) _) hm))
  have CP := fun w (hb : Below W2.heap.size W2 w) => Lib.hid (copied_c m t s r mi A cap l w hB hA (hF.below hb))
  have CL := fun a c w hn h => Lib.hid (copied_c m t s r mi a c (lowFs l) w hB.low hn h)
  have HF := Lib.hid hF
  have HM := Lib.hid hm
  have HBB := Lib.hid hB
  have hll := hl.1
  have B0 := Lib.hid ((Below.refl _ W2).alloc (Nat.le_refl _) (.cells #[.string m, .string t, .int .i64 s, .string r, .int .i64 mi, .slice A l.length cap] 24))
  have X0 := Lib.hid (box6_new W2 (.string m) (.string t) (.int .i64 s) (.string r) (.int .i64 mi) (.slice A l.length cap) 24)
  have RP := fun a c w h hm => Lib.hid (request_c m t s r mi a c l most M w hB h hm)
  have RL := fun a c w h hm => Lib.hid (request_c m t s r mi a c (lowFs l) most M w hB.low h hm)
  have SP := fun a c w h hm => Lib.hid (response_c ⟨#[71, 69, 84]⟩ m t s r mi a c l M w hB h hm)
  have SL := fun a c w h hm => Lib.hid (response_c ⟨#[71, 69, 84]⟩ m t s r mi a c (lowFs l) M w hB.low h hm)
  have KP := fun a c w h hm => Lib.hid (keep_c m t s r mi a c l M w hB h hm)
  have KL := fun a c w h hm => Lib.hid (keep_c m t s r mi a c (lowFs l) M w hB.low h hm)
  rw [req_low] at RL
  rw [resp_low] at SL
  rw [keep_low] at KL
  unfold Copied hv at CP CL
  unfold hv at RP RL SP SL KP KL ⊢
  rw [lowFs_length] at CL RL SL KL
  generalize reqF mi l most = x at *
  generalize respF (ByteArray.mk #[71, 69, 84]).data.toList s mi l = y at *
  generalize keepF mi l = kb at *
  obtain ⟨xk, xn, xe⟩ := x
  obtain ⟨yk, yn, ye⟩ := y
  simp only [frVal, fr3] at RP RL SP SL
  clear hF hm hA hB hl hmost
  go_enter Tryd.func8, Tryd.ntmps8
  go_wp2_with fail
  refine AN.out.mono ?_
  rintro e w1 ⟨rfl, hb1⟩
  have B1 := Lib.hid (below_then B0.out hb1)
  have X1 := Lib.hid (X0.out.below hb1)
  obtain ⟨c0_1, c1_1, c2_1, c3_1, c4_1, c5_1, fz1⟩ := X1.out
  have hlt1 : W2.heap.size < w1.heap.size := World.block_lt_of_cell? w1 _ c0_1
  clear hb1 fz1
  go_wp2_with fail
  refine (CP _ B1.out).out.mono ?_
  rintro e w2 ⟨a2, k2, rfl, hn2, ho2, hb2⟩
  have B2 := Lib.hid (below_then B1.out hb2)
  have X2 := Lib.hid (X1.out.below hb2)
  obtain ⟨c0_2, c1_2, c2_2, c3_2, c4_2, c5_2, fz2⟩ := X2.out
  clear fz2
  have hlt2 : W2.heap.size < w2.heap.size := World.block_lt_of_cell? w2 _ c0_2
  have h12 : W2.heap.size ≤ w1.heap.size := B1.out.size
  have hneq : W2.heap.size ≠ w2.heap.size := by omega
  have R2 := row_of ho2
  have R3 := Lib.hid (R2.below ((Below.refl w2.heap.size w2).alloc (Nat.le_refl _) (.cells #[.string m, .string t, .int .i64 s, .string r, .int .i64 mi, .slice a2 l.length k2] 24)))
  have X3 := Lib.hid (X2.out.alloc (.cells #[.string m, .string t, .int .i64 s, .string r, .int .i64 mi, .slice a2 l.length k2] 24))
  have Y3 := Lib.hid (box6_new w2 (.string m) (.string t) (.int .i64 s) (.string r) (.int .i64 mi) (.slice a2 l.length k2) 24)
  have B3 := Lib.hid (B2.out.alloc B2.out.size (.cells #[.string m, .string t, .int .i64 s, .string r, .int .i64 mi, .slice a2 l.length k2] 24))
  have HN2 := Lib.hid hn2
  have hVs : w2.heap.size < (w2.alloc (.cells #[.string m, .string t, .int .i64 s, .string r, .int .i64 mi, .slice a2 l.length k2] 24)).heap.size := by simp
  clear hb2 ho2 R2 hn2
  go_wp2
  generalize w2.alloc (.cells #[.string m, .string t, .int .i64 s, .string r, .int .i64 mi, .slice a2 l.length k2] 24) = V at *
  clear c0_1 c1_1 c2_1 c3_1 c4_1 c5_1 c0_2 c1_2 c2_2 c3_2 c4_2 c5_2
  go_loopw [6, 7, 23] (fun _ _ i wr => ∃ k : Nat, k ≤ l.length ∧ i = .int .i64 k ∧ Row wr w1.heap.size w2.heap.size l.length a2 k2 (fvals (lowFs (l.take k) ++ l.drop k)) ∧ Below W2.heap.size W2 wr ∧
      Box6 wr W2.heap.size (.string m) (.string t) (.int .i64 s) (.string r) (.int .i64 mi) (.slice A l.length cap) ∧ Box6 wr w2.heap.size (.string m) (.string t) (.int .i64 s) (.string r) (.int .i64 mi) (.slice a2 l.length k2)) (fun _ _ i _ => l.length - (intOf i).toNat)
  case atStart => exact ⟨0, Nat.zero_le _, rfl, by rw [List.take_zero, List.drop_zero]; exact R3.out, B3.out, X3.out, Y3.out⟩
  case round =>
    obtain ⟨k, hk, rfl, hR, hB, hX, hY⟩ := hrel
    have HR := Lib.hid hR
    have HX := Lib.hid hX
    have HY := Lib.hid hY
    obtain ⟨c0, c1, c2, c3, c4, c5, fz⟩ := hX
    obtain ⟨d0, d1, d2, d3, d4, d5, gz⟩ := hY
    have hlw : w2.heap.size < wr.heap.size := World.block_lt_of_cell? wr _ d0
    have hlw2 : W2.heap.size < wr.heap.size := World.block_lt_of_cell? wr _ c0
    clear hR fz gz
    by_cases hlt : k < l.length
    · obtain ⟨g, rfl⟩ := HR.out.addr (by omega)
      have hrow := HR.out
      rw [low_split l k hlt] at hrow
      have HH := hrow.hole
      have hgb := HH.lt
      obtain ⟨g0, o0, hA2, f0, f1⟩ := (HF.out.below hB) k hlt
      subst hA2
      have hg0 := World.block_lt_of_cell? wr _ f0
      have hn1 := HBB.out.nm _ (List.getElem_mem hlt)
      have hn2 := HBB.out.vl _ (List.getElem_mem hlt)
      have hnext := Lib.hid (low_next l k hlt)
      have hAk := low_take_len l k hk
      have L1 := fun w => Lib.hid (rlower_c (bs l[k].1) w (by rw [bs_size]; omega))
      have L2 := fun w => Lib.hid (rlower_c (bs l[k].2) w (by rw [bs_size]; omega))
      rw [bs_list] at L1 L2
      generalize haa : lowFs (l.take k) = aa at *
      generalize hbb : l.drop (k + 1) = bb at *
      generalize hpp : lower l[k].1 = p' at *
      generalize hqq : lower l[k].2 = q' at *
      have HBE := Lib.hid hbb
      clear haa hpp hqq hbb
      obtain ⟨p, hp⟩ : ∃ p, bs l[k].1 = p := ⟨_, rfl⟩
      obtain ⟨q, hq⟩ : ∃ q, bs l[k].2 = q := ⟨_, rfl⟩
      rw [hp] at f0 L1
      rw [hq] at f1 L2
      have HAL := Lib.hid hAk
      have HA2 := Lib.hid HH
      obtain ⟨X, hXe⟩ : ∃ X : World → Prop, X = fun w => Below W2.heap.size W2 w ∧ Box6 w W2.heap.size (.string m) (.string t) (.int .i64 s) (.string r) (.int .i64 mi) (.slice (some ⟨g0, o0, none⟩) l.length cap) ∧ Box6 w w2.heap.size (.string m) (.string t) (.int .i64 s) (.string r) (.int .i64 mi) (.slice (some ⟨g, 0, none⟩) l.length k2) := ⟨_, rfl⟩
      have XB : Hid (∀ w w', X w → Below w.heap.size w w' → X w') := Lib.hid (by
        rw [hXe]; rintro w w' ⟨h1, h2, h3⟩ hb
        exact ⟨below_then h1 hb, h2.below hb, h3.below hb⟩)
      have XS : Hid (∀ w j u, X w → X (w.setCell ⟨g, j, none⟩ u)) := Lib.hid (by
        rw [hXe]; rintro w j u ⟨h1, h2, h3⟩
        exact ⟨h1.setCell (by simp only; omega) _, h2.far _ _ (by simp only; omega), h3.far _ _ (by simp only; omega)⟩)
      have XW : Hid (X wr) := Lib.hid (by rw [hXe]; exact ⟨hB, HX.out, HY.out⟩)
      have XE := Lib.hid hXe
      have hgw : g < w2.heap.size := hgb.2
      have h2w : w2.heap.size ≤ w2.heap.size := Nat.le_refl _
      have h3w : w2.heap.size ≤ wr.heap.size := Nat.le_of_lt hlw
      have S0 := Lib.hid (slow_of (X := X) (L := w2.heap.size) (V := wr.heap.size) (p := p) (q := q) (XB.out _ _ XW.out ((Below.refl wr.heap.size wr).alloc (Nat.le_refl _) (.cells #[.string p, .string q] 34))) (HH.below ((Below.refl wr.heap.size wr).alloc (Nat.le_refl _) (.cells #[.string p, .string q] 34))) hAk
        (cell_below ((Below.refl wr.heap.size wr).alloc (Nat.le_refl _) (.cells #[.string p, .string q] 34)) d5) (box2_new wr (.string p) (.string q) 34).c0 (box2_new wr (.string p) (.string q) 34).c1)
      clear hp hq HH hrow hXe
      go_wp2
      go_region_held3 (fun w' => X w' ∧ Hole w' w1.heap.size w2.heap.size l.length g k2 aa bb ∧ w'.cell? ⟨w2.heap.size, 5, none⟩ = some (.slice (some ⟨g, 0, none⟩) l.length k2) ∧ w'.cell? ⟨wr.heap.size, 0, none⟩ = some (.string p) ∧ w'.cell? ⟨wr.heap.size, 1, none⟩ = some (.string q) ∧
    w'.cell? ⟨g, k * 2, none⟩ = some (celN w' g (k * 2)) ∧ w'.cell? ⟨g, k * 2 + 1, none⟩ = some (celN w' g (k * 2 + 1)) ∧ w'.frozen? ⟨g, k * 2, none⟩ = false ∧ w'.frozen? ⟨g, k * 2 + 1, none⟩ = false)
        (first
          | assumption
          | exact slow_below S0.out (Below.refl _ _).drew XB.out HAL.out
          | exact K6.out
          | exact K5.out
          | (refine slow_stored ?_ XS.out HAL.out h2w h3w _ _; assumption)
          | (refine slow_stored ?_ XS.out HAL.out h2w h3w _ _; exact K6.out))
        (first
          | (have hk5 := K5.out; go_at_call 12; refine (L2 _).out.mono ?_; rintro e w6 ⟨rfl, hb6⟩; have K6 := Lib.hid (slow_below (X := X) (by assumption) hb6 XB.out HAL.out); clear hb6 hk5)
          | (go_at_call 12; refine (L1 _).out.mono ?_; rintro e w5 ⟨rfl, hb5⟩; have K5 := Lib.hid (slow_below (X := X) (by assumption) hb5 XB.out HAL.out); clear hb5))
      have RD := Lib.hid (slow_done K6.out HAL.out p' q')
      have XD := Lib.hid ((slow_stored K6.out XS.out HAL.out h2w h3w (.string (bs p')) (.string (bs q'))).1)
      generalize (w6.setCell ⟨g, k * 2, none⟩ (.string (bs p'))).setCell ⟨g, k * 2 + 1, none⟩ (.string (bs q')) = wf at *
      go_wp2
      go_roundw
      case rel =>
        have x := XD.out
        rw [XE.out] at x
        exact ⟨k + 1, by omega, by go_num, by rw [HBE.out, ← hnext.out]; exact RD.out, x.1, x.2.1, x.2.2⟩
      case measure => simp [intOf]; omega
    · have hke : k = l.length := by omega
      subst hke
      have hrow := HR.out
      rw [List.take_length, List.drop_length, List.append_nil] at hrow
      have FL_3 := Lib.hid (flds_own (l := lowFs l) (cap := k2) (by rw [lowFs_length]; exact hrow.own))
      have X_3 := HX
      have Y_3 := HY
      have B3 := Lib.hid hB
      clear hrow HR
      -- BEHIND THE LOOP
      go_wp2_with fail
      refine (CP _ B3.out).out.mono ?_
      rintro e w4 ⟨a4, k4, rfl, hn4, ho4, hb4⟩
      have B4 := Lib.hid (below_then B3.out hb4)
      have X_4 := Lib.hid (X_3.out.below hb4)
      have Y_4 := Lib.hid (Y_3.out.below hb4)
      have FL_4 := Lib.hid (FL_3.out.below hb4)
      have M4 := Lib.hid (cell_below B4.out HM.out)
      have G4 := Lib.hid (flds_own ho4)
      clear hb4 ho4
      go_wp2_with fail
      refine (RP _ _ _ G4.out M4.out).out.mono ?_
      rintro e w5 ⟨rfl, hb5⟩
      have B5 := Lib.hid (below_then B4.out hb5)
      have X_5 := Lib.hid (X_4.out.below hb5)
      have Y_5 := Lib.hid (Y_4.out.below hb5)
      have FL_5 := Lib.hid (FL_4.out.below hb5)
      clear hb5
      obtain ⟨v0, v1, v2, v3, v4, v5, vz⟩ := Y_5.out
      have hv5 := World.block_lt_of_cell? w5 _ v0
      clear vz
      have B6 := Lib.hid (B5.out.alloc B5.out.size (.cells #[.int .i64 xk, .int .i64 xn] 27))
      have X_6 := Lib.hid (X_5.out.alloc (.cells #[.int .i64 xk, .int .i64 xn] 27))
      have Y_6 := Lib.hid (Y_5.out.alloc (.cells #[.int .i64 xk, .int .i64 xn] 27))
      have FL_6 := Lib.hid (FL_5.out.below ((Below.refl _ w5).alloc (Nat.le_refl _) (.cells #[.int .i64 xk, .int .i64 xn] 27)))
      have Z8_6 := Lib.hid (box2_new w5 (.int .i64 xk) (.int .i64 xn) 27)
      go_wp2_with fail
      refine (CL _ _ _ HN2.out FL_6.out).out.mono ?_
      rintro e w7 ⟨a7, k7, rfl, hn7, ho7, hb7⟩
      have B7 := Lib.hid (below_then B6.out hb7)
      have X_7 := Lib.hid (X_6.out.below hb7)
      have Y_7 := Lib.hid (Y_6.out.below hb7)
      have FL_7 := Lib.hid (FL_6.out.below hb7)
      have Z8_7 := Lib.hid (Z8_6.out.below hb7)
      have M7 := Lib.hid (cell_below B7.out HM.out)
      have G7 := Lib.hid (flds_own (l := lowFs l) (cap := k7) (by rw [lowFs_length]; exact ho7))
      clear hb7 ho7
      clear v0 v1 v2 v3 v4 v5
      go_wp2_with fail
      refine (RL _ _ _ G7.out M7.out).out.mono ?_
      rintro e w8 ⟨rfl, hb8⟩
      have B8 := Lib.hid (below_then B7.out hb8)
      have X_8 := Lib.hid (X_7.out.below hb8)
      have Y_8 := Lib.hid (Y_7.out.below hb8)
      have FL_8 := Lib.hid (FL_7.out.below hb8)
      have Z8_8 := Lib.hid (Z8_7.out.below hb8)
      clear hb8
      obtain ⟨v0, v1, v2, v3, v4, v5, vz⟩ := X_8.out
      have hv8 := World.block_lt_of_cell? w8 _ v0
      clear vz
      have B9 := Lib.hid (B8.out.alloc B8.out.size (.cells #[.int .i64 xk, .int .i64 xn] 27))
      have X_9 := Lib.hid (X_8.out.alloc (.cells #[.int .i64 xk, .int .i64 xn] 27))
      have Y_9 := Lib.hid (Y_8.out.alloc (.cells #[.int .i64 xk, .int .i64 xn] 27))
      have FL_9 := Lib.hid (FL_8.out.below ((Below.refl _ w8).alloc (Nat.le_refl _) (.cells #[.int .i64 xk, .int .i64 xn] 27)))
      have Z8_9 := Lib.hid (Z8_8.out.alloc (.cells #[.int .i64 xk, .int .i64 xn] 27))
      have Z10_9 := Lib.hid (box2_new w8 (.int .i64 xk) (.int .i64 xn) 27)
      go_wp2_with fail
      refine (CP _ B9.out).out.mono ?_
      rintro e w10 ⟨a10, k10, rfl, hn10, ho10, hb10⟩
      have B10 := Lib.hid (below_then B9.out hb10)
      have X_10 := Lib.hid (X_9.out.below hb10)
      have Y_10 := Lib.hid (Y_9.out.below hb10)
      have FL_10 := Lib.hid (FL_9.out.below hb10)
      have Z8_10 := Lib.hid (Z8_9.out.below hb10)
      have Z10_10 := Lib.hid (Z10_9.out.below hb10)
      have M10 := Lib.hid (cell_below B10.out HM.out)
      have G10 := Lib.hid (flds_own ho10)
      clear hb10 ho10
      clear v0 v1 v2 v3 v4 v5
      go_wp2_with fail
      refine (SP _ _ _ G10.out M10.out).out.mono ?_
      rintro e w11 ⟨rfl, hb11⟩
      have B11 := Lib.hid (below_then B10.out hb11)
      have X_11 := Lib.hid (X_10.out.below hb11)
      have Y_11 := Lib.hid (Y_10.out.below hb11)
      have FL_11 := Lib.hid (FL_10.out.below hb11)
      have Z8_11 := Lib.hid (Z8_10.out.below hb11)
      have Z10_11 := Lib.hid (Z10_10.out.below hb11)
      clear hb11
      obtain ⟨v0, v1, v2, v3, v4, v5, vz⟩ := Y_11.out
      have hv11 := World.block_lt_of_cell? w11 _ v0
      clear vz
      have B12 := Lib.hid (B11.out.alloc B11.out.size (.cells #[.int .i64 yk, .int .i64 yn] 27))
      have X_12 := Lib.hid (X_11.out.alloc (.cells #[.int .i64 yk, .int .i64 yn] 27))
      have Y_12 := Lib.hid (Y_11.out.alloc (.cells #[.int .i64 yk, .int .i64 yn] 27))
      have FL_12 := Lib.hid (FL_11.out.below ((Below.refl _ w11).alloc (Nat.le_refl _) (.cells #[.int .i64 yk, .int .i64 yn] 27)))
      have Z8_12 := Lib.hid (Z8_11.out.alloc (.cells #[.int .i64 yk, .int .i64 yn] 27))
      have Z10_12 := Lib.hid (Z10_11.out.alloc (.cells #[.int .i64 yk, .int .i64 yn] 27))
      have Z12_12 := Lib.hid (box2_new w11 (.int .i64 yk) (.int .i64 yn) 27)
      go_wp2_with fail
      refine (CL _ _ _ HN2.out FL_12.out).out.mono ?_
      rintro e w13 ⟨a13, k13, rfl, hn13, ho13, hb13⟩
      have B13 := Lib.hid (below_then B12.out hb13)
      have X_13 := Lib.hid (X_12.out.below hb13)
      have Y_13 := Lib.hid (Y_12.out.below hb13)
      have FL_13 := Lib.hid (FL_12.out.below hb13)
      have Z8_13 := Lib.hid (Z8_12.out.below hb13)
      have Z10_13 := Lib.hid (Z10_12.out.below hb13)
      have Z12_13 := Lib.hid (Z12_12.out.below hb13)
      have M13 := Lib.hid (cell_below B13.out HM.out)
      have G13 := Lib.hid (flds_own (l := lowFs l) (cap := k13) (by rw [lowFs_length]; exact ho13))
      clear hb13 ho13
      clear v0 v1 v2 v3 v4 v5
      go_wp2_with fail
      refine (SL _ _ _ G13.out M13.out).out.mono ?_
      rintro e w14 ⟨rfl, hb14⟩
      have B14 := Lib.hid (below_then B13.out hb14)
      have X_14 := Lib.hid (X_13.out.below hb14)
      have Y_14 := Lib.hid (Y_13.out.below hb14)
      have FL_14 := Lib.hid (FL_13.out.below hb14)
      have Z8_14 := Lib.hid (Z8_13.out.below hb14)
      have Z10_14 := Lib.hid (Z10_13.out.below hb14)
      have Z12_14 := Lib.hid (Z12_13.out.below hb14)
      clear hb14
      go_wp2
      have B15 := Lib.hid (B14.out.alloc B14.out.size (.cells #[.int .i64 yk, .int .i64 yn] 27))
      have X_15 := Lib.hid (X_14.out.alloc (.cells #[.int .i64 yk, .int .i64 yn] 27))
      have Y_15 := Lib.hid (Y_14.out.alloc (.cells #[.int .i64 yk, .int .i64 yn] 27))
      have FL_15 := Lib.hid (FL_14.out.below ((Below.refl _ w14).alloc (Nat.le_refl _) (.cells #[.int .i64 yk, .int .i64 yn] 27)))
      have Z8_15 := Lib.hid (Z8_14.out.alloc (.cells #[.int .i64 yk, .int .i64 yn] 27))
      have Z10_15 := Lib.hid (Z10_14.out.alloc (.cells #[.int .i64 yk, .int .i64 yn] 27))
      have Z12_15 := Lib.hid (Z12_14.out.alloc (.cells #[.int .i64 yk, .int .i64 yn] 27))
      have Z14_15 := Lib.hid (box2_new w14 (.int .i64 yk) (.int .i64 yn) 27)
      generalize w14.alloc (.cells #[.int .i64 yk, .int .i64 yn] 27) = V2 at *
      obtain ⟨X, hXe⟩ : ∃ X : World → Prop, X = fun w => Below W2.heap.size W2 w ∧ Flds w a2 (lowFs l) := ⟨_, rfl⟩
      have XB : Hid (∀ w w', X w → Below w.heap.size w w' → X w') := Lib.hid (by rw [hXe]; rintro w w' ⟨h1, h2⟩ hb; exact ⟨below_then h1 hb, h2.below hb⟩)
      have XB1 : Hid (∀ w, X w → Below W2.heap.size W2 w) := Lib.hid (by rw [hXe]; rintro w ⟨h1, h2⟩; exact h1)
      have XF : Hid (∀ w, X w → Flds w a2 (lowFs l)) := Lib.hid (by rw [hXe]; rintro w ⟨h1, h2⟩; exact h2)
      have XW : Hid (X V2) := Lib.hid (by rw [hXe]; exact ⟨B15.out, FL_15.out⟩)
      obtain ⟨p0, p1, p2, p3, p4, p5, pz⟩ := X_15.out
      obtain ⟨q0, q1, q2, q3, q4, q5, qz⟩ := Y_15.out
      obtain ⟨z8a, z8b, z8z⟩ := Z8_15.out
      obtain ⟨z10a, z10b, z10z⟩ := Z10_15.out
      obtain ⟨z12a, z12b, z12z⟩ := Z12_15.out
      obtain ⟨z14a, z14b, z14z⟩ := Z14_15.out
      have S0 := Lib.hid (kc_below (X := X) ⟨XW.out, p0, p1, p2, p3, p4, p5, q0, q1, q2, q3, q4, q5, z8a, z8b, z10a, z10b, z12a, z12b, z14a, z14b⟩ (Below.refl _ V2).drew XB.out)
      clear pz qz z8z z10z z12z z14z hXe p0 p1 p2 p3 p4 p5 q0 q1 q2 q3 q4 q5 z8a z8b z10a z10b z12a z12b z14a z14b
      go_region_held3 (fun w' => X w' ∧ w'.cell? ⟨W2.heap.size, 0, none⟩ = some (.string m) ∧ w'.cell? ⟨W2.heap.size, 1, none⟩ = some (.string t) ∧ w'.cell? ⟨W2.heap.size, 2, none⟩ = some (.int .i64 s) ∧ w'.cell? ⟨W2.heap.size, 3, none⟩ = some (.string r) ∧ w'.cell? ⟨W2.heap.size, 4, none⟩ = some (.int .i64 mi) ∧ w'.cell? ⟨W2.heap.size, 5, none⟩ = some (.slice A l.length cap) ∧ w'.cell? ⟨w2.heap.size, 0, none⟩ = some (.string m) ∧ w'.cell? ⟨w2.heap.size, 1, none⟩ = some (.string t) ∧ w'.cell? ⟨w2.heap.size, 2, none⟩ = some (.int .i64 s) ∧ w'.cell? ⟨w2.heap.size, 3, none⟩ = some (.string r) ∧ w'.cell? ⟨w2.heap.size, 4, none⟩ = some (.int .i64 mi) ∧ w'.cell? ⟨w2.heap.size, 5, none⟩ = some (.slice a2 l.length k2) ∧ w'.cell? ⟨w5.heap.size, 0, none⟩ = some (.int .i64 xk) ∧ w'.cell? ⟨w5.heap.size, 1, none⟩ = some (.int .i64 xn) ∧ w'.cell? ⟨w8.heap.size, 0, none⟩ = some (.int .i64 xk) ∧ w'.cell? ⟨w8.heap.size, 1, none⟩ = some (.int .i64 xn) ∧ w'.cell? ⟨w11.heap.size, 0, none⟩ = some (.int .i64 yk) ∧ w'.cell? ⟨w11.heap.size, 1, none⟩ = some (.int .i64 yn) ∧ w'.cell? ⟨w14.heap.size, 0, none⟩ = some (.int .i64 yk) ∧ w'.cell? ⟨w14.heap.size, 1, none⟩ = some (.int .i64 yn))
        (first | assumption | exact S0.out | (refine kc_below (X := X) ?_ (by assumption) XB.out; assumption))
        (first
          | (have hk := K13.out; go_at_call 17; refine (KL _ _ _ (XF.out _ (show X _ ∧ _ from by assumption).1) (cell_below (XB1.out _ (show X _ ∧ _ from by assumption).1) HM.out)).out.mono ?_; rintro e w22 ⟨rfl, hb22⟩; clear hk)
          | (go_at_call 17; refine (KP _ _ _ (flds_own ho20) (cell_below (XB1.out _ (show X _ ∧ _ from by assumption).1) HM.out)).out.mono ?_; rintro e w21 ⟨rfl, hb21⟩; have K13 := Lib.hid hb21)
          | (go_at_call 11; refine (CP _ (XB1.out _ (show X _ ∧ _ from by assumption).1)).out.mono ?_; rintro e w20 ⟨a20, k20, rfl, hn20, ho20, hb20⟩))
      go_wp2
      go_ret
      exact ⟨rfl, XB1.out _ (by first | assumption | (rename_i hh; exact hh.1))⟩
end Go.Proofs.YtbjcbdgkgbjaiaaDoor
