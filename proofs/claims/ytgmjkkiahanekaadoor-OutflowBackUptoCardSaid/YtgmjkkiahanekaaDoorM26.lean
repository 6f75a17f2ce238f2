/- The texts OutH in one. -/
import Derived.Test.YtgmjkkiahanekaaDoorM25
/- The walk over OutflowReuse. -/
set_option linter.unusedVariables false
set_option linter.unusedSimpArgs false
namespace Go.Proofs.YtgmjkkiahanekaaDoor
open Go.RowKit Lex

theorem reus_true {r : Rd} (h : reusR r = true) : r.ended = true ∧ r.kind ≠ 5 ∧ r.buf = [] ∧ r.closed = false := by
  unfold reusR at h
  simp only [Bool.and_eq_true, Bool.not_eq_true', decide_eq_true_eq, decide_eq_false_iff_not] at h
  exact ⟨h.1.1.1.1.1, h.1.1.1.2, h.1.2, h.2⟩
theorem reus_fed {r : Rd} (h : reusR r = true) (x : List UInt8) : feedR r x = { r with buf := x } ∧ reusR { r with buf := x } = decide (x = []) := by
  obtain ⟨h1, h2, h3, h4⟩ := reus_true h
  refine ⟨by unfold feedR; rw [if_neg (by rw [h4]; decide), h3, List.nil_append], ?_⟩
  unfold reusR at h ⊢
  rw [h3] at h
  simp only [decide_true, Bool.and_true] at h
  simp only
  revert h
  cases decide (x = []) <;> simp
set_option maxRecDepth 100000 in
set_option maxHeartbeats 8000000 in
theorem reuse_walk {W : World} (me : ByteArray) (hme : me.size ≤ 1048576) (da : ByteArray) (hda : da.size ≤ 1048576) (mo : ByteArray) (hmo : mo.size ≤ 1048576) (M : Int) (W2 : World) (hW : W2 = W) (hm : W2.cell? ⟨0, 0, none⟩ = some (.int .i64 M)) :
    Calls Tryd.prog 7 #[.string me, .string da, .string mo] W2 fun e w' => e = .returned (.bool true) ∧ Below W2.heap.size W2 w' := by
  subst hW
  have hw0 := World.block_lt_of_cell? W2 _ hm
  have AN := Lib.hid (anchor12_c M W2 hm)
  have HM := Lib.hid hm
  clear hm
  go_enter Tryd.func7, Tryd.ntmps7
  go_wp2_with fail
  refine AN.out.mono ?_
  rintro e w1 ⟨rfl, hb1⟩
  have B1 := Lib.hid hb1
  have M1 := Lib.hid (cell_below hb1 HM.out)
  clear hb1
  by_cases hbig : 20000 < da.size
  · have hi : (20000 : Int) < (da.size : Int) := by omega
    go_wp2
    go_ret
    exact ⟨rfl, B1.out⟩
  · have hi : ¬ (20000 : Int) < (da.size : Int) := by omega
    have NW := Lib.hid (onew_c me w1)
    go_wp2_with fail
    refine NW.out.mono ?_
    rintro e w2 ⟨rfl, hr2, hb2, hz2⟩
    have T2 : Hid (ToAt W2 w2 w1.heap.size 0 (.slice none 0 0) { method := me.data.toList } [] 0) := Lib.hid ⟨hr2, new_ok _, Nat.le_refl _, below_then B1.out hb2, fun k hk => by
      have := B1.out.size
      rcases hk with e | ⟨e, _⟩
      · omega
      · simp at e⟩
    have FE := Lib.hid (ofeed_c w1.heap.size 0 (.slice none 0 0) { method := me.data.toList } da w2 (by simp; omega) hr2)
    clear hr2 hb2
    go_wp2_with fail
    refine FE.out.mono ?_
    rintro e w3 ⟨rfl, hr3, ha3⟩
    have t3 : ToAt W2 w3 w1.heap.size 0 (.slice none 0 0) (feedR { method := me.data.toList } da.data.toList) [] 20000 := T2.out.later hr3 (ha3.mono (fun _ _ e => .inl e)) (fun k' hk' => .inl (by
      rcases hk' with e | ⟨e, q⟩
      · exact .inl e
      · exact .inr ⟨e, q⟩)) (feed_ok T2.out.ok _) (by
      have := feed_bytes { method := me.data.toList } da.data.toList
      have hd : da.data.toList.length = da.size := rfl
      rw [hd] at this
      simp at this ⊢; omega)
    have T3 := Lib.hid t3
    generalize hr0 : feedR { method := me.data.toList } da.data.toList = r0 at *
    have hR0 : 0 < w1.heap.size := by have := B1.out.size; omega
    generalize hR : w1.heap.size = R at *
    clear hr3 ha3 t3 hr0 NW FE T2 AN hR
    go_wp2_with fail
    go_loopw [8] (fun n wx => ∃ (j D : Nat) (v : Value) (r : Rd), n = .int .i64 j ∧ j + rankR r ≤ 3 ∧ ToAt W2 wx R D v r [] 20000) (fun n _ => 4 - (intOf n).toNat)
    case atStart => exact ⟨0, 0, .slice none 0 0, r0, rfl, by have := rank_le r0; omega, T3.out⟩
    case round =>
      clear T3
      obtain ⟨j, D, v, r, rfl, hj, hto⟩ := hrel
      have NX := onext_c R D v r M (by have := hto.bytes; simp at this; omega) hto.ok wr hto.rd ((hto.below.cell (p := ⟨0, 0, none⟩) hw0).trans HM.out) hR0
      have NK := next_keeps hto.ok
      obtain ⟨x, hx⟩ : ∃ x, nextR r = x := ⟨_, rfl⟩
      rw [hx] at NX NK
      obtain ⟨p, ok, e, r'⟩ := x
      unfold NextPost at NX
      simp only [pcV] at NX NK
      have NXX := Lib.hid NX
      have NKK := Lib.hid NK
      have TO := Lib.hid hto
      clear NX NK hx hto
      have hj3 : (j : Int) < 30000 := by omega
      have hb' : ([] : List UInt8).length + r'.buf.length ≤ 20000 := by have := NKK.out.bytes; have := TO.out.bytes; simp at this ⊢; omega
      have HB := Lib.hid hb'
      clear hb'
      cases ok with
      | true =>
        have hrk := NKK.out.rank rfl
        go_wp2_with fail
        refine NXX.out.mono ?_
        rintro e3 w3 ⟨A', c', D', v', rfl, hA, hF, hg, hR, ha, hf⟩
        have TN := Lib.hid (TO.out.later (b' := []) (N' := 20000) hR ha hf NKK.out.good HB.out)
        clear hA hF hg hR ha hf
        go_wp2
        go_roundw
        case rel => exact ⟨j + 1, D', v', r', by go_num, by omega, TN.out.rd.below ((Below.refl _ _).alloc (Nat.le_refl _) _), TN.out.ok, TN.out.bytes, TN.out.below.alloc TN.out.below.size _, TN.out.low⟩
        case measure => simp [intOf]; omega
      | false =>
        go_wp2_with fail
        refine NXX.out.mono ?_
        rintro e3 w3 ⟨A', c', D', v', rfl, hA, hF, hg, hR, ha, hf⟩
        have TN := Lib.hid (TO.out.later (b' := []) (N' := 20000) hR ha hf NKK.out.good HB.out)
        clear hA hF hg hR ha hf
        obtain ⟨V, hV⟩ : ∃ V, V = w3.alloc (.cells #[.int .i64 p.kind, .string (bs p.head.method), .string (bs p.head.target), .int .i64 p.head.status, .string (bs p.head.reason), .int .i64 p.head.minor, .slice A' p.head.fields.length c', .string (bs p.data)] 41) := ⟨_, rfl⟩
        have T4 : Hid (ToAt W2 V R D' v' r' [] 20000) := Lib.hid (by rw [hV]; exact ⟨TN.out.rd.below ((Below.refl _ _).alloc (Nat.le_refl _) _), TN.out.ok, TN.out.bytes, TN.out.below.alloc TN.out.below.size _, TN.out.low⟩)
        have HV := Lib.hid hV
        have RU := Lib.hid (oreus_c R D' v' r' V T4.out.rd)
        clear hV TO NXX NKK hj hj3 TN
        cases hru : reusR r' with
        | false =>
          rw [hru] at RU
          clear hru
          go_wp2_with fail
          rw [← HV.out]
          refine RU.out.mono ?_
          rintro e w5 ⟨rfl, rfl⟩
          go_wp2
          go_ret
          exact ⟨rfl, T4.out.below⟩
        | true =>
          obtain ⟨q1, q2, q3, q4⟩ := reus_true hru
          obtain ⟨q5, q6⟩ := reus_fed hru mo.data.toList
          have hbm : (mo = ⟨#[]⟩ ∧ decide (mo.data.toList = []) = true) ∨ (mo.toList.isEmpty = false ∧ mo.size ≠ 0 ∧ decide (mo.data.toList = []) = false) := by
            by_cases hz : mo.size = 0
            · left
              have : mo = ⟨#[]⟩ := by
                rw [← list_bs mo, List.eq_nil_of_length_eq_zero (l := mo.data.toList) hz]
              subst this
              exact ⟨rfl, by simp⟩
            · exact .inr ⟨nonempty_toList hz, hz, decide_eq_false (fun e => hz (by have := congrArg List.length e; exact this))⟩
          generalize decide (mo.data.toList = []) = bm at *
          have EN := oended_c R D' v' r' V T4.out.rd
          have TU := otunnel_c R D' v' r' V T4.out.rd
          have LE := olen_c R D' v' r' V T4.out.rd
          have FE := ofeed_c R D' v' r' mo V (by rw [q3]; simp; omega) T4.out.rd
          rw [hru] at RU
          rw [q1] at EN
          rw [decide_eq_false q2, Bool.and_false] at TU
          rw [q3] at LE
          rw [q5] at FE
          have hms : mo.data.toList.length = mo.size := rfl
          have R1 := fun w h => olen_c R D' v' { r' with buf := mo.data.toList } w h
          have R2 := fun w h => oreus_c R D' v' { r' with buf := mo.data.toList } w h
          have R3 := fun w h => obrest_c R D' v' { r' with buf := mo.data.toList } w h
          have R4 := fun w h => olen_c R D' v' { r' with buf := [] } w h
          have R5 := fun w h => oend_c R D' v' { r' with buf := [] } w h
          have R6 := fun w h => oreus_c R D' v' { r' with buf := [], closed := true } w h
          have hcl : reusR { r' with buf := [], closed := true } = false := by unfold reusR; simp
          simp only [hms] at R1
          simp only [q6] at R2
          simp only [bs_list, list_bs] at R3
          simp only [hcl] at R6
          have KEN := Lib.hid EN
          have KTU := Lib.hid TU
          have KLE := Lib.hid LE
          have KFE := Lib.hid FE
          have K1 := Lib.hid R1
          have K2 := Lib.hid R2
          have K3 := Lib.hid R3
          have K4 := Lib.hid R4
          have K5 := Lib.hid R5
          have K6 := Lib.hid R6
          have T4B := T4.out.below
          have T4L := T4.out.low
          have HB4 := Lib.hid T4B
          have HL4 := Lib.hid (T4L R (.inl rfl))
          clear EN TU LE FE R1 R2 R3 R4 R5 R6 q1 q2 q3 q4 q5 q6 hru hcl hms T4B T4L
          go_wp2_with fail
          rw [← HV.out]
          refine RU.out.mono ?_
          rintro e w5 ⟨rfl, rfl⟩
          go_wp2_with fail
          refine KEN.out.mono ?_
          rintro e w5 ⟨rfl, rfl⟩
          go_wp2_with fail
          refine KTU.out.mono ?_
          rintro e w5 ⟨rfl, rfl⟩
          go_wp2_with fail
          refine KLE.out.mono ?_
          rintro e w5 ⟨rfl, rfl⟩
          go_wp2_with fail
          refine KFE.out.mono ?_
          rintro e w5 ⟨rfl, hr5, ha5⟩
          have H5 := Lib.hid hr5
          have B5 := Lib.hid (HB4.out.trans (ha5.below HB4.out.size (B := W2.heap.size) (fun k e => by rw [e]; exact HL4.out)))
          clear hr5 ha5
          rcases hbm with ⟨rfl, rfl⟩ | ⟨hmz, hne, rfl⟩
          · skip
            go_wp2_with fail
            refine (K2.out _ H5.out).mono ?_
            rintro e w6 ⟨rfl, rfl⟩
            go_wp2_with fail
            refine (K1.out _ H5.out).mono ?_
            rintro e w6 ⟨rfl, rfl⟩
            go_wp2_with fail
            refine (K3.out _ H5.out).mono ?_
            rintro e w6 ⟨rfl, hr6, ha6⟩
            have H6 := Lib.hid hr6
            have B6 := Lib.hid (B5.out.trans (ha6.below B5.out.size (B := W2.heap.size) (fun k e => by rw [e]; exact HL4.out)))
            clear hr6 ha6
            go_wp2_with fail
            refine (K4.out _ H6.out).mono ?_
            rintro e w7 ⟨rfl, rfl⟩
            go_wp2_with fail
            refine (K5.out _ H6.out).mono ?_
            rintro e w7 ⟨rfl, hr7, ha7⟩
            have H7 := Lib.hid hr7
            have B7 := Lib.hid (B6.out.trans (ha7.below B6.out.size (B := W2.heap.size) (fun k e => by rw [e]; exact HL4.out)))
            clear hr7 ha7
            go_wp2_with fail
            refine (K6.out _ H7.out).mono ?_
            rintro e w8 ⟨rfl, rfl⟩
            go_wp2
            go_ret
            exact ⟨rfl, B7.out⟩
          · skip
            go_wp2_with fail
            refine (K2.out _ H5.out).mono ?_
            rintro e w6 ⟨rfl, rfl⟩
            go_wp2_with fail
            refine (K1.out _ H5.out).mono ?_
            rintro e w6 ⟨rfl, rfl⟩
            go_wp2_with fail
            refine (K3.out _ H5.out).mono ?_
            rintro e w6 ⟨rfl, hr6, ha6⟩
            have H6 := Lib.hid hr6
            have B6 := Lib.hid (B5.out.trans (ha6.below B5.out.size (B := W2.heap.size) (fun k e => by rw [e]; exact HL4.out)))
            clear hr6 ha6
            go_wp2_with fail
            refine (K4.out _ H6.out).mono ?_
            rintro e w7 ⟨rfl, rfl⟩
            go_wp2_with fail
            refine (K5.out _ H6.out).mono ?_
            rintro e w7 ⟨rfl, hr7, ha7⟩
            have H7 := Lib.hid hr7
            have B7 := Lib.hid (B6.out.trans (ha7.below B6.out.size (B := W2.heap.size) (fun k e => by rw [e]; exact HL4.out)))
            clear hr7 ha7
            go_wp2_with fail
            refine (K6.out _ H7.out).mono ?_
            rintro e w8 ⟨rfl, rfl⟩
            go_wp2
            go_ret
            exact ⟨rfl, B7.out⟩
end Go.Proofs.YtgmjkkiahanekaaDoor

