/- The texts FrmG in one. -/
import Derived.Test.YtgmjkkiahanekaaGreatDoorM43
/- The contracts of the document's Coding, Request, Response and Keep over every head. -/
set_option linter.unusedVariables false
set_option linter.unusedSimpArgs false
namespace Go.Proofs.YtgmjkkiahanekaaGreatDoor
open Go.RowKit Lex

theorem alike_chunked (a : List UInt8) : chk a = (lower a == chunkedL) := by unfold chk alike; rw [show lower chunkedL = chunkedL from by decide +kernel]
theorem any_before {α : Type} {p : α → Bool} {l : List α} {k : Nat} (h : k + 1 < l.length) (hp : p l[k] = true) : l.dropLast.any p = true := by
  rw [List.any_eq_true]
  refine ⟨l[k], ?_, hp⟩
  have hk : k < l.dropLast.length := by rw [List.length_dropLast]; omega
  have : l.dropLast[k] = l[k] := List.getElem_dropLast hk
  rw [← this]; exact List.getElem_mem hk
theorem code_of {l : List (List UInt8)} (hl : l ≠ []) : codeL l = if chk (l.getLast hl) = false ∨ l.dropLast.any chk = true then 3 else if l.length = 1 then 1 else 2 := by
  unfold codeL
  rw [List.getLast?_eq_some_getLast hl]
  simp [hl]
set_option maxRecDepth 100000 in
set_option maxHeartbeats 4000000 in
theorem rcoding_c (m t : ByteArray) (s : Int) (r : ByteArray) (mi : Int) (A : Option Addr) (cap : Nat) (fs : List Fd) (w : World) (hB : FB fs) (hF : Flds w A fs) :
    Calls Tryz.prog 50 #[hv m t s r mi A fs.length cap] w fun e w' => e = .returned (.int .i64 (codeF fs)) ∧ Below w.heap.size w w' := by
  have EL := fun w h => Lib.hid (relementsf_c A cap fs ⟨#[116, 114, 97, 110, 115, 102, 101, 114, 45, 101, 110, 99, 111, 100, 105, 110, 103]⟩ w (by decide) hB h)
  rw [show (ByteArray.mk #[116, 114, 97, 110, 115, 102, 101, 114, 45, 101, 110, 99, 111, 100, 105, 110, 103]).data.toList = tencL from rfl] at EL
  have hmem := fun x h => elementsF_mem (name := tencL) (x := x) hB h
  have HMM := Lib.hid hmem
  have hlen := elementsF_length hB fs.length tencL
  rw [List.take_length] at hlen
  have HF := Lib.hid (hF.below ((Below.refl _ w).alloc (Nat.le_refl _) (.cells #[.string m, .string t, .int .i64 s, .string r, .int .i64 mi, .slice A fs.length cap] 42)))
  unfold codeF hv
  clear hmem hB hF
  generalize elementsF fs tencL = l at *
  generalize hout : codeL l = out
  have HOUT := Lib.hid hout
  clear hout
  by_cases hl : l = []
  · subst hl
    have HV := Lib.hid (show out = 3 from HOUT.out.symm)
    go_enter Tryz.func50, Tryz.ntmps50
    go_wp2_with fail
    refine (EL _ HF.out).out.mono ?_
    rintro e w1 ⟨v, rfl, hown, hb⟩
    have HB1 := Lib.hid (belowA hb)
    obtain ⟨a, c, rfl⟩ := own_slice' hown
    clear hown hb
    go_wp2
    go_ret
    exact ⟨ret_int HV.out.symm, HB1.out⟩
  · have hpos : 0 < l.length := List.length_pos_iff.2 hl
    have hcode := code_of hl
    have hlast : l[l.length - 1] = l.getLast hl := (List.getLast_eq_getElem hl).symm
    have ha := alike_chunked l[l.length - 1]
    rw [hlast] at ha
    have LO := fun w => Lib.hid (rlower_c (bs l[l.length - 1]) w (Nat.le_trans (HMM.out _ (List.getElem_mem (by omega))) (by decide)))
    rw [bs_list, hlast] at LO
    have hp0 : ((l.length : Int) == 0) = false := by rw [beq_eq_false_iff_ne]; omega
    have hp1 : (1 : Int) ≤ (l.length : Int) := by omega
    have HL := Lib.hid hlast
    clear hlast
    cases hk : chk (l.getLast hl) with
    | false =>
      have HV := Lib.hid (show out = 3 by rw [← HOUT.out, hcode, if_pos (.inl hk)])
      rw [hk] at ha
      have bq : (lower (l.getLast hl) == [99, 104, 117, 110, 107, 101, 100]) = false := ha.symm
      clear ha hcode hk
      generalize l.getLast hl = x at *
      generalize lower x = q at *
      go_enter Tryz.func50, Tryz.ntmps50
      go_wp2_with fail
      refine (EL _ HF.out).out.mono ?_
      rintro e w1 ⟨v, rfl, hown, hb⟩
      have HB1 := Lib.hid (belowA hb)
      obtain ⟨a, c, rfl⟩ := own_slice' hown
      obtain ⟨g, hA, c1⟩ := (texts_of hown) (l.length - 1) (by omega)
      subst hA
      rw [HL.out] at c1
      clear hown hb
      go_wp2_with (go_at_call 76; refine (LO _).out.mono ?_; rintro e w2 ⟨rfl, hb2⟩)
      go_ret
      exact ⟨ret_int HV.out.symm, below_then HB1.out hb2⟩
    | true =>
      rw [hk] at ha hcode
      have bq : (lower (l.getLast hl) == [99, 104, 117, 110, 107, 101, 100]) = true := ha.symm
      have HC := Lib.hid hcode
      clear ha hcode hk
      generalize l.getLast hl = x at *
      generalize lower x = q at *
      go_enter Tryz.func50, Tryz.ntmps50
      go_wp2_with fail
      refine (EL _ HF.out).out.mono ?_
      rintro e w1 ⟨v, rfl, hown, hb⟩
      have HB1 := Lib.hid (belowA hb)
      obtain ⟨a, c, rfl⟩ := own_slice' hown
      have HT := Lib.hid (texts_of hown)
      obtain ⟨g, hA, c1⟩ := HT.out (l.length - 1) (by omega)
      subst hA
      rw [HL.out] at c1
      clear hown hb
      go_wp2_with fail
      refine (LO _).out.mono ?_
      rintro e w2 ⟨rfl, hb2⟩
      have HT2 := Lib.hid (HT.out.below hb2)
      have HB2 := Lib.hid (below_then HB1.out hb2)
      clear c1 hb2
      go_wp2
      go_loopw [4] (fun i wr => ∃ k : Nat, k + 1 ≤ l.length ∧ i = .int .i64 k ∧ (l.take k).any chk = false ∧ Below w2.heap.size w2 wr) (fun i _ => l.length - (intOf i).toNat)
      case atStart => exact ⟨0, by omega, rfl, rfl, Below.refl _ _⟩
      case round =>
        obtain ⟨k, hk, rfl, hany, hB⟩ := hrel
        have HA := Lib.hid hany
        clear hany
        by_cases hlt : k + 1 < l.length
        · obtain ⟨g2, hA2, c1⟩ := HT2.out.below hB k (by omega)
          injection hA2 with hA2; injection hA2 with hA2 _ _
          subst hA2
          have LO2 := fun w => Lib.hid (rlower_c (bs (l[k]'(by omega))) w (Nat.le_trans (HMM.out _ (List.getElem_mem (by omega))) (by decide)))
          rw [bs_list] at LO2
          have ha := alike_chunked (l[k]'(by omega))
          have hlt2 : (k : Int) < (l.length : Int) - 1 := by omega
          have HY := Lib.hid (any_before (p := chk) hlt)
          have HN := Lib.hid (any_take_false (p := chk) (l := l) (k := k) (by omega) HA.out)
          obtain ⟨y, hy⟩ : ∃ y, l[k]'(by omega) = y := ⟨_, rfl⟩
          rw [hy] at c1 LO2 ha HY HN
          clear hy
          cases hk2 : chk y with
          | true =>
            rw [hk2] at ha
            have bq2 : (lower y == [99, 104, 117, 110, 107, 101, 100]) = true := ha.symm
            have HV := Lib.hid (show out = 3 by rw [← HOUT.out, HC.out, if_pos (.inr (HY.out hk2))])
            clear ha hk2
            generalize lower y = q2 at *
            go_wp2_with (go_at_call 76; refine (LO2 _).out.mono ?_; rintro e w3 ⟨rfl, hb3⟩)
            go_ret
            exact ⟨ret_int HV.out.symm, below_then HB2.out (below_then hB hb3)⟩
          | false =>
            rw [hk2] at ha
            have bq2 : (lower y == [99, 104, 117, 110, 107, 101, 100]) = false := ha.symm
            have HN2 := Lib.hid (HN.out hk2)
            clear ha hk2
            generalize lower y = q2 at *
            go_wp2_with (go_at_call 76; refine (LO2 _).out.mono ?_; rintro e w3 ⟨rfl, hb3⟩)
            go_roundw
            case rel => exact ⟨k + 1, by omega, by go_num, HN2.out, below_then hB hb3⟩
            case measure => simp [intOf]; omega
        · obtain rfl : k = l.length - 1 := by omega
          have hd : l.dropLast.any chk = false := by rw [List.dropLast_eq_take]; exact HA.out
          have hge : ¬ ((l.length - 1 : Nat) : Int) < (l.length : Int) - 1 := by omega
          by_cases h1 : l.length = 1
          · have HV := Lib.hid (show out = 1 by rw [← HOUT.out, HC.out, if_neg (by simp [hd]), if_pos h1])
            have hlb : ((l.length : Int) == 1) = true := by rw [h1]; rfl
            clear hd h1 hp0
            go_wp2
            go_ret
            exact ⟨ret_int HV.out.symm, below_then HB2.out hB⟩
          · have HV := Lib.hid (show out = 2 by rw [← HOUT.out, HC.out, if_neg (by simp [hd]), if_neg h1])
            have hlb : ((l.length : Int) == 1) = false := by rw [beq_eq_false_iff_ne]; omega
            clear hd h1
            go_wp2
            go_ret
            exact ⟨ret_int HV.out.symm, below_then HB2.out hB⟩

def fr3 (x : Int × Int × Int) : Value := .tuple #[.int .i64 x.1, .int .i64 x.2.1, .int .i64 x.2.2]
set_option maxRecDepth 100000 in
set_option maxHeartbeats 8000000 in
theorem rrequest_c (m t : ByteArray) (s : Int) (r : ByteArray) (mi : Int) (A : Option Addr) (cap : Nat) (fs : List Fd) (most : Int) (w : World) (hB : FB fs) (hF : Flds w A fs) :
    Calls Tryz.prog 20 #[hv m t s r mi A fs.length cap, .int .i64 most] w fun e w' => e = .returned (fr3 (reqF mi fs most)) ∧ Below w.heap.size w w' := by
  generalize hout : fr3 (reqF mi fs most) = out
  unfold reqF at hout
  have H1 := fun w h => Lib.hid (rhas_c m t s r mi A cap fs ⟨#[99, 111, 110, 116, 101, 110, 116, 45, 108, 101, 110, 103, 116, 104]⟩ w (by decide) hB h)
  rw [show (ByteArray.mk #[99, 111, 110, 116, 101, 110, 116, 45, 108, 101, 110, 103, 116, 104]).data.toList = clenL from rfl, show decide (0 < (getF fs clenL).2) = sizedF fs from rfl] at H1
  have H2 := fun w h => Lib.hid (rhas_c m t s r mi A cap fs ⟨#[116, 114, 97, 110, 115, 102, 101, 114, 45, 101, 110, 99, 111, 100, 105, 110, 103]⟩ w (by decide) hB h)
  rw [show (ByteArray.mk #[116, 114, 97, 110, 115, 102, 101, 114, 45, 101, 110, 99, 111, 100, 105, 110, 103]).data.toList = tencL from rfl, show decide (0 < (getF fs tencL).2) = codedF fs from rfl] at H2
  have C := fun w h => Lib.hid (rcoding_c m t s r mi A cap fs w hB h)
  have L := fun w h => Lib.hid (rlength_c m t s r mi A cap fs w hB h)
  unfold hv at H1 H2 C L ⊢
  have HF := Lib.hid hF
  have hcc := codeL_cases (elementsF fs tencL)
  rw [show codeL (elementsF fs tencL) = codeF fs from rfl] at hcc
  have hls := length_sized (fs := fs)
  have hlb := fun n => length_bound (fs := fs) (n := n)
  clear hF hB
  generalize codeF fs = c at *
  generalize lengthF fs = lf at *
  generalize sizedF fs = sz at *
  cases hcd : codedF fs with
  | true =>
    rw [hcd] at H2 hout
    rw [if_pos rfl] at hout
    clear hcd L hls hlb
    by_cases h0 : mi = 0
    · have b0 : (mi == 0) = true := by rw [h0]; rfl
      have HV := Lib.hid (show fr3 (0, 0, 90) = out by rw [← hout, if_pos (.inl h0)])
      clear hout h0
      have W0 : Below w.heap.size w (w.alloc (.cells #[.string m, .string t, .int .i64 s, .string r, .int .i64 mi, .slice A fs.length cap] 42)) := (Below.refl _ w).alloc (Nat.le_refl _) _
      have B0 := Lib.hid W0
      have X0 := Lib.hid (box6_new w (.string m) (.string t) (.int .i64 s) (.string r) (.int .i64 mi) (.slice A fs.length cap) 42)
      have F0 := Lib.hid (HF.out.below B0.out)
      clear W0
      go_enter Tryz.func20, Tryz.ntmps20
      go_wp2_with fail
      refine (H1 _ F0.out).out.mono ?_
      rintro e w1 ⟨rfl, hb1⟩
      have B1 := Lib.hid (below_then B0.out hb1)
      have X1 := Lib.hid (X0.out.below hb1)
      have F1 := Lib.hid (F0.out.below hb1)
      obtain ⟨c0_1, c1_1, c2_1, c3_1, c4_1, c5_1, fz1⟩ := X1.out
      clear fz1 hb1
      go_wp2_with fail
      refine (H2 _ F1.out).out.mono ?_
      rintro e w2 ⟨rfl, hb2⟩
      have B2 := Lib.hid (below_then B1.out hb2)
      have X2 := Lib.hid (X1.out.below hb2)
      have F2 := Lib.hid (F1.out.below hb2)
      obtain ⟨c0_2, c1_2, c2_2, c3_2, c4_2, c5_2, fz2⟩ := X2.out
      clear fz2 hb2
      go_wp2_with fail
      refine (C _ F2.out).out.mono ?_
      rintro e w3 ⟨rfl, hb3⟩
      have B3 := Lib.hid (below_then B2.out hb3)
      have X3 := Lib.hid (X2.out.below hb3)
      have F3 := Lib.hid (F2.out.below hb3)
      obtain ⟨c0_3, c1_3, c2_3, c3_3, c4_3, c5_3, fz3⟩ := X3.out
      clear fz3 hb3
      go_wp2
      go_ret3
      exact ⟨HV.out.symm ▸ rfl, B3.out⟩
    · have b0 : (mi == 0) = false := by rw [beq_eq_false_iff_ne]; exact h0
      cases sz with
      | true =>
        have HV := Lib.hid (show fr3 (0, 0, 90) = out by rw [← hout, if_pos (.inr (.inl rfl))])
        clear hout h0
        have W0 : Below w.heap.size w (w.alloc (.cells #[.string m, .string t, .int .i64 s, .string r, .int .i64 mi, .slice A fs.length cap] 42)) := (Below.refl _ w).alloc (Nat.le_refl _) _
        have B0 := Lib.hid W0
        have X0 := Lib.hid (box6_new w (.string m) (.string t) (.int .i64 s) (.string r) (.int .i64 mi) (.slice A fs.length cap) 42)
        have F0 := Lib.hid (HF.out.below B0.out)
        clear W0
        go_enter Tryz.func20, Tryz.ntmps20
        go_wp2_with fail
        refine (H1 _ F0.out).out.mono ?_
        rintro e w1 ⟨rfl, hb1⟩
        have B1 := Lib.hid (below_then B0.out hb1)
        have X1 := Lib.hid (X0.out.below hb1)
        have F1 := Lib.hid (F0.out.below hb1)
        obtain ⟨c0_1, c1_1, c2_1, c3_1, c4_1, c5_1, fz1⟩ := X1.out
        clear fz1 hb1
        go_wp2_with fail
        refine (H2 _ F1.out).out.mono ?_
        rintro e w2 ⟨rfl, hb2⟩
        have B2 := Lib.hid (below_then B1.out hb2)
        have X2 := Lib.hid (X1.out.below hb2)
        have F2 := Lib.hid (F1.out.below hb2)
        obtain ⟨c0_2, c1_2, c2_2, c3_2, c4_2, c5_2, fz2⟩ := X2.out
        clear fz2 hb2
        go_wp2_with fail
        refine (C _ F2.out).out.mono ?_
        rintro e w3 ⟨rfl, hb3⟩
        have B3 := Lib.hid (below_then B2.out hb3)
        have X3 := Lib.hid (X2.out.below hb3)
        have F3 := Lib.hid (F2.out.below hb3)
        obtain ⟨c0_3, c1_3, c2_3, c3_3, c4_3, c5_3, fz3⟩ := X3.out
        clear fz3 hb3
        go_wp2
        go_ret3
        exact ⟨HV.out.symm ▸ rfl, B3.out⟩
      | false =>
        rcases hcc with rfl | rfl | rfl
        · have HV := Lib.hid (show fr3 (3, 0, 0) = out by rw [← hout, if_neg (by simp [h0]), if_pos rfl])
          clear hout h0
          have W0 : Below w.heap.size w (w.alloc (.cells #[.string m, .string t, .int .i64 s, .string r, .int .i64 mi, .slice A fs.length cap] 42)) := (Below.refl _ w).alloc (Nat.le_refl _) _
          have B0 := Lib.hid W0
          have X0 := Lib.hid (box6_new w (.string m) (.string t) (.int .i64 s) (.string r) (.int .i64 mi) (.slice A fs.length cap) 42)
          have F0 := Lib.hid (HF.out.below B0.out)
          clear W0
          go_enter Tryz.func20, Tryz.ntmps20
          go_wp2_with fail
          refine (H1 _ F0.out).out.mono ?_
          rintro e w1 ⟨rfl, hb1⟩
          have B1 := Lib.hid (below_then B0.out hb1)
          have X1 := Lib.hid (X0.out.below hb1)
          have F1 := Lib.hid (F0.out.below hb1)
          obtain ⟨c0_1, c1_1, c2_1, c3_1, c4_1, c5_1, fz1⟩ := X1.out
          clear fz1 hb1
          go_wp2_with fail
          refine (H2 _ F1.out).out.mono ?_
          rintro e w2 ⟨rfl, hb2⟩
          have B2 := Lib.hid (below_then B1.out hb2)
          have X2 := Lib.hid (X1.out.below hb2)
          have F2 := Lib.hid (F1.out.below hb2)
          obtain ⟨c0_2, c1_2, c2_2, c3_2, c4_2, c5_2, fz2⟩ := X2.out
          clear fz2 hb2
          go_wp2_with fail
          refine (C _ F2.out).out.mono ?_
          rintro e w3 ⟨rfl, hb3⟩
          have B3 := Lib.hid (below_then B2.out hb3)
          have X3 := Lib.hid (X2.out.below hb3)
          have F3 := Lib.hid (F2.out.below hb3)
          obtain ⟨c0_3, c1_3, c2_3, c3_3, c4_3, c5_3, fz3⟩ := X3.out
          clear fz3 hb3
          go_wp2
          go_ret3
          exact ⟨HV.out.symm ▸ rfl, B3.out⟩
        · have HV := Lib.hid (show fr3 (0, 0, 91) = out by rw [← hout, if_neg (by simp [h0]), if_neg (by decide)])
          clear hout h0
          have W0 : Below w.heap.size w (w.alloc (.cells #[.string m, .string t, .int .i64 s, .string r, .int .i64 mi, .slice A fs.length cap] 42)) := (Below.refl _ w).alloc (Nat.le_refl _) _
          have B0 := Lib.hid W0
          have X0 := Lib.hid (box6_new w (.string m) (.string t) (.int .i64 s) (.string r) (.int .i64 mi) (.slice A fs.length cap) 42)
          have F0 := Lib.hid (HF.out.below B0.out)
          clear W0
          go_enter Tryz.func20, Tryz.ntmps20
          go_wp2_with fail
          refine (H1 _ F0.out).out.mono ?_
          rintro e w1 ⟨rfl, hb1⟩
          have B1 := Lib.hid (below_then B0.out hb1)
          have X1 := Lib.hid (X0.out.below hb1)
          have F1 := Lib.hid (F0.out.below hb1)
          obtain ⟨c0_1, c1_1, c2_1, c3_1, c4_1, c5_1, fz1⟩ := X1.out
          clear fz1 hb1
          go_wp2_with fail
          refine (H2 _ F1.out).out.mono ?_
          rintro e w2 ⟨rfl, hb2⟩
          have B2 := Lib.hid (below_then B1.out hb2)
          have X2 := Lib.hid (X1.out.below hb2)
          have F2 := Lib.hid (F1.out.below hb2)
          obtain ⟨c0_2, c1_2, c2_2, c3_2, c4_2, c5_2, fz2⟩ := X2.out
          clear fz2 hb2
          go_wp2_with fail
          refine (C _ F2.out).out.mono ?_
          rintro e w3 ⟨rfl, hb3⟩
          have B3 := Lib.hid (below_then B2.out hb3)
          have X3 := Lib.hid (X2.out.below hb3)
          have F3 := Lib.hid (F2.out.below hb3)
          obtain ⟨c0_3, c1_3, c2_3, c3_3, c4_3, c5_3, fz3⟩ := X3.out
          clear fz3 hb3
          go_wp2
          go_ret3
          exact ⟨HV.out.symm ▸ rfl, B3.out⟩
        · have HV := Lib.hid (show fr3 (0, 0, 90) = out by rw [← hout, if_pos (.inr (.inr rfl))])
          clear hout h0
          have W0 : Below w.heap.size w (w.alloc (.cells #[.string m, .string t, .int .i64 s, .string r, .int .i64 mi, .slice A fs.length cap] 42)) := (Below.refl _ w).alloc (Nat.le_refl _) _
          have B0 := Lib.hid W0
          have X0 := Lib.hid (box6_new w (.string m) (.string t) (.int .i64 s) (.string r) (.int .i64 mi) (.slice A fs.length cap) 42)
          have F0 := Lib.hid (HF.out.below B0.out)
          clear W0
          go_enter Tryz.func20, Tryz.ntmps20
          go_wp2_with fail
          refine (H1 _ F0.out).out.mono ?_
          rintro e w1 ⟨rfl, hb1⟩
          have B1 := Lib.hid (below_then B0.out hb1)
          have X1 := Lib.hid (X0.out.below hb1)
          have F1 := Lib.hid (F0.out.below hb1)
          obtain ⟨c0_1, c1_1, c2_1, c3_1, c4_1, c5_1, fz1⟩ := X1.out
          clear fz1 hb1
          go_wp2_with fail
          refine (H2 _ F1.out).out.mono ?_
          rintro e w2 ⟨rfl, hb2⟩
          have B2 := Lib.hid (below_then B1.out hb2)
          have X2 := Lib.hid (X1.out.below hb2)
          have F2 := Lib.hid (F1.out.below hb2)
          obtain ⟨c0_2, c1_2, c2_2, c3_2, c4_2, c5_2, fz2⟩ := X2.out
          clear fz2 hb2
          go_wp2_with fail
          refine (C _ F2.out).out.mono ?_
          rintro e w3 ⟨rfl, hb3⟩
          have B3 := Lib.hid (below_then B2.out hb3)
          have X3 := Lib.hid (X2.out.below hb3)
          have F3 := Lib.hid (F2.out.below hb3)
          obtain ⟨c0_3, c1_3, c2_3, c3_3, c4_3, c5_3, fz3⟩ := X3.out
          clear fz3 hb3
          go_wp2
          go_ret3
          exact ⟨HV.out.symm ▸ rfl, B3.out⟩
  | false =>
    rw [hcd] at H2 hout
    rw [if_neg (by simp)] at hout
    clear hcd C hcc
    cases sz with
    | false =>
      have HV := Lib.hid (show fr3 (1, 0, 0) = out by rw [← hout, if_pos rfl])
      clear hout L hls hlb
      have W0 : Below w.heap.size w (w.alloc (.cells #[.string m, .string t, .int .i64 s, .string r, .int .i64 mi, .slice A fs.length cap] 42)) := (Below.refl _ w).alloc (Nat.le_refl _) _
      have B0 := Lib.hid W0
      have X0 := Lib.hid (box6_new w (.string m) (.string t) (.int .i64 s) (.string r) (.int .i64 mi) (.slice A fs.length cap) 42)
      have F0 := Lib.hid (HF.out.below B0.out)
      clear W0
      go_enter Tryz.func20, Tryz.ntmps20
      go_wp2_with fail
      refine (H1 _ F0.out).out.mono ?_
      rintro e w1 ⟨rfl, hb1⟩
      have B1 := Lib.hid (below_then B0.out hb1)
      have X1 := Lib.hid (X0.out.below hb1)
      have F1 := Lib.hid (F0.out.below hb1)
      obtain ⟨c0_1, c1_1, c2_1, c3_1, c4_1, c5_1, fz1⟩ := X1.out
      clear fz1 hb1
      go_wp2_with fail
      refine (H2 _ F1.out).out.mono ?_
      rintro e w2 ⟨rfl, hb2⟩
      have B2 := Lib.hid (below_then B1.out hb2)
      have X2 := Lib.hid (X1.out.below hb2)
      have F2 := Lib.hid (F1.out.below hb2)
      obtain ⟨c0_2, c1_2, c2_2, c3_2, c4_2, c5_2, fz2⟩ := X2.out
      clear fz2 hb2
      go_wp2
      go_ret3
      exact ⟨HV.out.symm ▸ rfl, B2.out⟩
    | true =>
      rw [if_neg (by simp)] at hout
      cases lf with
      | none =>
        simp only [rlenVal] at L
        have HV := Lib.hid (show fr3 (0, 0, 90) = out by rw [← hout])
        clear hout hls hlb
        have W0 : Below w.heap.size w (w.alloc (.cells #[.string m, .string t, .int .i64 s, .string r, .int .i64 mi, .slice A fs.length cap] 42)) := (Below.refl _ w).alloc (Nat.le_refl _) _
        have B0 := Lib.hid W0
        have X0 := Lib.hid (box6_new w (.string m) (.string t) (.int .i64 s) (.string r) (.int .i64 mi) (.slice A fs.length cap) 42)
        have F0 := Lib.hid (HF.out.below B0.out)
        clear W0
        go_enter Tryz.func20, Tryz.ntmps20
        go_wp2_with fail
        refine (H1 _ F0.out).out.mono ?_
        rintro e w1 ⟨rfl, hb1⟩
        have B1 := Lib.hid (below_then B0.out hb1)
        have X1 := Lib.hid (X0.out.below hb1)
        have F1 := Lib.hid (F0.out.below hb1)
        obtain ⟨c0_1, c1_1, c2_1, c3_1, c4_1, c5_1, fz1⟩ := X1.out
        clear fz1 hb1
        go_wp2_with fail
        refine (H2 _ F1.out).out.mono ?_
        rintro e w2 ⟨rfl, hb2⟩
        have B2 := Lib.hid (below_then B1.out hb2)
        have X2 := Lib.hid (X1.out.below hb2)
        have F2 := Lib.hid (F1.out.below hb2)
        obtain ⟨c0_2, c1_2, c2_2, c3_2, c4_2, c5_2, fz2⟩ := X2.out
        clear fz2 hb2
        go_wp2_with fail
        refine (L _ F2.out).out.mono ?_
        rintro e w3 ⟨rfl, hb3⟩
        have B3 := Lib.hid (below_then B2.out hb3)
        have X3 := Lib.hid (X2.out.below hb3)
        have F3 := Lib.hid (F2.out.below hb3)
        obtain ⟨c0_3, c1_3, c2_3, c3_3, c4_3, c5_3, fz3⟩ := X3.out
        clear fz3 hb3
        go_wp2
        go_ret3
        exact ⟨HV.out.symm ▸ rfl, B3.out⟩
      | some x =>
        cases x with
        | none => exact absurd rfl (hls rfl)
        | some n =>
          simp only [rlenVal] at L
          simp only at hout
          have hn0 := (hlb n rfl).1
          by_cases hmn : most < n
          · have HV := Lib.hid (show fr3 (0, 0, 101) = out by rw [← hout, if_pos hmn])
            clear hout hls hlb
            have W0 : Below w.heap.size w (w.alloc (.cells #[.string m, .string t, .int .i64 s, .string r, .int .i64 mi, .slice A fs.length cap] 42)) := (Below.refl _ w).alloc (Nat.le_refl _) _
            have B0 := Lib.hid W0
            have X0 := Lib.hid (box6_new w (.string m) (.string t) (.int .i64 s) (.string r) (.int .i64 mi) (.slice A fs.length cap) 42)
            have F0 := Lib.hid (HF.out.below B0.out)
            clear W0
            go_enter Tryz.func20, Tryz.ntmps20
            go_wp2_with fail
            refine (H1 _ F0.out).out.mono ?_
            rintro e w1 ⟨rfl, hb1⟩
            have B1 := Lib.hid (below_then B0.out hb1)
            have X1 := Lib.hid (X0.out.below hb1)
            have F1 := Lib.hid (F0.out.below hb1)
            obtain ⟨c0_1, c1_1, c2_1, c3_1, c4_1, c5_1, fz1⟩ := X1.out
            clear fz1 hb1
            go_wp2_with fail
            refine (H2 _ F1.out).out.mono ?_
            rintro e w2 ⟨rfl, hb2⟩
            have B2 := Lib.hid (below_then B1.out hb2)
            have X2 := Lib.hid (X1.out.below hb2)
            have F2 := Lib.hid (F1.out.below hb2)
            obtain ⟨c0_2, c1_2, c2_2, c3_2, c4_2, c5_2, fz2⟩ := X2.out
            clear fz2 hb2
            go_wp2_with fail
            refine (L _ F2.out).out.mono ?_
            rintro e w3 ⟨rfl, hb3⟩
            have B3 := Lib.hid (below_then B2.out hb3)
            have X3 := Lib.hid (X2.out.below hb3)
            have F3 := Lib.hid (F2.out.below hb3)
            obtain ⟨c0_3, c1_3, c2_3, c3_3, c4_3, c5_3, fz3⟩ := X3.out
            clear fz3 hb3
            go_wp2
            go_ret3
            exact ⟨HV.out.symm ▸ rfl, B3.out⟩
          · have HV := Lib.hid (show fr3 (2, n, 0) = out by rw [← hout, if_neg hmn])
            have hmn' : n ≤ most := by omega
            clear hout hls hlb
            have W0 : Below w.heap.size w (w.alloc (.cells #[.string m, .string t, .int .i64 s, .string r, .int .i64 mi, .slice A fs.length cap] 42)) := (Below.refl _ w).alloc (Nat.le_refl _) _
            have B0 := Lib.hid W0
            have X0 := Lib.hid (box6_new w (.string m) (.string t) (.int .i64 s) (.string r) (.int .i64 mi) (.slice A fs.length cap) 42)
            have F0 := Lib.hid (HF.out.below B0.out)
            clear W0
            go_enter Tryz.func20, Tryz.ntmps20
            go_wp2_with fail
            refine (H1 _ F0.out).out.mono ?_
            rintro e w1 ⟨rfl, hb1⟩
            have B1 := Lib.hid (below_then B0.out hb1)
            have X1 := Lib.hid (X0.out.below hb1)
            have F1 := Lib.hid (F0.out.below hb1)
            obtain ⟨c0_1, c1_1, c2_1, c3_1, c4_1, c5_1, fz1⟩ := X1.out
            clear fz1 hb1
            go_wp2_with fail
            refine (H2 _ F1.out).out.mono ?_
            rintro e w2 ⟨rfl, hb2⟩
            have B2 := Lib.hid (below_then B1.out hb2)
            have X2 := Lib.hid (X1.out.below hb2)
            have F2 := Lib.hid (F1.out.below hb2)
            obtain ⟨c0_2, c1_2, c2_2, c3_2, c4_2, c5_2, fz2⟩ := X2.out
            clear fz2 hb2
            go_wp2_with fail
            refine (L _ F2.out).out.mono ?_
            rintro e w3 ⟨rfl, hb3⟩
            have B3 := Lib.hid (below_then B2.out hb3)
            have X3 := Lib.hid (X2.out.below hb3)
            have F3 := Lib.hid (F2.out.below hb3)
            obtain ⟨c0_3, c1_3, c2_3, c3_3, c4_3, c5_3, fz3⟩ := X3.out
            clear fz3 hb3
            go_wp2
            go_ret3
            exact ⟨HV.out.symm ▸ rfl, B3.out⟩
end Go.Proofs.YtgmjkkiahanekaaGreatDoor

