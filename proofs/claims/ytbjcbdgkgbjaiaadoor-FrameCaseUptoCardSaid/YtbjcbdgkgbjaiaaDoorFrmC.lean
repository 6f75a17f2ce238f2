/- The contract of frame.coding over every head. -/
import Derived.Test.YtbjcbdgkgbjaiaaDoorFrmB
set_option linter.unusedVariables false
set_option linter.unusedSimpArgs false
namespace Go.Proofs.YtbjcbdgkgbjaiaaDoor
open Go.RowKit Lex

theorem elementsF_lowN {a b : List UInt8} (h : lower a = lower b) (l : List Fd) : elementsF l a = elementsF l b := by unfold elementsF; rw [valuesF_low h]
theorem code_not {l : List (List UInt8)} (h : countC l ≠ 1) : codeL l = 3 := by
  by_cases hl : l = []
  · subst hl; rfl
  · exact Classical.byContradiction fun h3 => h ((code_last hl).1 h3).1
def codeVal (c : Int) : Value := .tuple #[.bool (decide (c = 1)), .bool (decide (c ≠ 3))]
set_option maxRecDepth 100000 in
set_option maxHeartbeats 4000000 in
theorem coding_c (m t : ByteArray) (s : Int) (r : ByteArray) (mi : Int) (A : Option Addr) (cap : Nat) (fs : List Fd) (M : Int) (w : World) (hB : FB fs) (hF : Flds w A fs) (hm : w.cell? ⟨0, 0, none⟩ = some (.int .i64 M)) :
    Calls Tryd.prog 22 #[hv m t s r mi A fs.length cap] w fun e w' => e = .returned (codeVal (codeF fs)) ∧ Below w.heap.size w w' := by
  have EL := fun w h hm => Lib.hid (elementsf_c A cap fs ⟨#[84, 114, 97, 110, 115, 102, 101, 114, 45, 69, 110, 99, 111, 100, 105, 110, 103]⟩ M w (by decide) hB.len (fun f hf => Nat.le_trans (hB.nm f hf) (by decide)) (fun f hf => Nat.le_trans (hB.vl f hf) (by decide)) h hm)
  rw [show (ByteArray.mk #[84, 114, 97, 110, 115, 102, 101, 114, 45, 69, 110, 99, 111, 100, 105, 110, 103]).data.toList = tencU from rfl, elementsF_lowN tenc_low] at EL
  have hmem := fun x h => elementsF_mem (name := tencL) (x := x) hB h
  have HMM := Lib.hid hmem
  have hlen := elementsF_length hB fs.length tencL
  rw [List.take_length] at hlen
  have HF := Lib.hid (hF.below ((Below.refl _ w).alloc (Nat.le_refl _) (.cells #[.string m, .string t, .int .i64 s, .string r, .int .i64 mi, .slice A fs.length cap] 24)))
  have HM := Lib.hid (held1 ((Below.refl _ w).alloc (Nat.le_refl _) (.cells #[.string m, .string t, .int .i64 s, .string r, .int .i64 mi, .slice A fs.length cap] 24)) hm)
  unfold codeF
  clear hmem hB hF hm
  generalize elementsF fs tencL = l at *
  generalize hout : codeVal (codeL l) = out
  have HOUT := Lib.hid hout
  clear hout
  unfold hv
  go_enter Tryd.func22, Tryd.ntmps22
  go_wp2_with fail
  refine (EL _ HF.out HM.out).out.mono ?_
  rintro e w1 ⟨v, rfl, hown, hb⟩
  have HB1 := Lib.hid (belowA hb)
  obtain ⟨a, c, rfl⟩ := own_slice' hown
  have HT := Lib.hid (texts_of hown)
  clear hown hb
  go_wp2
  go_loopw [5, 7, 13] (fun n _ i wr => ∃ k : Nat, k ≤ l.length ∧ i = .int .i64 k ∧ n = .int .i64 (countC (l.take k)) ∧ Below w1.heap.size w1 wr) (fun _ _ i _ => l.length - (intOf i).toNat)
  case atStart => exact ⟨0, Nat.zero_le _, rfl, rfl, Below.refl _ _⟩
  case round =>
    obtain ⟨k, hk, rfl, rfl, hB⟩ := hrel
    have hcl : countC (l.take k) ≤ l.length := by
      unfold countC
      exact Nat.le_trans (List.length_filter_le _ _) (by rw [List.length_take]; omega)
    by_cases hlt : k < l.length
    · obtain ⟨g, hA, c1⟩ := HT.out.below hB k hlt
      subst hA
      have AL := fun w => Lib.hid (alike_c (bs l[k]) ⟨#[99, 104, 117, 110, 107, 101, 100]⟩ w (Nat.le_trans (HMM.out _ (List.getElem_mem hlt)) (by decide)) (by decide))
      rw [bs_list, show (ByteArray.mk #[99, 104, 117, 110, 107, 101, 100]).data.toList = chunkedL from rfl] at AL
      have HC := Lib.hid (countC_snoc l k hlt)
      have hchk : chk l[k] = alike l[k] chunkedL := rfl
      cases hal : alike l[k] chunkedL with
      | true =>
        have HC2 := Lib.hid (show countC (l.take (k + 1)) = countC (l.take k) + 1 by rw [HC.out, hchk, hal]; rfl)
        rw [hal] at AL
        clear hal hchk HC
        generalize countC (l.take k) = q at *
        go_wp2_with (go_at_call 34; refine (AL _).out.mono ?_; rintro e w2 ⟨rfl, hb2⟩)
        go_roundw
        case rel => exact ⟨k + 1, by omega, by go_num, by rw [HC2.out]; go_num, below_then hB hb2⟩
        case measure => simp [intOf]; omega
      | false =>
        have HC2 := Lib.hid (show countC (l.take (k + 1)) = countC (l.take k) by rw [HC.out, hchk, hal]; rfl)
        rw [hal] at AL
        clear hal hchk HC
        generalize countC (l.take k) = q at *
        go_wp2_with (go_at_call 34; refine (AL _).out.mono ?_; rintro e w2 ⟨rfl, hb2⟩)
        go_roundw
        case rel => exact ⟨k + 1, by omega, by go_num, by rw [HC2.out], below_then hB hb2⟩
        case measure => simp [intOf]; omega
    · obtain rfl : k = l.length := by omega
      rw [List.take_length] at hcl ⊢
      have HB2 := Lib.hid (below_then HB1.out hB)
      by_cases h1 : countC l = 1
      · have hl : l ≠ [] := by rintro rfl; cases h1
        have hpos : 0 < l.length := List.length_pos_iff.2 hl
        obtain ⟨g, hA, c1⟩ := HT.out.below hB (l.length - 1) (by omega)
        subst hA
        have hlast : l[l.length - 1] = l.getLast hl := (List.getLast_eq_getElem hl).symm
        have hcode := code_last hl
        have AL := fun w => Lib.hid (alike_c (bs l[l.length - 1]) ⟨#[99, 104, 117, 110, 107, 101, 100]⟩ w (Nat.le_trans (HMM.out _ (List.getElem_mem (by omega))) (by decide)) (by decide))
        rw [bs_list, show (ByteArray.mk #[99, 104, 117, 110, 107, 101, 100]).data.toList = chunkedL from rfl] at AL
        have hchk : chk (l.getLast hl) = alike l[l.length - 1] chunkedL := by rw [hlast]; rfl
        rw [hchk] at hcode
        rw [h1]
        have hp1 : (0 : Int) ≤ (l.length : Int) - 1 := by omega
        cases hal : alike l[l.length - 1] chunkedL with
        | true =>
          rw [hal] at AL hcode
          have h3 : codeL l ≠ 3 := hcode.2 ⟨h1, rfl⟩
          have ha := code_alone h3
          by_cases hl1 : l.length = 1
          · have HV := Lib.hid (show out = .tuple #[.bool true, .bool true] by rw [← HOUT.out]; unfold codeVal; rw [decide_eq_true (ha.2 hl1), decide_eq_true h3])
            have hlb : ((l.length : Int) == 1) = true := by rw [hl1]; rfl
            clear ha h3 hcode hal hchk hlast h1 hl1 HOUT
            go_wp2_with (go_at_call 34; refine (AL _).out.mono ?_; rintro e w2 ⟨rfl, hb2⟩)
            go_ret2
            exact ⟨by rw [HV.out]; rfl, below_then HB2.out hb2⟩
          · have HV := Lib.hid (show out = .tuple #[.bool false, .bool true] by rw [← HOUT.out]; unfold codeVal; rw [decide_eq_false (fun h => hl1 (ha.1 h)), decide_eq_true h3])
            have hlb : ((l.length : Int) == 1) = false := by rw [beq_eq_false_iff_ne]; omega
            clear ha h3 hcode hal hchk hlast h1 hl1 HOUT
            go_wp2_with (go_at_call 34; refine (AL _).out.mono ?_; rintro e w2 ⟨rfl, hb2⟩)
            go_ret2
            exact ⟨by rw [HV.out]; rfl, below_then HB2.out hb2⟩
        | false =>
          rw [hal] at AL hcode
          have h3 : codeL l = 3 := Classical.byContradiction fun h => by have := (hcode.1 h).2; cases this
          have HV := Lib.hid (show out = .tuple #[.bool false, .bool false] by rw [← HOUT.out, h3]; rfl)
          clear h3 hcode hal hchk hlast h1 HOUT
          go_wp2_with (go_at_call 34; refine (AL _).out.mono ?_; rintro e w2 ⟨rfl, hb2⟩)
          go_ret2
          exact ⟨by rw [HV.out]; rfl, below_then HB2.out hb2⟩
      · have HV := Lib.hid (show out = .tuple #[.bool false, .bool false] by rw [← HOUT.out, code_not h1]; rfl)
        have hb1 : ((countC l : Int) == 1) = false := by rw [beq_eq_false_iff_ne]; omega
        clear HOUT h1
        generalize countC l = q at *
        go_wp2
        go_ret2
        exact ⟨by rw [HV.out]; rfl, HB2.out⟩
end Go.Proofs.YtbjcbdgkgbjaiaaDoor
