/- The contracts of fields.Check and the document's Check, for every list of fields; the laws' anchor. -/
import Derived.Test.YtnoolehpooidjaaDoorFldJ
import Derived.IntWalk
set_option linter.unusedVariables false
set_option linter.unusedSimpArgs false
namespace Go.Proofs.YtnoolehpooidjaaDoor
open Go.RowKit Lex

set_option maxRecDepth 100000 in
set_option maxHeartbeats 4000000 in
theorem checkf_c (A : Option Addr) (cap : Nat) (fs : List Fd) (w : World) (hB : FB fs) (hF : Flds w A fs) :
    Calls Tryd.prog 20 #[.slice A fs.length cap] w fun e w' => e = .returned (.int .i64 (checkF fs)) ∧ Below w.heap.size w w' := by
  have HF := Lib.hid hF
  have HB := Lib.hid hB
  have hl := hB.len
  clear hF hB
  go_enter Tryd.func20, Tryd.ntmps20
  go_wp2
  go_loopw [4, 7] (fun _ i wr => ∃ k : Nat, k ≤ fs.length ∧ i = .int .i64 k ∧ (∀ f ∈ fs.take k, badF f = false) ∧ Below w.heap.size w wr) (fun _ i _ => fs.length - (intOf i).toNat)
  case atStart => exact ⟨0, Nat.zero_le _, rfl, by simp, Below.refl _ _⟩
  case round =>
    obtain ⟨k, hk, rfl, ha, hB⟩ := hrel
    have HA := Lib.hid ha
    clear ha
    by_cases hlt : k < fs.length
    · obtain ⟨g, o, hA, c1, c2⟩ := HF.out.below hB k hlt
      subst hA
      have hg := World.block_lt_of_cell? wr _ c1
      have hn1 := HB.out.nm _ (List.getElem_mem hlt)
      have hn2 := HB.out.vl _ (List.getElem_mem hlt)
      have TK := fun w => Lib.hid (token_c (bs fs[k].1) w (Nat.le_trans hn1 (by decide)))
      have VL := fun w => Lib.hid (value_c (bs fs[k].2) w (Nat.le_trans hn2 (by decide)))
      have HBAD := Lib.hid (checkF_bad (l := fs) hlt)
      have HGOOD := Lib.hid (all_take_good hlt HA.out)
      rw [bs_list] at TK VL
      obtain ⟨f, hf⟩ : ∃ f, fs[k] = f := ⟨_, rfl⟩
      rw [hf] at c1 c2 TK VL HBAD HGOOD hn1 hn2
      clear hf
      have hbf : badF f = (!token f.1 || !value f.2 || decide (512 < f.1.length + f.2.length)) := rfl
      rw [hbf] at HBAD HGOOD
      clear hbf
      cases ht : token f.1 with
      | false =>
        rw [ht] at TK HBAD HGOOD
        have HY := Lib.hid (HBAD.out (by rfl))
        clear ht HBAD HGOOD
        go_wp2_with (go_at_call 32; refine (TK _).out.mono ?_; rintro e w1 ⟨rfl, rfl⟩)
        go_ret
        exact ⟨ret_int HY.out.symm, hB.alloc hB.size _⟩
      | true =>
        cases hv : value f.2 with
        | false =>
          rw [ht] at TK HBAD HGOOD
          rw [hv] at VL HBAD HGOOD
          have HY := Lib.hid (HBAD.out (by rfl))
          clear ht hv HBAD HGOOD
          go_wp2_with (first | (go_at_call 32; refine (TK _).out.mono ?_; rintro e w1 ⟨rfl, rfl⟩) | (go_at_call 33; refine (VL _).out.mono ?_; rintro e w2 ⟨rfl, hb2⟩))
          go_ret
          exact ⟨ret_int HY.out.symm, below_then hB (belowA hb2)⟩
        | true =>
          rw [ht] at TK HBAD HGOOD
          rw [hv] at VL HBAD HGOOD
          clear ht hv
          have z1 : (bs f.1).size = f.1.length := rfl
          have z2 : (bs f.2).size = f.2.length := rfl
          by_cases h5 : 512 < f.1.length + f.2.length
          · have HY := Lib.hid (HBAD.out (by rw [decide_eq_true h5]; rfl))
            have h5' : (512 : Int) < (f.1.length : Int) + (f.2.length : Int) := by omega
            clear HBAD HGOOD
            go_wp2_with fail
            refine (TK _).out.mono ?_
            rintro e w1 ⟨rfl, rfl⟩
            go_wp2_with fail
            refine (VL _).out.mono ?_
            rintro e w2 ⟨rfl, hb2⟩
            have d1 := held1 hb2 (cell_first wr (.string (bs f.1)) (.string (bs f.2)) 30)
            have d2 := held1 hb2 (cell_second wr (.string (bs f.1)) (.string (bs f.2)) 30)
            have HB2 := Lib.hid (below_then hB (belowA hb2))
            clear hb2 c1 c2
            go_wp2
            go_ret
            exact ⟨ret_int HY.out.symm, HB2.out⟩
          · have HN := Lib.hid (HGOOD.out (by rw [decide_eq_false h5]; rfl))
            have h5' : (f.1.length : Int) + (f.2.length : Int) ≤ 512 := by omega
            clear HBAD HGOOD
            go_wp2_with fail
            refine (TK _).out.mono ?_
            rintro e w1 ⟨rfl, rfl⟩
            go_wp2_with fail
            refine (VL _).out.mono ?_
            rintro e w2 ⟨rfl, hb2⟩
            have d1 := held1 hb2 (cell_first wr (.string (bs f.1)) (.string (bs f.2)) 30)
            have d2 := held1 hb2 (cell_second wr (.string (bs f.1)) (.string (bs f.2)) 30)
            have HB2 := Lib.hid (below_then hB (belowA hb2))
            clear hb2 c1 c2
            go_wp2
            go_roundw
            case rel => exact ⟨k + 1, by omega, by go_num, HN.out, HB2.out⟩
            case measure => simp [intOf]; omega
    · obtain rfl : k = fs.length := by omega
      have ha := HA.out
      rw [List.take_length] at ha
      by_cases h32 : 32 < fs.length
      · have HY := Lib.hid (checkF_many ha h32)
        clear ha
        go_wp2
        go_ret
        exact ⟨ret_int HY.out.symm, hB⟩
      · have HY := Lib.hid (checkF_ok ha h32)
        clear ha
        go_wp2
        go_ret
        exact ⟨ret_int HY.out.symm, hB⟩

set_option maxRecDepth 100000 in
set_option maxHeartbeats 8000000 in
theorem rcheckf_c (A : Option Addr) (cap : Nat) (fs : List Fd) (w : World) (hB : FB fs) (hF : Flds w A fs) :
    Calls Tryd.prog 22 #[.slice A fs.length cap] w fun e w' => e = .returned (.int .i64 (checkF fs)) ∧ Below w.heap.size w w' := by
  have HF := Lib.hid hF
  have HB := Lib.hid hB
  have hl := hB.len
  clear hF hB
  go_enter Tryd.func22, Tryd.ntmps22
  go_wp2
  go_loopw [3] (fun i wr => ∃ k : Nat, k ≤ fs.length ∧ i = .int .i64 k ∧ (∀ f ∈ fs.take k, badF f = false) ∧ Below w.heap.size w wr) (fun i _ => fs.length - (intOf i).toNat)
  case atStart => exact ⟨0, Nat.zero_le _, rfl, by simp, Below.refl _ _⟩
  case round =>
    obtain ⟨k, hk, rfl, ha, hB⟩ := hrel
    have HA := Lib.hid ha
    clear ha
    by_cases hlt : k < fs.length
    · obtain ⟨g, o, hA, c1, c2⟩ := HF.out.below hB k hlt
      subst hA
      have hn1 := HB.out.nm _ (List.getElem_mem hlt)
      have hn2 := HB.out.vl _ (List.getElem_mem hlt)
      have TK := fun w => ((rtoken_c (bs fs[k].1) w (Nat.le_trans hn1 (by decide))).mono fun e w' (h : e = _ ∧ w = w') => (⟨h.1, h.2.symm⟩ : e = _ ∧ w' = w))
      have VL := fun w => ((rvalue_c (bs fs[k].2) w (Nat.le_trans hn2 (by decide))).mono fun e w' (h : e = _ ∧ w = w') => (⟨h.1, h.2.symm⟩ : e = _ ∧ w' = w))
      have HBAD := Lib.hid (checkF_bad (l := fs) hlt)
      have HGOOD := Lib.hid (all_take_good hlt HA.out)
      rw [bs_list] at TK VL
      obtain ⟨f, hf⟩ : ∃ f, fs[k] = f := ⟨_, rfl⟩
      rw [hf] at c1 c2 TK VL HBAD HGOOD hn1 hn2
      clear hf
      have hbf : badF f = (!token f.1 || !value f.2 || decide (512 < f.1.length + f.2.length)) := rfl
      rw [hbf] at HBAD HGOOD
      have HTK := fun w => Lib.hid (TK w)
      have HVL := fun w => Lib.hid (VL w)
      clear hbf TK VL
      have k0 : (0 : Int) ≤ (k : Int) := by omega
      have k1 : (k : Int) < (fs.length : Int) := by omega
      cases ht : token f.1 with
      | false =>
        rw [ht] at HTK HBAD HGOOD
        have HY := Lib.hid (HBAD.out (by rfl))
        clear ht HBAD HGOOD
        go_wp2
        go_quiet ((go_at_call 34; exact Calls.quiet_of_same (HTK _).out))
        go_wp2
        go_ret
        exact ⟨ret_int HY.out.symm, hB.trans ⟨rfl, rfl, rfl, Nat.le_refl _, fun _ _ => rfl⟩⟩
      | true =>
        cases hv : value f.2 with
        | false =>
          rw [ht] at HTK HBAD HGOOD
          rw [hv] at HVL HBAD HGOOD
          have HY := Lib.hid (HBAD.out (by rfl))
          clear ht hv HBAD HGOOD
          go_wp2
          go_quiet ((first | (go_at_call 34; exact Calls.quiet_of_same (HTK _).out) | (go_at_call 35; exact Calls.quiet_of_same (HVL _).out)))
          go_wp2
          go_ret
          exact ⟨ret_int HY.out.symm, hB.trans ⟨rfl, rfl, rfl, Nat.le_refl _, fun _ _ => rfl⟩⟩
        | true =>
          rw [ht] at HTK HBAD HGOOD
          rw [hv] at HVL HBAD HGOOD
          clear ht hv
          have e1 : IntKind.i64.wrap ((f.1.length : Int) + (f.2.length : Int)) = (f.1.length : Int) + f.2.length := IntWalk.i64_in _ (by omega)
          by_cases h5 : 512 < f.1.length + f.2.length
          · have HY := Lib.hid (HBAD.out (by rw [decide_eq_true h5]; rfl))
            have h5' : (512 : Int) < (f.1.length : Int) + (f.2.length : Int) := by omega
            clear HBAD HGOOD
            go_wp2
            go_quiet ((first | (go_at_call 34; exact Calls.quiet_of_same (HTK _).out) | (go_at_call 35; exact Calls.quiet_of_same (HVL _).out)))
            clear e1
            go_wp2
            go_ret
            exact ⟨ret_int HY.out.symm, hB.trans ⟨rfl, rfl, rfl, Nat.le_refl _, fun _ _ => rfl⟩⟩
          · have HN := Lib.hid (HGOOD.out (by rw [decide_eq_false h5]; rfl))
            have h5' : (f.1.length : Int) + (f.2.length : Int) ≤ 512 := by omega
            clear HBAD HGOOD
            go_wp2
            go_quiet ((first | (go_at_call 34; exact Calls.quiet_of_same (HTK _).out) | (go_at_call 35; exact Calls.quiet_of_same (HVL _).out)))
            clear e1
            go_wp2
            go_roundw
            case rel => exact ⟨k + 1, by omega, by go_num, HN.out, hB.trans ⟨rfl, rfl, rfl, Nat.le_refl _, fun _ _ => rfl⟩⟩
            case measure => simp [intOf]; omega
    · obtain rfl : k = fs.length := by omega
      have ha := HA.out
      rw [List.take_length] at ha
      by_cases h32 : 32 < fs.length
      · have HY := Lib.hid (checkF_many ha h32)
        clear ha
        go_wp2
        go_ret
        exact ⟨ret_int HY.out.symm, hB⟩
      · have HY := Lib.hid (checkF_ok ha h32)
        clear ha
        go_wp2
        go_ret
        exact ⟨ret_int HY.out.symm, hB⟩

def anchorL : List Fd := [(conn, [99, 108, 111, 115, 101, 44, 32, 88, 45, 65]), ([120, 45, 97], [49]), ([72, 111, 115, 116], [104]), ([84, 69], [116, 114, 97, 105, 108, 101, 114, 115])]
theorem flds_new (w : World) (C : Array Value) (T : TypeId) (l : List Fd) (hC : C.toList = fvals l) : Flds (w.alloc (.cells C T)) (some ⟨w.heap.size, 0, none⟩) l := by
  intro j hj
  obtain ⟨h1, h2⟩ := fvals_at l j hj
  rw [← hC, Array.getElem?_toList] at h1 h2
  exact ⟨w.heap.size, 0, rfl, by rw [Nat.zero_add, World.cell?_alloc_new]; exact h1, by rw [Nat.zero_add, World.cell?_alloc_new]; exact h2⟩

set_option maxRecDepth 100000 in
set_option maxHeartbeats 4000000 in
theorem anchor7_c (m : Int) (w : World) (hm : w.cell? ⟨0, 0, none⟩ = some (.int .i64 m)) : Calls Tryd.prog 9 #[] w fun e w' => e = .returned (.bool true) ∧ Below w.heap.size w w' := by
  have hfb : FB anchorL := ⟨by decide +kernel, by decide +kernel, by decide +kernel⟩
  have HF := Lib.hid (flds_new w #[.string ⟨#[67, 111, 110, 110, 101, 99, 116, 105, 111, 110]⟩, .string ⟨#[99, 108, 111, 115, 101, 44, 32, 88, 45, 65]⟩, .string ⟨#[120, 45, 97]⟩, .string ⟨#[49]⟩, .string ⟨#[72, 111, 115, 116]⟩, .string ⟨#[104]⟩, .string ⟨#[84, 69]⟩, .string ⟨#[116, 114, 97, 105, 108, 101, 114, 115]⟩] 30 anchorL rfl)
  have HM := Lib.hid (held1 ((Below.refl _ _).alloc (Nat.le_refl _) (.cells #[.string ⟨#[67, 111, 110, 110, 101, 99, 116, 105, 111, 110]⟩, .string ⟨#[99, 108, 111, 115, 101, 44, 32, 88, 45, 65]⟩, .string ⟨#[120, 45, 97]⟩, .string ⟨#[49]⟩, .string ⟨#[72, 111, 115, 116]⟩, .string ⟨#[104]⟩, .string ⟨#[84, 69]⟩, .string ⟨#[116, 114, 97, 105, 108, 101, 114, 115]⟩] 30)) hm)
  have ST := fun w' h h2 => Lib.hid (stripf_c (some ⟨w.heap.size, 0, none⟩) 4 anchorL m w' hfb (fun e => by cases e) h h2)
  have HS := fun w' h h2 => Lib.hid (hasf_c (some ⟨w.heap.size, 0, none⟩) 4 anchorL ⟨#[99, 111, 110, 110, 101, 99, 116, 105, 111, 110]⟩ ⟨#[67, 76, 79, 83, 69]⟩ m w' (by decide) (by decide) hfb h h2)
  rw [show stripF anchorL = [([72, 111, 115, 116], [104])] from by decide +kernel] at ST
  rw [show hasF anchorL (⟨#[99, 111, 110, 110, 101, 99, 116, 105, 111, 110]⟩ : ByteArray).data.toList (⟨#[67, 76, 79, 83, 69]⟩ : ByteArray).data.toList = true from by decide +kernel] at HS
  clear hm
  go_enter Tryd.func9, Tryd.ntmps9
  go_wp2_with fail
  refine (ST _ HF.out HM.out).out.mono ?_
  rintro e w1 ⟨v, rfl, ho, hb⟩
  obtain ⟨a, c, rfl, _, hF1⟩ := own_flds ho
  obtain ⟨g, o, rfl, d1, d2⟩ := hF1 0 (by decide)
  have HB := Lib.hid (belowA hb)
  have HF1 := Lib.hid (HF.out.below hb)
  have HM1 := Lib.hid (held1 hb HM.out)
  simp only [Nat.zero_mul, Nat.add_zero, List.getElem_cons_zero] at d1 d2
  clear hb ho hF1
  go_wp2_with fail
  refine (HS _ HF1.out HM1.out).out.mono ?_
  rintro e w2 ⟨rfl, hb2⟩
  go_wp2
  go_ret
  exact ⟨rfl, below_then HB.out hb2⟩
end Go.Proofs.YtnoolehpooidjaaDoor
