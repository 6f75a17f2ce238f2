/- The contract of the document's Check; the walk over HeadWritten. -/
import Derived.Test.YtjbmipbjlhcooaaDoorHdN
import Derived.Test.YtjbmipbjlhcooaaDoorHdAc
import Derived.IntWalk
import Derived.BigQuiet
set_option linter.unusedVariables false
set_option linter.unusedSimpArgs false
namespace Go.Proofs.YtjbmipbjlhcooaaDoor
open Go.RowKit Lex

/-- The bounds of a list of fields. -/
structure FB (fs : List Fd) : Prop where
  len : fs.length ≤ 1048600
  nm : ∀ f ∈ fs, f.1.length ≤ 4194304
  vl : ∀ f ∈ fs, f.2.length ≤ 4194304
set_option maxRecDepth 100000 in
set_option maxHeartbeats 8000000 in
theorem rcheckf_c (A : Option Addr) (cap : Nat) (fs : List Fd) (w : World) (hB : FB fs) (hF : Flds w A fs) :
    Calls Tryd.prog 29 #[.slice A fs.length cap] w fun e w' => e = .returned (.int .i64 (checkF fs)) ∧ Below w.heap.size w w' := by
  have HF := Lib.hid hF
  have HB := Lib.hid hB
  have hl := hB.len
  clear hF hB
  go_enter Tryd.func29, Tryd.ntmps29
  go_wp2
  go_loopw [3] (fun i wr => ∃ k : Nat, k ≤ fs.length ∧ i = .int .i64 k ∧ (∀ f ∈ fs.take k, badF f = false) ∧ Below w.heap.size w wr) (fun i _ => fs.length - (intOf i).toNat)
  case atStart => exact ⟨0, Nat.zero_le _, rfl, by simp, Below.refl _ _⟩
  case round =>
    obtain ⟨k, hk, rfl, ha, hB⟩ := hrel
    have HA := Lib.hid ha
    clear ha
    by_cases hlt : k < fs.length
    · obtain ⟨g, o, hA, c1, c2⟩ := HF.out.below hB k hlt
      subst hA
      have hn1 := HB.out.nm _ (List.getElem_mem hlt)
      have hn2 := HB.out.vl _ (List.getElem_mem hlt)
      have TK := fun w => ((rtoken_c (bs fs[k].1) w (Nat.le_trans hn1 (by decide))).mono fun e w' (h : e = _ ∧ w = w') => (⟨h.1, h.2.symm⟩ : e = _ ∧ w' = w))
      have VL := fun w => ((rvalue_c (bs fs[k].2) w (Nat.le_trans hn2 (by decide))).mono fun e w' (h : e = _ ∧ w = w') => (⟨h.1, h.2.symm⟩ : e = _ ∧ w' = w))
      have HBAD := Lib.hid (checkF_bad (l := fs) hlt)
      have HGOOD := Lib.hid (all_take_good hlt HA.out)
      rw [bs_list] at TK VL
      obtain ⟨f, hf⟩ : ∃ f, fs[k] = f := ⟨_, rfl⟩
      rw [hf] at c1 c2 TK VL HBAD HGOOD hn1 hn2
      clear hf
      have hbf : badF f = (!token f.1 || !value f.2 || decide (512 < f.1.length + f.2.length)) := rfl
      rw [hbf] at HBAD HGOOD
      have HTK := fun w => Lib.hid (TK w)
      have HVL := fun w => Lib.hid (VL w)
      clear hbf TK VL
      have k0 : (0 : Int) ≤ (k : Int) := by omega
      have k1 : (k : Int) < (fs.length : Int) := by omega
      cases ht : token f.1 with
      | false =>
        rw [ht] at HTK HBAD HGOOD
        have HY := Lib.hid (HBAD.out (by rfl))
        clear ht HBAD HGOOD
        go_wp2
        go_quiet ((go_at_call 28; exact Calls.quiet_of_same (HTK _).out))
        go_wp2
        go_ret
        exact ⟨ret_int HY.out.symm, hB.trans ⟨rfl, rfl, rfl, Nat.le_refl _, fun _ _ => rfl⟩⟩
      | true =>
        cases hv : value f.2 with
        | false =>
          rw [ht] at HTK HBAD HGOOD
          rw [hv] at HVL HBAD HGOOD
          have HY := Lib.hid (HBAD.out (by rfl))
          clear ht hv HBAD HGOOD
          go_wp2
          go_quiet ((first | (go_at_call 28; exact Calls.quiet_of_same (HTK _).out) | (go_at_call 50; exact Calls.quiet_of_same (HVL _).out)))
          go_wp2
          go_ret
          exact ⟨ret_int HY.out.symm, hB.trans ⟨rfl, rfl, rfl, Nat.le_refl _, fun _ _ => rfl⟩⟩
        | true =>
          rw [ht] at HTK HBAD HGOOD
          rw [hv] at HVL HBAD HGOOD
          clear ht hv
          have e1 : IntKind.i64.wrap ((f.1.length : Int) + (f.2.length : Int)) = (f.1.length : Int) + f.2.length := IntWalk.i64_in _ (by omega)
          by_cases h5 : 512 < f.1.length + f.2.length
          · have HY := Lib.hid (HBAD.out (by rw [decide_eq_true h5]; rfl))
            have h5' : (512 : Int) < (f.1.length : Int) + (f.2.length : Int) := by omega
            clear HBAD HGOOD
            go_wp2
            go_quiet ((first | (go_at_call 28; exact Calls.quiet_of_same (HTK _).out) | (go_at_call 50; exact Calls.quiet_of_same (HVL _).out)))
            clear e1
            go_wp2
            go_ret
            exact ⟨ret_int HY.out.symm, hB.trans ⟨rfl, rfl, rfl, Nat.le_refl _, fun _ _ => rfl⟩⟩
          · have HN := Lib.hid (HGOOD.out (by rw [decide_eq_false h5]; rfl))
            have h5' : (f.1.length : Int) + (f.2.length : Int) ≤ 512 := by omega
            clear HBAD HGOOD
            go_wp2
            go_quiet ((first | (go_at_call 28; exact Calls.quiet_of_same (HTK _).out) | (go_at_call 50; exact Calls.quiet_of_same (HVL _).out)))
            clear e1
            go_wp2
            go_roundw
            case rel => exact ⟨k + 1, by omega, by go_num, HN.out, hB.trans ⟨rfl, rfl, rfl, Nat.le_refl _, fun _ _ => rfl⟩⟩
            case measure => simp [intOf]; omega
    · obtain rfl : k = fs.length := by omega
      have ha := HA.out
      rw [List.take_length] at ha
      by_cases h32 : 32 < fs.length
      · have HY := Lib.hid (checkF_many ha h32)
        clear ha
        go_wp2
        go_ret
        exact ⟨ret_int HY.out.symm, hB⟩
      · have HY := Lib.hid (checkF_ok ha h32)
        clear ha
        go_wp2
        go_ret
        exact ⟨ret_int HY.out.symm, hB⟩


theorem checkF_zero {l : List Fd} (h : checkF l = 0) : (∀ f ∈ l, badF f = false) ∧ l.length ≤ 32 := by
  unfold checkF at h
  by_cases h1 : l.any badF = true
  · rw [if_pos h1] at h; exact absurd h (by decide)
  · rw [if_neg h1] at h
    by_cases h2 : 32 < l.length
    · rw [if_pos h2] at h; exact absurd h (by decide)
    · refine ⟨fun f hf => ?_, by omega⟩
      cases hb : badF f
      · rfl
      · exact absurd (List.any_eq_true.2 ⟨f, hf, hb⟩) h1
theorem blank_cases (c : UInt8) : (blankB c = true ∧ ((((c.toNat : Int) != 32) = false) ∨ (((c.toNat : Int) != 32) = true ∧ ((c.toNat : Int) != 9) = false))) ∨ (blankB c = false ∧ ((c.toNat : Int) != 32) = true ∧ ((c.toNat : Int) != 9) = true) := by
  have key : ∀ c : Fin 256, (blankB (UInt8.ofNat c.val) = true ∧ ((((c.val : Int) != 32) = false) ∨ (((c.val : Int) != 32) = true ∧ ((c.val : Int) != 9) = false))) ∨ (blankB (UInt8.ofNat c.val) = false ∧ ((c.val : Int) != 32) = true ∧ ((c.val : Int) != 9) = true) := by decide +kernel
  have := key ⟨c.toNat, c.toNat_lt⟩
  simpa using this
theorem flines_take {b : List UInt8} {l : List Fd} {k : Nat} (h : k < l.length) : flines b (l.take (k + 1)) = flines b (l.take k) ++ (fline b l[k] ++ [13, 10]) := by
  rw [List.take_add_one, List.getElem?_eq_getElem h]
  exact flines_snoc b (l.take k) l[k]
theorem flines_bound {b : List UInt8} (hb : b.length ≤ 10) : ∀ (l : List Fd), (∀ f ∈ l, f.1.length + f.2.length ≤ 490) → (flines b l).length ≤ 520 * l.length
  | [], _ => Nat.zero_le _
  | f :: l, h => by
    have h1 := h f (by simp)
    have h2 := flines_bound hb l (fun g hg => h g (by simp [hg]))
    simp only [flines, List.length_append, List.length_cons, fline_length]
    omega
set_option maxRecDepth 100000 in
set_option maxHeartbeats 16000000 in
theorem written_walk {W : World} (m : ByteArray) (hm : m.size ≤ 1048576) (t : ByteArray) (ht : t.size ≤ 1048576) (A : Option Addr) (cap : Nat) (l : List Fd) (hA : A = none → cap = 0) (hF : Flds W A l)
    (hl : l.length ≤ 1048576 ∧ ∀ f ∈ l, f.1.length ≤ 1048576 ∧ f.2.length ≤ 1048576) (b : ByteArray) (hb : b.size ≤ 1048576) (M : Int) (W2 : World) (hW : W2 = W) (hM : W2.cell? ⟨0, 0, none⟩ = some (.int .i64 M)) :
    Calls Tryd.prog 9 #[.string m, .string t, .slice A l.length cap, .string b] W2 fun e w' => e = .returned (.bool true) ∧ Below W2.heap.size W2 w' := by
  subst hW
  have hfb : FB l := ⟨by have := hl.1; omega, fun f hf => by have := (hl.2 f hf).1; omega, fun f hf => by have := (hl.2 f hf).2; omega⟩
  have HF := Lib.hid hF
  have HFB := Lib.hid hfb
  have AN := Lib.hid (anchor8_c M W2 hM)
  have HM := Lib.hid hM
  have hln := hl.1
  clear hF hfb hM hA hl
  go_enter Tryd.func9, Tryd.ntmps9
  go_wp2_with fail
  refine AN.out.mono ?_
  rintro e' w1 ⟨rfl, hb1⟩
  have B1 := Lib.hid hb1
  have M1 := Lib.hid (cell_below hb1 HM.out)
  have F1 := Lib.hid (HF.out.below hb1)
  clear hb1
  go_wp2_with fail
  go_loop [21] (fun i => ∃ k : Nat, k ≤ b.size ∧ i = .int .i64 k ∧ (b.data.toList.take k).all blankB = true) (fun i => b.size - (intOf i).toNat)
  case atStart => exact ⟨0, Nat.zero_le _, rfl, rfl⟩
  case round =>
    obtain ⟨k, hk, rfl, hall⟩ := hrel
    have HA := Lib.hid hall
    clear hall
    by_cases hlt : k < b.size
    · rcases blank_cases b[k] with ⟨hbk, cs⟩ | ⟨hbk, p1, p2⟩
      · have HN := Lib.hid (all_take_snoc blankB b k hlt HA.out hbk)
        clear hbk
        rcases cs with p1 | ⟨p1, p2⟩
        all_goals
          go_wp2_with fail
          go_round
          case rel => exact ⟨k + 1, by omega, by go_num, HN.out⟩
          case measure => simp [intOf]; omega
      · clear hbk
        go_wp2_with fail
        go_ret
        exact ⟨rfl, B1.out⟩
    · have HBL : Hid (b.data.toList.all blankB = true) := Lib.hid (by have := HA.out; rw [take_all _ k hlt] at this; exact this)
      clear HA
      go_wp2_with fail
      go_loop [37] (fun i => ∃ k : Nat, k ≤ t.size ∧ i = .int .i64 k ∧ (t.data.toList.take k).all tchar = true) (fun i => t.size - (intOf i).toNat)
      case atStart => exact ⟨0, Nat.zero_le _, rfl, rfl⟩
      case round =>
        obtain ⟨k2, hk2, rfl, hall⟩ := hrel
        have HA := Lib.hid hall
        clear hall
        by_cases hlt2 : k2 < t.size
        · by_cases hc : 33 ≤ (t[k2].toNat : Int) ∧ (t[k2].toNat : Int) ≤ 126
          · have t1 : ¬ (t[k2].toNat : Int) ≤ 32 := by omega
            have t2 : ¬ (127 : Int) ≤ (t[k2].toNat : Int) := by omega
            have HN := Lib.hid (all_take_snoc tchar t k2 hlt2 HA.out (tchar_yes hc.1 hc.2))
            clear hc
            go_wp2_with fail
            go_round
            case rel => exact ⟨k2 + 1, by omega, by go_num, HN.out⟩
            case measure => simp [intOf]; omega
          · rcases (by omega : (t[k2].toNat : Int) ≤ 32 ∨ (¬ (t[k2].toNat : Int) ≤ 32 ∧ (127 : Int) ≤ (t[k2].toNat : Int))) with t1 | ⟨t1, t2⟩
            all_goals
              clear hc
              go_wp2_with fail
              go_ret
              exact ⟨rfl, B1.out⟩
        · have HTL : Hid (t.data.toList.all tchar = true) := Lib.hid (by have := HA.out; rw [take_all _ k2 hlt2] at this; exact this)
          clear HA
          have TK := fun w => Lib.hid (rtoken_c m w (by omega))
          have CK := fun w h => Lib.hid (rcheckf_c A cap l w HFB.out h)
          obtain ⟨tk, htk⟩ : ∃ tk, token m.data.toList = tk := ⟨_, rfl⟩
          obtain ⟨ck, hck⟩ : ∃ ck, checkF l = ck := ⟨_, rfl⟩
          rw [htk] at TK
          rw [hck] at CK
          have HTK := Lib.hid htk
          have HCK := Lib.hid hck
          clear htk hck
          have cs : tk = false ∨ (tk = true ∧ (16 : Int) < (m.size : Int)) ∨ (tk = true ∧ ¬ (16 : Int) < (m.size : Int) ∧ (t.size : Int) < 1) ∨ (tk = true ∧ ¬ (16 : Int) < (m.size : Int) ∧ ¬ (t.size : Int) < 1 ∧ (1024 : Int) < (t.size : Int)) ∨
              (tk = true ∧ ¬ (16 : Int) < (m.size : Int) ∧ ¬ (t.size : Int) < 1 ∧ ¬ (1024 : Int) < (t.size : Int) ∧ (ck != 0) = true) ∨
              (tk = true ∧ ¬ (16 : Int) < (m.size : Int) ∧ ¬ (t.size : Int) < 1 ∧ ¬ (1024 : Int) < (t.size : Int) ∧ (ck != 0) = false ∧ (10 : Int) < (b.size : Int)) ∨
              (tk = true ∧ ¬ (16 : Int) < (m.size : Int) ∧ ¬ (t.size : Int) < 1 ∧ ¬ (1024 : Int) < (t.size : Int) ∧ (ck != 0) = false ∧ ¬ (10 : Int) < (b.size : Int)) := by
            cases tk
            · exact .inl rfl
            · cases (ck != 0) <;> simp <;> omega
          rcases cs with rfl | ⟨rfl, p1⟩ | ⟨rfl, p1, p2⟩ | ⟨rfl, p1, p2, p3⟩ | ⟨rfl, p1, p2, p3, p4⟩ | ⟨rfl, p1, p2, p3, p4, p5⟩ | ⟨rfl, p1, p2, p3, p4, p5⟩
          case' inr.inr.inr.inr.inr.inr =>
            go_wp2_with (go_at_call 28; refine (TK _).out.mono ?_; rintro e' w2 ⟨rfl, rfl⟩)
            refine (CK _ F1.out).out.mono ?_
            rintro e' w2 ⟨rfl, hb2⟩
            have B2 := Lib.hid (below_then B1.out hb2)
            have M2 := Lib.hid (cell_below B2.out HM.out)
            have F2 := Lib.hid (F1.out.below hb2)
            clear hb2 TK CK
            have HP : Hid (∀ f ∈ l, badF f = false) := Lib.hid ((checkF_zero (by rw [HCK.out]; rw [bne_eq_false_iff_eq] at p4; exact p4)).1)
            have hl32 : l.length ≤ 32 := (checkF_zero (by rw [HCK.out]; rw [bne_eq_false_iff_eq] at p4; exact p4)).2
            go_wp2_with fail
            obtain ⟨P, hP⟩ : ∃ P, m ++ ByteArray.mk #[32] ++ t ++ ByteArray.mk #[32, 72, 84, 84, 80, 47, 49, 46, 49, 13, 10] = P := ⟨_, rfl⟩
            have tP : P.data.toList = wfirst m.data.toList t.data.toList ++ [13, 10] := by rw [← hP]; simp [wfirst, httpE]
            rw [hP]
            have TP := Lib.hid tP
            clear hP tP
            go_loopw [11, 86] (fun v i wr => ∃ (k : Nat) (a : ByteArray), k ≤ l.length ∧ i = .int .i64 k ∧ v = .string a ∧ a.data.toList = wfirst m.data.toList t.data.toList ++ 13 :: 10 :: flines b.data.toList (l.take k) ∧ (∀ f ∈ l.take k, f.1.length + f.2.length ≤ 490) ∧ Below W2.heap.size W2 wr) (fun _ i _ => l.length - (intOf i).toNat)
            case atStart => exact ⟨0, P, Nat.zero_le _, rfl, rfl, TP.out, by simp, B2.out⟩
            case round =>
              obtain ⟨k3, a, hk3, rfl, rfl, ha, hsm, hB⟩ := hrel
              have HTA := Lib.hid ha
              have HSM := Lib.hid hsm
              have BR := Lib.hid hB
              have hsz1 : a.size = (m.size + t.size + 10) + ((flines b.data.toList (l.take k3)).length + 2) := by
                rw [← size_list, ha, List.length_append, wfirst_length, List.length_cons, List.length_cons, size_list, size_list]
              have hsz2 := flines_bound (b := b.data.toList) (by rw [size_list]; omega) (l.take k3) hsm
              have hsz3 : (l.take k3).length ≤ 32 := by rw [List.length_take]; omega
              have hsz : a.size ≤ 20000 := by omega
              clear ha hsm hB
              by_cases hlt3 : k3 < l.length
              · obtain ⟨g, o, hAd, c1, c2⟩ := HF.out.below BR.out k3 hlt3
                subst hAd
                have hg := World.block_lt_of_cell? wr _ c1
                have HFT := Lib.hid (flines_take (b := b.data.toList) hlt3)
                have HS1 : Hid (l[k3].1.length + l[k3].2.length ≤ 490 → ∀ f ∈ l.take (k3 + 1), f.1.length + f.2.length ≤ 490) := Lib.hid (fun h f hf => by
                  rw [List.take_add_one, List.getElem?_eq_getElem hlt3] at hf
                  rcases List.mem_append.1 hf with hf | hf
                  · exact HSM.out f hf
                  · simp at hf; rw [hf]; exact h)
                have hn1 := HFB.out.nm _ (List.getElem_mem hlt3)
                have hn2 := HFB.out.vl _ (List.getElem_mem hlt3)
                obtain ⟨f, hf⟩ : ∃ f, l[k3] = f := ⟨_, rfl⟩
                rw [hf] at c1 c2 HFT HS1 hn1 hn2
                clear hf hsz1 hsz2 hsz3
                have z1 : (bs f.1).size = f.1.length := rfl
                have z2 : (bs f.2).size = f.2.length := rfl
                have k0 : (0 : Int) ≤ (k3 : Int) := by omega
                have k1 : (k3 : Int) < (l.length : Int) := by omega
                by_cases h5 : 490 < f.1.length + f.2.length
                · have h5' : (490 : Int) < (f.1.length : Int) + (f.2.length : Int) := by omega
                  clear h5
                  go_wp2_with fail
                  go_ret
                  exact ⟨rfl, BR.out.alloc BR.out.size _⟩
                · have h5' : (f.1.length : Int) + (f.2.length : Int) ≤ 490 := by omega
                  have HS2 := Lib.hid (HS1.out (by omega))
                  clear h5
                  go_wp2_with fail
                  go_roundw
                  case rel => exact ⟨k3 + 1, _, by omega, by go_num, rfl, by rw [app_list, HTA.out, HFT.out]; simp [fline], HS2.out, BR.out.alloc BR.out.size _⟩
                  case measure => simp [intOf]; omega
              · obtain rfl : k3 = l.length := by omega
                have tA := HTA.out
                rw [List.take_length] at tA hsz1
                have hsmall := HSM.out
                rw [List.take_length] at hsmall
                have l1 : (a ++ ByteArray.mk #[13, 10]).data.toList = wfirst m.data.toList t.data.toList ++ 13 :: 10 :: (flines b.data.toList l ++ [13, 10]) := by rw [app_list, tA]; simp
                have RQ := fun w h => Lib.hid (request_h (a ++ ByteArray.mk #[13, 10]) M w (by rw [← size_list, app_list, List.length_append, size_list]; show a.size + 2 ≤ _; omega) h)
                have HWR := written_plain (b := b.data.toList) (l := l) HTK.out (by rw [size_list]; omega) HTL.out (by intro h; have h2 : t.size = 0 := (by rw [← size_list, h]; rfl); omega) (by rw [size_list]; omega) HBL.out (by rw [size_list]; omega) hl32 (fun f hf => ⟨HP.out f hf, hsmall f hf⟩)
                rw [l1, HWR] at RQ
                unfold ReadPost hdv at RQ
                simp only [list_bs] at RQ
                obtain ⟨nn, hnn⟩ : ∃ nn, (wfirst m.data.toList t.data.toList).length + (flines b.data.toList l).length + 4 = nn := ⟨_, rfl⟩
                rw [hnn] at RQ
                have q : ((nn : Int) == (a.size : Int) + 2) = true := by rw [beq_iff_eq]; rw [wfirst_length, size_list, size_list] at hnn; omega
                have SH := fun A' c' w h1 h2 => Lib.hid (samehead_c m t ⟨#[]⟩ 0 1 A' A c' cap l w h1 h2 (by omega))
                have FR := Lib.hid (HF.out.below BR.out)
                have MR := Lib.hid (cell_below BR.out HM.out)
                clear tA hsz1 hsz2 hsz3 hsmall l1 HWR hnn HTA HSM
                go_wp2_with fail
                refine (RQ _ MR.out).out.mono ?_
                rintro e' w5 ⟨A5, c5, rfl, hA, ho, hb5⟩
                obtain ⟨V6, hV6⟩ : ∃ V6, w5.alloc (.cells #[.string m, .string t, .int .i64 0, .string (bs []), .int .i64 1, .slice A5 l.length c5] 43) = V6 := ⟨_, rfl⟩
                have b5 := below_then BR.out hb5
                have hbv : Below w5.heap.size w5 V6 := by rw [← hV6]; exact (Below.refl _ w5).alloc (Nat.le_refl _) _
                have B6 := Lib.hid (below_then b5 hbv)
                have X6 : Hid (Box6 V6 w5.heap.size (.string m) (.string t) (.int .i64 0) (.string (bs [])) (.int .i64 1) (.slice A5 l.length c5)) := Lib.hid (by rw [← hV6]; exact box6_new _ _ _ _ _ _ _ _)
                have G6 := Lib.hid ((flds_own ho).below hbv)
                have F6 := Lib.hid ((FR.out.below hb5).below hbv)
                have HV6 := Lib.hid hV6
                obtain ⟨c0, c1, c2, c3', c4, c5', fz⟩ := X6.out
                clear hV6 hA ho hb5 b5 hbv fz
                go_wp2_with (rw [HV6.out])
                clear HV6 c0 c1 c2 c3' c4 c5'
                refine (SH _ _ _ G6.out F6.out).out.mono ?_
                rintro e' w7 ⟨rfl, hb7⟩
                have B7 := Lib.hid (below_then B6.out hb7)
                clear hb7
                go_wp2
                go_ret
                exact ⟨rfl, B7.out⟩
          all_goals
            go_wp2_with (first | (go_at_call 28; refine (TK _).out.mono ?_; rintro e' w2 ⟨rfl, rfl⟩) | (go_at_call 29; refine (CK _ F1.out).out.mono ?_; rintro e' w2 ⟨rfl, hb2⟩; have B2 := Lib.hid (below_then B1.out hb2); clear hb2))
            go_ret
            first | exact ⟨rfl, B1.out⟩ | exact ⟨rfl, B2.out⟩
end Go.Proofs.YtjbmipbjlhcooaaDoor
