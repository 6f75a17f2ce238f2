/- The contract of head.version. -/
import Derived.Test.YtjbmipbjlhcooaaDoorHdB
import Derived.Test.YtjbmipbjlhcooaaDoorHdL
import Derived.Test.YtjbmipbjlhcooaaDoorLexC
set_option linter.unusedVariables false
set_option linter.unusedSimpArgs false
namespace Go.Proofs.YtjbmipbjlhcooaaDoor
open Go.RowKit Lex

theorem decimal_one (c : UInt8) : decimal [c] 1 = if digit c = true then ((c.toNat : Int) - 48, true) else (0, false) := by
  have key : ∀ c : Fin 256, decimal [UInt8.ofNat c.val] 1 = if digit (UInt8.ofNat c.val) = true then (((UInt8.ofNat c.val).toNat : Int) - 48, true) else (0, false) := by decide +kernel
  have := key ⟨c.toNat, c.toNat_lt⟩
  simpa using this
theorem ext_list (s : ByteArray) (a b : Nat) : (s.extract a b).data.toList = (s.data.toList.drop a).take (b - a) := by rw [Lib.extract_data]
theorem ext_one (s : ByteArray) (k : Nat) (h : k < s.size) : (s.extract k (k + 1)).data.toList = [s[k]] := by
  rw [ext_list, byte_at s k h, Nat.add_sub_cancel_left]; rfl
theorem at_list (s : ByteArray) (k : Nat) (h : k < s.size) : s.data.toList[k]? = some s[k] := by
  have h2 := List.getElem?_eq_getElem (l := s.data.toList) (i := k) (by rw [size_list]; exact h)
  rw [h2]; rfl
def verVal (x : Int × Int) : Value := .tuple #[.int .i64 x.1, .int .i64 x.2]
set_option maxRecDepth 100000 in
set_option maxHeartbeats 1000000 in
theorem version_c (s : ByteArray) (w : World) (hs : s.size ≤ 9223372036854775806) :
    Calls Tryd.prog 75 #[.string s] w fun e w' => e = .returned (verVal (versionL s.data.toList)) ∧ w = w' := by
  by_cases h8 : s.size = 8
  · have b8 : ((s.size : Int) != 8) = false := by rw [bne_eq_false_iff_eq]; omega
    have e5 := at_list s 5 (by omega)
    have e6 := at_list s 6 (by omega)
    have e7 := at_list s 7 (by omega)
    have x5 : (s.extract 0 5).toList = s.data.toList.take 5 := by rw [Lib.toList_data, ext_list]; rfl
    have n6 := neN s[6] 46 46 rfl
    generalize hv : versionL s.data.toList = v
    unfold versionL at hv
    rw [size_list, e5, e6, e7] at hv
    by_cases h5 : s.data.toList.take 5 = httpV
    · have p5 : (s.extract 0 5).toList = [72, 84, 84, 80, 47] := by rw [x5]; exact h5
      by_cases h6 : s[6] = 46
      · rw [decide_eq_true h6] at n6
        rw [if_pos ⟨h8, h5, by rw [h6]⟩] at hv
        simp only at hv
        have D1 := fun w => Lib.hid (decimal_c (s.extract 5 6) 1 w)
        have D2 := fun w => Lib.hid (decimal_c (s.extract 7 8) 1 w)
        rw [ext_one s 5 (by omega), decimal_one] at D1
        rw [ext_one s 7 (by omega), decimal_one] at D2
        by_cases d5 : digit s[5] = true
        · by_cases d7 : digit s[7] = true
          · rw [if_pos ⟨d5, d7⟩] at hv
            rw [if_pos d5] at D1
            rw [if_pos d7] at D2
            have hmj : ((s[5].toNat : Int) - 48 = 1) ↔ s[5] = 49 := by rw [← UInt8.toNat_inj]; show _ ↔ s[5].toNat = 49; omega
            generalize (s[5].toNat : Int) - 48 = mj at *
            generalize (s[7].toNat : Int) - 48 = mn at *
            by_cases h1 : s[5] = 49
            · rw [if_pos h1] at hv
              have b1 : (mj != 1) = false := by rw [bne_eq_false_iff_eq]; exact hmj.2 h1
              subst hv
              clear e5 e6 e7 x5 h5 h6 d5 d7 hmj h1
              go_enter Tryd.func75, Tryd.ntmps75
              go_wp2_with (first | (have hk := K1.out; go_at_call 37; refine (D2 _).out.mono ?_; rintro e w2 ⟨rfl, rfl⟩; clear hk) | (go_at_call 37; refine (D1 _).out.mono ?_; rintro e w1 ⟨rfl, rfl⟩; have K1 := Lib.hid True.intro))
              go_ret2
              exact ⟨rfl, rfl⟩
            · rw [if_neg h1] at hv
              have b1 : (mj != 1) = true := by rw [bne_iff_ne]; exact fun h => h1 (hmj.1 h)
              subst hv
              clear e5 e6 e7 x5 h5 h6 d5 d7 hmj h1
              go_enter Tryd.func75, Tryd.ntmps75
              go_wp2_with (first | (have hk := K1.out; go_at_call 37; refine (D2 _).out.mono ?_; rintro e w2 ⟨rfl, rfl⟩; clear hk) | (go_at_call 37; refine (D1 _).out.mono ?_; rintro e w1 ⟨rfl, rfl⟩; have K1 := Lib.hid True.intro))
              go_ret2
              exact ⟨rfl, rfl⟩
          · rw [if_neg (fun h => d7 h.2)] at hv
            rw [if_pos d5] at D1
            rw [if_neg d7] at D2
            generalize (s[5].toNat : Int) - 48 = mj at *
            subst hv
            clear e5 e6 e7 x5 h5 h6 d5 d7
            go_enter Tryd.func75, Tryd.ntmps75
            go_wp2_with (first | (have hk := K1.out; go_at_call 37; refine (D2 _).out.mono ?_; rintro e w2 ⟨rfl, rfl⟩; clear hk) | (go_at_call 37; refine (D1 _).out.mono ?_; rintro e w1 ⟨rfl, rfl⟩; have K1 := Lib.hid True.intro))
            go_ret2
            exact ⟨rfl, rfl⟩
        · rw [if_neg (fun h => d5 h.1)] at hv
          rw [if_neg d5] at D1
          obtain ⟨a, b, hab⟩ : ∃ a b, (if digit s[7] = true then ((s[7].toNat : Int) - 48, true) else (0, false)) = (a, b) := ⟨_, _, rfl⟩
          rw [hab] at D2
          subst hv
          clear e5 e6 e7 x5 h5 h6 d5 hab
          go_enter Tryd.func75, Tryd.ntmps75
          go_wp2_with (first | (have hk := K1.out; go_at_call 37; refine (D2 _).out.mono ?_; rintro e w2 ⟨rfl, rfl⟩; clear hk) | (go_at_call 37; refine (D1 _).out.mono ?_; rintro e w1 ⟨rfl, rfl⟩; have K1 := Lib.hid True.intro))
          go_ret2
          exact ⟨rfl, rfl⟩
      · rw [decide_eq_false h6] at n6
        rw [if_neg (fun h => h6 (by have := h.2.2; injection this))] at hv
        subst hv
        clear e5 e6 e7 x5 h5 h6
        go_enter Tryd.func75, Tryd.ntmps75
        go_wp2
        go_ret2
        exact ⟨rfl, rfl⟩
    · have p5 : ¬ (s.extract 0 5).toList = [72, 84, 84, 80, 47] := by rw [x5]; exact h5
      rw [if_neg (fun h => h5 h.2.1)] at hv
      subst hv
      clear e5 e6 e7 x5 h5
      go_enter Tryd.func75, Tryd.ntmps75
      go_wp2
      go_ret2
      exact ⟨rfl, rfl⟩
  · have hv : versionL s.data.toList = (0, 80) := by unfold versionL; rw [if_neg]; rw [size_list]; exact fun h => h8 h.1
    have b8 : ((s.size : Int) != 8) = true := by rw [bne_iff_ne]; omega
    rw [hv]
    go_enter Tryd.func75, Tryd.ntmps75
    go_wp2
    go_ret2
    exact ⟨rfl, rfl⟩
end Go.Proofs.YtjbmipbjlhcooaaDoor
