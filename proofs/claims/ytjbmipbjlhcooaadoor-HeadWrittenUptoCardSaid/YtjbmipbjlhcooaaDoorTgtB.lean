/- The contracts of host and of Authority, program and document. -/
import Derived.Test.YtjbmipbjlhcooaaDoorTgtA
import Derived.Test.YtjbmipbjlhcooaaDoorLexC
import Derived.Test.YtjbmipbjlhcooaaDoorLexF
set_option linter.unusedVariables false
set_option linter.unusedSimpArgs false
namespace Go.Proofs.YtjbmipbjlhcooaaDoor
open Go.RowKit Lex

def is46 (c : UInt8) : Prop := (c.toNat : Int) = 46
theorem dotted_iff (l : List UInt8) : dotted l = true ↔ ∃ i, ∃ h : i + 1 < l.length, is46 (l[i]'(by omega)) ∧ is46 l[i + 1] := by
  unfold is46
  induction l with
  | nil => simp [dotted]
  | cons a r ih =>
    cases r with
    | nil => simp [dotted]
    | cons b r =>
      rw [dotted, Bool.or_eq_true, ih, Bool.and_eq_true, decide_eq_true_eq, decide_eq_true_eq]
      constructor
      · rintro (⟨h1, h2⟩ | ⟨i, h, h1, h2⟩)
        · exact ⟨0, by simp, h1, h2⟩
        · exact ⟨i + 1, by simp at h ⊢; omega, h1, h2⟩
      · rintro ⟨i, h, h1, h2⟩
        cases i with
        | zero => exact .inl ⟨h1, h2⟩
        | succ i => exact .inr ⟨i, by simp at h ⊢; omega, h1, h2⟩
def okAt (l : List UInt8) (i : Nat) : Prop := ∀ h : i < l.length, alnumB l[i] = true ∨ (i ≠ 0 ∧ i + 1 ≠ l.length ∧ hostC l[i] = true ∧ ¬ (is46 l[i] ∧ is46 (l[i - 1]'(by omega))))
theorem alnum_hostC {c : UInt8} (h : alnumB c = true) : hostC c = true := by unfold hostC; rw [h]; rfl
theorem alnum_46 {c : UInt8} (h : alnumB c = true) : ¬ is46 c := by
  unfold alnumB alnumI at h
  unfold is46
  simp at h
  omega
theorem hostB_iff (l : List UInt8) : hostB l = true ↔ 1 ≤ l.length ∧ l.length ≤ 64 ∧ ∀ i, okAt l i := by
  cases l with
  | nil => simp [hostB]
  | cons a r =>
    unfold hostB
    rw [List.getLast?_eq_getElem?]
    simp only [Bool.and_eq_true, decide_eq_true_eq, List.head?_cons, Option.map_some, Option.getD_some, Bool.not_eq_true', List.all_eq_true]
    have hlast : (a :: r)[(a :: r).length - 1]? = some (a :: r)[(a :: r).length - 1] := List.getElem?_eq_getElem (by simp)
    rw [hlast]
    simp only [Option.map_some, Option.getD_some]
    constructor
    · rintro ⟨⟨⟨⟨⟨_, h64⟩, h1⟩, h2⟩, h3⟩, h4⟩
      refine ⟨by simp, h64, fun i h => ?_⟩
      by_cases hal : alnumB (a :: r)[i] = true
      · exact .inl hal
      · refine .inr ⟨?_, ?_, h4 _ (List.getElem_mem h), ?_⟩
        · rintro rfl; exact hal h1
        · intro e
          apply hal
          have : i = (a :: r).length - 1 := by omega
          subst this
          exact h2
        · rintro ⟨e1, e2⟩
          have hi : i ≠ 0 := by rintro rfl; exact hal h1
          have : dotted (a :: r) = true := (dotted_iff _).2 ⟨i - 1, by omega, e2, by
            have : i - 1 + 1 = i := by omega
            simp only [this]; exact e1⟩
          rw [this] at h3; cases h3
    · rintro ⟨_, h64, hok⟩
      refine ⟨⟨⟨⟨⟨by simp, h64⟩, ?_⟩, ?_⟩, ?_⟩, ?_⟩
      · rcases hok 0 (by simp) with h | ⟨h, _⟩
        · exact h
        · exact absurd rfl h
      · rcases hok ((a :: r).length - 1) (by simp) with h | ⟨_, h, _⟩
        · exact h
        · simp at h
      · rw [← Bool.not_eq_true]
        intro hd
        obtain ⟨i, h, e1, e2⟩ := (dotted_iff _).1 hd
        rcases hok (i + 1) h with h' | ⟨_, _, _, h'⟩
        · exact alnum_46 h' e2
        · exact h' ⟨e2, by simpa using e1⟩
      · intro c hc
        obtain ⟨i, h, rfl⟩ := List.mem_iff_getElem.1 hc
        rcases hok i h with h' | ⟨_, _, h', _⟩
        · exact alnum_hostC h'
        · exact h'

theorem alnum_c (n : Int) (w : World) : Calls Tryd.prog 61 #[.int .u8 n] w fun e w' => e = .returned (.bool (alnumI n)) ∧ w = w' := by
  go_enter Tryd.func61, Tryd.ntmps61
  go_wp2
  all_goals
    go_ret
    exact ⟨ret_bool (by unfold alnumI; rw [Bool.eq_iff_iff]; simp <;> omega), rfl⟩
theorem ralnum_c (n : Int) (w : World) : Calls Tryd.prog 63 #[.int .u8 n] w fun e w' => e = .returned (.bool (alnumI n)) ∧ w = w' := by
  go_enter Tryd.func63, Tryd.ntmps63
  go_wp2
  all_goals
    go_ret
    exact ⟨ret_bool (by unfold alnumI; rw [Bool.eq_iff_iff]; simp <;> omega), rfl⟩

theorem hostC_false {c : UInt8} (h : hostC c = false) : alnumI c.toNat = false ∧ (c.toNat : Int) ≠ 45 ∧ (c.toNat : Int) ≠ 46 := by
  unfold hostC alnumB at h
  simp only [Bool.or_eq_false_iff, decide_eq_false_iff_not] at h
  exact ⟨h.1.1, h.1.2, h.2⟩
theorem sget_list (s : ByteArray) (k : Nat) (h : k < s.size) : s.data.toList[k]'(by rw [size_list]; exact h) = s[k] := rfl

set_option maxRecDepth 100000 in
set_option maxHeartbeats 4000000 in
theorem rhost_c (s : ByteArray) (w : World) : Calls Tryd.prog 39 #[.string s] w fun e w' => e = .returned (.bool (hostB s.data.toList)) ∧ w = w' := by
  by_cases h0 : s.size < 1
  · have hf : hostB s.data.toList = false := by
      rw [← Bool.not_eq_true, hostB_iff, size_list]; omega
    rw [hf]
    go_enter Tryd.func39, Tryd.ntmps39
    go_wp2
    go_ret
    exact ⟨rfl, rfl⟩
  by_cases h64 : 64 < s.size
  · have hf : hostB s.data.toList = false := by
      rw [← Bool.not_eq_true, hostB_iff, size_list]; omega
    rw [hf]
    go_enter Tryd.func39, Tryd.ntmps39
    go_wp2
    go_ret
    exact ⟨rfl, rfl⟩
  have hbad : ∀ k, ¬ okAt s.data.toList k → hostB s.data.toList = false := by
    intro k hk
    rw [← Bool.not_eq_true, hostB_iff]
    exact fun h => hk (h.2.2 k)
  have hgood : (∀ k, k < s.size → okAt s.data.toList k) → hostB s.data.toList = true := by
    intro h
    rw [hostB_iff, size_list]
    exact ⟨by omega, by omega, fun i hi => h i hi hi⟩
  generalize hostB s.data.toList = q at *
  have HB := Lib.hid hbad
  have HG := Lib.hid hgood
  clear hbad hgood
  go_enter Tryd.func39, Tryd.ntmps39
  go_wp2
  go_loop [3, 4] (fun i _ => ∃ k : Nat, k ≤ s.size ∧ i = .int .i64 k ∧ ∀ j, j < k → okAt s.data.toList j) (fun i _ => s.size - (intOf i).toNat)
  case atStart => exact ⟨0, Nat.zero_le _, rfl, fun j hj => absurd hj (by omega)⟩
  case round =>
    obtain ⟨k, hk, rfl, ha⟩ := hrel
    have HA := Lib.hid ha
    clear ha
    have hsnoc : okAt s.data.toList k → ∀ j, j < k + 1 → okAt s.data.toList j := fun h j hj => by
      rcases (by omega : j < k ∨ j = k) with h1 | rfl
      · exact HA.out j h1
      · exact h
    have HS := Lib.hid hsnoc
    clear hsnoc
    by_cases hlt : k < s.size
    · cases hm : alnumI s[k].toNat with
      | true =>
        have ok : okAt s.data.toList k := fun h => .inl hm
        have OK := Lib.hid ok
        clear ok
        rcases (by omega : k = 0 ∨ (k ≠ 0 ∧ k + 1 = s.size) ∨ (k ≠ 0 ∧ k + 1 ≠ s.size)) with rfl | ⟨e0, e1⟩ | ⟨e0, e1⟩
        all_goals
          go_wp2_with (go_at_call 63; refine (ralnum_c _ _).mono ?_; rintro e w' ⟨rfl, rfl⟩)
          go_round
          case rel => first | exact ⟨k + 1, by omega, by go_num, HS.out OK.out⟩ | exact ⟨1, by omega, by go_num, HS.out OK.out⟩
          case measure => simp [intOf]; omega
      | false =>
        have hm' : ∀ h, ¬ alnumB (s.data.toList[k]'h) = true := fun h e => by
          have : alnumI s[k].toNat = true := e
          rw [hm] at this; cases this
        have bad : ∀ P : Prop, (¬ P) → (okAt s.data.toList k → P) → q = false := fun P h h' => HB.out k fun e => h (h' e)
        have HBAD := Lib.hid bad
        have HM := Lib.hid hm'
        clear bad hm'
        rcases (by omega : k = 0 ∨ (k ≠ 0 ∧ k + 1 = s.size) ∨ (k ≠ 0 ∧ k + 1 ≠ s.size)) with rfl | ⟨e0, e1⟩ | ⟨e0, e1⟩
        · have hq : q = false := HBAD.out _ (not_not_intro rfl) (fun ok => by
            rcases ok (by rw [size_list]; exact hlt) with h | ⟨h, _⟩
            · exact absurd h (HM.out _)
            · exact h)
          subst hq
          go_wp2_with (go_at_call 63; refine (ralnum_c _ _).mono ?_; rintro e w' ⟨rfl, rfl⟩)
          go_ret
          exact ⟨rfl, rfl⟩
        · have hq : q = false := HBAD.out _ (not_not_intro e1) (fun ok => by
            rcases ok (by rw [size_list]; exact hlt) with h | ⟨_, h, _⟩
            · exact absurd h (HM.out _)
            · exact h)
          subst hq
          go_wp2_with (go_at_call 63; refine (ralnum_c _ _).mono ?_; rintro e w' ⟨rfl, rfl⟩)
          go_ret
          exact ⟨rfl, rfl⟩
        · have hk1 : k - 1 < s.size := by omega
          have hki : ((k - 1 : Nat) : Int) = (k : Int) - 1 := by omega
          have z0 : ((k : Int) == 0) = false := by rw [beq_eq_false_iff_ne]; omega
          have z1 : ((k : Int) == (s.size : Int) - 1) = false := by rw [beq_eq_false_iff_ne]; omega
          cases hc : hostC s[k] with
          | false =>
            obtain ⟨_, n45, n46⟩ := hostC_false hc
            have b45 : ((s[k].toNat : Int) != 45) = true := by rw [bne_iff_ne]; exact n45
            have b46 : ((s[k].toNat : Int) != 46) = true := by rw [bne_iff_ne]; exact n46
            have hq : q = false := HBAD.out (hostC s[k] = true) (by rw [hc]; simp) (fun ok => by
              rcases ok (by rw [size_list]; exact hlt) with h | ⟨_, _, h, _⟩
              · exact absurd h (HM.out _)
              · exact h)
            subst hq
            go_wp2_with (go_at_call 63; refine (ralnum_c _ _).mono ?_; rintro e w' ⟨rfl, rfl⟩)
            go_ret
            exact ⟨rfl, rfl⟩
          | true =>
            have hcc : (s[k].toNat : Int) = 45 ∨ (s[k].toNat : Int) = 46 := by
              unfold hostC at hc
              simp only [Bool.or_eq_true, decide_eq_true_eq] at hc
              rcases hc with (h | h) | h
              · have : alnumI s[k].toNat = true := h
                rw [hm] at this; cases this
              · exact .inl h
              · exact .inr h
            rcases hcc with h45 | h46
            · have b45 : ((s[k].toNat : Int) != 45) = false := by rw [h45]; rfl
              have c46 : ((s[k].toNat : Int) == 46) = false := by rw [h45]; rfl
              have ok : okAt s.data.toList k := fun h => .inr ⟨e0, e1, hc, fun h' => by have : (s[k].toNat : Int) = 46 := h'.1; omega⟩
              have OK := Lib.hid ok
              clear ok
              go_wp2_with (go_at_call 63; refine (ralnum_c _ _).mono ?_; rintro e w' ⟨rfl, rfl⟩)
              all_goals refine ⟨⟨k + 1, by omega, by go_num, HS.out OK.out⟩, ?_⟩
              all_goals (simp [intOf]; omega)
            · have b46 : ((s[k].toNat : Int) != 46) = false := by rw [h46]; rfl
              have b45 : ((s[k].toNat : Int) != 45) = true := by rw [h46]; rfl
              have c46 : ((s[k].toNat : Int) == 46) = true := by rw [h46]; rfl
              by_cases hp : (s[k - 1].toNat : Int) = 46
              · have p46 : ((s[k - 1].toNat : Int) == 46) = true := by rw [hp]; rfl
                have hq : q = false := HBAD.out False (fun h => h) (fun ok => by
                  rcases ok (by rw [size_list]; exact hlt) with h | ⟨_, _, _, h⟩
                  · exact absurd h (HM.out _)
                  · exact h ⟨h46, hp⟩)
                subst hq
                go_wp2_with (go_at_call 63; refine (ralnum_c _ _).mono ?_; rintro e w' ⟨rfl, rfl⟩)
                all_goals (go_ret; exact ⟨rfl, rfl⟩)
              · have p46 : ((s[k - 1].toNat : Int) == 46) = false := by rw [beq_eq_false_iff_ne]; exact hp
                have ok : okAt s.data.toList k := fun h => .inr ⟨e0, e1, hc, fun h' => hp h'.2⟩
                have OK := Lib.hid ok
                clear ok
                go_wp2_with (go_at_call 63; refine (ralnum_c _ _).mono ?_; rintro e w' ⟨rfl, rfl⟩)
                all_goals refine ⟨⟨k + 1, by omega, by go_num, HS.out OK.out⟩, ?_⟩
                all_goals (simp [intOf]; omega)
    · have hq : q = true := HG.out fun j hj => HA.out j (by omega)
      subst hq
      go_wp2
      go_ret
      exact ⟨rfl, rfl⟩
end Go.Proofs.YtjbmipbjlhcooaaDoor
