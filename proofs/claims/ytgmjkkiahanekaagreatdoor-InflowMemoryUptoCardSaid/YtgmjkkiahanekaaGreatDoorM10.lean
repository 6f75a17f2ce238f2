/- The texts TgtB, TgtC, TgtD, TgtE in one. -/
import Derived.Test.YtgmjkkiahanekaaGreatDoorM9
import Derived.Test.YtgmjkkiahanekaaGreatDoorM1
import Derived.Test.YtgmjkkiahanekaaGreatDoorM2
import Derived.Test.YtgmjkkiahanekaaGreatDoorM3
import Derived.Test.YtgmjkkiahanekaaGreatDoorM7
import Derived.Handy
/- The contracts of host and of Authority, program and document. -/
set_option linter.unusedVariables false
set_option linter.unusedSimpArgs false
namespace Go.Proofs.YtgmjkkiahanekaaGreatDoor
open Go.RowKit Lex

def is46 (c : UInt8) : Prop := (c.toNat : Int) = 46
theorem dotted_iff (l : List UInt8) : dotted l = true ↔ ∃ i, ∃ h : i + 1 < l.length, is46 (l[i]'(by omega)) ∧ is46 l[i + 1] := by
  unfold is46
  induction l with
  | nil => simp [dotted]
  | cons a r ih =>
    cases r with
    | nil => simp [dotted]
    | cons b r =>
      rw [dotted, Bool.or_eq_true, ih, Bool.and_eq_true, decide_eq_true_eq, decide_eq_true_eq]
      constructor
      · rintro (⟨h1, h2⟩ | ⟨i, h, h1, h2⟩)
        · exact ⟨0, by simp, h1, h2⟩
        · exact ⟨i + 1, by simp at h ⊢; omega, h1, h2⟩
      · rintro ⟨i, h, h1, h2⟩
        cases i with
        | zero => exact .inl ⟨h1, h2⟩
        | succ i => exact .inr ⟨i, by simp at h ⊢; omega, h1, h2⟩
def okAt (l : List UInt8) (i : Nat) : Prop := ∀ h : i < l.length, alnumB l[i] = true ∨ (i ≠ 0 ∧ i + 1 ≠ l.length ∧ hostC l[i] = true ∧ ¬ (is46 l[i] ∧ is46 (l[i - 1]'(by omega))))
theorem alnum_hostC {c : UInt8} (h : alnumB c = true) : hostC c = true := by unfold hostC; rw [h]; rfl
theorem alnum_46 {c : UInt8} (h : alnumB c = true) : ¬ is46 c := by
  unfold alnumB alnumI at h
  unfold is46
  simp at h
  omega
theorem hostB_iff (l : List UInt8) : hostB l = true ↔ 1 ≤ l.length ∧ l.length ≤ 64 ∧ ∀ i, okAt l i := by
  cases l with
  | nil => simp [hostB]
  | cons a r =>
    unfold hostB
    rw [List.getLast?_eq_getElem?]
    simp only [Bool.and_eq_true, decide_eq_true_eq, List.head?_cons, Option.map_some, Option.getD_some, Bool.not_eq_true', List.all_eq_true]
    have hlast : (a :: r)[(a :: r).length - 1]? = some (a :: r)[(a :: r).length - 1] := List.getElem?_eq_getElem (by simp)
    rw [hlast]
    simp only [Option.map_some, Option.getD_some]
    constructor
    · rintro ⟨⟨⟨⟨⟨_, h64⟩, h1⟩, h2⟩, h3⟩, h4⟩
      refine ⟨by simp, h64, fun i h => ?_⟩
      by_cases hal : alnumB (a :: r)[i] = true
      · exact .inl hal
      · refine .inr ⟨?_, ?_, h4 _ (List.getElem_mem h), ?_⟩
        · rintro rfl; exact hal h1
        · intro e
          apply hal
          have : i = (a :: r).length - 1 := by omega
          subst this
          exact h2
        · rintro ⟨e1, e2⟩
          have hi : i ≠ 0 := by rintro rfl; exact hal h1
          have : dotted (a :: r) = true := (dotted_iff _).2 ⟨i - 1, by omega, e2, by
            have : i - 1 + 1 = i := by omega
            simp only [this]; exact e1⟩
          rw [this] at h3; cases h3
    · rintro ⟨_, h64, hok⟩
      refine ⟨⟨⟨⟨⟨by simp, h64⟩, ?_⟩, ?_⟩, ?_⟩, ?_⟩
      · rcases hok 0 (by simp) with h | ⟨h, _⟩
        · exact h
        · exact absurd rfl h
      · rcases hok ((a :: r).length - 1) (by simp) with h | ⟨_, h, _⟩
        · exact h
        · simp at h
      · rw [← Bool.not_eq_true]
        intro hd
        obtain ⟨i, h, e1, e2⟩ := (dotted_iff _).1 hd
        rcases hok (i + 1) h with h' | ⟨_, _, _, h'⟩
        · exact alnum_46 h' e2
        · exact h' ⟨e2, by simpa using e1⟩
      · intro c hc
        obtain ⟨i, h, rfl⟩ := List.mem_iff_getElem.1 hc
        rcases hok i h with h' | ⟨_, _, h', _⟩
        · exact alnum_hostC h'
        · exact h'

theorem alnum_c (n : Int) (w : World) : Calls Tryz.prog 161 #[.int .u8 n] w fun e w' => e = .returned (.bool (alnumI n)) ∧ w = w' := by
  go_enter Tryz.func161, Tryz.ntmps161
  go_wp2
  all_goals
    go_ret
    exact ⟨ret_bool (by unfold alnumI; rw [Bool.eq_iff_iff]; simp <;> omega), rfl⟩
theorem ralnum_c (n : Int) (w : World) : Calls Tryz.prog 169 #[.int .u8 n] w fun e w' => e = .returned (.bool (alnumI n)) ∧ w = w' := by
  go_enter Tryz.func169, Tryz.ntmps169
  go_wp2
  all_goals
    go_ret
    exact ⟨ret_bool (by unfold alnumI; rw [Bool.eq_iff_iff]; simp <;> omega), rfl⟩

theorem hostC_false {c : UInt8} (h : hostC c = false) : alnumI c.toNat = false ∧ (c.toNat : Int) ≠ 45 ∧ (c.toNat : Int) ≠ 46 := by
  unfold hostC alnumB at h
  simp only [Bool.or_eq_false_iff, decide_eq_false_iff_not] at h
  exact ⟨h.1.1, h.1.2, h.2⟩
theorem sget_list (s : ByteArray) (k : Nat) (h : k < s.size) : s.data.toList[k]'(by rw [size_list]; exact h) = s[k] := rfl

set_option maxRecDepth 100000 in
set_option maxHeartbeats 4000000 in
theorem rhost_c (s : ByteArray) (w : World) : Calls Tryz.prog 150 #[.string s] w fun e w' => e = .returned (.bool (hostB s.data.toList)) ∧ w = w' := by
  by_cases h0 : s.size < 1
  · have hf : hostB s.data.toList = false := by
      rw [← Bool.not_eq_true, hostB_iff, size_list]; omega
    rw [hf]
    go_enter Tryz.func150, Tryz.ntmps150
    go_wp2
    go_ret
    exact ⟨rfl, rfl⟩
  by_cases h64 : 64 < s.size
  · have hf : hostB s.data.toList = false := by
      rw [← Bool.not_eq_true, hostB_iff, size_list]; omega
    rw [hf]
    go_enter Tryz.func150, Tryz.ntmps150
    go_wp2
    go_ret
    exact ⟨rfl, rfl⟩
  have hbad : ∀ k, ¬ okAt s.data.toList k → hostB s.data.toList = false := by
    intro k hk
    rw [← Bool.not_eq_true, hostB_iff]
    exact fun h => hk (h.2.2 k)
  have hgood : (∀ k, k < s.size → okAt s.data.toList k) → hostB s.data.toList = true := by
    intro h
    rw [hostB_iff, size_list]
    exact ⟨by omega, by omega, fun i hi => h i hi hi⟩
  generalize hostB s.data.toList = q at *
  have HB := Lib.hid hbad
  have HG := Lib.hid hgood
  clear hbad hgood
  go_enter Tryz.func150, Tryz.ntmps150
  go_wp2
  go_loop [3, 4] (fun i _ => ∃ k : Nat, k ≤ s.size ∧ i = .int .i64 k ∧ ∀ j, j < k → okAt s.data.toList j) (fun i _ => s.size - (intOf i).toNat)
  case atStart => exact ⟨0, Nat.zero_le _, rfl, fun j hj => absurd hj (by omega)⟩
  case round =>
    obtain ⟨k, hk, rfl, ha⟩ := hrel
    have HA := Lib.hid ha
    clear ha
    have hsnoc : okAt s.data.toList k → ∀ j, j < k + 1 → okAt s.data.toList j := fun h j hj => by
      rcases (by omega : j < k ∨ j = k) with h1 | rfl
      · exact HA.out j h1
      · exact h
    have HS := Lib.hid hsnoc
    clear hsnoc
    by_cases hlt : k < s.size
    · cases hm : alnumI s[k].toNat with
      | true =>
        have ok : okAt s.data.toList k := fun h => .inl hm
        have OK := Lib.hid ok
        clear ok
        rcases (by omega : k = 0 ∨ (k ≠ 0 ∧ k + 1 = s.size) ∨ (k ≠ 0 ∧ k + 1 ≠ s.size)) with rfl | ⟨e0, e1⟩ | ⟨e0, e1⟩
        all_goals
          go_wp2_with (go_at_call 169; refine (ralnum_c _ _).mono ?_; rintro e w' ⟨rfl, rfl⟩)
          go_round
          case rel => first | exact ⟨k + 1, by omega, by go_num, HS.out OK.out⟩ | exact ⟨1, by omega, by go_num, HS.out OK.out⟩
          case measure => simp [intOf]; omega
      | false =>
        have hm' : ∀ h, ¬ alnumB (s.data.toList[k]'h) = true := fun h e => by
          have : alnumI s[k].toNat = true := e
          rw [hm] at this; cases this
        have bad : ∀ P : Prop, (¬ P) → (okAt s.data.toList k → P) → q = false := fun P h h' => HB.out k fun e => h (h' e)
        have HBAD := Lib.hid bad
        have HM := Lib.hid hm'
        clear bad hm'
        rcases (by omega : k = 0 ∨ (k ≠ 0 ∧ k + 1 = s.size) ∨ (k ≠ 0 ∧ k + 1 ≠ s.size)) with rfl | ⟨e0, e1⟩ | ⟨e0, e1⟩
        · have hq : q = false := HBAD.out _ (not_not_intro rfl) (fun ok => by
            rcases ok (by rw [size_list]; exact hlt) with h | ⟨h, _⟩
            · exact absurd h (HM.out _)
            · exact h)
          subst hq
          go_wp2_with (go_at_call 169; refine (ralnum_c _ _).mono ?_; rintro e w' ⟨rfl, rfl⟩)
          go_ret
          exact ⟨rfl, rfl⟩
        · have hq : q = false := HBAD.out _ (not_not_intro e1) (fun ok => by
            rcases ok (by rw [size_list]; exact hlt) with h | ⟨_, h, _⟩
            · exact absurd h (HM.out _)
            · exact h)
          subst hq
          go_wp2_with (go_at_call 169; refine (ralnum_c _ _).mono ?_; rintro e w' ⟨rfl, rfl⟩)
          go_ret
          exact ⟨rfl, rfl⟩
        · have hk1 : k - 1 < s.size := by omega
          have hki : ((k - 1 : Nat) : Int) = (k : Int) - 1 := by omega
          have z0 : ((k : Int) == 0) = false := by rw [beq_eq_false_iff_ne]; omega
          have z1 : ((k : Int) == (s.size : Int) - 1) = false := by rw [beq_eq_false_iff_ne]; omega
          cases hc : hostC s[k] with
          | false =>
            obtain ⟨_, n45, n46⟩ := hostC_false hc
            have b45 : ((s[k].toNat : Int) != 45) = true := by rw [bne_iff_ne]; exact n45
            have b46 : ((s[k].toNat : Int) != 46) = true := by rw [bne_iff_ne]; exact n46
            have hq : q = false := HBAD.out (hostC s[k] = true) (by rw [hc]; simp) (fun ok => by
              rcases ok (by rw [size_list]; exact hlt) with h | ⟨_, _, h, _⟩
              · exact absurd h (HM.out _)
              · exact h)
            subst hq
            go_wp2_with (go_at_call 169; refine (ralnum_c _ _).mono ?_; rintro e w' ⟨rfl, rfl⟩)
            go_ret
            exact ⟨rfl, rfl⟩
          | true =>
            have hcc : (s[k].toNat : Int) = 45 ∨ (s[k].toNat : Int) = 46 := by
              unfold hostC at hc
              simp only [Bool.or_eq_true, decide_eq_true_eq] at hc
              rcases hc with (h | h) | h
              · have : alnumI s[k].toNat = true := h
                rw [hm] at this; cases this
              · exact .inl h
              · exact .inr h
            rcases hcc with h45 | h46
            · have b45 : ((s[k].toNat : Int) != 45) = false := by rw [h45]; rfl
              have c46 : ((s[k].toNat : Int) == 46) = false := by rw [h45]; rfl
              have ok : okAt s.data.toList k := fun h => .inr ⟨e0, e1, hc, fun h' => by have : (s[k].toNat : Int) = 46 := h'.1; omega⟩
              have OK := Lib.hid ok
              clear ok
              go_wp2_with (go_at_call 169; refine (ralnum_c _ _).mono ?_; rintro e w' ⟨rfl, rfl⟩)
              all_goals refine ⟨⟨k + 1, by omega, by go_num, HS.out OK.out⟩, ?_⟩
              all_goals (simp [intOf]; omega)
            · have b46 : ((s[k].toNat : Int) != 46) = false := by rw [h46]; rfl
              have b45 : ((s[k].toNat : Int) != 45) = true := by rw [h46]; rfl
              have c46 : ((s[k].toNat : Int) == 46) = true := by rw [h46]; rfl
              by_cases hp : (s[k - 1].toNat : Int) = 46
              · have p46 : ((s[k - 1].toNat : Int) == 46) = true := by rw [hp]; rfl
                have hq : q = false := HBAD.out False (fun h => h) (fun ok => by
                  rcases ok (by rw [size_list]; exact hlt) with h | ⟨_, _, _, h⟩
                  · exact absurd h (HM.out _)
                  · exact h ⟨h46, hp⟩)
                subst hq
                go_wp2_with (go_at_call 169; refine (ralnum_c _ _).mono ?_; rintro e w' ⟨rfl, rfl⟩)
                all_goals (go_ret; exact ⟨rfl, rfl⟩)
              · have p46 : ((s[k - 1].toNat : Int) == 46) = false := by rw [beq_eq_false_iff_ne]; exact hp
                have ok : okAt s.data.toList k := fun h => .inr ⟨e0, e1, hc, fun h' => hp h'.2⟩
                have OK := Lib.hid ok
                clear ok
                go_wp2_with (go_at_call 169; refine (ralnum_c _ _).mono ?_; rintro e w' ⟨rfl, rfl⟩)
                all_goals refine ⟨⟨k + 1, by omega, by go_num, HS.out OK.out⟩, ?_⟩
                all_goals (simp [intOf]; omega)
    · have hq : q = true := HG.out fun j hj => HA.out j (by omega)
      subst hq
      go_wp2
      go_ret
      exact ⟨rfl, rfl⟩
end Go.Proofs.YtgmjkkiahanekaaGreatDoor

/- The contracts of target.host and of Authority, program and document. -/
set_option linter.unusedVariables false
set_option linter.unusedSimpArgs false
namespace Go.Proofs.YtgmjkkiahanekaaGreatDoor
open Go.RowKit Lex

theorem hostB_false_of {l : List UInt8} (h : ∀ (_ : hostB l = true), False) : hostB l = false := by rw [← Bool.not_eq_true]; exact h

set_option maxRecDepth 100000 in
set_option maxHeartbeats 4000000 in
theorem host_c (s : ByteArray) (m : Int) (w : World) (hs : s.size ≤ 140737488351232) (hm : w.cell? ⟨0, 0, none⟩ = some (.int .i64 m)) : Calls Tryz.prog 136 #[.string s] w fun e w' => e = .returned (.bool (hostB s.data.toList)) ∧ w = w' := by
  by_cases h0 : s.size = 0
  · obtain rfl : s = ⟨#[]⟩ := by
      cases s with | mk d => cases d with | mk l => cases l with
        | nil => rfl
        | cons a l => simp [ByteArray.size] at h0
    rw [show hostB (ByteArray.mk #[]).data.toList = false from rfl]
    go_enter Tryz.func136, Tryz.ntmps136
    go_wp2
    go_ret
    exact ⟨rfl, rfl⟩
  have he := nonempty_toList h0
  have h1 : 0 < s.size := by omega
  by_cases h64 : 64 < s.size
  · have hf : hostB s.data.toList = false := hostB_false_of fun h => by
      have := ((hostB_iff _).1 h).2.1; rw [size_list] at this; omega
    rw [hf]
    go_enter Tryz.func136, Tryz.ntmps136
    go_wp2
    go_ret
    exact ⟨rfl, rfl⟩
  have hl1 : s.size - 1 < s.size := by omega
  have hl2 : (s.size : Int) - 1 = ((s.size - 1 : Nat) : Int) := by omega
  have hhead : hostB s.data.toList = true → alnumI s[0].toNat = true := fun h => by
    rcases ((hostB_iff _).1 h).2.2 0 (by rw [size_list]; omega) with h' | ⟨h', _⟩
    · exact h'
    · exact absurd rfl h'
  have hlast : hostB s.data.toList = true → alnumI s[s.size - 1].toNat = true := fun h => by
    rcases ((hostB_iff _).1 h).2.2 (s.size - 1) (by rw [size_list]; omega) with h' | ⟨_, h', _⟩
    · exact h'
    · rw [size_list] at h'; omega
  have hdot : hostB s.data.toList = true → dotted s.data.toList = false := fun h => by
    unfold hostB at h
    simp only [Bool.and_eq_true, Bool.not_eq_true'] at h
    exact h.1.2
  have hall : hostB s.data.toList = true → ∀ c ∈ s.data.toList, hostC c = true := fun h => (hostB_parts h).1
  have hgood : alnumI s[0].toNat = true → alnumI s[s.size - 1].toNat = true → dotted s.data.toList = false → s.data.toList.all hostC = true → hostB s.data.toList = true := by
    intro a b c d
    have e1 : s.data.toList.head? = some s[0] := by rw [List.head?_eq_getElem?]; exact List.getElem?_eq_getElem (by rw [size_list]; exact h1)
    have e2 : s.data.toList.getLast? = some s[s.size - 1] := by rw [List.getLast?_eq_getElem?, size_list]; exact List.getElem?_eq_getElem (by rw [size_list]; exact hl1)
    unfold hostB
    rw [e1, e2, c, d]
    have n1 : s.data.toList ≠ [] := by intro e; rw [e] at e1; cases e1
    simp only [Option.map_some, Option.getD_some, n1, ne_eq, not_false_eq_true, decide_true, Bool.true_and, Bool.not_false, Bool.and_true, Bool.and_eq_true, decide_eq_true_eq]
    exact ⟨⟨by rw [size_list]; omega, a⟩, b⟩
  have CN := fun w h => Lib.hid (Tryz.strings_Contains s ⟨#[46, 46]⟩ m w (by omega) h)
  rw [show (ByteArray.mk #[46, 46]).data.toList = [46, 46] from rfl, contains_dots] at CN
  have HM := Lib.hid hm
  clear hm
  cases ha : alnumI s[0].toNat with
  | false =>
    have hf : hostB s.data.toList = false := hostB_false_of fun h => by have := hhead h; rw [ha] at this; cases this
    rw [hf]
    clear hhead hlast hdot hall hgood
    go_enter Tryz.func136, Tryz.ntmps136
    go_wp2_with (go_at_call 161; refine (alnum_c _ _).mono ?_; rintro e w' ⟨rfl, rfl⟩)
    go_ret
    exact ⟨rfl, rfl⟩
  | true =>
    cases hb : alnumI s[s.size - 1].toNat with
    | false =>
      have hf : hostB s.data.toList = false := hostB_false_of fun h => by have := hlast h; rw [hb] at this; cases this
      rw [hf]
      clear hhead hlast hdot hall hgood
      go_enter Tryz.func136, Tryz.ntmps136
      go_wp2_with (go_at_call 161; refine (alnum_c _ _).mono ?_; rintro e w' ⟨rfl, rfl⟩)
      go_ret
      exact ⟨rfl, rfl⟩
    | true =>
      cases hd : dotted s.data.toList with
      | true =>
        have hf : hostB s.data.toList = false := hostB_false_of fun h => by have := hdot h; rw [hd] at this; cases this
        rw [hf]
        rw [hd] at CN
        clear hhead hlast hdot hall hgood hd
        go_enter Tryz.func136, Tryz.ntmps136
        go_wp2_with (first | (go_at_call 161; refine (alnum_c _ _).mono ?_; rintro e w' ⟨rfl, rfl⟩) | (go_at_call 162; refine (CN _ HM.out).out.mono ?_; rintro e w' ⟨rfl, rfl⟩))
        go_ret
        exact ⟨rfl, rfl⟩
      | false =>
        have hg := hgood ha hb hd
        have hbad : ∀ k (h : k < s.size), hostC s[k] = false → hostB s.data.toList = false := fun k h hc => hostB_false_of fun h' => by
          have := hall h' _ (List.getElem_mem (by rw [size_list]; exact h : k < s.data.toList.length))
          rw [sget_list s k h, hc] at this; cases this
        rw [hd] at CN
        have HG := Lib.hid hg
        have HB := Lib.hid hbad
        clear hhead hlast hdot hall hgood hd hg hbad
        generalize hostB s.data.toList = q at *
        go_enter Tryz.func136, Tryz.ntmps136
        go_wp2_with (first | (go_at_call 161; refine (alnum_c _ _).mono ?_; rintro e w' ⟨rfl, rfl⟩) | (go_at_call 162; refine (CN _ HM.out).out.mono ?_; rintro e w' ⟨rfl, rfl⟩))
        go_loop [3, 32] (fun _ i => ∃ k : Nat, k ≤ s.size ∧ i = .int .i64 k ∧ (s.data.toList.take k).all hostC = true) (fun _ i => s.size - (intOf i).toNat)
        case atStart => exact ⟨0, Nat.zero_le _, rfl, by simp⟩
        case round =>
          obtain ⟨k, hk, rfl, hal⟩ := hrel
          have HA := Lib.hid hal
          clear hal
          by_cases hlt : k < s.size
          · cases hc : hostC s[k] with
            | true =>
              have HC := Lib.hid hc
              cases hn : alnumI s[k].toNat with
              | true =>
                go_wp2_with (go_at_call 161; refine (alnum_c _ _).mono ?_; rintro e w' ⟨rfl, rfl⟩)
                go_round
                case rel => exact ⟨k + 1, by omega, by go_num, all_take_snoc _ s k hlt HA.out HC.out⟩
                case measure => simp [intOf]; omega
              | false =>
                have hcc : (s[k].toNat : Int) = 45 ∨ (s[k].toNat : Int) = 46 := by
                  unfold hostC at hc
                  simp only [Bool.or_eq_true, decide_eq_true_eq] at hc
                  rcases hc with (h | h) | h
                  · have : alnumI s[k].toNat = true := h
                    rw [hn] at this; cases this
                  · exact .inl h
                  · exact .inr h
                rcases hcc with h45 | h46
                · have b45 : ((s[k].toNat : Int) != 45) = false := by rw [h45]; rfl
                  clear hc
                  go_wp2_with (go_at_call 161; refine (alnum_c _ _).mono ?_; rintro e w' ⟨rfl, rfl⟩)
                  go_round
                  case rel => exact ⟨k + 1, by omega, by go_num, all_take_snoc _ s k hlt HA.out HC.out⟩
                  case measure => simp [intOf]; omega
                · have b46 : ((s[k].toNat : Int) != 46) = false := by rw [h46]; rfl
                  have b45 : ((s[k].toNat : Int) != 45) = true := by rw [h46]; rfl
                  clear hc
                  go_wp2_with (go_at_call 161; refine (alnum_c _ _).mono ?_; rintro e w' ⟨rfl, rfl⟩)
                  go_round
                  case rel => exact ⟨k + 1, by omega, by go_num, all_take_snoc _ s k hlt HA.out HC.out⟩
                  case measure => simp [intOf]; omega
            | false =>
              obtain ⟨hn, n45, n46⟩ := hostC_false hc
              have b45 : ((s[k].toNat : Int) != 45) = true := by rw [bne_iff_ne]; exact n45
              have b46 : ((s[k].toNat : Int) != 46) = true := by rw [bne_iff_ne]; exact n46
              have hq := HB.out k hlt hc
              subst hq
              go_wp2_with (go_at_call 161; refine (alnum_c _ _).mono ?_; rintro e w' ⟨rfl, rfl⟩)
              go_ret
              exact ⟨rfl, rfl⟩
          · have hq := HG.out (by have h := HA.out; rw [take_all s k hlt] at h; exact h)
            subst hq
            go_wp2
            go_ret
            exact ⟨rfl, rfl⟩
end Go.Proofs.YtgmjkkiahanekaaGreatDoor

/- The contracts of Authority, program and document. -/
set_option linter.unusedVariables false
set_option linter.unusedSimpArgs false
namespace Go.Proofs.YtgmjkkiahanekaaGreatDoor
open Go.RowKit Lex

def authVal (o : Option (List UInt8 × Int)) : Value :=
  match o with
  | none => .tuple #[.string ⟨#[]⟩, .int .i64 0, .int .i64 61]
  | some (h, p) => .tuple #[.string (bs h), .int .i64 p, .int .i64 0]
theorem decimal_nil : decimal [] 5 = (0, false) := by decide
theorem decimal_nonneg (l : List UInt8) (d : Int) : 0 ≤ (decimal l d).1 := by
  unfold decimal number
  generalize (if 18 < d then 18 else d) = D
  by_cases h : l = [] ∨ D < l.length ∨ (l.all fun c => decide (worth c < 10)) = false
  · rw [if_pos h]; exact Int.le_refl _
  · rw [if_neg h]
    exact (num_bound 10 (by omega) l (by
      cases hh : l.all fun c => decide (worth c < 10) with
      | true => rfl
      | false => exact absurd (.inr (.inr hh)) h)).1
theorem cutB_len (l : List UInt8) (c : UInt8) : (cutB l c).1.length ≤ l.length ∧ (cutB l c).2.1.length ≤ l.length ∧ ((cutB l c).2.2 = false → (cutB l c).2.1 = []) := by
  rcases cutB_cases l c with ⟨a, r, rfl, h1, h2⟩ | ⟨h1, h2⟩
  · rw [h2]; simp; omega
  · rw [h2]; simp

set_option maxRecDepth 100000 in
set_option maxHeartbeats 4000000 in
theorem auth_c (s : ByteArray) (m : Int) (w : World) (hs : s.size ≤ 140737488351232) (hm : w.cell? ⟨0, 0, none⟩ = some (.int .i64 m)) : Calls Tryz.prog 108 #[.string s] w fun e w' => e = .returned (authVal (authB s.data.toList)) ∧ Below w.heap.size w w' := by
  have CU := fun w => Lib.hid (cut_c s 58 w hs)
  obtain ⟨hc1, hc2, hc3⟩ := cutB_len s.data.toList 58
  rw [size_list] at hc1 hc2
  unfold authB
  generalize cutB s.data.toList 58 = x at *
  obtain ⟨a, r, q⟩ := x
  simp only at hc1 hc2 hc3
  have LO := fun w => Lib.hid (lower_c (bs a) w (by rw [bs_size]; omega))
  rw [show (bs a).data.toList = a from rfl] at LO
  have DE := fun w => Lib.hid (decimal_c (bs r) 5 w)
  rw [show (bs r).data.toList = r from rfl] at DE
  have HO := fun w h => Lib.hid (host_c (bs (lower a)) m w (by rw [bs_size, lower_length]; omega) h)
  rw [show (bs (lower a)).data.toList = lower a from rfl] at HO
  have hq0 : q = false → decimal r 5 = (0, false) := fun h => by rw [hc3 h]; exact decimal_nil
  generalize lower a = n at *
  generalize decimal r 5 = dp at *
  obtain ⟨p, ok⟩ := dp
  simp only at DE hq0 ⊢
  have HM := Lib.hid hm
  clear hm hc3
  have key : ∀ (o : Option (List UInt8 × Int)), o = (if hostB n = false then none else if q = false then some (n, 0) else if ok = true ∧ 1 ≤ p ∧ p ≤ 65535 then some (n, p) else none) →
      Calls Tryz.prog 108 #[.string s] w fun e w' => e = .returned (authVal o) ∧ Below w.heap.size w w' := by
    intro o ho
    cases hh : hostB n with
    | false =>
      rw [hh, if_pos rfl] at ho
      subst ho
      rw [hh] at HO
      clear hq0
      go_enter Tryz.func108, Tryz.ntmps108
      go_wp2_with fail
      refine (CU _).out.mono ?_
      rintro e w1 ⟨rfl, hb1⟩
      have M1 := Lib.hid (cell_below hb1 HM.out)
      simp only [cutVal]
      go_wp2_with fail
      refine (LO _).out.mono ?_
      rintro e w2 ⟨rfl, hb2⟩
      have M2 := Lib.hid (cell_below hb2 M1.out)
      go_wp2_with fail
      refine (DE _).out.mono ?_
      rintro e w' ⟨rfl, rfl⟩
      go_wp2_with fail
      refine (HO _ M2.out).out.mono ?_
      rintro e w' ⟨rfl, rfl⟩
      go_wp2
      all_goals
        go_ret3
        exact ⟨rfl, below_then hb1 hb2⟩
    | true =>
      rw [hh, if_neg (by simp)] at ho
      rw [hh] at HO
      cases q with
      | false =>
        rw [if_pos rfl] at ho
        obtain ⟨rfl, rfl⟩ := Prod.mk.inj (hq0 rfl)
        subst ho
        clear hq0
        go_enter Tryz.func108, Tryz.ntmps108
        go_wp2_with fail
        refine (CU _).out.mono ?_
        rintro e w1 ⟨rfl, hb1⟩
        have M1 := Lib.hid (cell_below hb1 HM.out)
        simp only [cutVal]
        go_wp2_with fail
        refine (LO _).out.mono ?_
        rintro e w2 ⟨rfl, hb2⟩
        have M2 := Lib.hid (cell_below hb2 M1.out)
        go_wp2_with fail
        refine (DE _).out.mono ?_
        rintro e w' ⟨rfl, rfl⟩
        go_wp2_with fail
        refine (HO _ M2.out).out.mono ?_
        rintro e w' ⟨rfl, rfl⟩
        go_wp2
        all_goals
          go_ret3
          exact ⟨rfl, below_then hb1 hb2⟩
      | true =>
        rw [if_neg (by simp)] at ho
        clear hq0
        cases ok with
        | false =>
          rw [if_neg (by simp)] at ho
          subst ho
          go_enter Tryz.func108, Tryz.ntmps108
          go_wp2_with fail
          refine (CU _).out.mono ?_
          rintro e w1 ⟨rfl, hb1⟩
          have M1 := Lib.hid (cell_below hb1 HM.out)
          simp only [cutVal]
          go_wp2_with fail
          refine (LO _).out.mono ?_
          rintro e w2 ⟨rfl, hb2⟩
          have M2 := Lib.hid (cell_below hb2 M1.out)
          go_wp2_with fail
          refine (DE _).out.mono ?_
          rintro e w' ⟨rfl, rfl⟩
          go_wp2_with fail
          refine (HO _ M2.out).out.mono ?_
          rintro e w' ⟨rfl, rfl⟩
          go_wp2
          all_goals
            go_ret3
            exact ⟨rfl, below_then hb1 hb2⟩
        | true =>
          rcases (by omega : p < 1 ∨ (1 ≤ p ∧ 65535 < p) ∨ (1 ≤ p ∧ p ≤ 65535)) with hp | ⟨hp, hp2⟩ | ⟨hp, hp2⟩
          · rw [if_neg (by omega)] at ho
            subst ho
            go_enter Tryz.func108, Tryz.ntmps108
            go_wp2_with fail
            refine (CU _).out.mono ?_
            rintro e w1 ⟨rfl, hb1⟩
            have M1 := Lib.hid (cell_below hb1 HM.out)
            simp only [cutVal]
            go_wp2_with fail
            refine (LO _).out.mono ?_
            rintro e w2 ⟨rfl, hb2⟩
            have M2 := Lib.hid (cell_below hb2 M1.out)
            go_wp2_with fail
            refine (DE _).out.mono ?_
            rintro e w' ⟨rfl, rfl⟩
            go_wp2_with fail
            refine (HO _ M2.out).out.mono ?_
            rintro e w' ⟨rfl, rfl⟩
            go_wp2
            all_goals
              go_ret3
              exact ⟨rfl, below_then hb1 hb2⟩
          · rw [if_neg (by omega)] at ho
            subst ho
            go_enter Tryz.func108, Tryz.ntmps108
            go_wp2_with fail
            refine (CU _).out.mono ?_
            rintro e w1 ⟨rfl, hb1⟩
            have M1 := Lib.hid (cell_below hb1 HM.out)
            simp only [cutVal]
            go_wp2_with fail
            refine (LO _).out.mono ?_
            rintro e w2 ⟨rfl, hb2⟩
            have M2 := Lib.hid (cell_below hb2 M1.out)
            go_wp2_with fail
            refine (DE _).out.mono ?_
            rintro e w' ⟨rfl, rfl⟩
            go_wp2_with fail
            refine (HO _ M2.out).out.mono ?_
            rintro e w' ⟨rfl, rfl⟩
            go_wp2
            all_goals
              go_ret3
              exact ⟨rfl, below_then hb1 hb2⟩
          · rw [if_pos ⟨rfl, hp, hp2⟩] at ho
            subst ho
            go_enter Tryz.func108, Tryz.ntmps108
            go_wp2_with fail
            refine (CU _).out.mono ?_
            rintro e w1 ⟨rfl, hb1⟩
            have M1 := Lib.hid (cell_below hb1 HM.out)
            simp only [cutVal]
            go_wp2_with fail
            refine (LO _).out.mono ?_
            rintro e w2 ⟨rfl, hb2⟩
            have M2 := Lib.hid (cell_below hb2 M1.out)
            go_wp2_with fail
            refine (DE _).out.mono ?_
            rintro e w' ⟨rfl, rfl⟩
            go_wp2_with fail
            refine (HO _ M2.out).out.mono ?_
            rintro e w' ⟨rfl, rfl⟩
            go_wp2
            all_goals
              go_ret3
              exact ⟨rfl, below_then hb1 hb2⟩
  exact key _ rfl

set_option maxRecDepth 100000 in
set_option maxHeartbeats 4000000 in
theorem rauth_c (s : ByteArray) (w : World) (hs : s.size ≤ 140737488351232) : Calls Tryz.prog 121 #[.string s] w fun e w' => e = .returned (authVal (authB s.data.toList)) ∧ Below w.heap.size w w' := by
  generalize hA : authB s.data.toList = o
  have HAU := Lib.hid hA
  clear hA
  go_enter Tryz.func121, Tryz.ntmps121
  go_wp2
  go_loop [5] (fun i => ∃ k : Nat, k ≤ s.size ∧ i = .int .i64 k ∧ ∀ x ∈ s.data.toList.take k, x ≠ 58) (fun i => s.size - (intOf i).toNat)
  case atStart => exact ⟨0, Nat.zero_le _, rfl, by simp⟩
  case round =>
    obtain ⟨k, hk, rfl, ha⟩ := hrel
    have HA := Lib.hid ha
    clear ha
    have hx : (s.extract 0 k).data.toList = s.data.toList.take k := by rw [Lib.extract_data]; simp
    have LO := fun w => Lib.hid (rlower_c (s.extract 0 k) w (by rw [← size_list, hx, List.length_take]; omega))
    rw [hx] at LO
    have HO := fun w => Lib.hid (rhost_c (bs (lower (s.data.toList.take k))) w)
    rw [show (bs (lower (s.data.toList.take k))).data.toList = lower (s.data.toList.take k) from rfl] at HO
    by_cases hlt : k < s.size
    · by_cases h58 : s[k] = 58
      · have hcut : cutB s.data.toList 58 = (s.data.toList.take k, s.data.toList.drop (k + 1), true) := by
          have e : s.data.toList = s.data.toList.take k ++ 58 :: s.data.toList.drop (k + 1) := by
            have := List.drop_eq_getElem_cons (l := s.data.toList) (i := k) (by rw [size_list]; exact hlt)
            rw [sget_list s k hlt, h58] at this
            rw [← this, List.take_append_drop]
          conv => lhs; rw [e]
          exact cutB_at HA.out
        have hy : (s.extract (k + 1) s.size).data.toList = s.data.toList.drop (k + 1) := by rw [Lib.extract_to_end]
        have DE := fun w => Lib.hid (rdecimal_c (s.extract (k + 1) s.size) 5 w)
        rw [hy] at DE
        have hauth : authB s.data.toList = (if hostB (lower (s.data.toList.take k)) = false then none else if (decimal (s.data.toList.drop (k + 1)) 5).2 = true ∧ 1 ≤ (decimal (s.data.toList.drop (k + 1)) 5).1 ∧ (decimal (s.data.toList.drop (k + 1)) 5).1 ≤ 65535 then some (lower (s.data.toList.take k), (decimal (s.data.toList.drop (k + 1)) 5).1) else none) := by
          unfold authB; rw [hcut]; simp
        have HO2 := Lib.hid (HAU.out.symm.trans hauth)
        have hnn : 0 ≤ (decimal (s.data.toList.drop (k + 1)) 5).1 := decimal_nonneg _ _
        generalize decimal (s.data.toList.drop (k + 1)) 5 = dp at *
        obtain ⟨p, ok⟩ := dp
        generalize lower (s.data.toList.take k) = n at *
        have hb58 : ((s[k].toNat : Int) != 58) = false := by rw [h58]; rfl
        clear hauth hcut hx hy h58
        cases hh : hostB n with
        | false =>
          rw [hh] at HO
          obtain rfl : o = none := by rw [HO2.out, hh]; rfl
          clear HO2
          go_wp2_with fail
          refine (LO _).out.mono ?_
          rintro e w1 ⟨rfl, hb1⟩
          go_wp2_with fail
          refine (HO _).out.mono ?_
          rintro e w' ⟨rfl, rfl⟩
          go_wp2
          go_ret3
          exact ⟨rfl, hb1⟩
        | true =>
          rw [hh] at HO
          have HO3 := Lib.hid (show o = if ok = true ∧ 1 ≤ p ∧ p ≤ 65535 then some (n, p) else none by rw [HO2.out, hh, if_neg (by simp)])
          clear HO2
          go_wp2_with fail
          refine (LO _).out.mono ?_
          rintro e w1 ⟨rfl, hb1⟩
          go_wp2_with fail
          refine (HO _).out.mono ?_
          rintro e w' ⟨rfl, rfl⟩
          go_wp2_with fail
          refine (DE _).out.mono ?_
          rintro e w' ⟨rfl, rfl⟩
          cases ok with
          | false =>
            obtain rfl : o = none := by rw [HO3.out, if_neg (by simp)]
            go_wp2
            all_goals
              go_ret3
              exact ⟨rfl, hb1⟩
          | true =>
            rcases (by have hn2 : 0 ≤ p := hnn; omega : p = 0 ∨ (1 ≤ p ∧ 65535 < p) ∨ (1 ≤ p ∧ p ≤ 65535)) with rfl | ⟨hp, hp2⟩ | ⟨hp, hp2⟩
            · obtain rfl : o = none := by rw [HO3.out, if_neg (by omega)]
              go_wp2
              all_goals
                go_ret3
                exact ⟨rfl, hb1⟩
            · obtain rfl : o = none := by rw [HO3.out, if_neg (by omega)]
              have p0 : (p == 0) = false := by rw [beq_eq_false_iff_ne]; omega
              go_wp2
              all_goals
                go_ret3
                exact ⟨rfl, hb1⟩
            · obtain rfl : o = some (n, p) := by rw [HO3.out, if_pos ⟨rfl, hp, hp2⟩]
              have p0 : (p == 0) = false := by rw [beq_eq_false_iff_ne]; omega
              go_wp2
              all_goals
                go_ret3
                exact ⟨rfl, hb1⟩
      · have hb58 : ((s[k].toNat : Int) != 58) = true := by
          rw [bne_iff_ne]; intro e; apply h58; rw [← UInt8.toNat_inj]; simp only [UInt8.reduceToNat]; omega
        have hs : ∀ x ∈ s.data.toList.take (k + 1), x ≠ 58 := by
          intro x hx
          rw [take_snoc s k hlt] at hx
          rcases List.mem_append.1 hx with hx | hx
          · exact HA.out x hx
          · simp at hx; rw [hx]; exact h58
        have HS := Lib.hid hs
        clear hs hx h58
        go_wp2
        go_round
        case rel => exact ⟨k + 1, by omega, by go_num, HS.out⟩
        case measure => simp [intOf]; omega
    · obtain rfl : k = s.size := by omega
      have ht : s.data.toList.take s.size = s.data.toList := List.take_of_length_le (by rw [size_list]; exact Nat.le_refl _)
      have hauth : authB s.data.toList = (if hostB (lower s.data.toList) = false then none else some (lower s.data.toList, 0)) := by
        unfold authB; rw [cutB_no (by have h := HA.out; rw [ht] at h; exact h)]; simp
      have HO2 := Lib.hid (HAU.out.symm.trans hauth)
      clear LO
      have LO := fun w => Lib.hid (rlower_c s w hs)
      rw [ht] at HO
      obtain ⟨n, hn⟩ : ∃ n, lower s.data.toList = n := ⟨_, rfl⟩
      rw [hn] at LO HO HO2
      clear hauth ht hx hn
      cases hh : hostB n with
      | false =>
        rw [hh] at HO
        obtain rfl : o = none := by rw [HO2.out, hh]; rfl
        clear HO2
        go_wp2_with fail
        refine (LO _).out.mono ?_
        rintro e w1 ⟨rfl, hb1⟩
        go_wp2_with fail
        refine (HO _).out.mono ?_
        rintro e w' ⟨rfl, rfl⟩
        go_wp2
        go_ret3
        exact ⟨rfl, hb1⟩
      | true =>
        rw [hh] at HO
        obtain rfl : o = some (n, 0) := by rw [HO2.out, hh]; rfl
        clear HO2
        go_wp2_with fail
        refine (LO _).out.mono ?_
        rintro e w1 ⟨rfl, hb1⟩
        go_wp2_with fail
        refine (HO _).out.mono ?_
        rintro e w' ⟨rfl, rfl⟩
        go_wp2
        go_ret3
        exact ⟨rfl, hb1⟩
end Go.Proofs.YtgmjkkiahanekaaGreatDoor

/- The contract of Target.local; Parse of an origin; the anchor; the walks over TargetHosts and TargetCase. -/
set_option linter.unusedVariables false
set_option linter.unusedSimpArgs false
namespace Go.Proofs.YtgmjkkiahanekaaGreatDoor
open Go.RowKit Lex

def tgVal (t : Tg) : Value := .agg #[.int .i64 t.form, .string (bs t.host), .int .i64 t.port, .string (bs t.path), .string (bs t.query), .bool t.has]
def tgOut (x : Tg × Int) : Value := .tuple #[tgVal x.1, .int .i64 x.2]
def goodQ (c : UInt8) : Bool := !badQ c
theorem any_bad (l : List UInt8) : l.any badQ = !l.all goodQ := by
  induction l with
  | nil => rfl
  | cons a l ih => simp only [List.any_cons, List.all_cons, ih, goodQ, Bool.not_and, Bool.not_not]

theorem ret_local {w : World} {B : Nat} {v0 v1 v2 v3 v4 v5 e : Value} (h : Box6 w B v0 v1 v2 v3 v4 v5) {tmps : Array Value} (h4 : tmps[4]?.getD undef = .pointer (some ⟨B, 0, none⟩)) (h5 : tmps[5]?.getD undef = e) :
    (results Tryz.f109 tmps).run Tryz.prog w = .ok (.tuple #[.agg #[v0, v1, v2, v3, v4, v5], e]) w := by
  simp [results, Tryz.results109, go_sem, h4, h5, h.c0, h.c1, h.c2, h.c3, h.c4, h.c5]

set_option maxRecDepth 100000 in
set_option maxHeartbeats 4000000 in
theorem local_c (f p : Int) (h : ByteArray) (s : ByteArray) (m : Int) (w : World) (hs : s.size ≤ 4194304) (hm : w.cell? ⟨0, 0, none⟩ = some (.int .i64 m)) :
    Calls Tryz.prog 109 #[.agg #[.int .i64 f, .string h, .int .i64 p, .string ⟨#[]⟩, .string ⟨#[]⟩, .bool false], .string s] w fun e w' => e = .returned (tgOut (localT { form := f, host := h.data.toList, port := p } s.data.toList)) ∧ Below w.heap.size w w' := by
  have CU := fun w => Lib.hid (pcut_c s w (by omega))
  obtain ⟨hc1, hc2, hc3⟩ := cutB_len s.data.toList 63
  rw [size_list] at hc1 hc2
  unfold localT
  generalize cutB s.data.toList 63 = x at *
  obtain ⟨a, q, hq⟩ := x
  simp only at hc1 hc2 ⊢
  have NO := fun w h => Lib.hid (normal_c (bs a) m w (by rw [bs_size]; omega) h)
  rw [show (bs a).data.toList = a from rfl] at NO
  have HM := Lib.hid hm
  clear hm hc3
  obtain ⟨Q, rfl⟩ : ∃ Q : ByteArray, q = Q.data.toList := ⟨bs q, rfl⟩
  rw [size_list] at hc2
  rw [any_bad]
  have CU2 : ∀ w, Hid (Calls Tryz.prog 137 #[.string s] w fun e w' => e = .returned (.tuple #[.string (bs a), .string Q, .bool hq]) ∧ Below w.heap.size w w') := fun w => by
    have := CU w
    simp only [cutVal, list_bs] at this
    exact this
  clear CU
  cases hn : normal a with
  | none =>
    rw [hn] at NO
    simp only [normVal, Option.getD_none, Option.isSome_none] at NO
    go_enter Tryz.func109, Tryz.ntmps109
    go_wp2_with fail
    refine (CU2 _).out.mono ?_
    rintro e w1 ⟨rfl, hb1⟩
    have B1 : Below w.heap.size w w1 := (((Below.refl _ w).alloc (Nat.le_refl _) _).alloc (by simp) _).trans (hb1.mono (by simp; omega))
    have M1 := Lib.hid (cell_below B1 HM.out)
    have X2 := Lib.hid ((box6_new (w.alloc _) _ _ _ _ _ _ _).below hb1)
    go_wp2_with fail
    refine (NO _ M1.out).out.mono ?_
    rintro e w2 ⟨rfl, hb2⟩
    obtain ⟨c0, c1, c2, c3, c4, c5, fz⟩ := X2.out.below hb2
    rw [show (w.alloc (Obj.cells #[Value.int IntKind.i64 f, Value.string h, Value.int IntKind.i64 p, Value.string ⟨#[]⟩, Value.string ⟨#[]⟩, Value.bool false] 44)).heap.size = w.heap.size + 1 from by simp] at c0 c1 c2 c3 c4 c5 fz
    have f0 := fz 0
    have f1 := fz 1
    have f2 := fz 2
    have f3 := fz 3
    have f4 := fz 4
    have f5 := fz 5
    go_wp2
    (try simp only [Exit.inBlock, Exit.then]); refine bodyPost_ret (ret_local (Box6.stored ⟨c0, c1, c2, c3, c4, c5, fz⟩ _ _ _ _ _ _) rfl rfl) rfl ?_
    refine ⟨rfl, ?_⟩
    repeat refine Below.setCell ?_ (by simp) _
    exact below_then B1 hb2
  | some P =>
    rw [hn] at NO
    simp only [normVal, Option.getD_some, Option.isSome_some, if_true] at NO
    have HG : Q.data.toList.all goodQ = false → Hid (tgOut (if (!Q.data.toList.all goodQ) = true then (({}, 60) : Tg × Int) else ({ form := f, host := h.data.toList, port := p, path := P, query := Q.data.toList, has := hq }, 0)) = tgOut ({}, 60)) := fun e => by rw [e]; rfl
    have HK : Q.data.toList.all goodQ = true → Hid (tgOut (if (!Q.data.toList.all goodQ) = true then (({}, 60) : Tg × Int) else ({ form := f, host := h.data.toList, port := p, path := P, query := Q.data.toList, has := hq }, 0)) = .tuple #[.agg #[.int .i64 f, .string h, .int .i64 p, .string (bs P), .string Q, .bool hq], .int .i64 0]) := fun e => by
      rw [e]
      show tgOut ({ form := f, host := h.data.toList, port := p, path := P, query := Q.data.toList, has := hq }, 0) = _
      simp only [tgOut, tgVal, list_bs]
    generalize tgOut (if (!Q.data.toList.all goodQ) = true then (({}, 60) : Tg × Int) else ({ form := f, host := h.data.toList, port := p, path := P, query := Q.data.toList, has := hq }, 0)) = out at *
    go_enter Tryz.func109, Tryz.ntmps109
    go_wp2_with fail
    refine (CU2 _).out.mono ?_
    rintro e w1 ⟨rfl, hb1⟩
    have B1 : Below w.heap.size w w1 := (((Below.refl _ w).alloc (Nat.le_refl _) _).alloc (by simp) _).trans (hb1.mono (by simp; omega))
    have M1 := Lib.hid (cell_below B1 HM.out)
    have X1 := Lib.hid (((box6_new w _ _ _ _ _ _ _).alloc _).below hb1)
    have X2 := Lib.hid ((box6_new (w.alloc _) _ _ _ _ _ _ _).below hb1)
    go_wp2_with fail
    refine (NO _ M1.out).out.mono ?_
    rintro e w2 ⟨rfl, hb2⟩
    obtain ⟨c0, c1, c2, c3, c4, c5, fz⟩ := X2.out.below hb2
    obtain ⟨d0, d1, d2, d3, d4, d5, gz⟩ := X1.out.below hb2
    rw [show (w.alloc (Obj.cells #[Value.int IntKind.i64 f, Value.string h, Value.int IntKind.i64 p, Value.string ⟨#[]⟩, Value.string ⟨#[]⟩, Value.bool false] 44)).heap.size = w.heap.size + 1 from by simp] at c0 c1 c2 c3 c4 c5 fz
    have f0 := fz 0
    have f1 := fz 1
    have f2 := fz 2
    have f3 := fz 3
    have f4 := fz 4
    have f5 := fz 5
    have g3 := gz 3
    have g4 := gz 4
    have g5 := gz 5
    have B2 := Lib.hid (below_then B1 hb2)
    have BX := Lib.hid (Box6.mk c0 c1 c2 c3 c4 c5 fz)
    clear fz gz hb1 hb2 B1
    go_wp2
    go_loop [10, 28] (fun _ i => ∃ k : Nat, k ≤ Q.size ∧ i = .int .i64 k ∧ (Q.data.toList.take k).all goodQ = true) (fun _ i => Q.size - (intOf i).toNat)
    case atStart => exact ⟨0, Nat.zero_le _, rfl, by simp⟩
    case round =>
      obtain ⟨k, hk, rfl, ha⟩ := hrel
      have HA := Lib.hid ha
      clear ha
      by_cases hlt : k < Q.size
      · cases hq1 : goodQ Q[k] with
        | true =>
          have HS := Lib.hid (all_take_snoc _ Q k hlt HA.out hq1)
          simp only [goodQ, badQ, Bool.not_eq_true', Bool.or_eq_false_iff, decide_eq_false_iff_not] at hq1
          obtain ⟨⟨q1, q2⟩, q3⟩ := hq1
          have q3' : ((Q[k].toNat : Int) == 35) = false := by rw [beq_eq_false_iff_ne]; exact q3
          clear c0 c1 c2 c3 c4 c5 d0 d1 d2 d3 d4 d5
          go_wp2
          go_round
          case rel => exact ⟨k + 1, by omega, by go_num, HS.out⟩
          case measure => simp [intOf]; omega
        | false =>
          obtain rfl : out = tgOut ({}, 60) := (HG (all_of_take goodQ Q k hlt hq1)).out
          simp only [goodQ, badQ, Bool.not_eq_false', Bool.or_eq_true, decide_eq_true_eq] at hq1
          rcases hq1 with (q1 | q1) | q1
          · go_wp2
            (try simp only [Exit.inBlock, Exit.then]); refine bodyPost_ret (ret_local (Box6.stored BX.out _ _ _ _ _ _) rfl rfl) rfl ?_
            refine ⟨rfl, ?_⟩
            repeat refine Below.setCell ?_ (by simp) _
            exact B2.out
          · go_wp2
            (try simp only [Exit.inBlock, Exit.then]); refine bodyPost_ret (ret_local (Box6.stored BX.out _ _ _ _ _ _) rfl rfl) rfl ?_
            refine ⟨rfl, ?_⟩
            repeat refine Below.setCell ?_ (by simp) _
            exact B2.out
          · have q3' : ((Q[k].toNat : Int) == 35) = true := by rw [q1]; rfl
            go_wp2
            (try simp only [Exit.inBlock, Exit.then]); refine bodyPost_ret (ret_local (Box6.stored BX.out _ _ _ _ _ _) rfl rfl) rfl ?_
            refine ⟨rfl, ?_⟩
            repeat refine Below.setCell ?_ (by simp) _
            exact B2.out
      · have HO := Lib.hid (HK (by have h := HA.out; rw [take_all Q k hlt] at h; exact h)).out
        go_wp2
        (try simp only [Exit.inBlock, Exit.then]); refine bodyPost_ret (ret_local (Box6.stored (((BX.out.far _ _ (by simp)).far _ _ (by simp)).far _ _ (by simp)) _ _ _ _ _ _) rfl rfl) rfl ?_
        refine ⟨by rw [HO.out]; rfl, ?_⟩
        repeat refine Below.setCell ?_ (by simp) _
        exact B2.out
end Go.Proofs.YtgmjkkiahanekaaGreatDoor

