/- The contracts of target.host and of Authority, program and document. -/
import Derived.Test.YtjbmipbjlhcooaaDoorTgtB
import Derived.Test.YtjbmipbjlhcooaaDoorLexG
set_option linter.unusedVariables false
set_option linter.unusedSimpArgs false
namespace Go.Proofs.YtjbmipbjlhcooaaDoor
open Go.RowKit Lex

theorem hostB_false_of {l : List UInt8} (h : ∀ (_ : hostB l = true), False) : hostB l = false := by rw [← Bool.not_eq_true]; exact h

set_option maxRecDepth 100000 in
set_option maxHeartbeats 4000000 in
theorem host_c (s : ByteArray) (m : Int) (w : World) (hs : s.size ≤ 140737488351232) (hm : w.cell? ⟨0, 0, none⟩ = some (.int .i64 m)) : Calls Tryd.prog 38 #[.string s] w fun e w' => e = .returned (.bool (hostB s.data.toList)) ∧ w = w' := by
  by_cases h0 : s.size = 0
  · obtain rfl : s = ⟨#[]⟩ := by
      cases s with | mk d => cases d with | mk l => cases l with
        | nil => rfl
        | cons a l => simp [ByteArray.size] at h0
    rw [show hostB (ByteArray.mk #[]).data.toList = false from rfl]
    go_enter Tryd.func38, Tryd.ntmps38
    go_wp2
    go_ret
    exact ⟨rfl, rfl⟩
  have he := nonempty_toList h0
  have h1 : 0 < s.size := by omega
  by_cases h64 : 64 < s.size
  · have hf : hostB s.data.toList = false := hostB_false_of fun h => by
      have := ((hostB_iff _).1 h).2.1; rw [size_list] at this; omega
    rw [hf]
    go_enter Tryd.func38, Tryd.ntmps38
    go_wp2
    go_ret
    exact ⟨rfl, rfl⟩
  have hl1 : s.size - 1 < s.size := by omega
  have hl2 : (s.size : Int) - 1 = ((s.size - 1 : Nat) : Int) := by omega
  have hhead : hostB s.data.toList = true → alnumI s[0].toNat = true := fun h => by
    rcases ((hostB_iff _).1 h).2.2 0 (by rw [size_list]; omega) with h' | ⟨h', _⟩
    · exact h'
    · exact absurd rfl h'
  have hlast : hostB s.data.toList = true → alnumI s[s.size - 1].toNat = true := fun h => by
    rcases ((hostB_iff _).1 h).2.2 (s.size - 1) (by rw [size_list]; omega) with h' | ⟨_, h', _⟩
    · exact h'
    · rw [size_list] at h'; omega
  have hdot : hostB s.data.toList = true → dotted s.data.toList = false := fun h => by
    unfold hostB at h
    simp only [Bool.and_eq_true, Bool.not_eq_true'] at h
    exact h.1.2
  have hall : hostB s.data.toList = true → ∀ c ∈ s.data.toList, hostC c = true := fun h => (hostB_parts h).1
  have hgood : alnumI s[0].toNat = true → alnumI s[s.size - 1].toNat = true → dotted s.data.toList = false → s.data.toList.all hostC = true → hostB s.data.toList = true := by
    intro a b c d
    have e1 : s.data.toList.head? = some s[0] := by rw [List.head?_eq_getElem?]; exact List.getElem?_eq_getElem (by rw [size_list]; exact h1)
    have e2 : s.data.toList.getLast? = some s[s.size - 1] := by rw [List.getLast?_eq_getElem?, size_list]; exact List.getElem?_eq_getElem (by rw [size_list]; exact hl1)
    unfold hostB
    rw [e1, e2, c, d]
    have n1 : s.data.toList ≠ [] := by intro e; rw [e] at e1; cases e1
    simp only [Option.map_some, Option.getD_some, n1, ne_eq, not_false_eq_true, decide_true, Bool.true_and, Bool.not_false, Bool.and_true, Bool.and_eq_true, decide_eq_true_eq]
    exact ⟨⟨by rw [size_list]; omega, a⟩, b⟩
  have CN := fun w h => Lib.hid (Tryd.strings_Contains s ⟨#[46, 46]⟩ m w (by omega) h)
  rw [show (ByteArray.mk #[46, 46]).data.toList = [46, 46] from rfl, contains_dots] at CN
  have HM := Lib.hid hm
  clear hm
  cases ha : alnumI s[0].toNat with
  | false =>
    have hf : hostB s.data.toList = false := hostB_false_of fun h => by have := hhead h; rw [ha] at this; cases this
    rw [hf]
    clear hhead hlast hdot hall hgood
    go_enter Tryd.func38, Tryd.ntmps38
    go_wp2_with (go_at_call 61; refine (alnum_c _ _).mono ?_; rintro e w' ⟨rfl, rfl⟩)
    go_ret
    exact ⟨rfl, rfl⟩
  | true =>
    cases hb : alnumI s[s.size - 1].toNat with
    | false =>
      have hf : hostB s.data.toList = false := hostB_false_of fun h => by have := hlast h; rw [hb] at this; cases this
      rw [hf]
      clear hhead hlast hdot hall hgood
      go_enter Tryd.func38, Tryd.ntmps38
      go_wp2_with (go_at_call 61; refine (alnum_c _ _).mono ?_; rintro e w' ⟨rfl, rfl⟩)
      go_ret
      exact ⟨rfl, rfl⟩
    | true =>
      cases hd : dotted s.data.toList with
      | true =>
        have hf : hostB s.data.toList = false := hostB_false_of fun h => by have := hdot h; rw [hd] at this; cases this
        rw [hf]
        rw [hd] at CN
        clear hhead hlast hdot hall hgood hd
        go_enter Tryd.func38, Tryd.ntmps38
        go_wp2_with (first | (go_at_call 61; refine (alnum_c _ _).mono ?_; rintro e w' ⟨rfl, rfl⟩) | (go_at_call 62; refine (CN _ HM.out).out.mono ?_; rintro e w' ⟨rfl, rfl⟩))
        go_ret
        exact ⟨rfl, rfl⟩
      | false =>
        have hg := hgood ha hb hd
        have hbad : ∀ k (h : k < s.size), hostC s[k] = false → hostB s.data.toList = false := fun k h hc => hostB_false_of fun h' => by
          have := hall h' _ (List.getElem_mem (by rw [size_list]; exact h : k < s.data.toList.length))
          rw [sget_list s k h, hc] at this; cases this
        rw [hd] at CN
        have HG := Lib.hid hg
        have HB := Lib.hid hbad
        clear hhead hlast hdot hall hgood hd hg hbad
        generalize hostB s.data.toList = q at *
        go_enter Tryd.func38, Tryd.ntmps38
        go_wp2_with (first | (go_at_call 61; refine (alnum_c _ _).mono ?_; rintro e w' ⟨rfl, rfl⟩) | (go_at_call 62; refine (CN _ HM.out).out.mono ?_; rintro e w' ⟨rfl, rfl⟩))
        go_loop [3, 32] (fun _ i => ∃ k : Nat, k ≤ s.size ∧ i = .int .i64 k ∧ (s.data.toList.take k).all hostC = true) (fun _ i => s.size - (intOf i).toNat)
        case atStart => exact ⟨0, Nat.zero_le _, rfl, by simp⟩
        case round =>
          obtain ⟨k, hk, rfl, hal⟩ := hrel
          have HA := Lib.hid hal
          clear hal
          by_cases hlt : k < s.size
          · cases hc : hostC s[k] with
            | true =>
              have HC := Lib.hid hc
              cases hn : alnumI s[k].toNat with
              | true =>
                go_wp2_with (go_at_call 61; refine (alnum_c _ _).mono ?_; rintro e w' ⟨rfl, rfl⟩)
                go_round
                case rel => exact ⟨k + 1, by omega, by go_num, all_take_snoc _ s k hlt HA.out HC.out⟩
                case measure => simp [intOf]; omega
              | false =>
                have hcc : (s[k].toNat : Int) = 45 ∨ (s[k].toNat : Int) = 46 := by
                  unfold hostC at hc
                  simp only [Bool.or_eq_true, decide_eq_true_eq] at hc
                  rcases hc with (h | h) | h
                  · have : alnumI s[k].toNat = true := h
                    rw [hn] at this; cases this
                  · exact .inl h
                  · exact .inr h
                rcases hcc with h45 | h46
                · have b45 : ((s[k].toNat : Int) != 45) = false := by rw [h45]; rfl
                  clear hc
                  go_wp2_with (go_at_call 61; refine (alnum_c _ _).mono ?_; rintro e w' ⟨rfl, rfl⟩)
                  go_round
                  case rel => exact ⟨k + 1, by omega, by go_num, all_take_snoc _ s k hlt HA.out HC.out⟩
                  case measure => simp [intOf]; omega
                · have b46 : ((s[k].toNat : Int) != 46) = false := by rw [h46]; rfl
                  have b45 : ((s[k].toNat : Int) != 45) = true := by rw [h46]; rfl
                  clear hc
                  go_wp2_with (go_at_call 61; refine (alnum_c _ _).mono ?_; rintro e w' ⟨rfl, rfl⟩)
                  go_round
                  case rel => exact ⟨k + 1, by omega, by go_num, all_take_snoc _ s k hlt HA.out HC.out⟩
                  case measure => simp [intOf]; omega
            | false =>
              obtain ⟨hn, n45, n46⟩ := hostC_false hc
              have b45 : ((s[k].toNat : Int) != 45) = true := by rw [bne_iff_ne]; exact n45
              have b46 : ((s[k].toNat : Int) != 46) = true := by rw [bne_iff_ne]; exact n46
              have hq := HB.out k hlt hc
              subst hq
              go_wp2_with (go_at_call 61; refine (alnum_c _ _).mono ?_; rintro e w' ⟨rfl, rfl⟩)
              go_ret
              exact ⟨rfl, rfl⟩
          · have hq := HG.out (by have h := HA.out; rw [take_all s k hlt] at h; exact h)
            subst hq
            go_wp2
            go_ret
            exact ⟨rfl, rfl⟩
end Go.Proofs.YtjbmipbjlhcooaaDoor
