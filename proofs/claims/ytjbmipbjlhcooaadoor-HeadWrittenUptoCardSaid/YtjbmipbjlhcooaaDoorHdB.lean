/- The contracts of head.line and of the document's End. -/
import Derived.Test.YtjbmipbjlhcooaaDoorHdA
import Derived.Test.YtjbmipbjlhcooaaDoorLexB
import Derived.Test.YtjbmipbjlhcooaaDoorLexF
import Derived.Test.YtjbmipbjlhcooaaDoorPathE
import Derived.Test.YtjbmipbjlhcooaaDoorShelf
set_option linter.unusedVariables false
set_option linter.unusedSimpArgs false
namespace Go.Proofs.YtjbmipbjlhcooaaDoor
open Go.RowKit Lex

theorem byte_at (s : ByteArray) (k : Nat) (h : k < s.size) : s.data.toList.drop k = s[k] :: s.data.toList.drop (k + 1) := by
  have := List.drop_eq_getElem_cons (l := s.data.toList) (i := k) (by rw [size_list]; exact h)
  rw [this]; rfl
theorem eqN (c d : UInt8) (n : Int) (h : (d.toNat : Int) = n) : ((c.toNat : Int) == n) = decide (c = d) := by
  rw [Bool.eq_iff_iff, beq_iff_eq, decide_eq_true_eq, ← UInt8.toNat_inj]; omega
theorem neN (c d : UInt8) (n : Int) (h : (d.toNat : Int) = n) : ((c.toNat : Int) != n) = !decide (c = d) := by unfold bne; rw [eqN c d n h]
def lineVal (x : Option (List UInt8) × Int) : Value := .tuple #[.string (bs (x.1.getD [])), .bool x.1.isSome, .int .i64 x.2]
theorem line_res {over : Int} {M k : Nat} {L : List UInt8} (h : (L.take k).all lb = true) (hk : k ≤ M) (hl : k ≤ L.length) :
    lineL over M L = ((lineL over (M - k) (L.drop k)).1.map (L.take k ++ ·), (lineL over (M - k) (L.drop k)).2) := by
  have := lineL_app over (L.take k) M (L.drop k) h (by rw [List.length_take]; omega)
  rw [List.take_append_drop] at this
  rw [List.length_take, Nat.min_eq_left hl] at this
  exact this
theorem lb_of {c : UInt8} (h1 : c ≠ 10) (h2 : c ≠ 13) : lb c = true := by simp [lb, h1, h2]

set_option maxRecDepth 100000 in
set_option maxHeartbeats 1000000 in
theorem line_c (s : ByteArray) (M : Nat) (over : Int) (w : World) (hs : s.size ≤ 9223372036854775806) :
    Calls Tryd.prog 73 #[.string s, .int .i64 M, .int .i64 over] w fun e w' => e = .returned (lineVal (lineL over M s.data.toList)) ∧ w = w' := by
  generalize hv : lineL over M s.data.toList = v
  have HV := Lib.hid hv
  clear hv
  go_enter Tryd.func73, Tryd.ntmps73
  go_wp2
  go_loop [9, 12] (fun _ i => ∃ k : Nat, k ≤ s.size ∧ k ≤ M ∧ i = .int .i64 k ∧ (s.data.toList.take k).all lb = true) (fun _ i => s.size - (intOf i).toNat)
  case atStart => exact ⟨0, Nat.zero_le _, Nat.zero_le _, rfl, rfl⟩
  case round =>
    obtain ⟨k, hk, hkM, rfl, ha⟩ := hrel
    have hres := HV.out.symm.trans (line_res (over := over) ha hkM (by rw [size_list]; exact hk))
    have HA := Lib.hid ha
    clear ha
    by_cases hlt : k < s.size
    · rw [byte_at s k hlt] at hres
      have c10 := eqN s[k] 10 10 rfl
      have c13 := eqN s[k] 13 13 rfl
      by_cases h10 : s[k] = 10
      · rw [h10, lineL_10] at hres
        obtain rfl : v = (none, 80) := hres
        rw [decide_eq_true h10] at c10
        clear h10 c13
        go_wp2
        go_ret3
        exact ⟨rfl, rfl⟩
      · rw [decide_eq_false h10] at c10
        by_cases h13 : s[k] = 13
        · rw [h13, lineL_13] at hres
          rw [decide_eq_true h13] at c13
          by_cases hlast : k + 1 = s.size
          · have hd : s.data.toList.drop (k + 1) = [] := List.drop_eq_nil_of_le (by rw [size_list]; omega)
            rw [if_pos hd] at hres
            obtain rfl : v = (none, 0) := hres
            have bl : ((k : Int) + 1 == (s.size : Int)) = true := by rw [beq_iff_eq]; omega
            clear h10 h13 hd
            go_wp2
            go_ret3
            exact ⟨rfl, rfl⟩
          · have hlt2 : k + 1 < s.size := by omega
            have hd := byte_at s (k + 1) hlt2
            rw [hd, if_neg (by simp)] at hres
            have bl : ((k : Int) + 1 == (s.size : Int)) = false := by rw [beq_eq_false_iff_ne]; omega
            have n10 : ((s[k + 1].toNat : Int) != 10) = !decide (s[k + 1] = 10) := neN s[k + 1] 10 10 rfl
            by_cases hn : s[k + 1] = 10
            · simp only [hn, List.head?_cons, if_true, Option.map_some, List.append_nil] at hres
              rw [decide_eq_true hn] at n10
              have e1 : (s.extract 0 k).data.toList = s.data.toList.take k := by rw [Lib.extract_data]; simp
              have hr2 : v = (some (s.extract 0 k).data.toList, 0) := by rw [hres, e1]
              subst hr2
              clear hres h10 h13 hd hn e1
              go_wp2
              go_ret3
              exact ⟨by unfold lineVal; simp only [Option.getD_some, list_bs]; rfl, rfl⟩
            · rw [if_neg (by simpa using hn)] at hres
              obtain rfl : v = (none, 80) := hres
              rw [decide_eq_false hn] at n10
              clear h10 h13 hd hn
              go_wp2
              go_ret3
              exact ⟨rfl, rfl⟩
        · rw [decide_eq_false h13] at c13
          by_cases hM : k = M
          · subst hM
            rw [Nat.sub_self, lineL_over over _ h10 h13] at hres
            obtain rfl : v = (none, over) := hres
            clear h10 h13
            go_wp2
            go_ret3
            exact ⟨rfl, rfl⟩
          · have hkM2 : (k : Int) < (M : Int) := by omega
            have HN := Lib.hid (all_take_snoc lb s k hlt HA.out (lb_of h10 h13))
            clear hres h10 h13
            go_wp2
            go_round
            case rel => exact ⟨k + 1, by omega, by omega, by go_num, HN.out⟩
            case measure => simp [intOf]; omega
    · have hd : s.data.toList.drop k = [] := List.drop_eq_nil_of_le (by rw [size_list]; omega)
      rw [hd, lineL_nil] at hres
      obtain rfl : v = (none, 0) := hres
      clear hd
      go_wp2
      go_ret3
      exact ⟨rfl, rfl⟩

def endVal (a : Nat) (x : Option (List UInt8) × Int) : Value := .tuple #[.int .i64 (match x.1 with | some l => ((a + l.length : Nat) : Int) | none => -1), .int .i64 x.2]
set_option maxRecDepth 100000 in
set_option maxHeartbeats 1000000 in
theorem rend_c (s : ByteArray) (a M : Nat) (over : Int) (w : World) (hs : s.size ≤ 9223372036854775806) (hat : a ≤ s.size) (hM : M ≤ 100000) :
    Calls Tryd.prog 55 #[.string s, .int .i64 a, .int .i64 M, .int .i64 over] w fun e w' => e = .returned (endVal a (lineL over M (s.data.toList.drop a))) ∧ w = w' := by
  generalize hv : lineL over M (s.data.toList.drop a) = v
  have HV := Lib.hid hv
  clear hv
  go_enter Tryd.func55, Tryd.ntmps55
  go_wp2
  go_loop [10] (fun i => ∃ k : Nat, a + k ≤ s.size ∧ k ≤ M ∧ i = .int .i64 (a + k : Nat) ∧ ((s.data.toList.drop a).take k).all lb = true) (fun i => s.size - (intOf i).toNat)
  case atStart => exact ⟨0, hat, Nat.zero_le _, rfl, rfl⟩
  case round =>
    obtain ⟨k, hk, hkM, rfl, ha⟩ := hrel
    have hres := HV.out.symm.trans (line_res (over := over) ha hkM (by rw [List.length_drop, size_list]; omega))
    rw [List.drop_drop] at hres
    have HA := Lib.hid ha
    clear ha
    obtain ⟨i, hi⟩ : ∃ i, a + k = i := ⟨_, rfl⟩
    have hai : (a : Int) ≤ (i : Int) := by omega
    rw [hi] at hres hk ⊢
    by_cases hlt : i < s.size
    · rw [byte_at s i hlt] at hres
      have c10 := eqN s[i] 10 10 rfl
      have c13 := eqN s[i] 13 13 rfl
      by_cases h10 : s[i] = 10
      · rw [h10, lineL_10] at hres
        obtain rfl : v = (none, 80) := hres
        rw [decide_eq_true h10] at c10
        clear h10 c13 hi
        go_wp2
        go_ret2
        exact ⟨rfl, rfl⟩
      · rw [decide_eq_false h10] at c10
        by_cases h13 : s[i] = 13
        · rw [h13, lineL_13] at hres
          rw [decide_eq_true h13] at c13
          by_cases hlast : i + 1 = s.size
          · have hd : s.data.toList.drop (i + 1) = [] := List.drop_eq_nil_of_le (by rw [size_list]; omega)
            rw [if_pos hd] at hres
            obtain rfl : v = (none, 0) := hres
            have bl : (s.size : Int) ≤ (i : Int) + 1 := by omega
            clear h10 h13 hd hi
            go_wp2
            go_ret2
            exact ⟨rfl, rfl⟩
          · have hlt2 : i + 1 < s.size := by omega
            have hd := byte_at s (i + 1) hlt2
            rw [hd, if_neg (by simp)] at hres
            have bl : ¬ (s.size : Int) ≤ (i : Int) + 1 := by omega
            have n10 : ((s[i + 1].toNat : Int) != 10) = !decide (s[i + 1] = 10) := neN s[i + 1] 10 10 rfl
            by_cases hn : s[i + 1] = 10
            · simp only [hn, List.head?_cons, if_true, Option.map_some, List.append_nil] at hres
              rw [decide_eq_true hn] at n10
              have hr2 : v = (some ((s.data.toList.drop a).take k), 0) := by rw [hres]
              have hl : ((s.data.toList.drop a).take k).length = k := by rw [List.length_take, List.length_drop, size_list]; omega
              have HR := Lib.hid (show endVal a v = .tuple #[.int .i64 (i : Int), .int .i64 0] by rw [hr2]; unfold endVal; simp only [hl, hi])
              clear hres h10 h13 hd hn hr2 hl hi
              go_wp2
              go_ret2
              exact ⟨by rw [HR.out]; rfl, rfl⟩
            · rw [if_neg (by simpa using hn)] at hres
              obtain rfl : v = (none, 80) := hres
              rw [decide_eq_false hn] at n10
              clear h10 h13 hd hn hi
              go_wp2
              go_ret2
              exact ⟨rfl, rfl⟩
        · rw [decide_eq_false h13] at c13
          by_cases hM2 : k = M
          · subst hM2
            rw [Nat.sub_self, lineL_over over _ h10 h13] at hres
            obtain rfl : v = (none, over) := hres
            have hge : (k : Int) ≤ (i : Int) - (a : Int) := by omega
            clear h10 h13 hi
            go_wp2
            go_ret2
            exact ⟨rfl, rfl⟩
          · have hlt3 : (i : Int) - (a : Int) < (M : Int) := by omega
            have HN := Lib.hid (show ((s.data.toList.drop a).take (k + 1)).all lb = true by
              rw [List.take_succ_eq_append_getElem (by rw [List.length_drop, size_list]; omega), List.all_append, HA.out]
              have : (s.data.toList.drop a)[k]'(by rw [List.length_drop, size_list]; omega) = s[i] := by
                rw [List.getElem_drop]
                have h2 : s.data.toList[i]'(by rw [size_list]; exact hlt) = s[i] := rfl
                rw [← h2]; congr 1
              rw [this]; simp [lb_of h10 h13])
            have HI := Lib.hid hi
            clear hres h10 h13 hi
            go_wp2
            go_round
            case rel => exact ⟨k + 1, by have := HI.out; omega, by omega, by have := HI.out; rw [show a + (k + 1) = i + 1 by omega]; go_num, HN.out⟩
            case measure => simp [intOf]; omega
    · have hd : s.data.toList.drop i = [] := List.drop_eq_nil_of_le (by rw [size_list]; omega)
      rw [hd, lineL_nil] at hres
      obtain rfl : v = (none, 0) := hres
      clear hd hi
      go_wp2
      go_ret2
      exact ⟨rfl, rfl⟩
end Go.Proofs.YtjbmipbjlhcooaaDoor
