/- The contract of the document's Field; the walk over HeadFields. -/
import Derived.Test.YtjbmipbjlhcooaaDoorHdI
set_option linter.unusedVariables false
set_option linter.unusedSimpArgs false
namespace Go.Proofs.YtjbmipbjlhcooaaDoor
open Go.RowKit Lex

theorem ret_rfield {w : World} {B : Nat} {v0 v1 e : Value} (h : Box2 w B v0 v1) {tmps : Array Value} (h4 : tmps[2]?.getD undef = .pointer (some ⟨B, 0, none⟩)) (h5 : tmps[3]?.getD undef = e) :
    (results Tryd.f31 tmps).run Tryd.prog w = .ok (.tuple #[.agg #[v0, v1], e]) w := by
  simp [results, Tryd.results31, go_sem, h4, h5, h.c0, h.c1]
def not58 (c : UInt8) : Bool := decide (c ≠ 58)
theorem all_ne {l : List UInt8} (h : l.all not58 = true) : ∀ x ∈ l, x ≠ 58 := fun x hx => by simpa [not58] using List.all_eq_true.1 h x hx
set_option maxRecDepth 100000 in
set_option maxHeartbeats 4000000 in
theorem rfield_c (s : ByteArray) (w : World) (hs : s.size ≤ 140737488351232) :
    Calls Tryd.prog 31 #[.string s] w fun e w' => e = .returned (fieldVal (fieldL s.data.toList)) ∧ Below w.heap.size w w' := by
  obtain ⟨x, hx⟩ : ∃ x, fieldL s.data.toList = x := ⟨_, rfl⟩
  rw [hx]
  unfold fieldL at hx
  have HX := Lib.hid hx
  clear hx
  have B0 := Lib.hid ((Below.refl _ w).alloc (Nat.le_refl _) (.cells #[.string ⟨#[]⟩, .string ⟨#[]⟩] 50))
  have X0 := Lib.hid (box2_new w (.string ⟨#[]⟩) (.string ⟨#[]⟩) 50)
  go_enter Tryd.func31, Tryd.ntmps31
  go_wp2
  generalize w.alloc (.cells #[.string ⟨#[]⟩, .string ⟨#[]⟩] 50) = V at *
  go_loop [4] (fun i => ∃ k : Nat, k ≤ s.size ∧ i = .int .i64 k ∧ (s.data.toList.take k).all not58 = true) (fun i => s.size - (intOf i).toNat)
  case atStart => exact ⟨0, Nat.zero_le _, rfl, rfl⟩
  case round =>
    obtain ⟨k, hk, rfl, ha⟩ := hrel
    have HA := Lib.hid ha
    clear ha
    obtain ⟨d0, d1, gz⟩ := X0.out
    have g0 := gz 0
    have g1 := gz 1
    clear gz
    by_cases hlt : k < s.size
    · have n58 := neN s[k] 58 58 rfl
      by_cases h58 : s[k] = 58
      · rw [decide_eq_true h58] at n58
        have e1 : (s.extract 0 k).data.toList = s.data.toList.take k := by rw [ext_list]; rfl
        have e2 : (s.extract (k + 1) s.size).data.toList = s.data.toList.drop (k + 1) := by rw [ext_list, List.take_of_length_le (by rw [List.length_drop, size_list]; exact Nat.le_refl _)]
        have hcut : cutB s.data.toList 58 = ((s.extract 0 k).data.toList, (s.extract (k + 1) s.size).data.toList, true) := by
          have := cutB_at (l := s.data.toList.take k) (r := s.data.toList.drop (k + 1)) (c := 58) (all_ne HA.out)
          rw [show s.data.toList.take k ++ 58 :: s.data.toList.drop (k + 1) = s.data.toList from by
            have h := byte_at s k hlt
            rw [h58] at h
            rw [← h, List.take_append_drop]] at this
          rw [this, e1, e2]
        have hx := HX.out
        rw [hcut] at hx
        have hz1 : (s.extract 0 k).size ≤ s.size := by rw [← size_list, e1, List.length_take, size_list]; omega
        have hz2 : (s.extract (k + 1) s.size).size ≤ s.size := by rw [← size_list, e2, List.length_drop, size_list]; omega
        have bk : ((k : Int) == (s.size : Int)) = false := by rw [beq_eq_false_iff_ne]; omega
        have TK := fun w => Lib.hid (rtoken_c (s.extract 0 k) w (by omega))
        have TR := fun w => Lib.hid (rtrim_c (s.extract (k + 1) s.size) w (by omega))
        have VA := fun w => Lib.hid (rvalue_c (bs (trim (s.extract (k + 1) s.size).data.toList)) w (by rw [bs_size]; have := trim_length (s.extract (k + 1) s.size).data.toList; rw [size_list] at this; omega))
        rw [bs_list, trim_id (trim_trim _)] at VA
        have pre : ∀ k1v k2v, token (s.extract 0 k).data.toList = k1v → (trim (s.extract (k + 1) s.size).data.toList).all okv = k2v → fieldVal x = (if k1v = true ∧ k2v = true then .tuple #[.agg #[.string (s.extract 0 k), .string (bs (trim (s.extract (k + 1) s.size).data.toList))], .int .i64 0] else .tuple #[.agg #[.string ⟨#[]⟩, .string ⟨#[]⟩], .int .i64 70]) := by
          rintro _ _ rfl rfl
          rw [← hx]
          simp only [true_and]
          split <;> simp only [fieldVal, list_bs] <;> rfl
        generalize trim (s.extract (k + 1) s.size).data.toList = t2 at *
        generalize token (s.extract 0 k).data.toList = k1 at *
        generalize t2.all okv = k2 at *
        clear hx hcut e1 e2 h58 hz1 hz2 HX
        cases hk1 : k1
        all_goals cases hk2 : k2
        all_goals
          have pp := pre _ _ hk1 hk2
          clear pre
          subst hk1 hk2
          simp only [Bool.false_eq_true, false_and, and_false, if_false, and_self, if_true] at pp
          have PP := Lib.hid pp
          clear pp
          go_wp2_with (first
            | (go_at_call 28; refine (TK _).out.mono ?_; rintro e w3 ⟨rfl, rfl⟩)
            | (go_at_call 54; refine (TR _).out.mono ?_; rintro e w3 ⟨rfl, rfl⟩)
            | (go_at_call 50; refine (VA _).out.mono ?_; rintro e w3 ⟨rfl, rfl⟩))
          refine bodyPost_ret (ret_rfield (Box2.stored X0.out _ _) rfl rfl) rfl ?_
          exact ⟨by rw [PP.out] <;> rfl, (B0.out.setCell (by simp) _).setCell (by simp) _⟩
      · rw [decide_eq_false h58] at n58
        have HN := Lib.hid (all_take_snoc not58 s k hlt HA.out (by simp [not58, h58]))
        clear h58
        go_wp2
        go_round
        case rel => exact ⟨k + 1, by omega, by go_num, HN.out⟩
        case measure => simp [intOf]; omega
    · have hall := HA.out
      rw [take_all s k hlt] at hall
      have hx := HX.out
      rw [cutB_no (all_ne hall), if_neg (by simp)] at hx
      subst hx
      have bk : ((k : Int) == (s.size : Int)) = true := by rw [beq_iff_eq]; omega
      clear hall HX
      go_wp2
      refine bodyPost_ret (ret_rfield (Box2.stored X0.out _ _) rfl rfl) rfl ?_
      exact ⟨rfl, (B0.out.setCell (by simp) _).setCell (by simp) _⟩
set_option maxRecDepth 100000 in
set_option maxHeartbeats 4000000 in
theorem hfields_walk {W : World} (s : ByteArray) (hs : s.size ≤ 1048576) (M : Int) (W2 : World) (hW : W2 = W) (hm : W2.cell? ⟨0, 0, none⟩ = some (.int .i64 M)) :
    Calls Tryd.prog 10 #[.string s] W2 fun e w' => e = .returned (.bool true) ∧ Below W2.heap.size W2 w' := by
  subst hW
  have AN := Lib.hid (anchor8_c M W2 hm)
  have F1 := fun w => Lib.hid (hfield_c s w (by omega))
  have F2 := fun w => Lib.hid (rfield_c s w (by omega))
  obtain ⟨p, q, e, hv⟩ : ∃ p q e, fieldVal (fieldL s.data.toList) = .tuple #[.agg #[.string p, .string q], .int .i64 e] := by
    cases fieldL s.data.toList with
    | none => exact ⟨_, _, _, rfl⟩
    | some f => exact ⟨_, _, _, rfl⟩
  rw [hv] at F1 F2
  clear hv hm
  go_enter Tryd.func10, Tryd.ntmps10
  go_wp2_with fail
  refine AN.out.mono ?_
  rintro e w1 ⟨rfl, hb1⟩
  have B1 := Lib.hid hb1
  clear hb1
  go_wp2_with fail
  refine (F1 _).out.mono ?_
  rintro e w2 ⟨rfl, hb2⟩
  have B2 := Lib.hid (below_then B1.out hb2)
  clear hb2
  go_wp2_with fail
  have B3 := Lib.hid (B2.out.alloc B2.out.size (.cells #[.string p, .string q] 50))
  have X3 := Lib.hid (box2_new w2 (.string p) (.string q) 50)
  refine (F2 _).out.mono ?_
  rintro e w3 ⟨rfl, hb3⟩
  have B4 := Lib.hid (below_then B3.out hb3)
  obtain ⟨d0, d1, gz⟩ := X3.out.below hb3
  have hlt := World.block_lt_of_cell? w3 _ d0
  clear hb3 gz
  go_wp2
  go_ret
  exact ⟨rfl, B4.out.alloc B4.out.size _⟩
end Go.Proofs.YtjbmipbjlhcooaaDoor
