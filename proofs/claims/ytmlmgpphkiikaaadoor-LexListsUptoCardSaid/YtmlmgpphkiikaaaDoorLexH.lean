/- The walks over LexTexts and LexCase, for all texts. -/
import Derived.Test.YtmlmgpphkiikaaaDoorLexG
set_option linter.unusedVariables false
set_option linter.unusedSimpArgs false
namespace Go.Proofs.YtmlmgpphkiikaaaDoor
open Go.RowKit Lex

theorem below_then {W w1 w2 : World} (h : Below W.heap.size W w1) (k : Below w1.heap.size w1 w2) : Below W.heap.size W w2 := h.trans (k.mono h.size)
theorem bs_sz (l : List UInt8) : (bs l).size = l.length := rfl

set_option maxRecDepth 100000 in
set_option maxHeartbeats 2000000 in
theorem texts_walk (s : ByteArray) (hs : s.size ≤ 140737488351232) (t : ByteArray) (ht : t.size ≤ 140737488351232) (W : World) {w : World} (hW : W = w) :
    Calls Tryd.prog 5 #[.string s, .string t] W fun e w' => e = .returned (.bool true) ∧ Below W.heap.size W w' := by
  subst hW
  have A := fun w => Lib.hid (anchor_c w)
  have K1 := fun w => Lib.hid (token_c s w (by omega))
  have K2 := fun w => Lib.hid (rtoken_c s w (by omega))
  have K3 := fun w => Lib.hid (value_c s w (by omega))
  have K4 := fun w => Lib.hid (rvalue_c s w (by omega))
  have K5 := fun w => Lib.hid (trim_c s w (by omega))
  have K6 := fun w => Lib.hid (rtrim_c s w (by omega))
  have K7 := fun w => Lib.hid (lower_c s w (by omega))
  have K8 := fun w => Lib.hid (rlower_c s w (by omega))
  have K9 := fun w => Lib.hid (alike_c s t w (by omega) (by omega))
  have K10 := fun w => Lib.hid (rlower_c t w (by omega))
  have K11 := fun w => Lib.hid (alike_c s (bs (lower s.data.toList)) w (by omega) (by rw [bs_sz, lower_length, size_list]; omega))
  rw [bs_list, show alike s.data.toList (lower s.data.toList) = true from by unfold alike; rw [lower_lower]; simp] at K11
  have hal : alike s.data.toList t.data.toList = ((bs (lower s.data.toList)).toList == (bs (lower t.data.toList)).toList) := by
    rw [Lib.toList_data, Lib.toList_data]; rfl
  rw [hal] at K9
  clear hal
  generalize token s.data.toList = a1 at *
  generalize value s.data.toList = a2 at *
  generalize bs (trim s.data.toList) = a3 at *
  generalize bs (lower s.data.toList) = a4 at *
  generalize bs (lower t.data.toList) = a5 at *
  go_enter Tryd.func5, Tryd.ntmps5
  go_wp2_with fail
  refine (A _).out.mono ?_
  rintro e w1 ⟨rfl, hb1⟩
  go_wp2_with fail
  refine (K1 _).out.mono ?_
  rintro e w2 ⟨rfl, rfl⟩
  go_wp2_with fail
  refine (K2 _).out.mono ?_
  rintro e w2 ⟨rfl, rfl⟩
  go_wp2_with fail
  refine (K3 _).out.mono ?_
  rintro e w2 ⟨rfl, hb2⟩
  have b2 := below_then hb1 hb2
  clear hb1 hb2
  go_wp2_with fail
  refine (K4 _).out.mono ?_
  rintro e w3 ⟨rfl, rfl⟩
  go_wp2_with fail
  refine (K5 _).out.mono ?_
  rintro e w3 ⟨rfl, hb3⟩
  have b3 := below_then b2 hb3
  clear b2 hb3
  go_wp2_with fail
  refine (K6 _).out.mono ?_
  rintro e w4 ⟨rfl, rfl⟩
  go_wp2_with fail
  refine (K7 _).out.mono ?_
  rintro e w4 ⟨rfl, hb4⟩
  have b4 := below_then b3 hb4
  clear b3 hb4
  go_wp2_with fail
  refine (K8 _).out.mono ?_
  rintro e w5 ⟨rfl, hb5⟩
  have b5 := below_then b4 hb5
  clear b4 hb5
  go_wp2_with fail
  refine (K9 _).out.mono ?_
  rintro e w6 ⟨rfl, hb6⟩
  have b6 := below_then b5 hb6
  clear b5 hb6
  go_wp2_with fail
  refine (K8 _).out.mono ?_
  rintro e w7 ⟨rfl, hb7⟩
  have b7 := below_then b6 hb7
  clear b6 hb7
  go_wp2_with fail
  refine (K10 _).out.mono ?_
  rintro e w8 ⟨rfl, hb8⟩
  have b8 := below_then b7 hb8
  clear b7 hb8
  go_wp2_with fail
  refine (K7 _).out.mono ?_
  rintro e w9 ⟨rfl, hb9⟩
  have b9 := below_then b8 hb9
  clear b8 hb9
  go_wp2_with fail
  refine (K11 _).out.mono ?_
  rintro e w10 ⟨rfl, hb10⟩
  have b10 := below_then b9 hb10
  clear b9 hb10
  go_wp2
  go_ret
  exact ⟨ret_bool (by simp), b10⟩

set_option maxRecDepth 100000 in
set_option maxHeartbeats 2000000 in
theorem case_walk (s : ByteArray) (hs : s.size ≤ 140737488351232) (t : ByteArray) (ht : t.size ≤ 140737488351232) (W : World) {w : World} (hW : W = w) :
    Calls Tryd.prog 6 #[.string s, .string t] W fun e w' => e = .returned (.bool true) ∧ Below W.heap.size W w' := by
  subst hW
  have hl : (bs (lower s.data.toList)).size = s.size := by rw [bs_sz, lower_length, size_list]
  have A := fun w => Lib.hid (anchor_c w)
  have L1 := fun w => Lib.hid (lower_c s w (by omega))
  have L2 := fun w => Lib.hid (lower_c (bs (lower s.data.toList)) w (by omega))
  rw [bs_list, lower_lower] at L2
  have AL := fun w => Lib.hid (alike_c (bs (lower s.data.toList)) s w (by omega) (by omega))
  rw [bs_list, show alike (lower s.data.toList) s.data.toList = true from by unfold alike; rw [lower_lower]; simp] at AL
  have T1 := fun w => Lib.hid (token_c (bs (lower s.data.toList)) w (by omega))
  rw [bs_list, token_lower] at T1
  have T2 := fun w => Lib.hid (token_c s w (by omega))
  have V1 := fun w => Lib.hid (value_c (bs (lower s.data.toList)) w (by omega))
  rw [bs_list, value_lower] at V1
  have V2 := fun w => Lib.hid (value_c s w (by omega))
  have ST := fun w => Lib.hid (alike_c s t w (by omega) (by omega))
  have TS := fun w => Lib.hid (alike_c t s w (by omega) (by omega))
  rw [show alike t.data.toList s.data.toList = alike s.data.toList t.data.toList from by unfold alike; rw [Bool.eq_iff_iff, beq_iff_eq, beq_iff_eq]; exact eq_comm] at TS
  have LT := fun w => Lib.hid (alike_c (bs (lower s.data.toList)) t w (by omega) (by omega))
  rw [bs_list, show alike (lower s.data.toList) t.data.toList = alike s.data.toList t.data.toList from by unfold alike; rw [lower_lower]] at LT
  have TR := fun w => Lib.hid (trim_c s w (by omega))
  have TT := fun w => Lib.hid (trim_c (bs (trim s.data.toList)) w (by have := trim_length s.data.toList; rw [bs_sz]; rw [size_list] at this; omega))
  rw [bs_list, trim_trim] at TT
  have hlz : (((bs (lower s.data.toList)).size : Int) == s.size) = true := by rw [beq_iff_eq]; omega
  have hlz' : (((bs (lower s.data.toList)).size : Int) != s.size) = false := by rw [bne_eq_false_iff_eq]; omega
  have HZ := Lib.hid hl
  clear hl
  generalize bs (lower s.data.toList) = l at *
  generalize token s.data.toList = a1 at *
  generalize value s.data.toList = a2 at *
  generalize alike s.data.toList t.data.toList = a3 at *
  generalize bs (trim s.data.toList) = a4 at *
  go_enter Tryd.func6, Tryd.ntmps6
  go_wp2_with fail
  refine (A _).out.mono ?_
  rintro e w1 ⟨rfl, hb1⟩
  go_wp2_with fail
  refine (L1 _).out.mono ?_
  rintro e w2 ⟨rfl, hb2⟩
  have b2 := below_then hb1 hb2
  clear hb1 hb2
  go_wp2_with fail
  refine (L2 _).out.mono ?_
  rintro e w3 ⟨rfl, hb3⟩
  have b3 := below_then b2 hb3
  clear b2 hb3
  go_wp2_with fail
  refine (AL _).out.mono ?_
  rintro e w4 ⟨rfl, hb4⟩
  have b4 := below_then b3 hb4
  clear b3 hb4
  go_wp2_with fail
  refine (T1 _).out.mono ?_
  rintro e w5 ⟨rfl, rfl⟩
  go_wp2_with fail
  refine (T2 _).out.mono ?_
  rintro e w6 ⟨rfl, rfl⟩
  go_wp2_with fail
  refine (V1 _).out.mono ?_
  rintro e w7 ⟨rfl, hb7⟩
  have b7 := below_then b4 hb7
  clear b4 hb7
  go_wp2_with fail
  refine (V2 _).out.mono ?_
  rintro e w8 ⟨rfl, hb8⟩
  have b8 := below_then b7 hb8
  clear b7 hb8
  go_wp2_with fail
  refine (ST _).out.mono ?_
  rintro e w9 ⟨rfl, hb9⟩
  have b9 := below_then b8 hb9
  clear b8 hb9
  go_wp2_with fail
  refine (TS _).out.mono ?_
  rintro e w10 ⟨rfl, hb10⟩
  have b10 := below_then b9 hb10
  clear b9 hb10
  go_wp2_with fail
  refine (ST _).out.mono ?_
  rintro e w11 ⟨rfl, hb11⟩
  have b11 := below_then b10 hb11
  clear b10 hb11
  go_wp2_with fail
  refine (LT _).out.mono ?_
  rintro e w12 ⟨rfl, hb12⟩
  have b12 := below_then b11 hb12
  clear b11 hb12
  go_wp2_with fail
  refine (TR _).out.mono ?_
  rintro e w13 ⟨rfl, hb13⟩
  have b13 := below_then b12 hb13
  clear b12 hb13
  go_wp2_with fail
  refine (TT _).out.mono ?_
  rintro e w14 ⟨rfl, hb14⟩
  have b14 := below_then b13 hb14
  clear b13 hb14
  go_wp2_with fail
  refine (TR _).out.mono ?_
  rintro e w15 ⟨rfl, hb15⟩
  have b15 := below_then b14 hb15
  clear b14 hb15
  go_wp2
  go_ret
  exact ⟨ret_bool (by simp), b15⟩

end Go.Proofs.YtmlmgpphkiikaaaDoor
