/- The walks over PathChain and PathDecodes, for all texts. -/
import Derived.Test.YtmlmgpphkiikaaaDoorPathG
set_option linter.unusedVariables false
set_option linter.unusedSimpArgs false
namespace Go.Proofs.YtmlmgpphkiikaaaDoor
open Go.RowKit Lex

theorem anchor5_c (m : Int) (w : World) (hm : w.cell? ⟨0, 0, none⟩ = some (.int .i64 m)) : Calls Tryd.prog 28 #[] w fun e w' => e = .returned (.bool true) ∧ Below w.heap.size w w' := by
  have K := Lib.hid (normal_c ⟨#[47, 97, 47, 46, 47, 98, 47, 46, 46, 47, 99, 37, 55, 101, 37, 50, 102]⟩ m w (by decide) hm)
  rw [show normal (⟨#[47, 97, 47, 46, 47, 98, 47, 46, 46, 47, 99, 37, 55, 101, 37, 50, 102]⟩ : ByteArray).data.toList = some [47, 97, 47, 99, 126, 37, 50, 70] from by decide +kernel] at K
  simp only [normVal] at K
  go_enter Tryd.func28, Tryd.ntmps28
  go_wp2_with (go_at_call 29; refine K.out.mono ?_; rintro e w1 ⟨rfl, hb⟩)
  go_ret
  exact ⟨rfl, hb⟩

theorem under_self (a : List UInt8) : underB a a = true := by
  unfold underB
  rw [show a.isPrefixOf a = true from by rw [List.isPrefixOf_iff_prefix]; exact List.prefix_refl _]
  simp

theorem under_trans {a b c : List UInt8} (h1 : underB a b = true) (h2 : underB b c = true) : underB a c = true := by
  unfold underB at *
  simp only [Bool.and_eq_true, Bool.or_eq_true, decide_eq_true_eq, beq_iff_eq, List.isPrefixOf_iff_prefix] at *
  obtain ⟨p1, q1⟩ := h1
  obtain ⟨p2, q2⟩ := h2
  refine ⟨p2.trans p1, ?_⟩
  have l1 := p1.length_le
  have l2 := p2.length_le
  by_cases hbc : c.length = b.length
  · have : c = b := List.IsPrefix.eq_of_length p2 hbc
    subst this
    exact q1
  · have hlt : c.length < b.length := by omega
    rcases q2 with (h | h) | h
    · omega
    · left; right
      obtain ⟨r, hr⟩ := p1
      rw [← hr, List.getElem?_append_left hlt]
      exact h
    · exact .inr h

theorem chain_walk (a : ByteArray) (ha : a.size ≤ 140737488351232) (b : ByteArray) (hb : b.size ≤ 140737488351232) (c : ByteArray) (hc : c.size ≤ 140737488351232) (m : Int) (W : World) {w : World} (hW : W = w) (hm : W.cell? ⟨0, 0, none⟩ = some (.int .i64 m)) :
    Calls Tryd.prog 11 #[.string a, .string b, .string c] W fun e w' => e = .returned (.bool true) ∧ Below W.heap.size W w' := by
  subst hW
  have A := Lib.hid (anchor5_c m W hm)
  have U1 := fun w => Lib.hid (under_c ⟨#[47, 97, 47, 98]⟩ ⟨#[47, 97]⟩ w (by decide) (by decide))
  rw [show underB (⟨#[47, 97, 47, 98]⟩ : ByteArray).data.toList (⟨#[47, 97]⟩ : ByteArray).data.toList = true from by decide] at U1
  have U2 := fun w => Lib.hid (under_c ⟨#[47, 97, 98]⟩ ⟨#[47, 97]⟩ w (by decide) (by decide))
  rw [show underB (⟨#[47, 97, 98]⟩ : ByteArray).data.toList (⟨#[47, 97]⟩ : ByteArray).data.toList = false from by decide] at U2
  have Uaa := fun w => Lib.hid (under_c a a w (by omega) (by omega))
  rw [under_self] at Uaa
  have Uab := fun w => Lib.hid (under_c a b w (by omega) (by omega))
  have Ubc := fun w => Lib.hid (under_c b c w (by omega) (by omega))
  have Uac := fun w => Lib.hid (under_c a c w (by omega) (by omega))
  have ht := @under_trans a.data.toList b.data.toList c.data.toList
  generalize underB a.data.toList b.data.toList = x at *
  generalize underB b.data.toList c.data.toList = y at *
  generalize underB a.data.toList c.data.toList = z at *
  have hz : x = true → y = true → z = true := fun h1 h2 => ht h1 h2
  clear ht hm
  cases x with
  | false =>
    clear hz
    go_enter Tryd.func11, Tryd.ntmps11
    go_wp2_with fail
    refine A.out.mono ?_
    rintro e w1 ⟨rfl, hb1⟩
    go_wp2_with fail
    refine (U1 _).out.mono ?_
    rintro e w2 ⟨rfl, rfl⟩
    go_wp2_with fail
    refine (U2 _).out.mono ?_
    rintro e w2 ⟨rfl, rfl⟩
    go_wp2_with fail
    refine (Uaa _).out.mono ?_
    rintro e w2 ⟨rfl, rfl⟩
    go_wp2_with fail
    refine (Uab _).out.mono ?_
    rintro e w2 ⟨rfl, rfl⟩
    go_wp2
    go_ret
    exact ⟨rfl, hb1⟩
  | true =>
    cases y with
    | false =>
      clear hz
      go_enter Tryd.func11, Tryd.ntmps11
      go_wp2_with fail
      refine A.out.mono ?_
      rintro e w1 ⟨rfl, hb1⟩
      go_wp2_with fail
      refine (U1 _).out.mono ?_
      rintro e w2 ⟨rfl, rfl⟩
      go_wp2_with fail
      refine (U2 _).out.mono ?_
      rintro e w2 ⟨rfl, rfl⟩
      go_wp2_with fail
      refine (Uaa _).out.mono ?_
      rintro e w2 ⟨rfl, rfl⟩
      go_wp2_with fail
      refine (Uab _).out.mono ?_
      rintro e w2 ⟨rfl, rfl⟩
      go_wp2_with fail
      refine (Ubc _).out.mono ?_
      rintro e w2 ⟨rfl, rfl⟩
      go_wp2
      go_ret
      exact ⟨rfl, hb1⟩
    | true =>
      have hz := hz rfl rfl
      subst hz
      go_enter Tryd.func11, Tryd.ntmps11
      go_wp2_with fail
      refine A.out.mono ?_
      rintro e w1 ⟨rfl, hb1⟩
      go_wp2_with fail
      refine (U1 _).out.mono ?_
      rintro e w2 ⟨rfl, rfl⟩
      go_wp2_with fail
      refine (U2 _).out.mono ?_
      rintro e w2 ⟨rfl, rfl⟩
      go_wp2_with fail
      refine (Uaa _).out.mono ?_
      rintro e w2 ⟨rfl, rfl⟩
      go_wp2_with fail
      refine (Uab _).out.mono ?_
      rintro e w2 ⟨rfl, rfl⟩
      go_wp2_with fail
      refine (Ubc _).out.mono ?_
      rintro e w2 ⟨rfl, rfl⟩
      go_wp2_with fail
      refine (Uac _).out.mono ?_
      rintro e w2 ⟨rfl, rfl⟩
      go_wp2
      go_ret
      exact ⟨rfl, hb1⟩

end Go.Proofs.YtmlmgpphkiikaaaDoor
