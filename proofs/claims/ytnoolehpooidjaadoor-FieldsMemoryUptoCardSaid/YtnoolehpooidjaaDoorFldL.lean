/- The walks over FieldsFinds and FieldsTurns. -/
import Derived.Test.YtnoolehpooidjaaDoorFldK
set_option linter.unusedVariables false
set_option linter.unusedSimpArgs false
namespace Go.Proofs.YtnoolehpooidjaaDoor
open Go.RowKit Lex

/-- A copy: append([]api.Field{}, l...). -/
theorem wpList_copy_flds {w : World} {ops : Array Oper} {rest : List Oper} {o : Oper} {a : Act} {Q : Exit → Act → World → Prop} (hgd : o.guard = none) (s x : Operand)
    (ho : o.op = .call { callee := .builtin .append, args := #[s, x], argTypes := #[22, 22] })
    (hs : a.eval s = .slice (some ⟨w.heap.size, 0, none⟩) 0 0) (A : Option Addr) (c : Nat) (l : List Fd) (hA : A = none → c = 0) (hx : a.eval x = .slice A l.length c) (hF : Flds w A l) (hl : l.length ≤ 4398046511104)
    (h : ∀ v' w', w'.ownsRow w.heap.size 30 2 v' l.length (fvals l) → Below w.heap.size w w' → wpList Tryd.prog ops Q rest (a.put o.dst v') w') : wpList Tryd.prog ops Q (o :: rest) a (w.alloc (.cells #[] 30)) := by
  obtain ⟨i0, hi, hz0, hz1, hz2⟩ := info_parts info_field
  refine wpList_append_flds hgd s x ho w.heap.size i0 hi hz0 hz1 hz2 _ 0 [] hs (World.ownsRow_lit w #[] 0 (Nat.le_refl _) (by decide) rfl) A c l hA hx (hF.below ((Below.refl _ _).alloc (Nat.le_refl _) _)) (by omega) (by simp) fun v' w' h1 h2 => ?_
  rw [Nat.zero_add, List.nil_append] at h1
  exact h v' w' h1 (((Below.refl w.heap.size w).alloc (Nat.le_refl _) _).grown h2 (by simp) (fun g hg => by cases hg; exact Nat.le_refl _))

/-- The bounds of a list of fields that came in. -/
abbrev In (l : List Fd) : Prop := l.length ≤ 1048576 ∧ ∀ f ∈ l, f.1.length ≤ 1048576 ∧ f.2.length ≤ 1048576
theorem In.fb {l : List Fd} (h : In l) : FB l := ⟨by have := h.1; omega, fun f hf => by have := (h.2 f hf).1; omega, fun f hf => by have := (h.2 f hf).2; omega⟩

set_option maxRecDepth 100000 in
set_option maxHeartbeats 8000000 in
theorem finds_walk {W : World} (A : Option Addr) (cap : Nat) (l : List Fd) (hA : A = none → cap = 0) (hF : Flds W A l) (hl : In l) (name : ByteArray) (hname : name.size ≤ 1048576) (el : ByteArray) (hel : el.size ≤ 1048576) (m : Int) (W2 : World) (hW : W2 = W) (hm : W2.cell? ⟨0, 0, none⟩ = some (.int .i64 m)) :
    Calls Tryd.prog 8 #[.slice A l.length cap, .string name, .string el] W2 fun e w' => e = .returned (.bool true) ∧ Below W2.heap.size W2 w' := by
  subst hW
  have hfb := hl.fb
  have AN := Lib.hid (anchor7_c m W2 hm)
  have HA := Lib.hid hA
  have HF := Lib.hid hF
  have HM := Lib.hid hm
  have hl1 := hl.1
  have G1 := fun a c w h => Lib.hid (get_c a c l name w (by omega) (by omega) (fun f hf => by have := hfb.nm f hf; omega) (fun f hf => by have := hfb.vl f hf; omega) h)
  have G2 := fun a c w h => Lib.hid (rget_c a c l name w (by omega) hfb h)
  have C1 := fun a c w h => Lib.hid (checkf_c a c l w hfb h)
  have C2 := fun a c w h => Lib.hid (rcheckf_c a c l w hfb h)
  have E1 := fun a c w h h2 => Lib.hid (elementsf_c a c l name m w (by omega) hfb.len (fun f hf => by have := hfb.nm f hf; omega) (fun f hf => hfb.vl f hf) h h2)
  have E2 := fun a c w h => Lib.hid (relementsf_c a c l name w (by omega) hfb h)
  have H1 := fun a c w h h2 => Lib.hid (hasf_c a c l name el m w (by omega) (by omega) hfb h h2)
  have H2 := fun a c w h => Lib.hid (rhasf_c a c l name el w (by omega) (by omega) hfb h)
  have SF := fun a a' c c' w h h' => Lib.hid (samef_c a a' c c' l w h h' (by omega))
  have hec := elementsF_length hfb l.length name.data.toList
  rw [List.take_length] at hec
  generalize elementsF l name.data.toList = E at *
  generalize getF l name.data.toList = gg at *
  generalize checkF l = ck at *
  generalize hasF l name.data.toList el.data.toList = hh at *
  have S4 := fun a a' c c' w h h' => Lib.hid (same_c a a' c c' E w h h' (by omega))
  clear hA hF hm hl hfb
  go_enter Tryd.func8, Tryd.ntmps8
  go_wp2_with fail
  refine AN.out.mono ?_
  rintro e w1 ⟨rfl, hb1⟩
  have F1 := Lib.hid (HF.out.below hb1)
  have M1 := Lib.hid (held1 hb1 HM.out)
  have B1 := Lib.hid hb1
  clear hb1
  go_wp2_with (at_builtin; refine wpList_copy_flds rfl (.tmp 14) (.tmp 15) rfl rfl A cap l HA.out rfl F1.out (by omega) ?_; intro v2 w2 ho2 hb2)
  obtain ⟨a2, c2, rfl, _, hF2⟩ := own_flds ho2
  have A2 := Lib.hid hF2
  have F2 := Lib.hid (F1.out.below hb2)
  have M2 := Lib.hid (held1 hb2 M1.out)
  have B2 := Lib.hid (below_then B1.out hb2)
  clear hb2 ho2 hF2 F1 M1 B1
  go_wp2_with fail
  refine (G1 _ _ _ A2.out).out.mono ?_
  rintro e w3 ⟨rfl, hb3⟩
  have A3 := Lib.hid (A2.out.below hb3)
  have F3 := Lib.hid (F2.out.below hb3)
  have M3 := Lib.hid (held1 hb3 M2.out)
  have B3 := Lib.hid (below_then B2.out hb3)
  clear hb3 A2 F2 M2 B2
  go_wp2_with fail
  refine (G2 _ _ _ F3.out).out.mono ?_
  rintro e w4 ⟨rfl, hb4⟩
  have A4 := Lib.hid (A3.out.below hb4)
  have F4 := Lib.hid (F3.out.below hb4)
  have M4 := Lib.hid (held1 hb4 M3.out)
  have B4 := Lib.hid (below_then B3.out hb4)
  clear hb4 A3 F3 M3 B3
  go_wp2_with fail
  refine (C1 _ _ _ A4.out).out.mono ?_
  rintro e w5 ⟨rfl, hb5⟩
  have A5 := Lib.hid (A4.out.below hb5)
  have F5 := Lib.hid (F4.out.below hb5)
  have M5 := Lib.hid (held1 hb5 M4.out)
  have B5 := Lib.hid (below_then B4.out hb5)
  clear hb5 A4 F4 M4 B4
  go_wp2_with fail
  refine (C2 _ _ _ F5.out).out.mono ?_
  rintro e w6 ⟨rfl, hb6⟩
  have A6 := Lib.hid (A5.out.below hb6)
  have F6 := Lib.hid (F5.out.below hb6)
  have M6 := Lib.hid (held1 hb6 M5.out)
  have B6 := Lib.hid (below_then B5.out hb6)
  clear hb6 A5 F5 M5 B5
  go_wp2_with fail
  refine (E1 _ _ _ A6.out M6.out).out.mono ?_
  rintro e w7 ⟨v7, rfl, ho7, hb7⟩
  obtain ⟨a7, c7, rfl⟩ := own_slice' ho7
  have T7 := Lib.hid (texts_of ho7)
  have A7 := Lib.hid (A6.out.below hb7)
  have F7 := Lib.hid (F6.out.below hb7)
  have M7 := Lib.hid (held1 hb7 M6.out)
  have B7 := Lib.hid (below_then B6.out hb7)
  clear hb7 ho7 A6 F6 M6 B6
  go_wp2_with fail
  refine (E2 _ _ _ F7.out).out.mono ?_
  rintro e w8 ⟨v8, rfl, ho8, hb8⟩
  obtain ⟨a8, c8, rfl⟩ := own_slice' ho8
  have S8 := Lib.hid (S4 a7 a8 c7 c8 w8 (T7.out.below hb8) (texts_of ho8)).out
  have A8 := Lib.hid (A7.out.below hb8)
  have F8 := Lib.hid (F7.out.below hb8)
  have M8 := Lib.hid (held1 hb8 M7.out)
  have B8 := Lib.hid (below_then B7.out hb8)
  clear hb8 ho8 A7 F7 M7 B7 T7
  go_wp2_with fail
  refine S8.out.mono ?_
  rintro e w9 ⟨rfl, hb9⟩
  have A9 := Lib.hid (A8.out.below hb9)
  have F9 := Lib.hid (F8.out.below hb9)
  have M9 := Lib.hid (held1 hb9 M8.out)
  have B9 := Lib.hid (below_then B8.out hb9)
  clear hb9 A8 F8 M8 B8
  go_wp2_with fail
  refine (H1 _ _ _ A9.out M9.out).out.mono ?_
  rintro e w10 ⟨rfl, hb10⟩
  have A10 := Lib.hid (A9.out.below hb10)
  have F10 := Lib.hid (F9.out.below hb10)
  have B10 := Lib.hid (below_then B9.out hb10)
  clear hb10 A9 F9 M9 B9
  go_wp2_with fail
  refine (H2 _ _ _ F10.out).out.mono ?_
  rintro e w11 ⟨rfl, hb11⟩
  have S11 := Lib.hid (SF _ _ c2 cap w11 (A10.out.below hb11) (F10.out.below hb11)).out
  have B11 := Lib.hid (below_then B10.out hb11)
  clear hb11 A10 F10 B10
  go_wp2_with fail
  refine S11.out.mono ?_
  rintro e w12 ⟨rfl, hb12⟩
  go_wp2
  go_ret
  exact ⟨rfl, below_then B11.out hb12⟩

set_option maxRecDepth 100000 in
set_option maxHeartbeats 8000000 in
theorem turns_walk {W : World} (A : Option Addr) (cap : Nat) (l : List Fd) (hA : A = none → cap = 0) (hF : Flds W A l) (hl : In l) (name : ByteArray) (hname : name.size ≤ 1048576) (value : ByteArray) (hel : value.size ≤ 1048576) (m : Int) (W2 : World) (hW : W2 = W) (hm : W2.cell? ⟨0, 0, none⟩ = some (.int .i64 m)) :
    Calls Tryd.prog 3 #[.slice A l.length cap, .string name, .string value] W2 fun e w' => e = .returned (.bool true) ∧ Below W2.heap.size W2 w' := by
  subst hW
  have hfb := hl.fb
  have AN := Lib.hid (anchor7_c m W2 hm)
  have HA := Lib.hid hA
  have HF := Lib.hid hF
  have HM := Lib.hid hm
  have hl1 := hl.1
  have hrl := removeF_length l name.data.toList
  have hsl : (setF l name.data.toList value.data.toList).length ≤ 1048577 := by unfold setF; rw [List.length_append]; show _ + 1 ≤ _; omega
  have hstl : (stripF l).length ≤ l.length := List.length_filter_le _ _
  have S1 := fun a c w h => Lib.hid (setf_c a c l name value w (by omega) hfb h)
  have S2 := fun a c w h => Lib.hid (rset_c a c l name value w (by omega) hfb h)
  have R1 := fun a c w h => Lib.hid (removef_c a c l name w (by omega) hfb h)
  have R2 := fun a c w h => Lib.hid (rremove_c a c l name w (by omega) hfb h)
  have P1 := fun a c w ha h h2 => Lib.hid (stripf_c a c l m w hfb ha h h2)
  have P2 := fun a c w h => Lib.hid (rstrip_c a c l w hfb h)
  have SL := fun a a' c c' w h h' => Lib.hid (samef_c a a' c c' l w h h' (by omega))
  have SS := fun a a' c c' w h h' => Lib.hid (samef_c a a' c c' (setF l name.data.toList value.data.toList) w h h' (by omega))
  have SR := fun a a' c c' w h h' => Lib.hid (samef_c a a' c c' (removeF l name.data.toList) w h h' (by omega))
  have SP := fun a a' c c' w h h' => Lib.hid (samef_c a a' c c' (stripF l) w h h' (by omega))
  generalize setF l name.data.toList value.data.toList = sl at *
  generalize removeF l name.data.toList = rl at *
  generalize stripF l = pl at *
  clear hA hF hm hl hfb
  go_enter Tryd.func3, Tryd.ntmps3
  go_wp2_with fail
  refine AN.out.mono ?_
  rintro e w1 ⟨rfl, hb1⟩
  have F1 := Lib.hid (HF.out.below hb1)
  have M1 := Lib.hid (held1 hb1 HM.out)
  have B1 := Lib.hid hb1
  clear hb1
  go_wp2_with (at_builtin; refine wpList_copy_flds rfl (.tmp 10) (.tmp 11) rfl rfl A cap l HA.out rfl F1.out (by omega) ?_; intro v2 w2 ho2 hb2)
  obtain ⟨a2, c2, rfl, hn2, hF2⟩ := own_flds ho2
  have A2 := Lib.hid hF2
  have N2 := Lib.hid hn2
  have F2 := Lib.hid (F1.out.below hb2)
  have M2 := Lib.hid (held1 hb2 M1.out)
  have B2 := Lib.hid (below_then B1.out hb2)
  clear hb2 ho2 hF2 F1 M1 B1 hn2
  go_wp2_with fail
  refine (S1 _ _ _ A2.out).out.mono ?_
  rintro e w3 ⟨v3, rfl, ho3, hb3⟩
  obtain ⟨a3, c3, rfl, _, hF3⟩ := own_flds ho3
  have T3 := Lib.hid hF3
  have A3 := Lib.hid (A2.out.below hb3)
  have F3 := Lib.hid (F2.out.below hb3)
  have M3 := Lib.hid (held1 hb3 M2.out)
  have B3 := Lib.hid (below_then B2.out hb3)
  clear hb3 ho3 hF3 A2 F2 M2 B2
  go_wp2_with fail
  refine (S2 _ _ _ F3.out).out.mono ?_
  rintro e w4 ⟨v4, rfl, ho4, hb4⟩
  obtain ⟨a4, c4, rfl, _, hF4⟩ := own_flds ho4
  have S4 := Lib.hid (SS a3 a4 c3 c4 w4 (T3.out.below hb4) hF4).out
  have A4 := Lib.hid (A3.out.below hb4)
  have F4 := Lib.hid (F3.out.below hb4)
  have M4 := Lib.hid (held1 hb4 M3.out)
  have B4 := Lib.hid (below_then B3.out hb4)
  clear hb4 ho4 hF4 T3 A3 F3 M3 B3
  go_wp2_with fail
  refine S4.out.mono ?_
  rintro e w5 ⟨rfl, hb5⟩
  have A5 := Lib.hid (A4.out.below hb5)
  have F5 := Lib.hid (F4.out.below hb5)
  have M5 := Lib.hid (held1 hb5 M4.out)
  have B5 := Lib.hid (below_then B4.out hb5)
  clear hb5 A4 F4 M4 B4
  go_wp2_with fail
  refine (R1 _ _ _ A5.out).out.mono ?_
  rintro e w6 ⟨v6, rfl, ho6, hb6⟩
  obtain ⟨a6, c6, rfl, _, hF6⟩ := own_flds ho6
  have T6 := Lib.hid hF6
  have A6 := Lib.hid (A5.out.below hb6)
  have F6 := Lib.hid (F5.out.below hb6)
  have M6 := Lib.hid (held1 hb6 M5.out)
  have B6 := Lib.hid (below_then B5.out hb6)
  clear hb6 ho6 hF6 A5 F5 M5 B5
  go_wp2_with fail
  refine (R2 _ _ _ F6.out).out.mono ?_
  rintro e w7 ⟨v7, rfl, ho7, hb7⟩
  obtain ⟨a7, c7, rfl, _, hF7⟩ := own_flds ho7
  have S7 := Lib.hid (SR a6 a7 c6 c7 w7 (T6.out.below hb7) hF7).out
  have A7 := Lib.hid (A6.out.below hb7)
  have F7 := Lib.hid (F6.out.below hb7)
  have M7 := Lib.hid (held1 hb7 M6.out)
  have B7 := Lib.hid (below_then B6.out hb7)
  clear hb7 ho7 hF7 T6 A6 F6 M6 B6
  go_wp2_with fail
  refine S7.out.mono ?_
  rintro e w8 ⟨rfl, hb8⟩
  have A8 := Lib.hid (A7.out.below hb8)
  have F8 := Lib.hid (F7.out.below hb8)
  have M8 := Lib.hid (held1 hb8 M7.out)
  have B8 := Lib.hid (below_then B7.out hb8)
  clear hb8 A7 F7 M7 B7
  go_wp2_with fail
  refine (P1 _ _ _ N2.out A8.out M8.out).out.mono ?_
  rintro e w9 ⟨v9, rfl, ho9, hb9⟩
  obtain ⟨a9, c9, rfl, _, hF9⟩ := own_flds ho9
  have T9 := Lib.hid hF9
  have A9 := Lib.hid (A8.out.below hb9)
  have F9 := Lib.hid (F8.out.below hb9)
  have B9 := Lib.hid (below_then B8.out hb9)
  clear hb9 ho9 hF9 A8 F8 M8 B8
  go_wp2_with fail
  refine (P2 _ _ _ F9.out).out.mono ?_
  rintro e w10 ⟨v10, rfl, ho10, hb10⟩
  obtain ⟨a10, c10, rfl, _, hF10⟩ := own_flds ho10
  have S10 := Lib.hid (SP a9 a10 c9 c10 w10 (T9.out.below hb10) hF10).out
  have A10 := Lib.hid (A9.out.below hb10)
  have F10 := Lib.hid (F9.out.below hb10)
  have B10 := Lib.hid (below_then B9.out hb10)
  clear hb10 ho10 hF10 T9 A9 F9 B9
  go_wp2_with fail
  refine S10.out.mono ?_
  rintro e w11 ⟨rfl, hb11⟩
  have S11 := Lib.hid (SL a2 A c2 cap w11 (A10.out.below hb11) (F10.out.below hb11)).out
  have B11 := Lib.hid (below_then B10.out hb11)
  clear hb11 A10 F10 B10
  go_wp2_with fail
  refine S11.out.mono ?_
  rintro e w12 ⟨rfl, hb12⟩
  go_wp2
  go_ret
  exact ⟨rfl, below_then B11.out hb12⟩
end Go.Proofs.YtnoolehpooidjaaDoor
