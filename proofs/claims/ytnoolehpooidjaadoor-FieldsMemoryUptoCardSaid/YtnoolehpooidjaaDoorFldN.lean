/- The walk over FieldsSets. -/
import Derived.Test.YtnoolehpooidjaaDoorFldL
import Derived.Test.YtnoolehpooidjaaDoorFldM
set_option linter.unusedVariables false
set_option linter.unusedSimpArgs false
namespace Go.Proofs.YtnoolehpooidjaaDoor
open Go.RowKit Lex

theorem own_cap {w : World} {base : Nat} {e : TypeId} {z n c : Nat} {g : Nat} {xs : List Value} (h : w.ownsRow base e z (.slice (some ⟨g, 0, none⟩) n c) n xs) : n ≤ c := by
  rcases h.2 with ⟨he, _⟩ | ⟨g', cap, cur, he, _, _, hn, _⟩
  · cases he
  · injection he with _ _ e3
    rw [e3]; exact hn

set_option maxRecDepth 100000 in
set_option maxHeartbeats 8000000 in
theorem sets_walk {W : World} (A : Option Addr) (cap : Nat) (l : List Fd) (hA : A = none → cap = 0) (hF : Flds W A l) (hl : In l) (name : ByteArray) (hname : name.size ≤ 1048576) (value : ByteArray) (hval : value.size ≤ 1048576) (other : ByteArray) (hoth : other.size ≤ 1048576) (m : Int) (W2 : World) (hW : W2 = W) (hm : W2.cell? ⟨0, 0, none⟩ = some (.int .i64 m)) :
    Calls Tryd.prog 6 #[.slice A l.length cap, .string name, .string value, .string other] W2 fun e w' => e = .returned (.bool true) ∧ Below W2.heap.size W2 w' := by
  subst hW
  have hfb := hl.fb
  have AN := Lib.hid (anchor7_c m W2 hm)
  have HA := Lib.hid hA
  have HF := Lib.hid hF
  have hl1 := hl.1
  have hrl := removeF_length l name.data.toList
  have S1 := fun a c w h => Lib.hid (setf_c a c l name value w (by omega) hfb h)
  have R1 := fun a c w h => Lib.hid (removef_c a c l name w (by omega) hfb h)
  have hset : setF l name.data.toList value.data.toList = removeF l name.data.toList ++ [(name.data.toList, value.data.toList)] := rfl
  have hsl : (setF l name.data.toList value.data.toList).length = (removeF l name.data.toList).length + 1 := by rw [hset, List.length_append]; rfl
  have hsin : ∀ f ∈ setF l name.data.toList value.data.toList, f.1.length ≤ 4194304 ∧ f.2.length ≤ 4194304 := by
    intro f hf
    rw [hset] at hf
    rcases List.mem_append.1 hf with hf | hf
    · exact ⟨hfb.nm f (removeF_mem hf), hfb.vl f (removeF_mem hf)⟩
    · simp only [List.mem_cons, List.not_mem_nil, or_false] at hf
      subst hf
      exact ⟨by show name.data.toList.length ≤ _; rw [size_list]; omega, by show value.data.toList.length ≤ _; rw [size_list]; omega⟩
  have hrfb := hfb.remove name.data.toList
  have GS := fun (nm : ByteArray) (hn : nm.size ≤ 1048576) a c w h => Lib.hid (get_c a c (setF l name.data.toList value.data.toList) nm w (by omega) (by omega) (fun f hf => Nat.le_trans (hsin f hf).1 (by decide)) (fun f hf => Nat.le_trans (hsin f hf).2 (by decide)) h)
  have GR := fun (nm : ByteArray) (hn : nm.size ≤ 1048576) a c w h => Lib.hid (get_c a c (removeF l name.data.toList) nm w (by omega) (by omega) (fun f hf => Nat.le_trans (hrfb.nm f hf) (by decide)) (fun f hf => Nat.le_trans (hrfb.vl f hf) (by decide)) h)
  have GL := fun a c w h => Lib.hid (get_c a c l other w (by omega) (by omega) (fun f hf => Nat.le_trans (hfb.nm f hf) (by decide)) (fun f hf => Nat.le_trans (hfb.vl f hf) (by decide)) h)
  have GS1 := fun a c w h => Lib.hid (GS name hname a c w h).out
  have GR1 := fun a c w h => Lib.hid (GR name hname a c w h).out
  have GS2 := fun a c w h => Lib.hid (GS other hoth a c w h).out
  have GR2 := fun a c w h => Lib.hid (GR other hoth a c w h).out
  rw [getF_set] at GS1
  simp only [list_bs] at GS1
  rw [getF_removed] at GR1
  have LO := fun w => Lib.hid (rlower_c other w (by omega))
  have LN := fun w => Lib.hid (rlower_c name w (by omega))
  have SR := fun a a' c c' w h h' => Lib.hid (samef_c a a' c c' (removeF l name.data.toList) w h h' (by omega))
  have hso := getF_set_other (l := l) (name := name.data.toList) (value := value.data.toList) (other := other.data.toList)
  have hro := getF_other (l := l) (name := name.data.toList) (other := other.data.toList)
  rw [hsl] at S1 GS1 GS2
  have HSET := Lib.hid hset
  have HSL := Lib.hid hsl
  have HSO := Lib.hid hso
  have HRO := Lib.hid hro
  clear hA hF hm hl hfb GS GR hsl hsin hrfb hset hso hro
  generalize setF l name.data.toList value.data.toList = S at *
  generalize removeF l name.data.toList = D at *
  generalize hLO : lower other.data.toList = lo at *
  generalize hLN : lower name.data.toList = ln at *
  clear hLO hLN
  go_enter Tryd.func6, Tryd.ntmps6
  go_wp2_with fail
  refine AN.out.mono ?_
  rintro e w1 ⟨rfl, hb1⟩
  have F1 := Lib.hid (HF.out.below hb1)
  have B1 := Lib.hid hb1
  clear hb1
  go_wp2_with (at_builtin; refine wpList_copy_flds rfl (.tmp 23) (.tmp 24) rfl rfl A cap l HA.out rfl F1.out (by omega) ?_; intro v2 w2 ho2 hb2)
  obtain ⟨a2, c2, rfl, _, hF2⟩ := own_flds ho2
  have A2 := Lib.hid hF2
  have F2 := Lib.hid (F1.out.below hb2)
  have B2 := Lib.hid (below_then B1.out hb2)
  clear hb2 ho2 hF2 F1 B1
  go_wp2_with fail
  refine (S1 _ _ _ A2.out).out.mono ?_
  rintro e w3 ⟨v3, rfl, ho3, hb3⟩
  obtain ⟨g3, c3, rfl, _, _⟩ := ho3.form (by omega)
  have HS3 := Lib.hid (flds_own (l := S) (cap := c3) (by rw [HSL.out]; exact ho3))
  have hcap : D.length + 1 ≤ c3 := own_cap ho3
  have F3 := Lib.hid (F2.out.below hb3)
  have B3 := Lib.hid (below_then B2.out hb3)
  clear hb3 ho3 F2 B2
  go_wp2_with (at_builtin; refine wpList_copy_flds rfl (.tmp 29) (.tmp 30) rfl rfl A cap l HA.out rfl F3.out (by omega) ?_; intro v4 w4 ho4 hb4)
  obtain ⟨a4, c4, rfl, _, hF4⟩ := own_flds ho4
  have A4 := Lib.hid hF4
  have F4 := Lib.hid (F3.out.below hb4)
  have T4 := Lib.hid (HS3.out.below hb4)
  have B4 := Lib.hid (below_then B3.out hb4)
  clear hb4 ho4 hF4 F3 B3 HS3
  go_wp2_with fail
  refine (R1 _ _ _ A4.out).out.mono ?_
  rintro e w5 ⟨v5, rfl, ho5, hb5⟩
  obtain ⟨a5, c5, rfl, _, hF5⟩ := own_flds ho5
  have D5 := Lib.hid hF5
  have F5 := Lib.hid (F4.out.below hb5)
  have T5 := Lib.hid (T4.out.below hb5)
  have B5 := Lib.hid (below_then B4.out hb5)
  clear hb5 ho5 hF5 F4 B4 T4 A4 A2
  go_wp2_with fail
  refine (GS1 _ _ _ T5.out).out.mono ?_
  rintro e w6 ⟨rfl, hb6⟩
  have D6 := Lib.hid (D5.out.below hb6)
  have F6 := Lib.hid (F5.out.below hb6)
  have T6 := Lib.hid (T5.out.below hb6)
  have B6 := Lib.hid (below_then B5.out hb6)
  clear hb6 F5 B5 T5 D5
  have hlast : w6.cell? ⟨g3, D.length * 2, none⟩ = some (.string name) ∧ w6.cell? ⟨g3, D.length * 2 + 1, none⟩ = some (.string value) := by
    have hT := T6.out
    rw [HSET.out] at hT
    obtain ⟨g, o, e, d1, d2⟩ := hT D.length (by simp)
    injection e with e; injection e with e1 e2
    subst e1 e2
    simp only [List.getElem_concat_length, Nat.zero_add] at d1 d2
    rw [list_bs] at d1 d2
    exact ⟨d1, d2⟩
  obtain ⟨hl1', hl2'⟩ := hlast
  have hDn : (0 : Int) ≤ (D.length : Int) := by omega
  go_wp2_with fail
  refine (GR1 _ _ _ D6.out).out.mono ?_
  rintro e w7 ⟨rfl, hb7⟩
  have D7 := Lib.hid (D6.out.below hb7)
  have F7 := Lib.hid (F6.out.below hb7)
  have T7 := Lib.hid (T6.out.below hb7)
  have B7 := Lib.hid (below_then B6.out hb7)
  clear hb7 F6 B6 T6 D6 hl1' hl2'
  have TD := Lib.hid (show Flds w7 (some ⟨g3, 0, none⟩) D by have h := T7.out; rw [HSET.out] at h; exact h.left)
  have hDc : D.length ≤ c3 := by omega
  go_wp2_with fail
  refine (SR _ _ _ _ _ TD.out D7.out).out.mono ?_
  rintro e w8 ⟨rfl, hb8⟩
  have D8 := Lib.hid (D7.out.below hb8)
  have F8 := Lib.hid (F7.out.below hb8)
  have T8 := Lib.hid (T7.out.below hb8)
  have B8 := Lib.hid (below_then B7.out hb8)
  clear hb8 F7 B7 T7 D7 TD
  go_wp2_with fail
  refine (LO _).out.mono ?_
  rintro e w9 ⟨rfl, hb9⟩
  have D9 := Lib.hid (D8.out.below hb9)
  have F9 := Lib.hid (F8.out.below hb9)
  have T9 := Lib.hid (T8.out.below hb9)
  have B9 := Lib.hid (below_then B8.out hb9)
  clear hb9 F8 B8 T8 D8
  go_wp2_with fail
  refine (LN _).out.mono ?_
  rintro e w10 ⟨rfl, hb10⟩
  have D10 := Lib.hid (D9.out.below hb10)
  have F10 := Lib.hid (F9.out.below hb10)
  have T10 := Lib.hid (T9.out.below hb10)
  have B10 := Lib.hid (below_then B9.out hb10)
  clear hb10 F9 B9 T9 D9
  by_cases hlo : lo = ln
  · subst hlo
    go_wp2
    go_ret
    exact ⟨rfl, B10.out⟩
  · have hne : (lo == ln) = false := by rw [beq_eq_false_iff_ne]; exact hlo
    have hS := HSO.out hlo
    have hR := HRO.out hlo
    rw [hS] at GS2
    rw [hR] at GR2
    clear hS hR hlo
    generalize getF l other.data.toList = gg at *
    go_wp2_with fail
    refine (GL _ _ _ F10.out).out.mono ?_
    rintro e w11 ⟨rfl, hb11⟩
    have D11 := Lib.hid (D10.out.below hb11)
    have T11 := Lib.hid (T10.out.below hb11)
    have B11 := Lib.hid (below_then B10.out hb11)
    clear hb11 F10 B10 T10 D10
    go_wp2_with fail
    refine (GS2 _ _ _ T11.out).out.mono ?_
    rintro e w12 ⟨rfl, hb12⟩
    have D12 := Lib.hid (D11.out.below hb12)
    have B12 := Lib.hid (below_then B11.out hb12)
    clear hb12 B11 T11 D11
    go_wp2_with fail
    refine (GR2 _ _ _ D12.out).out.mono ?_
    rintro e w13 ⟨rfl, hb13⟩
    go_wp2
    go_ret
    exact ⟨rfl, below_then B12.out hb13⟩
end Go.Proofs.YtnoolehpooidjaaDoor
