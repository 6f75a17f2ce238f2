/- The walk over TargetCase. -/
import Derived.Test.YtjbmipbjlhcooaaDoorTgtF
set_option linter.unusedVariables false
set_option linter.unusedSimpArgs false
namespace Go.Proofs.YtjbmipbjlhcooaaDoor
open Go.RowKit Lex

set_option maxRecDepth 100000 in
set_option maxHeartbeats 4000000 in
theorem tcase_walk (s : ByteArray) (hs : s.size ≤ 140737488351232) (m : Int) (W : World) {w : World} (hW : W = w) (hm : W.cell? ⟨0, 0, none⟩ = some (.int .i64 m)) :
    Calls Tryd.prog 5 #[.string s] W fun e w' => e = .returned (.bool true) ∧ Below W.heap.size W w' := by
  subst hW
  have AN := Lib.hid (anchor6_c m W hm)
  have A1 := fun w h => Lib.hid (auth_c s m w hs h)
  have LO := fun w => Lib.hid (rlower_c s w hs)
  have A2 := fun w h => Lib.hid (auth_c (bs (lower s.data.toList)) m w (by rw [bs_size, lower_length, size_list]; exact hs) h)
  rw [show (bs (lower s.data.toList)).data.toList = lower s.data.toList from rfl, authB_low] at A2
  have HA := fun h p => authB_host (l := s.data.toList) (h := h) (p := p)
  have HM := Lib.hid hm
  clear hm
  generalize authB s.data.toList = o at *
  generalize lower s.data.toList = ls at *
  cases o with
  | none =>
    simp only [authVal] at A1 A2
    clear HA
    go_enter Tryd.func5, Tryd.ntmps5
    go_wp2_with fail
    refine AN.out.mono ?_
    rintro e w1 ⟨rfl, hb1⟩
    have M1 := Lib.hid (cell_below hb1 HM.out)
    go_wp2_with fail
    refine (A1 _ M1.out).out.mono ?_
    rintro e w2 ⟨rfl, hb2⟩
    have M2 := Lib.hid (cell_below hb2 M1.out)
    have B2 := Lib.hid (below_then hb1 hb2)
    clear hb1 hb2
    go_wp2_with fail
    refine (LO _).out.mono ?_
    rintro e w3 ⟨rfl, hb3⟩
    have M3 := Lib.hid (cell_below hb3 M2.out)
    have B3 := Lib.hid (below_then B2.out hb3)
    clear hb3
    go_wp2_with fail
    refine (A2 _ M3.out).out.mono ?_
    rintro e w4 ⟨rfl, hb4⟩
    go_wp2
    go_ret
    exact ⟨rfl, below_then B3.out hb4⟩
  | some x =>
    obtain ⟨h, p⟩ := x
    obtain ⟨hh, hp0, hp1, hlow⟩ := HA h p rfl
    clear HA
    have hsz : h.length ≤ 64 := (hostB_parts hh).2
    have L2 := fun w => Lib.hid (rlower_c (bs h) w (by rw [bs_size]; omega))
    rw [show (bs h).data.toList = h from rfl, hlow] at L2
    have A3 := fun w hm => Lib.hid (auth_c (bs h) m w (by rw [bs_size]; omega) hm)
    rw [show (bs h).data.toList = h from rfl, authB_self hh] at A3
    have hap : (bs h ++ ⟨#[58, 48, 48, 48, 56, 48]⟩ : ByteArray).data.toList = h ++ [58, 48, 48, 48, 56, 48] := by simp [bs]
    have A4 := fun w hm => Lib.hid (auth_c (bs h ++ ⟨#[58, 48, 48, 48, 56, 48]⟩) m w (by rw [← size_list, hap, List.length_append]; simp; omega) hm)
    rw [hap, authB_80 hh] at A4
    simp only [authVal] at A1 A2 A3 A4
    have hsb : (bs h).size ≤ 64 := hsz
    have hcat : (bs h).size + (ByteArray.mk #[58, 48, 48, 48, 56, 48]).size ≤ 70 := by rw [show (ByteArray.mk #[58, 48, 48, 48, 56, 48]).size = 6 from rfl]; omega
    clear hh hlow hap
    go_enter Tryd.func5, Tryd.ntmps5
    go_wp2_with fail
    refine AN.out.mono ?_
    rintro e w1 ⟨rfl, hb1⟩
    have M1 := Lib.hid (cell_below hb1 HM.out)
    go_wp2_with fail
    refine (A1 _ M1.out).out.mono ?_
    rintro e w2 ⟨rfl, hb2⟩
    have M2 := Lib.hid (cell_below hb2 M1.out)
    have B2 := Lib.hid (below_then hb1 hb2)
    clear hb1 hb2
    go_wp2_with fail
    refine (LO _).out.mono ?_
    rintro e w3 ⟨rfl, hb3⟩
    have M3 := Lib.hid (cell_below hb3 M2.out)
    have B3 := Lib.hid (below_then B2.out hb3)
    clear hb3
    go_wp2_with fail
    refine (A2 _ M3.out).out.mono ?_
    rintro e w4 ⟨rfl, hb4⟩
    have M4 := Lib.hid (cell_below hb4 M3.out)
    have B4 := Lib.hid (below_then B3.out hb4)
    clear hb4
    go_wp2_with fail
    refine (L2 _).out.mono ?_
    rintro e w5 ⟨rfl, hb5⟩
    have M5 := Lib.hid (cell_below hb5 M4.out)
    have B5 := Lib.hid (below_then B4.out hb5)
    clear hb5
    go_wp2_with fail
    refine (A3 _ M5.out).out.mono ?_
    rintro e w6 ⟨rfl, hb6⟩
    have M6 := Lib.hid (cell_below hb6 M5.out)
    have B6 := Lib.hid (below_then B5.out hb6)
    clear hb6
    go_wp2_with fail
    refine (A4 _ M6.out).out.mono ?_
    rintro e w7 ⟨rfl, hb7⟩
    go_wp2
    go_ret
    exact ⟨rfl, below_then B6.out hb7⟩
end Go.Proofs.YtjbmipbjlhcooaaDoor
