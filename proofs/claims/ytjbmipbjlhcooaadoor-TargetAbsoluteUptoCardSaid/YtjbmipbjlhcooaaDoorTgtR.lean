/- The walks over TargetParses and TargetAgain. -/
import Derived.Test.YtjbmipbjlhcooaaDoorTgtQ
import Derived.Deep.RegionHeld3
import Derived.Outline
set_option linter.unusedVariables false
set_option linter.unusedSimpArgs false
namespace Go.Proofs.YtjbmipbjlhcooaaDoor
open Go.RowKit Lex

theorem below_after {w w1 : World} {o : Obj} (hb : Below (w.alloc o).heap.size (w.alloc o) w1) : Below w.heap.size w w1 := ((Below.refl _ w).alloc (Nat.le_refl _) o).trans (hb.mono (by simp))
theorem keep12 {W w w' : World} {a b : Nat} {v0 v1 v2 v3 v4 v5 u0 u1 u2 u3 u4 u5 : Value}
    (h : Below W.heap.size W w ∧ w.cell? ⟨a, 0, none⟩ = some v0 ∧ w.cell? ⟨a, 1, none⟩ = some v1 ∧ w.cell? ⟨a, 2, none⟩ = some v2 ∧ w.cell? ⟨a, 3, none⟩ = some v3 ∧ w.cell? ⟨a, 4, none⟩ = some v4 ∧ w.cell? ⟨a, 5, none⟩ = some v5 ∧
      w.cell? ⟨b, 0, none⟩ = some u0 ∧ w.cell? ⟨b, 1, none⟩ = some u1 ∧ w.cell? ⟨b, 2, none⟩ = some u2 ∧ w.cell? ⟨b, 3, none⟩ = some u3 ∧ w.cell? ⟨b, 4, none⟩ = some u4 ∧ w.cell? ⟨b, 5, none⟩ = some u5) (hb : Below w.heap.size w w') :
    Below W.heap.size W w' ∧ w'.cell? ⟨a, 0, none⟩ = some v0 ∧ w'.cell? ⟨a, 1, none⟩ = some v1 ∧ w'.cell? ⟨a, 2, none⟩ = some v2 ∧ w'.cell? ⟨a, 3, none⟩ = some v3 ∧ w'.cell? ⟨a, 4, none⟩ = some v4 ∧ w'.cell? ⟨a, 5, none⟩ = some v5 ∧
      w'.cell? ⟨b, 0, none⟩ = some u0 ∧ w'.cell? ⟨b, 1, none⟩ = some u1 ∧ w'.cell? ⟨b, 2, none⟩ = some u2 ∧ w'.cell? ⟨b, 3, none⟩ = some u3 ∧ w'.cell? ⟨b, 4, none⟩ = some u4 ∧ w'.cell? ⟨b, 5, none⟩ = some u5 := by
  obtain ⟨hB, h0, h1, h2, h3, h4, h5, g0, g1, g2, g3, g4, g5⟩ := h
  exact ⟨below_then hB hb, cell_below hb h0, cell_below hb h1, cell_below hb h2, cell_below hb h3, cell_below hb h4, cell_below hb h5, cell_below hb g0, cell_below hb g1, cell_below hb g2, cell_below hb g3, cell_below hb g4, cell_below hb g5⟩

set_option maxRecDepth 100000 in
set_option maxHeartbeats 8000000 in
theorem parses_walk (M : ByteArray) (hM : M.size ≤ 1048576) (s : ByteArray) (hs : s.size ≤ 1048576) (m : Int) (W : World) {w : World} (hW : W = w) (hm : W.cell? ⟨0, 0, none⟩ = some (.int .i64 m)) :
    Calls Tryd.prog 6 #[.string M, .string s] W fun e w' => e = .returned (.bool true) ∧ Below W.heap.size W w' := by
  subst hW
  have AN := Lib.hid (anchor6_c m W hm)
  have PA := fun w h => Lib.hid (parse_c M s m w (by omega) h)
  have RP := fun w => Lib.hid (rparse_c M s w (by omega))
  have HM := Lib.hid hm
  clear hm
  obtain ⟨t, n, ht, hp, hq⟩ : ∃ t n, parseT M.data.toList s.data.toList = (t, n) ∧ t.path.length ≤ 1048580 ∧ t.query.length ≤ 1048580 := by
    have hsl := size_list s
    rcases parseT_cases M.data.toList s.data.toList with ⟨e, _, h⟩ | ⟨t, h, _, _, h3, _, h5⟩ | ⟨t, h, _, _, h3, h4⟩
    · exact ⟨_, _, h, by decide, by decide⟩
    · exact ⟨_, _, h, by rw [h3]; decide, by rw [h5]; decide⟩
    · exact ⟨_, _, h, by omega, by omega⟩
  rw [ht] at PA RP
  simp only [tgOut, tgVal] at PA RP
  have LK := fun w => Lib.hid (like_c t w)
  have OR := fun w => Lib.hid (origin_c t w (by omega) (by omega))
  have RO := fun w => Lib.hid (rorigin_c t w (by omega) (by omega))
  simp only [tgVal] at LK OR RO
  generalize originT t = o at *
  clear ht hp hq
  go_enter Tryd.func6, Tryd.ntmps6
  go_wp2_with fail
  refine AN.out.mono ?_
  rintro e w1 ⟨rfl, hb1⟩
  have M1 := Lib.hid (cell_below hb1 HM.out)
  have B1 := Lib.hid hb1
  clear hb1
  go_wp2_with fail
  refine (PA _ M1.out).out.mono ?_
  rintro e w2 ⟨rfl, hb2⟩
  have B2 := Lib.hid (below_then B1.out hb2)
  clear hb2
  go_wp2_with fail
  refine (RP _).out.mono ?_
  rintro e w3 ⟨rfl, hb3⟩
  have X1 := Lib.hid (((box6_new w2 _ _ _ _ _ _ _).below hb3).alloc (.cells #[.int .i64 t.form, .string (bs t.host), .int .i64 t.port, .string (bs t.path), .string (bs t.query), .bool t.has] 35))
  have B3 := Lib.hid (below_then B2.out (below_after hb3))
  clear hb3
  go_wp2
  have X2 := Lib.hid (box6_new w3 (.int .i64 t.form) (.string (bs t.host)) (.int .i64 t.port) (.string (bs t.path)) (.string (bs t.query)) (.bool t.has) 35)
  have B4 := Lib.hid ((below_then B3.out ((Below.refl _ w3).alloc (Nat.le_refl _) (.cells #[.int .i64 t.form, .string (bs t.host), .int .i64 t.port, .string (bs t.path), .string (bs t.query), .bool t.has] 35))))
  generalize hw4 : w3.alloc (.cells #[.int .i64 t.form, .string (bs t.host), .int .i64 t.port, .string (bs t.path), .string (bs t.query), .bool t.has] 35) = w4 at *
  obtain ⟨c0, c1, c2, c3, c4, c5, fz⟩ := X1.out
  obtain ⟨d0, d1, d2, d3, d4, d5, gz⟩ := X2.out
  clear fz gz hw4
  go_region_held3 (fun w' => Below W.heap.size W w' ∧ w'.cell? ⟨w2.heap.size, 0, none⟩ = some (.int .i64 t.form) ∧ w'.cell? ⟨w2.heap.size, 1, none⟩ = some (.string (bs t.host)) ∧ w'.cell? ⟨w2.heap.size, 2, none⟩ = some (.int .i64 t.port) ∧ w'.cell? ⟨w2.heap.size, 3, none⟩ = some (.string (bs t.path)) ∧ w'.cell? ⟨w2.heap.size, 4, none⟩ = some (.string (bs t.query)) ∧ w'.cell? ⟨w2.heap.size, 5, none⟩ = some (.bool t.has) ∧
      w'.cell? ⟨w3.heap.size, 0, none⟩ = some (.int .i64 t.form) ∧ w'.cell? ⟨w3.heap.size, 1, none⟩ = some (.string (bs t.host)) ∧ w'.cell? ⟨w3.heap.size, 2, none⟩ = some (.int .i64 t.port) ∧ w'.cell? ⟨w3.heap.size, 3, none⟩ = some (.string (bs t.path)) ∧ w'.cell? ⟨w3.heap.size, 4, none⟩ = some (.string (bs t.query)) ∧ w'.cell? ⟨w3.heap.size, 5, none⟩ = some (.bool t.has))
    (first
      | assumption
      | exact ⟨B4.out.drew, c0, c1, c2, c3, c4, c5, d0, d1, d2, d3, d4, d5⟩
      | (refine keep12 ?_ (by assumption); assumption)
      | (refine keep12 ?_ (by assumption); exact ⟨B4.out.drew, c0, c1, c2, c3, c4, c5, d0, d1, d2, d3, d4, d5⟩))
    (first
      | (go_at_call 22; refine (LK _).out.mono ?_; rintro e w5 ⟨rfl, hb5⟩)
      | (go_at_call 23; refine (OR _).out.mono ?_; rintro e w5 ⟨rfl, hb5⟩)
      | (go_at_call 24; refine (RO _).out.mono ?_; rintro e w5 ⟨rfl, hb5⟩))
  go_wp2
  go_ret
  exact ⟨rfl, by first | assumption | (rename_i hh; exact hh.1)⟩
end Go.Proofs.YtjbmipbjlhcooaaDoor
