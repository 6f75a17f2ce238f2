/- The walk over TargetAgain. -/
import Derived.Test.YtjbmipbjlhcooaaDoorTgtR
set_option linter.unusedVariables false
set_option linter.unusedSimpArgs false
namespace Go.Proofs.YtjbmipbjlhcooaaDoor
open Go.RowKit Lex

theorem originT_length (t : Tg) : (originT t).length ≤ t.path.length + t.query.length + 1 := by
  unfold originT
  split
  · simp
  · split
    · simp
    · split
      · simp; omega
      · omega
set_option maxRecDepth 100000 in
set_option maxHeartbeats 4000000 in
theorem again_walk (M : ByteArray) (hM : M.size ≤ 1048576) (s : ByteArray) (hs : s.size ≤ 1048576) (m : Int) (W : World) {w : World} (hW : W = w) (hm : W.cell? ⟨0, 0, none⟩ = some (.int .i64 m)) :
    Calls Tryd.prog 7 #[.string M, .string s] W fun e w' => e = .returned (.bool true) ∧ Below W.heap.size W w' := by
  subst hW
  have AN := Lib.hid (anchor6_c m W hm)
  have PA := fun w h => Lib.hid (parse_c M s m w (by omega) h)
  have HM := Lib.hid hm
  have hsl := size_list s
  clear hm
  rcases parseT_cases M.data.toList s.data.toList with ⟨e, h0, h⟩ | ⟨t, h, h1, h2, h3, h4, h5⟩ | ⟨t, h, h1, h2, h3, h4⟩
  · rw [h] at PA
    simp only [tgOut, tgVal] at PA
    rw [show bs [] = ⟨#[]⟩ from rfl] at PA
    have be : (e != 0) = true := by rw [bne_iff_ne]; exact h0
    clear h h0 hsl
    go_enter Tryd.func7, Tryd.ntmps7
    go_wp2_with fail
    refine AN.out.mono ?_
    rintro e w1 ⟨rfl, hb1⟩
    have M1 := Lib.hid (cell_below hb1 HM.out)
    have B1 := Lib.hid hb1
    clear hb1
    go_wp2_with fail
    refine (PA _ M1.out).out.mono ?_
    rintro e w2 ⟨rfl, hb2⟩
    have B2 := Lib.hid (below_then B1.out hb2)
    clear hb2
    go_wp2
    go_ret
    exact ⟨rfl, B2.out.alloc B2.out.size _⟩
  · obtain ⟨f, ho, p, pa, q, has⟩ := t
    simp only at h1 h2 h3 h4 h5
    subst h3 h4 h5
    rw [h] at PA
    simp only [tgOut, tgVal] at PA
    rw [show bs [] = ⟨#[]⟩ from rfl] at PA
    have b1 : (f != 1) = true := by rw [bne_iff_ne]; exact h1
    have b2 : (f != 2) = true := by rw [bne_iff_ne]; exact h2
    clear h h1 h2 hsl
    go_enter Tryd.func7, Tryd.ntmps7
    go_wp2_with fail
    refine AN.out.mono ?_
    rintro e w1 ⟨rfl, hb1⟩
    have M1 := Lib.hid (cell_below hb1 HM.out)
    have B1 := Lib.hid hb1
    clear hb1
    go_wp2_with fail
    refine (PA _ M1.out).out.mono ?_
    rintro e w2 ⟨rfl, hb2⟩
    have B2 := Lib.hid (below_then B1.out hb2)
    clear hb2
    go_wp2
    go_ret
    exact ⟨rfl, B2.out.alloc B2.out.size _⟩
  · have OR := fun w => Lib.hid (origin_c t w (by omega) (by omega))
    have hol := originT_length t
    have PB := fun w hm => Lib.hid (parse_c ⟨#[71, 69, 84]⟩ (bs (originT t)) m w (by rw [bs_size]; omega) hm)
    rw [show (ByteArray.mk #[71, 69, 84]).data.toList = [71, 69, 84] from rfl, show (bs (originT t)).data.toList = originT t from rfl, h2] at PB
    generalize originT t = o at *
    obtain ⟨f, ho, p, pa, q, has⟩ := t
    rw [h] at PA
    simp only [tgOut, tgVal] at PA PB OR h1
    rw [show bs [] = ⟨#[]⟩ from rfl] at PB
    clear h h2 h3 h4 hsl hol
    rcases h1 with rfl | rfl
    all_goals
      go_enter Tryd.func7, Tryd.ntmps7
      go_wp2_with fail
      refine AN.out.mono ?_
      rintro e w1 ⟨rfl, hb1⟩
      have M1 := Lib.hid (cell_below hb1 HM.out)
      have B1 := Lib.hid hb1
      clear hb1
      go_wp2_with fail
      refine (PA _ M1.out).out.mono ?_
      rintro e w2 ⟨rfl, hb2⟩
      have M2 := Lib.hid (cell_below hb2 M1.out)
      have B2 := Lib.hid (below_then B1.out hb2)
      clear hb2
      go_wp2_with fail
      refine (OR _).out.mono ?_
      rintro e w3 ⟨rfl, hb3⟩
      have X1 := Lib.hid ((box6_new w2 _ _ _ _ _ _ _).below hb3)
      have M3 := Lib.hid (cell_below (below_after hb3) M2.out)
      have B3 := Lib.hid (below_then B2.out (below_after hb3))
      clear hb3
      go_wp2_with fail
      refine (PB _ M3.out).out.mono ?_
      rintro e w4 ⟨rfl, hb4⟩
      have B4 := Lib.hid (below_then B3.out hb4)
      obtain ⟨c0, c1, c2, c3, c4, c5, fz⟩ := X1.out.below hb4
      have hlt : w2.heap.size < w4.heap.size := World.block_lt_of_cell? w4 _ c0
      clear fz hb4
      go_wp2
      go_ret
      exact ⟨rfl, B4.out.alloc B4.out.size _⟩
end Go.Proofs.YtjbmipbjlhcooaaDoor
