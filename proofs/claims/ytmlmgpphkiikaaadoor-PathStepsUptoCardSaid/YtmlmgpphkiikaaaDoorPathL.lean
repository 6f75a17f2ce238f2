/- The walks over PathNormals and PathMeans. -/
import Derived.Test.YtmlmgpphkiikaaaDoorPathK
set_option linter.unusedVariables false
set_option linter.unusedSimpArgs false
namespace Go.Proofs.YtmlmgpphkiikaaaDoor
open Go.RowKit Lex

theorem cell_after {w w' : World} {m : Int} (hb : Below w.heap.size w w') (hm : w.cell? ⟨0, 0, none⟩ = some (.int .i64 m)) : w'.cell? ⟨0, 0, none⟩ = some (.int .i64 m) := cell_below hb hm

theorem normals_walk (s : ByteArray) (hs : s.size ≤ 1048576) (m : Int) (W : World) {w : World} (hW : W = w) (hm : W.cell? ⟨0, 0, none⟩ = some (.int .i64 m)) :
    Calls Tryd.prog 7 #[.string s] W fun e w' => e = .returned (.bool true) ∧ Below W.heap.size W w' := by
  subst hW
  have A := Lib.hid (anchor5_c m W hm)
  have N1 := fun w hm => Lib.hid (normal_c s m w (by omega) hm)
  have N2 := fun w => Lib.hid (rnormal_c s w (by omega))
  cases hn : normal s.data.toList with
  | none =>
    rw [hn] at N1 N2
    simp only [normVal] at N1 N2
    clear hn
    go_enter Tryd.func7, Tryd.ntmps7
    go_wp2_with fail
    refine A.out.mono ?_
    rintro e w1 ⟨rfl, hb1⟩
    have hm1 := cell_after hb1 hm
    go_wp2_with fail
    refine (N1 _ hm1).out.mono ?_
    rintro e w2 ⟨rfl, hb2⟩
    go_wp2_with fail
    refine (N2 _).out.mono ?_
    rintro e w3 ⟨rfl, hb3⟩
    go_wp2
    go_ret
    exact ⟨rfl, below_then (below_then hb1 hb2) hb3⟩
  | some p =>
    rw [hn] at N1 N2
    simp only [normVal, Option.getD_some, Option.isSome_some, if_true] at N1 N2
    clear hn
    go_enter Tryd.func7, Tryd.ntmps7
    go_wp2_with fail
    refine A.out.mono ?_
    rintro e w1 ⟨rfl, hb1⟩
    have hm1 := cell_after hb1 hm
    go_wp2_with fail
    refine (N1 _ hm1).out.mono ?_
    rintro e w2 ⟨rfl, hb2⟩
    go_wp2_with fail
    refine (N2 _).out.mono ?_
    rintro e w3 ⟨rfl, hb3⟩
    go_wp2
    go_ret
    exact ⟨rfl, below_then (below_then hb1 hb2) hb3⟩

end Go.Proofs.YtmlmgpphkiikaaaDoor
