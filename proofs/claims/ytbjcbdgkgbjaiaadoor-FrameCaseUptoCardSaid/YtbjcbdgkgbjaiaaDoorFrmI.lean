/- The contract of the laws' copied, over every head; the laws' anchor. -/
import Derived.Test.YtbjcbdgkgbjaiaaDoorFrmH
import Derived.Test.YtbjcbdgkgbjaiaaDoorFldJ
set_option linter.unusedVariables false
set_option linter.unusedSimpArgs false
namespace Go.Proofs.YtbjcbdgkgbjaiaaDoor
open Go.RowKit Lex

theorem ret_copied {w : World} {B : Nat} {v0 v1 v2 v3 v4 v5 : Value} (h : Box6 w B v0 v1 v2 v3 v4 v5) {tmps : Array Value} (h4 : tmps[2]?.getD undef = .pointer (some ⟨B, 0, none⟩)) :
    (results Tryd.f11 tmps).run Tryd.prog w = .ok (.agg #[v0, v1, v2, v3, v4, v5]) w := by
  simp [results, Tryd.results11, go_sem, h4, h.c0, h.c1, h.c2, h.c3, h.c4, h.c5]
theorem flds_lit (w : World) (C : Array Value) (T : TypeId) (l : List Fd) (hC : C.toList = fvals l) : Flds (w.alloc (.cells C T)) (some ⟨w.heap.size, 0, none⟩) l := by
  intro j hj
  obtain ⟨h1, h2⟩ := fvals_at l j hj
  rw [← hC, Array.getElem?_toList] at h1 h2
  exact ⟨w.heap.size, 0, rfl, by rw [Nat.zero_add, World.cell?_alloc_new]; exact h1, by rw [Nat.zero_add, World.cell?_alloc_new]; exact h2⟩
/-- The value of a copied head. -/
def Copied (m t : ByteArray) (s : Int) (r : ByteArray) (mi : Int) (fs : List Fd) (w : World) (e : Ending) (w' : World) : Prop :=
  ∃ a c, e = .returned (hv m t s r mi a fs.length c) ∧ (a = none → c = 0) ∧ w'.ownsRow w.heap.size 34 2 (.slice a fs.length c) fs.length (fvals fs) ∧ Below w.heap.size w w'
set_option maxRecDepth 100000 in
set_option maxHeartbeats 1000000 in
theorem copied_c (m t : ByteArray) (s : Int) (r : ByteArray) (mi : Int) (A : Option Addr) (cap : Nat) (fs : List Fd) (w : World) (hB : FB fs) (hA : A = none → cap = 0) (hF : Flds w A fs) :
    Calls Tryd.prog 11 #[hv m t s r mi A fs.length cap] w (Copied m t s r mi fs w) := by
  obtain ⟨i0, hi, hz0, hz1, hz2⟩ := info_parts info_field
  have W2 : Below w.heap.size w (((w.alloc (.cells #[.string m, .string t, .int .i64 s, .string r, .int .i64 mi, .slice A fs.length cap] 24)).alloc (.cells #[.string ⟨#[]⟩, .string ⟨#[]⟩, .int .i64 0, .string ⟨#[]⟩, .int .i64 0, .slice none 0 0] 24)).alloc (.cells #[] 34)) := (((Below.refl _ w).alloc (Nat.le_refl _) _).alloc (by simp) _).alloc (by simp <;> omega) _
  have F0 := Lib.hid (hF.below W2)
  have X0 := Lib.hid (((box6_new w (.string m) (.string t) (.int .i64 s) (.string r) (.int .i64 mi) (.slice A fs.length cap) 24).alloc (.cells #[.string ⟨#[]⟩, .string ⟨#[]⟩, .int .i64 0, .string ⟨#[]⟩, .int .i64 0, .slice none 0 0] 24)).alloc (.cells #[] 34))
  have R00 := (box6_new (w.alloc (.cells #[.string m, .string t, .int .i64 s, .string r, .int .i64 mi, .slice A fs.length cap] 24)) (.string ⟨#[]⟩) (.string ⟨#[]⟩) (.int .i64 0) (.string ⟨#[]⟩) (.int .i64 0) (.slice none 0 0) 24).alloc (.cells #[] 34)
  rw [show (w.alloc (.cells #[.string m, .string t, .int .i64 s, .string r, .int .i64 mi, .slice A fs.length cap] 24)).heap.size = w.heap.size + 1 from by simp] at R00
  have R0 := Lib.hid R00
  have B0 := Lib.hid W2
  have HA := Lib.hid hA
  have hl := hB.len
  have OWN0 := World.ownsRow_lit (base := w.heap.size + 2) (e := 34) (size := 2) ((w.alloc (.cells #[.string m, .string t, .int .i64 s, .string r, .int .i64 mi, .slice A fs.length cap] 24)).alloc (.cells #[.string ⟨#[]⟩, .string ⟨#[]⟩, .int .i64 0, .string ⟨#[]⟩, .int .i64 0, .slice none 0 0] 24)) #[] 0 (by simp <;> omega) (by decide) rfl
  rw [show ((w.alloc (.cells #[.string m, .string t, .int .i64 s, .string r, .int .i64 mi, .slice A fs.length cap] 24)).alloc (.cells #[.string ⟨#[]⟩, .string ⟨#[]⟩, .int .i64 0, .string ⟨#[]⟩, .int .i64 0, .slice none 0 0] 24)).heap.size = w.heap.size + 1 + 1 from by simp] at OWN0
  have OWN := Lib.hid OWN0
  have SZ := Lib.hid (show ((w.alloc (.cells #[.string m, .string t, .int .i64 s, .string r, .int .i64 mi, .slice A fs.length cap] 24)).alloc (.cells #[.string ⟨#[]⟩, .string ⟨#[]⟩, .int .i64 0, .string ⟨#[]⟩, .int .i64 0, .slice none 0 0] 24)).heap.size = w.heap.size + 2 by simp)
  clear W2 R00 hF hA OWN0
  unfold hv
  go_enter Tryd.func11, Tryd.ntmps11
  go_wp2_with (at_builtin; refine wpList_append_flds rfl (.tmp 3) (.tmp 5) rfl (w.heap.size + 2) i0 hi hz0 hz1 hz2 _ 0 [] rfl OWN.out A cap fs HA.out rfl F0.out (by omega) (by simp <;> omega) ?_; intro v3 w3 hown3 hgrow3; rw [Nat.zero_add, List.nil_append] at hown3; have hg3 := (Below.refl (w.heap.size + 2) (((w.alloc (.cells #[.string m, .string t, .int .i64 s, .string r, .int .i64 mi, .slice A fs.length cap] 24)).alloc (.cells #[.string ⟨#[]⟩, .string ⟨#[]⟩, .int .i64 0, .string ⟨#[]⟩, .int .i64 0, .slice none 0 0] 24)).alloc (.cells #[] 34))).grown hgrow3 (by simp <;> omega) (fun g hg => by cases hg; simp); obtain ⟨a3, k3, rfl, HA3, _⟩ := own_flds hown3; have HO := Lib.hid hown3; have HA4 := Lib.hid HA3; clear HA3; have HG := Lib.hid hg3; have KX := X0.out.kept hg3 (by omega); have KR := R0.out.kept hg3 (by omega); obtain ⟨c0, c1, c2, c3, c4, c5, fz⟩ := KX; obtain ⟨d0, d1, d2, d3, d4, d5, gz⟩ := KR; have f5 := fz 5; have g0 := gz 0; have g1 := gz 1; have g2 := gz 2; have g3 := gz 3; have g4 := gz 4; have g5 := gz 5; have RR := Lib.hid (Box6.mk d0 d1 d2 d3 d4 d5 gz); have hsz := hg3.size; clear hgrow3 hown3 hg3 fz gz)
  refine bodyPost_ret (ret_copied (Box6.stored (RR.out.far _ _ (by simp)) _ _ _ _ _ _) rfl) rfl ?_
  refine ⟨a3, k3, rfl, HA4.out, own_from (base := w.heap.size + 2) ?_ (by omega), ?_⟩
  · repeat refine ownsRow_setCell_below ?_ (by simp) _
    exact HO.out
  · repeat refine Below.setCell ?_ (by simp) _
    exact B0.out.trans (HG.out.mono (by omega))

set_option maxRecDepth 100000 in
set_option maxHeartbeats 1000000 in
theorem anchor9_c (M : Int) (w : World) (hm : w.cell? ⟨0, 0, none⟩ = some (.int .i64 M)) :
    Calls Tryd.prog 9 #[] w fun e w' => e = .returned (.bool true) ∧ Below w.heap.size w w' := by
  have R1 := fun A w h hm => Lib.hid (request_c ⟨#[]⟩ ⟨#[]⟩ 0 ⟨#[]⟩ 1 A 1 [([99, 111, 110, 116, 101, 110, 116, 45, 108, 101, 110, 103, 116, 104], [53, 44, 32, 53])] 9 M w ⟨by decide, by decide +kernel, by decide +kernel⟩ h hm)
  rw [show reqF 1 [([99, 111, 110, 116, 101, 110, 116, 45, 108, 101, 110, 103, 116, 104], [53, 44, 32, 53])] 9 = (2, 5, 0) from by decide +kernel] at R1
  have R2 := fun A w h hm => Lib.hid (request_c ⟨#[]⟩ ⟨#[]⟩ 0 ⟨#[]⟩ 1 A 2 [([84, 114, 97, 110, 115, 102, 101, 114, 45, 69, 110, 99, 111, 100, 105, 110, 103], [99, 104, 117, 110, 107, 101, 100]), ([67, 111, 110, 116, 101, 110, 116, 45, 76, 101, 110, 103, 116, 104], [53])] 9 M w ⟨by decide, by decide +kernel, by decide +kernel⟩ h hm)
  rw [show reqF 1 [([84, 114, 97, 110, 115, 102, 101, 114, 45, 69, 110, 99, 111, 100, 105, 110, 103], [99, 104, 117, 110, 107, 101, 100]), ([67, 111, 110, 116, 101, 110, 116, 45, 76, 101, 110, 103, 116, 104], [53])] 9 = (0, 0, 90) from by decide +kernel] at R2
  have F1 := fun w => Lib.hid (flds_lit w #[.string ⟨#[99, 111, 110, 116, 101, 110, 116, 45, 108, 101, 110, 103, 116, 104]⟩, .string ⟨#[53, 44, 32, 53]⟩] 34 [([99, 111, 110, 116, 101, 110, 116, 45, 108, 101, 110, 103, 116, 104], [53, 44, 32, 53])] rfl)
  have F2 := fun w => Lib.hid (flds_lit w #[.string ⟨#[84, 114, 97, 110, 115, 102, 101, 114, 45, 69, 110, 99, 111, 100, 105, 110, 103]⟩, .string ⟨#[99, 104, 117, 110, 107, 101, 100]⟩, .string ⟨#[67, 111, 110, 116, 101, 110, 116, 45, 76, 101, 110, 103, 116, 104]⟩, .string ⟨#[53]⟩] 34 [([84, 114, 97, 110, 115, 102, 101, 114, 45, 69, 110, 99, 111, 100, 105, 110, 103], [99, 104, 117, 110, 107, 101, 100]), ([67, 111, 110, 116, 101, 110, 116, 45, 76, 101, 110, 103, 116, 104], [53])] rfl)
  simp only [hv, frVal, List.length_cons, List.length_nil, Nat.zero_add, Nat.reduceAdd] at R1 R2
  have HM := Lib.hid hm
  clear hm
  go_enter Tryd.func9, Tryd.ntmps9
  go_wp2_with fail
  refine (R1 _ _ (F1 _).out (cell_below ((Below.refl _ w).alloc (Nat.le_refl _) _) HM.out)).out.mono ?_
  rintro e w1 ⟨rfl, hb1⟩
  have B1 := Lib.hid (belowA hb1)
  have M1 := Lib.hid (cell_below B1.out HM.out)
  clear hb1
  go_wp2_with fail
  have B2 := Lib.hid (B1.out.alloc B1.out.size (.cells #[.int .i64 2, .int .i64 5] 27))
  have X2 := Lib.hid (box2_new w1 (.int .i64 2) (.int .i64 5) 27)
  have F3 := (F2 (w1.alloc (.cells #[.int .i64 2, .int .i64 5] 27))).out
  rw [show (w1.alloc (.cells #[.int .i64 2, .int .i64 5] 27)).heap.size = w1.heap.size + 1 from by simp] at F3
  refine (R2 _ _ F3 (cell_below (B2.out.trans (((Below.refl _ (w1.alloc (.cells #[.int .i64 2, .int .i64 5] 27))).alloc (Nat.le_refl _) _).mono B2.out.size)) HM.out)).out.mono ?_
  rintro e w2 ⟨rfl, hb2⟩
  have B3 := Lib.hid (below_then B2.out (belowA hb2))
  obtain ⟨d0, d1, gz⟩ := X2.out.below (belowA hb2)
  have hlt : w1.heap.size < w2.heap.size := World.block_lt_of_cell? w2 _ d0
  clear hb2 gz
  go_wp2
  go_ret
  exact ⟨rfl, B3.out.alloc B3.out.size _⟩
end Go.Proofs.YtbjcbdgkgbjaiaaDoor
