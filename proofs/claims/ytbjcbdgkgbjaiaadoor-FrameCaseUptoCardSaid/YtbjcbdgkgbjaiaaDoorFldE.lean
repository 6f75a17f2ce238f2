/- The contracts of fields.Remove and Set and of the document's alike, Remove and Set, for every list of fields. -/
import Derived.Test.YtbjcbdgkgbjaiaaDoorFldD
import Derived.OwnWalk
set_option linter.unusedVariables false
set_option linter.unusedSimpArgs false
namespace Go.Proofs.YtbjcbdgkgbjaiaaDoor
open Go.RowKit Lex

/-- The bounds of a list of fields. -/
structure FB (fs : List Fd) : Prop where
  len : fs.length ≤ 1048600
  nm : ∀ f ∈ fs, f.1.length ≤ 4194304
  vl : ∀ f ∈ fs, f.2.length ≤ 4194304
theorem FB.remove {fs : List Fd} (h : FB fs) (name : List UInt8) : FB (removeF fs name) :=
  ⟨Nat.le_trans (removeF_length fs name) h.len, fun f hf => h.nm f (removeF_mem hf), fun f hf => h.vl f (removeF_mem hf)⟩

theorem info_field : (Tryd.prog.info? 34).map (fun i => (i.zero, i.size, i.bytes)) = some (some (.agg #[.string ByteArray.empty, .string ByteArray.empty]), 2, 32) := by kernel_rfl

theorem ralike_c (a b : ByteArray) (w : World) (ha : a.size ≤ 140737488351232) (hb : b.size ≤ 140737488351232) : Calls Tryd.prog 26 #[.string a, .string b] w fun e w' => e = .returned (.bool (alike a.data.toList b.data.toList)) ∧ Below w.heap.size w w' := by
  have L1 := fun w => Lib.hid (rlower_c a w ha)
  have L2 := fun w => Lib.hid (rlower_c b w hb)
  go_enter Tryd.func26, Tryd.ntmps26
  go_wp2_with fail
  refine (L1 _).out.mono ?_
  rintro e w1 ⟨rfl, hb1⟩
  go_wp2_with fail
  refine (L2 _).out.mono ?_
  rintro e w2 ⟨rfl, hb2⟩
  go_wp2
  go_ret
  exact ⟨ret_bool (by unfold alike; simp [Lib.toList_data, bs]), below_then hb1 hb2⟩

theorem ones_field (f : Fd) : ∀ u ∈ [Value.string (bs f.1), Value.string (bs f.2)], u.oneCell' = true := by
  intro u hu
  simp only [List.mem_cons, List.not_mem_nil, or_false] at hu
  rcases hu with rfl | rfl <;> rfl
theorem news2 (w : World) (a b : Value) (e : TypeId) : ∀ j u, [a, b][j]? = some u → (w.alloc (.cells #[a, b] e)).cell? ((⟨w.heap.size, 0, none⟩ : Addr).add j) = some u :=
  fun j u hu => World.news_of_block (cs := #[a, b]) (heap_alloc_new w _) j u hu
theorem fvals_one (f : Fd) : fvals [f] = [.string (bs f.1), .string (bs f.2)] := rfl

end Go.Proofs.YtbjcbdgkgbjaiaaDoor
