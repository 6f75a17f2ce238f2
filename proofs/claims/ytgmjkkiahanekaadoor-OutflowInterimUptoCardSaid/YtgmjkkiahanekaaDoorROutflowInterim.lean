/-
  The row of the law OutflowInterim over the walk interim_walk: whatever the input that is read, the law returns true and leaves its arguments as they were.
-/
import Derived.Test.YtgmjkkiahanekaaDoorCards
import Derived.Test.YtgmjkkiahanekaaDoorTie
import Derived.Test.YtgmjkkiahanekaaDoorM30
import Derived.Lay
import Derived.SevenTiedAt
import Derived.LaidOnce
import Derived.WalkKit
import Derived.ProofKit
import Derived.OpenShut
import Derived.ShutString
import Derived.ChangeOld
import Derived.Below
import Derived.SizedLaws
import Derived.ChangeSlices
import Derived.Deep.DeepHandedRow
import Derived.Test.YtgmjkkiahanekaaDoorM30
namespace Go.Proofs.YtgmjkkiahanekaaDoor.outflowInterim
open Go.ChangeShapes Go.WideShapes Go.ChangeAt Go.RowKit
open Go.ChangeMaps (open_string shut_string)
set_option linter.unusedVariables false
set_option linter.unusedSimpArgs false
theorem own : ownKnob Tryd.prog.godebug = none := by kernel_rfl
theorem laidOut : laidOutB Tryd.prog = true := by kernel_rfl
set_option maxRecDepth 100000 in
theorem witness_row (os : Os) {H : Type} (enc : TypeId × Value → H) :
    (Rows.OpenSpec.upto Rows.outflowInterimSpec).preRow enc Tryd.prog Tryd.f5 Rows.outflowInterimUptoRow.domain false Rows.outflowInterimUptoRow.laid ((World.laidAll Tryd.prog os Rows.outflowInterimUptoRow.laid).forCall (fun _ _ => 0) ⟨#[], #[.string ByteArray.empty, .string ByteArray.empty, .slice none 0 0, .bool false], []⟩).memory #[.string ByteArray.empty, .string ByteArray.empty, .slice none 0 0, .bool false] := by
  have hw : (DataW.whole enc Tryd.prog ((World.laidAll Tryd.prog os Rows.outflowInterimUptoRow.laid).forCall (fun _ _ => 0) ⟨#[], #[.string ByteArray.empty, .string ByteArray.empty, .slice none 0 0, .bool false], []⟩).memory Tryd.f5.params.toList (Rows.OpenSpec.upto Rows.outflowInterimSpec).vars false (#[.string ByteArray.empty, .string ByteArray.empty, .slice none 0 0, .bool false] : Array Value).toList 8).map (fun x => (x.1, x.2.1)) =
      some ([.lit (.string []), .lit (.string []), .nil, .lit (.bool false)], []) := by kernel_rfl
  obtain ⟨⟨x1, x2, x3⟩, hx, hx1⟩ := Option.map_eq_some_iff.1 hw
  simp only [Prod.mk.injEq] at hx1
  obtain ⟨rfl, rfl⟩ := hx1
  exact OpenSpec.preRow_of_cond 8 hx (by kernel_rfl) (fun k hk => by cases hk; kernel_rfl) (by kernel_rfl) (by rw [MakeChecks.laidMetH_plain _ _ _ (by kernel_rfl)]; exact laidMet_laidAll _ (by kernel_rfl) (by kernel_rfl))
set_option maxRecDepth 100000 in
theorem lifted (os : Os) (started : os.Started) (H : Type) (enc : TypeId × Value → H) (F : Stop.Interp) :
    ReturnsInHanded {} Tryd.checked os 5 .any ((Rows.OpenSpec.upto Rows.outflowInterimSpec).preRow enc Tryd.prog Tryd.f5 Rows.outflowInterimUptoRow.domain false Rows.outflowInterimUptoRow.laid) (((Rows.OpenSpec.upto Rows.outflowInterimSpec).at F).post enc Tryd.prog Tryd.f5 false true false false) := by
  obtain ⟨w0, hw0⟩ : ∃ w0, World.laidAll Tryd.prog os Rows.outflowInterimUptoRow.laid = w0 := ⟨_, rfl⟩
  refine returnsInHanded_of_row (C := Tryd.checked) (s := (Rows.OpenSpec.upto Rows.outflowInterimSpec)) own started (by kernel_rfl) Tryd.func5
    (by
      refine ⟨World.laidAll Tryd.prog os Rows.outflowInterimUptoRow.laid, fun _ _ => 0, ⟨#[], #[.string ByteArray.empty, .string ByteArray.empty, .slice none 0 0, .bool false], []⟩, World.laidAll_os _ _ _, World.shaped_of_ZipB (by kernel_rfl) (by kernel_rfl), rfl, ?_, witness_row os enc, ?_⟩
      · exact (Input.okWide_of_okWideB (base := 0) (show Input.okWideB Tryd.prog ((World.laidAll Tryd.prog os Rows.outflowInterimUptoRow.laid).forCall (fun _ _ => 0) ⟨#[], #[.string ByteArray.empty, .string ByteArray.empty, .slice none 0 0, .bool false], []⟩) 5 ⟨#[], #[.string ByteArray.empty, .string ByteArray.empty, .slice none 0 0, .bool false], []⟩ = true by kernel_rfl)).2
      · exact (by constructor <;> simp [Assume.holds])) ?_
  intro W base args ds gs before hval0 hW hcnd hcond hsz0 hL hsh _
  have hsz : (DataW.weightsEach Tryd.prog (Tryd.f5.params.toList ++ Rows.outflowInterimSpec.plain.varTypes Tryd.prog) (ds ++ gs)).all (· ≤ reachBytes) = true := hsz0
  have hval : ∀ (j : Nat) t v, Tryd.f5.params[j]? = some t → args[j]? = some v → Value.okWide Tryd.prog W .any base t v := hval0
  have hW' := hW
  obtain ⟨p, q, hA0, hV, rfl, hfz, hnd⟩ := hW
  have hA : DataW.TrodAll enc Tryd.prog W 0 (fun _ => true) true Tryd.f5.params.toList args.toList ds p := hA0
  rw [Tryd.params5] at hA hval hsz
  obtain ⟨v0, vs0, d0, ds0, p0, q0, hargs, rfl, rfl, h0, r0⟩ := trodAll_cons hA
  obtain ⟨v1, vs1, d1, ds1, p1, q1, rfl, rfl, rfl, h1, r1⟩ := trodAll_cons r0
  obtain ⟨v2, vs2, d2, ds2, p2, q2, rfl, rfl, rfl, h2, r2⟩ := trodAll_cons r1
  obtain ⟨v3, vs3, d3, ds3, p3, q3, rfl, rfl, rfl, h3, r3⟩ := trodAll_cons r2
  obtain ⟨rfl, rfl, rfl⟩ := trodAll_nil r3
  obtain rfl : args = #[v0, v1, v2, v3] := by cases args; simp_all
  obtain ⟨rfl, rfl⟩ := trodVars_none hV
  obtain ⟨a0, rfl, rfl, rfl, y0⟩ := open_string Tryd.underlying9 (hval 0 9 v0 rfl rfl) h0
  have w0 : a0.size ≤ 140737488351232 := by
    have z := sized_string hsz (j := 0) (t := 9) rfl rfl
    rw [Array.length_toList] at z
    exact z
  obtain ⟨a1, rfl, rfl, rfl, y1⟩ := open_string Tryd.underlying9 (hval 1 9 v1 rfl rfl) h1
  have w1 : a1.size ≤ 140737488351232 := by
    have z := sized_string hsz (j := 1) (t := 9) rfl rfl
    rw [Array.length_toList] at z
    exact z
  obtain ⟨a2, len2, cap2, rfl⟩ := okWide_slice Tryd.underlying32 (hval 2 32 v2 rfl rfl)
  have k2 := h2
  have lt2 : ∀ x ∈ p2, x.block < W.heap.size := by obtain ⟨m, hm⟩ := k2; exact DataW.trod_lt m _ _ _ hm
  have o2 : ∃ zs : List Int, len2 * 8 ≤ 140737488351232 ∧ (∀ x ∈ zs, (Lit.int .i64 x).wf = true) ∧ ∀ j, j < len2 → j < zs.length ∧ ∃ ad, a2 = some ad ∧ W.cell? (ad.add j) = some (.int .i64 (zs.getD j 0)) := by
    obtain ⟨fuel, hf⟩ := h2
    rcases open_ints Tryd.underlying32 Tryd.underlying3 (by kernel_rfl) hf with ⟨hcs, _⟩ | ⟨x, l, c, zs, hcs, _, hl, hm, hz, hx, hcell, hwz⟩
    · simp [Value.cells] at hcs
      obtain ⟨rfl, rfl, rfl⟩ := hcs
      exact ⟨[], by simp, by simp, fun j hj => absurd hj (Nat.not_lt_zero _)⟩
    · simp [Value.cells] at hcs
      obtain ⟨rfl, rfl, rfl⟩ := hcs
      obtain ⟨hx, _⟩ := Prod.mk.inj hx
      subst hx
      have z := sized_slice hsz (j := 2) (t := 32) rfl rfl Tryd.underlying32
      have hz' : zs.length = cap2 := by simpa using hz
      have hB : Tryd.prog.bytesOf 3 = 8 := by kernel_rfl
      rw [hB] at z
      have h1 : (lits (H := H) .i64 (zs.take len2)).length + (lits (H := H) .i64 (zs.drop len2)).length = zs.length := by simp [lits]; omega
      rw [h1] at z
      have z' : zs.length * 8 ≤ 140737488351232 := z
      exact ⟨zs, by omega, hwz, fun j hj => ⟨by omega, _, rfl, hcell j (by omega)⟩⟩
  obtain ⟨z2, y2, g2, w2⟩ := o2
  obtain ⟨a3, rfl, rfl, rfl⟩ := open_bool Tryd.underlying4 (hval 3 4 v3 rfl rfl) h3
  have hbulk := of_decide_eq_true (hcond _ rfl)
  simp only [List.append_nil, Rows.uptoBulkAll, Rows.uptoBulk, List.length_append, Array.length_toList] at hbulk
  have w0 : a0.size ≤ 1048576 := by
    have hh : a0.data.size = a0.size := rfl
    omega
  have w1 : a1.size ≤ 1048576 := by
    have hh : a1.data.size = a1.size := rfl
    omega
  obtain ⟨m, hm⟩ := Tryd.laysM146.s1_3 W hsh
  clear hA0 hval0 hsz0 hsz
  refine (interim_walk a0 w0 a1 w1 a2 len2 cap2 z2 y2 g2 w2 a3 m W rfl hm).mono fun e W' ⟨he, bel⟩ => ?_
  subst he
  exact ⟨_, rfl, _, _, _, [], _, [], hW', trodAll_mk1 (shut_bool Tryd.underlying4 _), (trodAll_cons_mk (shut_string Tryd.underlying9 y0) (trodAll_cons_mk (shut_string Tryd.underlying9 y1) (trodAll_cons_mk (Below.trod laidOut (by kernel_rfl) (of_decide_eq_true (by kernel_rfl)) k2 bel lt2) (trodAll_cons_mk (shut_bool Tryd.underlying4 _) trodAll_mk0)))), rfl, bel.frame _, fun h => by cases h⟩
theorem over : Rows.outflowInterimUptoRow.holds Tryd.pinned (Rows.OpenSpec.upto Rows.outflowInterimSpec) :=
  OpenClaim.holds_of_cond 5 Tryd.f5 rfl rfl rfl rfl rfl rfl rfl ⟨rfl, rfl, rfl, rfl, rfl⟩ rfl rfl rfl rfl rfl (by kernel_rfl) Tryd.func5 (by kernel_rfl)
    (of_decide_eq_true (by kernel_rfl)) (by unfold Func.isWrapper; first | (rw [if_pos (by decide +kernel)]; kernel_rfl) | (rw [if_neg (by decide +kernel)]; exact ⟨rfl, rfl⟩))
    (fun os started H enc _ F => by rw [OpenClaim.pre_eq_preRow]; exact lifted os started H enc F)
theorem plain (f : FuncId) (fn : Func) (hf : Tryd.pinned.checked.prog.funcNamed Rows.outflowInterimUptoRow.func = some f) (hfn : Tryd.pinned.checked.prog.funcs[f]? = some fn) :
    false = Tryd.pinned.checked.prog.looks [] ∧ ∀ (j : Nat) t, fn.params[j]? = some t → Tryd.pinned.checked.prog.wantsStandIn t = false := by
  obtain rfl : f = 5 := Option.some.inj ((show Tryd.prog.funcNamed Rows.outflowInterimUptoRow.func = some 5 by kernel_rfl).symm.trans hf) |>.symm
  obtain rfl : fn = Tryd.f5 := (Option.some.inj (Tryd.func5.symm.trans hfn)).symm
  refine ⟨by kernel_rfl, fun j t ht => ?_⟩
  rw [Tryd.params5] at ht
  have hm : t ∈ [9, 9, 32, 4] := by simpa using Array.mem_of_getElem? ht
  have hall : ([9, 9, 32, 4].all fun u => !Tryd.prog.wantsStandIn u) = true := by kernel_rfl
  exact (show Tryd.prog.wantsStandIn t = false by simpa using List.all_eq_true.1 hall t hm)
theorem proved : Rows.OutflowInterimUptoCardSaid :=
  Claim7.holds_tied_plain_at .later [] _ _ _ _ over (fun _ h => by cases h) (by kernel_rfl) (fun _ h => by cases h) outflowInterimUpto_row_tie rfl ⟨rfl, rfl⟩ (by kernel_rfl) rfl plain (by kernel_rfl)
#print axioms proved
end Go.Proofs.YtgmjkkiahanekaaDoor.outflowInterim
namespace Go.Proofs.YtgmjkkiahanekaaDoor
/-- The row, under a short name, for the claim. -/
theorem outflowInterim_holds : Rows.OutflowInterimUptoCardSaid := outflowInterim.proved
end Go.Proofs.YtgmjkkiahanekaaDoor
