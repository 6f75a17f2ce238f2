/-
  The row of the law InflowMemory over the walk memory_walk11: whatever the input that is read, the law returns true and leaves its arguments as they were.
-/
import Derived.Test.YtgmjkkiahanekaaGreatDoorCards
import Derived.Test.YtgmjkkiahanekaaGreatDoorTie
import Derived.Test.YtgmjkkiahanekaaGreatDoorM57
import Derived.Lay
import Derived.SevenTiedAt
import Derived.LaidOnce
import Derived.WalkKit
import Derived.ProofKit
import Derived.OpenShut
import Derived.ShutString
import Derived.ChangeOld
import Derived.Below
import Derived.SizedLaws
import Derived.ChangeSlices
import Derived.Deep.DeepHandedRow
import Derived.Test.YtgmjkkiahanekaaGreatDoorM58
namespace Go.Proofs.YtgmjkkiahanekaaGreatDoor.inflowMemory
open Go.ChangeShapes Go.WideShapes Go.ChangeAt Go.RowKit
open Go.ChangeMaps (open_string shut_string)
set_option linter.unusedVariables false
set_option linter.unusedSimpArgs false
theorem own : ownKnob Tryz.prog.godebug = none := by kernel_rfl
theorem laidOut : laidOutB Tryz.prog = true := by kernel_rfl
set_option maxRecDepth 100000 in
theorem witness_row (os : Os) {H : Type} (enc : TypeId × Value → H) :
    (Rows.OpenSpec.upto Rows.inflowMemorySpec).preRow enc Tryz.prog Tryz.f7 Rows.inflowMemoryUptoRow.domain false Rows.inflowMemoryUptoRow.laid ((World.laidAll Tryz.prog os Rows.inflowMemoryUptoRow.laid).forCall (fun _ _ => 0) ⟨#[], #[.slice none 0 0], []⟩).memory #[.slice none 0 0] := by
  have hw : (DataW.whole enc Tryz.prog ((World.laidAll Tryz.prog os Rows.inflowMemoryUptoRow.laid).forCall (fun _ _ => 0) ⟨#[], #[.slice none 0 0], []⟩).memory Tryz.f7.params.toList (Rows.OpenSpec.upto Rows.inflowMemorySpec).vars false (#[.slice none 0 0] : Array Value).toList 8).map (fun x => (x.1, x.2.1)) =
      some ([.nil], []) := by kernel_rfl
  obtain ⟨⟨x1, x2, x3⟩, hx, hx1⟩ := Option.map_eq_some_iff.1 hw
  simp only [Prod.mk.injEq] at hx1
  obtain ⟨rfl, rfl⟩ := hx1
  exact OpenSpec.preRow_of_cond 8 hx (by kernel_rfl) (fun k hk => by cases hk; kernel_rfl) (by kernel_rfl) (by rw [MakeChecks.laidMetH_plain _ _ _ (by kernel_rfl)]; exact laidMet_laidAll _ (by kernel_rfl) (by kernel_rfl))
set_option maxRecDepth 100000 in
theorem lifted (os : Os) (started : os.Started) (H : Type) (enc : TypeId × Value → H) (F : Stop.Interp) :
    ReturnsInHanded {} Tryz.checked os 7 .any ((Rows.OpenSpec.upto Rows.inflowMemorySpec).preRow enc Tryz.prog Tryz.f7 Rows.inflowMemoryUptoRow.domain false Rows.inflowMemoryUptoRow.laid) (((Rows.OpenSpec.upto Rows.inflowMemorySpec).at F).post enc Tryz.prog Tryz.f7 false true false false) := by
  obtain ⟨w0, hw0⟩ : ∃ w0, World.laidAll Tryz.prog os Rows.inflowMemoryUptoRow.laid = w0 := ⟨_, rfl⟩
  refine returnsInHanded_of_row (C := Tryz.checked) (s := (Rows.OpenSpec.upto Rows.inflowMemorySpec)) own started (by kernel_rfl) Tryz.func7
    (by
      refine ⟨World.laidAll Tryz.prog os Rows.inflowMemoryUptoRow.laid, fun _ _ => 0, ⟨#[], #[.slice none 0 0], []⟩, World.laidAll_os _ _ _, World.shaped_of_ZipB (by kernel_rfl) (by kernel_rfl), rfl, ?_, witness_row os enc, ?_⟩
      · exact (Input.okWide_of_okWideB (base := 0) (show Input.okWideB Tryz.prog ((World.laidAll Tryz.prog os Rows.inflowMemoryUptoRow.laid).forCall (fun _ _ => 0) ⟨#[], #[.slice none 0 0], []⟩) 7 ⟨#[], #[.slice none 0 0], []⟩ = true by kernel_rfl)).2
      · exact (by constructor <;> simp [Assume.holds])) ?_
  intro W base args ds gs before hval0 hW hcnd hcond hsz0 hL hsh _
  have hsz : (DataW.weightsEach Tryz.prog (Tryz.f7.params.toList ++ Rows.inflowMemorySpec.plain.varTypes Tryz.prog) (ds ++ gs)).all (· ≤ reachBytes) = true := hsz0
  have hval : ∀ (j : Nat) t v, Tryz.f7.params[j]? = some t → args[j]? = some v → Value.okWide Tryz.prog W .any base t v := hval0
  have hW' := hW
  obtain ⟨p, q, hA0, hV, rfl, hfz, hnd⟩ := hW
  have hA : DataW.TrodAll enc Tryz.prog W 0 (fun _ => true) true Tryz.f7.params.toList args.toList ds p := hA0
  rw [Tryz.params7] at hA hval hsz
  obtain ⟨v0, vs0, d0, ds0, p0, q0, hargs, rfl, rfl, h0, r0⟩ := trodAll_cons hA
  obtain ⟨rfl, rfl, rfl⟩ := trodAll_nil r0
  obtain rfl : args = #[v0] := by cases args; simp_all
  obtain ⟨rfl, rfl⟩ := trodVars_none hV
  have k0 := h0
  have lt0 : ∀ x ∈ p0, x.block < W.heap.size := by obtain ⟨m, hm⟩ := k0; exact DataW.trod_lt m _ _ _ hm
  obtain ⟨A0, cap0, l0, cm0⟩ := open_flds (hval 0 40 v0 rfl rfl) h0
  obtain rfl := cm0.is
  have hbulk := of_decide_eq_true (hcond _ rfl)
  simp only [List.append_nil, Rows.uptoBulkAll, Rows.uptoBulk, List.length_append, Array.length_toList] at hbulk
  have fb0 := cm0.fb (by omega)
  obtain ⟨m, hm⟩ := Tryz.laysM146.s1_3 W hsh
  clear hA0 hval0 hsz0 hsz
  refine (memory_walk11 A0 cap0 l0 cm0.nil cm0.flds fb0 m W rfl hm).mono fun e W' ⟨he, bel⟩ => ?_
  subst he
  exact ⟨_, rfl, _, _, _, [], _, [], hW', trodAll_mk1 (shut_bool Tryz.underlying4 _), (trodAll_cons_mk (Below.trod laidOut (by kernel_rfl) (of_decide_eq_true (by kernel_rfl)) k0 bel lt0) trodAll_mk0), rfl, bel.frame _, fun h => by cases h⟩
theorem over : Rows.inflowMemoryUptoRow.holds Tryz.pinned (Rows.OpenSpec.upto Rows.inflowMemorySpec) :=
  OpenClaim.holds_of_cond 7 Tryz.f7 rfl rfl rfl rfl rfl rfl rfl ⟨rfl, rfl, rfl, rfl, rfl⟩ rfl rfl rfl rfl rfl (by kernel_rfl) Tryz.func7 (by kernel_rfl)
    (of_decide_eq_true (by kernel_rfl)) (by unfold Func.isWrapper; first | (rw [if_pos (by decide +kernel)]; kernel_rfl) | (rw [if_neg (by decide +kernel)]; exact ⟨rfl, rfl⟩))
    (fun os started H enc _ F => by rw [OpenClaim.pre_eq_preRow]; exact lifted os started H enc F)
theorem plain (f : FuncId) (fn : Func) (hf : Tryz.pinned.checked.prog.funcNamed Rows.inflowMemoryUptoRow.func = some f) (hfn : Tryz.pinned.checked.prog.funcs[f]? = some fn) :
    false = Tryz.pinned.checked.prog.looks [] ∧ ∀ (j : Nat) t, fn.params[j]? = some t → Tryz.pinned.checked.prog.wantsStandIn t = false := by
  obtain rfl : f = 7 := Option.some.inj ((show Tryz.prog.funcNamed Rows.inflowMemoryUptoRow.func = some 7 by kernel_rfl).symm.trans hf) |>.symm
  obtain rfl : fn = Tryz.f7 := (Option.some.inj (Tryz.func7.symm.trans hfn)).symm
  refine ⟨by kernel_rfl, fun j t ht => ?_⟩
  rw [Tryz.params7] at ht
  have hm : t ∈ [40] := by simpa using Array.mem_of_getElem? ht
  have hall : ([40].all fun u => !Tryz.prog.wantsStandIn u) = true := by kernel_rfl
  exact (show Tryz.prog.wantsStandIn t = false by simpa using List.all_eq_true.1 hall t hm)
theorem proved : Rows.InflowMemoryUptoCardSaid :=
  Claim7.holds_tied_plain_at .later [] _ _ _ _ over (fun _ h => by cases h) (by kernel_rfl) (fun _ h => by cases h) inflowMemoryUpto_row_tie rfl ⟨rfl, rfl⟩ (by kernel_rfl) rfl plain (by kernel_rfl)
#print axioms proved
end Go.Proofs.YtgmjkkiahanekaaGreatDoor.inflowMemory
namespace Go.Proofs.YtgmjkkiahanekaaGreatDoor
/-- The row, under a short name, for the claim. -/
theorem inflowMemory_holds : Rows.InflowMemoryUptoCardSaid := inflowMemory.proved
end Go.Proofs.YtgmjkkiahanekaaGreatDoor
