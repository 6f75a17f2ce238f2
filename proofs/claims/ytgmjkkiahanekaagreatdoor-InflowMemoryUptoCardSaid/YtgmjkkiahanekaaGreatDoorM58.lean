/- The texts FldO in one. -/
import Derived.Test.YtgmjkkiahanekaaGreatDoorRows
import Derived.Test.YtgmjkkiahanekaaGreatDoorM6
import Derived.Deep.SlicePairs
import Derived.OpenShut
import Derived.ChangeArms
import Derived.WalkKit
import Derived.ProofKit
import Derived.ShutString
import Derived.ChangeOld
import Derived.Below
import Derived.SizedLaws
import Derived.ChangeSlices
/- A list of fields that came in, opened: what the argument is, how its cells lie, and that its bulk bounds it. -/
set_option linter.unusedVariables false
set_option linter.unusedSimpArgs false
namespace Go.Proofs.YtgmjkkiahanekaaGreatDoor
open Go.RowKit Lex Go.ChangeShapes Go.WideShapes Go.ChangeAt

theorem bulk_pos {H : Type} (d : DataW H) : 1 ≤ Rows.uptoBulk d := by
  cases d with
  | lit x => cases x <;> simp [Rows.uptoBulk]
  | _ => simp [Rows.uptoBulk]
theorem bulkAll_length {H : Type} : ∀ l : List (DataW H), l.length ≤ Rows.uptoBulkAll l
  | [] => Nat.le_refl _
  | d :: r => by have h1 := bulk_pos d; have h2 := bulkAll_length r; simp only [List.length_cons, Rows.uptoBulkAll]; omega
theorem bulkAll_mem {H : Type} {d : DataW H} : ∀ {l : List (DataW H)}, d ∈ l → Rows.uptoBulk d ≤ Rows.uptoBulkAll l
  | [], h => by cases h
  | x :: r, h => by
    simp only [Rows.uptoBulkAll]
    rcases List.mem_cons.1 h with rfl | h
    · omega
    · have := bulkAll_mem h; omega

/-- A text's bytes. -/
def textOf : Value → List UInt8
  | .string s => s.data.toList
  | _ => []

/-- What is known of a list of fields that came in. -/
structure Came {H : Type} (W : World) (v : Value) (d : DataW H) (A : Option Addr) (cap : Nat) (l : List Fd) : Prop where
  is : v = .slice A l.length cap
  nil : A = none → cap = 0
  flds : Flds W A l
  bulk : l.length ≤ Rows.uptoBulk d ∧ ∀ f ∈ l, f.1.length ≤ Rows.uptoBulk d ∧ f.2.length ≤ Rows.uptoBulk d

theorem open_flds_cells {H : Type} {enc : TypeId × Value → H} {W : World} {fuel : Nat} {a : Option Addr} {n c : Nat} {x : DataW H × List MemPlace} (h : DataW.trod enc Tryz.prog W 0 (fun _ => true) true fuel 40 [.slice a n c] = some x) :
    ∃ A cap l, Came W (.slice a n c) x.1 A cap l := by
  have hu : ∃ f0 f1, Tryz.prog.underlying 59 = some (.struct #[f0, f1]) ∧ f0.offset = 0 ∧ f1.offset = 1 ∧ f0.type = 9 ∧ f1.type = 9 := ⟨_, _, Tryz.underlying59, rfl, rfl, rfl, rfl⟩
  obtain ⟨f0, f1, hu, o0, o1, t0, t1⟩ := hu
  rcases Go.Deep.open_slice_pairs Tryz.underlying40 hu (by kernel_rfl) o0 o1 (by rw [t0]; kernel_rfl) (by rw [t1]; kernel_rfl) h with ⟨e, rfl⟩ | ⟨ad, len, cap, m, k, V0, V1, D0, D1, P0, P1, e, hb, hl, hm, hmm, rfl, hi⟩
  · simp only [List.cons.injEq, and_true] at e
    refine ⟨none, 0, [], e, fun _ => rfl, fun j hj => absurd hj (Nat.not_lt_zero _), by simp, by simp⟩
  · simp only [List.cons.injEq, and_true] at e
    have hlm : len ≤ m := by rw [hmm]; simpa using hl
    rw [t0, t1] at hi
    have hs : ∀ i, i < len → V0 i = .string (bs (textOf (V0 i))) ∧ V1 i = .string (bs (textOf (V1 i))) ∧ D0 i = .lit (.string (textOf (V0 i))) ∧ D1 i = .lit (.string (textOf (V1 i))) := by
      intro i hi'
      obtain ⟨_, _, h2, h3⟩ := hi i (by omega)
      obtain ⟨s0, e0, x0, _⟩ := DataW.trod_string Tryz.underlying9 h2
      obtain ⟨s1, e1, x1, _⟩ := DataW.trod_string Tryz.underlying9 h3
      simp only [List.cons.injEq, and_true] at e0 e1
      simp only [Prod.mk.injEq] at x0 x1
      rw [e0, e1]
      exact ⟨by show _ = Value.string (bs s0.data.toList); rw [list_bs], by show _ = Value.string (bs s1.data.toList); rw [list_bs], x0.1, x1.1⟩
    have hll : ((List.range len).map fun i => ((textOf (V0 i), textOf (V1 i)) : Fd)).length = len := by simp
    refine ⟨some ad, cap, (List.range len).map fun i => (textOf (V0 i), textOf (V1 i)), by rw [hll]; exact e, (fun h => by cases h), ?_, ?_, ?_⟩
    · intro j hj
      rw [hll] at hj
      obtain ⟨c0, c1, _, _⟩ := hi j (by omega)
      obtain ⟨s0, s1, _, _⟩ := hs j hj
      rw [s0] at c0
      rw [s1] at c1
      have hsp : ad.spot = none := by
        have h0 := (hi 0 (by omega)).1
        simpa [Addr.add] using World.cell?_spot h0
      obtain ⟨g, o, sp⟩ := ad
      simp only at hsp
      subst hsp
      have ha : ∀ q, (⟨g, o, none⟩ : Addr).add q = ⟨g, o + q, none⟩ := fun q => by
        unfold Addr.add
        by_cases hq : q = 0
        · rw [if_pos hq, hq]; rfl
        · rw [if_neg hq]
      rw [ha] at c0 c1
      refine ⟨g, o, rfl, ?_, ?_⟩
      · simp only [List.getElem_map, List.getElem_range]; exact c0
      · simp only [List.getElem_map, List.getElem_range]; rw [Nat.add_assoc]; exact c1
    · have h1 := bulkAll_length ((List.range len).map fun i => DataW.agg [D0 i, D1 i])
      rw [List.length_map, List.length_range] at h1
      rw [hll]
      simp only [Rows.uptoBulk]
      omega
    · intro f hf
      obtain ⟨i, hi1, rfl⟩ := List.mem_map.1 hf
      have hi2 := List.mem_range.1 hi1
      have h1 := bulkAll_mem (List.mem_map.2 ⟨i, hi1, rfl⟩ : DataW.agg [D0 i, D1 i] ∈ (List.range len).map fun i => DataW.agg [D0 i, D1 i])
      obtain ⟨_, _, s2, s3⟩ := hs i hi2
      rw [s2, s3] at h1
      simp only [Rows.uptoBulk, Rows.uptoBulkAll] at h1 ⊢
      omega

set_option maxRecDepth 100000 in
theorem open_flds {H : Type} {enc : TypeId × Value → H} {W : World} {r : Reach} {b0 : Nat} {v : Value} {d : DataW H} {p : List MemPlace} (hv : Value.okWide Tryz.prog W r b0 40 v) (h : DataW.Trod enc Tryz.prog W 0 (fun _ => true) true 40 v d p) : ∃ A cap l, Came W v d A cap l := by
  obtain ⟨a, n, c, rfl⟩ := okWide_slice Tryz.underlying40 hv
  obtain ⟨fuel, hf⟩ := h
  exact open_flds_cells (x := (d, p)) hf
theorem Came.fb {H : Type} {W : World} {v : Value} {d : DataW H} {A : Option Addr} {cap : Nat} {l : List Fd} (h : Came W v d A cap l) (hb : Rows.uptoBulk d ≤ 1048576) : l.length ≤ 1048576 ∧ ∀ f ∈ l, f.1.length ≤ 1048576 ∧ f.2.length ≤ 1048576 :=
  ⟨Nat.le_trans h.bulk.1 hb, fun f hf => ⟨Nat.le_trans (h.bulk.2 f hf).1 hb, Nat.le_trans (h.bulk.2 f hf).2 hb⟩⟩
end Go.Proofs.YtgmjkkiahanekaaGreatDoor

