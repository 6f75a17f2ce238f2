/- The texts OpS in one. -/
import Derived.Test.YtgmjkkiahanekaaGreatDoorRows
import Derived.Test.YtgmjkkiahanekaaGreatDoorM34
import Derived.SliceStrings
import Derived.OpenShut
import Derived.ChangeArms
import Derived.WalkKit
import Derived.ProofKit
import Derived.ShutString
import Derived.ChangeOld
import Derived.Below
import Derived.SizedLaws
import Derived.ChangeSlices
/- A list of texts that came in, opened: what the argument is, how its cells lie, and that its bulk bounds it. -/
set_option linter.unusedVariables false
set_option linter.unusedSimpArgs false
namespace Go.Proofs.YtgmjkkiahanekaaGreatDoor
open Go.RowKit Lex Go.ChangeShapes Go.WideShapes Go.ChangeAt

theorem bulk_posS {H : Type} (d : DataW H) : 1 ≤ Rows.uptoBulk d := by
  cases d with
  | lit x => cases x <;> simp [Rows.uptoBulk]
  | _ => simp [Rows.uptoBulk]
theorem bulkS {H : Type} : ∀ l : List ByteArray, (l.map fun s => s.data.toList).flatten.length ≤ Rows.uptoBulkAll (l.map fun s => (DataW.lit (.string s.data.toList) : DataW H)) ∧ l.length ≤ Rows.uptoBulkAll (l.map fun s => (DataW.lit (.string s.data.toList) : DataW H))
  | [] => ⟨Nat.le_refl _, Nat.le_refl _⟩
  | s :: r => by
    obtain ⟨h1, h2⟩ := bulkS (H := H) r
    have h3 := bulk_posS (DataW.lit (.string s.data.toList) : DataW H)
    simp only [List.map_cons, List.flatten_cons, List.length_append, List.length_cons, Rows.uptoBulkAll, Rows.uptoBulk] at h1 h2 h3 ⊢
    omega
/-- What is known of a list of texts that came in. -/
structure CameS {H : Type} (W : World) (v : Value) (d : DataW H) (A : Option Addr) (cap : Nat) (l : List (List UInt8)) : Prop where
  is : v = .slice A l.length cap
  nil : A = none → cap = 0
  texts : TextsO W A l
  bulk : l.length ≤ Rows.uptoBulk d ∧ l.flatten.length ≤ Rows.uptoBulk d
set_option maxRecDepth 100000 in
theorem open_strs_cells {H : Type} {enc : TypeId × Value → H} {W : World} {fuel : Nat} {a : Option Addr} {n c : Nat} {x : DataW H × List MemPlace} (hf : DataW.trod enc Tryz.prog W 0 (fun _ => true) true fuel 33 [.slice a n c] = some x) : ∃ A cap l, CameS W (.slice a n c) x.1 A cap l := by
  rcases open_strings Tryz.underlying33 Tryz.underlying9 (by kernel_rfl) hf with ⟨e, hx⟩ | ⟨ad, len, cap, ss, e, hb, hl, hm, hlen, hx, hc, hs⟩
  · simp only [List.cons.injEq, and_true] at e
    subst hx
    exact ⟨none, 0, [], e, fun _ => rfl, fun j hj => absurd hj (Nat.not_lt_zero _), by simp, by simp⟩
  · simp only [List.cons.injEq, and_true] at e
    subst hx
    have hlen2 : ss.length = cap := by simpa using hlen
    have hll : ((ss.take len).map fun s => s.data.toList).length = len := by rw [List.length_map, List.length_take]; omega
    refine ⟨some ad, cap, (ss.take len).map fun s => s.data.toList, by rw [hll]; exact e, (fun h => by cases h), ?_, ?_⟩
    · intro j hj
      rw [hll] at hj
      have hcj := hc j (by omega)
      have hsp : ad.spot = none := by
        have h0 := hc 0 (by omega)
        simpa [Addr.add] using World.cell?_spot h0
      obtain ⟨g, o, sp⟩ := ad
      simp only at hsp
      subst hsp
      have ha : (⟨g, o, none⟩ : Addr).add j = ⟨g, o + j, none⟩ := by
        unfold Addr.add
        by_cases hq : j = 0
        · rw [if_pos hq, hq]; rfl
        · rw [if_neg hq]
      rw [ha] at hcj
      refine ⟨g, o, rfl, ?_⟩
      rw [hcj, List.getElem_map, List.getElem_take, list_bs]
      rw [List.getD_eq_getElem?_getD, List.getElem?_eq_getElem (by omega)]
      rfl
    · have h1 := bulkS (H := H) (ss.take len)
      rw [hll]
      rw [List.length_take] at h1
      have e1 : Go.ChangeShapes.strs (H := H) (ss.take len) = (ss.take len).map fun s => (DataW.lit (.string s.data.toList) : DataW H) := rfl
      simp only [Rows.uptoBulk]
      rw [e1]
      omega
set_option maxRecDepth 100000 in
theorem open_strs {H : Type} {enc : TypeId × Value → H} {W : World} {r : Reach} {b0 : Nat} {v : Value} {d : DataW H} {p : List MemPlace} (hv : Value.okWide Tryz.prog W r b0 33 v) (h : DataW.Trod enc Tryz.prog W 0 (fun _ => true) true 33 v d p) : ∃ A cap l, CameS W v d A cap l := by
  obtain ⟨a, n, c, rfl⟩ := okWide_slice Tryz.underlying33 hv
  obtain ⟨fuel, hf⟩ := h
  exact open_strs_cells (x := (d, p)) hf
theorem CameS.sb {H : Type} {W : World} {v : Value} {d : DataW H} {A : Option Addr} {cap : Nat} {l : List (List UInt8)} (h : CameS W v d A cap l) (hb : Rows.uptoBulk d ≤ 1048576) : l.length ≤ 1048576 ∧ l.flatten.length ≤ 1048576 :=
  ⟨Nat.le_trans h.bulk.1 hb, Nat.le_trans h.bulk.2 hb⟩
end Go.Proofs.YtgmjkkiahanekaaGreatDoor

