/- The texts MidQ in one. -/
import Derived.Test.YtgmjkkiahanekaaGreatDoorM29
import Derived.Deep.MidRow
/- A request's eighteen cells loaded and stored as one. -/
set_option linter.unusedVariables false
set_option linter.unusedSimpArgs false
namespace Go.Proofs.YtgmjkkiahanekaaGreatDoor
open Go.RowKit Lex

theorem info_rq : (Tryz.prog.info? 46).map (·.size) = some 18 := by kernel_rfl
theorem one_rq (q : Rq) (A : Option Addr) (c : Nat) : ((rqVs q A c).toArray.all (·.oneCell')) = true := by simp [rqVs, Value.oneCell']
theorem sets_cells (B : Nat) : ∀ (us : List Value) (i : Nat) (w : World), w.setCells B i us = setsFrom w B i us
  | [], _, _ => rfl
  | u :: us, i, w => sets_cells B us (i + 1) _
theorem Blk.range {w : World} {B : Nat} {vs : List Value} (h : Blk w B vs) : w.rangeAt B 0 vs := fun j v hj => by rw [Nat.zero_add]; exact h.c j v hj
theorem Blk.there {w : World} {B : Nat} {vs : List Value} (h : Blk w B vs) {n : Nat} (hn : n = vs.length) : w.there B 0 n := fun j hj => by
  rw [Nat.zero_add]
  obtain ⟨v, hv⟩ : ∃ v, vs[j]? = some v := ⟨vs[j]'(by omega), List.getElem?_eq_getElem _⟩
  exact ⟨by rw [h.c j v hv]; rfl, h.fz j⟩
/-- A request's zero block, then filled. -/
theorem newq_facts (w : World) (T : TypeId) (q : Rq) (A : Option Addr) (c : Nat) {V1 V : World} (h1 : w.alloc (.cells #[.string ⟨#[]⟩, .string ⟨#[]⟩, .int .i64 0, .string ⟨#[]⟩, .int .i64 0, .slice none 0 0, .int .i64 0, .string ⟨#[]⟩, .int .i64 0, .string ⟨#[]⟩, .string ⟨#[]⟩, .bool false, .string ⟨#[]⟩, .int .i64 0, .string ⟨#[]⟩, .bool false, .bool false, .string ⟨#[]⟩] T) = V1) (h2 : V1.setCells w.heap.size 0 (rqVs q A c) = V) :
    V1.there w.heap.size 0 (rqVs q A c).toArray.size ∧ Blk V w.heap.size (rqVs q A c) ∧ Below w.heap.size w V ∧ V.heap.size = w.heap.size + 1 := by
  have y1 : Blk V1 w.heap.size zeroQ := by rw [← h1]; exact Blk.new _ _ _ _ rfl
  have h2' : setsFrom V1 w.heap.size 0 (rqVs q A c) = V := by rw [← sets_cells, h2]
  have z1 : V1.heap.size = w.heap.size + 1 := by rw [← h1]; simp
  have b1 : Below w.heap.size w V1 := by rw [← h1]; exact (Below.refl _ w).alloc (Nat.le_refl _) _
  have a2 : Away (fun k => k = w.heap.size) V1 V := by rw [← h2']; exact away_sets (fun k => k = w.heap.size) w.heap.size rfl (rqVs q A c) 0 V1 V1 (Away.refl _ _)
  refine ⟨y1.there rfl, by rw [← h2']; exact y1.sets (rqVs q A c) rfl, b1.trans (a2.below (B := w.heap.size) (by omega) (fun k h => by omega)), ?_⟩
  rw [← h2', sets_size]; exact z1
end Go.Proofs.YtgmjkkiahanekaaGreatDoor

