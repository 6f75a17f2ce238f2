/- Plain lemmas for FieldsSets and FieldsStripped. -/
import Derived.Test.YtnoolehpooidjaaDoorFldI
set_option linter.unusedVariables false
set_option linter.unusedSimpArgs false
namespace Go.Proofs.YtnoolehpooidjaaDoor
open Go.RowKit Lex

theorem alike_iff (a b : List UInt8) : alike a b = true ↔ lower a = lower b := by unfold alike; rw [beq_iff_eq]
theorem valuesF_append (a b : List Fd) (name : List UInt8) : valuesF (a ++ b) name = valuesF a name ++ valuesF b name := by unfold valuesF; rw [List.filter_append, List.map_append]
theorem valuesF_none {l : List Fd} {name : List UInt8} (h : ∀ f ∈ l, alike f.1 name = false) : valuesF l name = [] := by
  unfold valuesF
  rw [List.filter_eq_nil_iff.2 (fun f hf => by rw [h f hf]; simp)]; rfl
theorem valuesF_removed (l : List Fd) (name : List UInt8) : valuesF (removeF l name) name = [] :=
  valuesF_none fun f hf => by have := (List.mem_filter.1 hf).2; simpa using this
theorem getF_set (l : List Fd) (name value : List UInt8) : getF (setF l name value) name = (value, 1) := by
  have h : valuesF (setF l name value) name = [value] := by
    unfold setF
    rw [valuesF_append, valuesF_removed, List.nil_append]
    unfold valuesF; simp [alike_self]
  unfold getF; rw [h]; rfl
theorem getF_removed (l : List Fd) (name : List UInt8) : getF (removeF l name) name = ([], 0) := by unfold getF; rw [valuesF_removed]; rfl
theorem valuesF_other {l : List Fd} {name other : List UInt8} (h : lower other ≠ lower name) : valuesF (removeF l name) other = valuesF l other := by
  unfold valuesF removeF
  rw [List.filter_filter]
  congr 1
  refine List.filter_congr fun f _ => ?_
  by_cases hh : alike f.1 other = true
  · rw [hh, Bool.true_and]
    have : alike f.1 name = false := by
      rw [← Bool.not_eq_true, alike_iff]; intro e; exact h (((alike_iff _ _).1 hh).symm.trans e)
    rw [this]; rfl
  · rw [Bool.eq_false_iff.2 hh, Bool.false_and]
theorem getF_other {l : List Fd} {name other : List UInt8} (h : lower other ≠ lower name) : getF (removeF l name) other = getF l other := by unfold getF; rw [valuesF_other h]
theorem getF_set_other {l : List Fd} {name value other : List UInt8} (h : lower other ≠ lower name) : getF (setF l name value) other = getF l other := by
  have : valuesF (setF l name value) other = valuesF l other := by
    unfold setF
    rw [valuesF_append, valuesF_other h, valuesF_none (l := [(name, value)]) (fun f hf => by
      simp at hf; subst hf; rw [← Bool.not_eq_true, alike_iff]; exact fun e => h e.symm), List.append_nil]
  unfold getF; rw [this]
theorem Flds.left {w : World} {A : Option Addr} {a b : List Fd} (h : Flds w A (a ++ b)) : Flds w A a := by
  intro j hj
  obtain ⟨g, o, e, c1, c2⟩ := h j (by rw [List.length_append]; omega)
  rw [List.getElem_append_left hj] at c1 c2
  exact ⟨g, o, e, c1, c2⟩

/-! ### FieldsStripped -/
def keptB (l : List Fd) (f : Fd) : Bool := !(namesF l).any fun n => alike f.1 n
theorem stripF_kept (l : List Fd) : stripF l = l.filter (keptB l) := rfl
theorem stripF_mem {l : List Fd} {f : Fd} (h : f ∈ stripF l) : f ∈ l ∧ keptB l f = true := List.mem_filter.1 h
theorem kept_no {l : List Fd} {f : Fd} (h : keptB l f = true) {n : List UInt8} (hn : n ∈ namesF l) : alike f.1 n = false := by
  unfold keptB at h
  rw [Bool.not_eq_true'] at h
  rw [← Bool.not_eq_true]
  intro hh
  rw [List.any_eq_true.2 ⟨n, hn, hh⟩] at h; cases h
theorem strip_none {l : List Fd} {n : List UInt8} (h : n ∈ elementsF l conn ++ lowN) : getF (stripF l) n = ([], 0) := by
  have : valuesF (stripF l) n = [] := valuesF_none fun f hf => by
    have hk := (stripF_mem hf).2
    rcases List.mem_append.1 h with h | h
    · exact kept_no hk (List.mem_append.2 (.inr h))
    · unfold lowN at h
      obtain ⟨q, hq, rfl⟩ := List.mem_map.1 h
      rw [alike_low (lower_lower q)]
      exact kept_no hk (List.mem_append.2 (.inl hq))
  unfold getF; rw [this]; rfl
theorem conn_fixed : conn ∈ fixedN := by decide +kernel
theorem elementsF_strip (l : List Fd) : elementsF (stripF l) conn = [] := by
  have : valuesF (stripF l) conn = [] := valuesF_none fun f hf => kept_no (stripF_mem hf).2 (List.mem_append.2 (.inl conn_fixed))
  unfold elementsF; rw [this]; rfl
theorem strip_strip (l : List Fd) : stripF (stripF l) = stripF l := by
  rw [stripF_kept (stripF l)]
  refine List.filter_eq_self.2 fun f hf => ?_
  unfold keptB
  rw [Bool.not_eq_true', ← Bool.not_eq_true, List.any_eq_true]
  rintro ⟨n, hn, hh⟩
  unfold namesF at hn
  rw [elementsF_strip, List.append_nil] at hn
  rw [kept_no (stripF_mem hf).2 (List.mem_append.2 (.inl hn))] at hh
  cases hh
/-- How many of the first k are kept, and what the next of the kept is. -/
theorem filter_at (p : Fd → Bool) : ∀ (l : List Fd) (k : Nat) (h : k < l.length), (l.filter p)[((l.take k).filter p).length]? = if p l[k] then some l[k] else ((l.drop (k + 1)).filter p)[0]?
  | f :: l, 0, _ => by
    by_cases hp : p f = true
    · simp [hp]
    · simp [hp]
  | f :: l, k + 1, h => by
    have ih := filter_at p l k (by simpa using h)
    by_cases hp : p f = true
    · simp [hp] at ih ⊢; exact ih
    · simp [hp] at ih ⊢; exact ih
/-- The place behind k fields: just how many are kept. -/
def placeF (l : List Fd) (k : Nat) : Nat := ((l.take k).filter (keptB l)).length
theorem place_le (l : List Fd) (k : Nat) : placeF l k ≤ (stripF l).length := by
  unfold placeF; rw [stripF_kept]
  generalize keptB l = p
  have h : l.filter p = (l.take k).filter p ++ (l.drop k).filter p := by rw [← List.filter_append, List.take_append_drop]
  rw [h, List.length_append]
  exact Nat.le_add_right _ _
theorem place_all (l : List Fd) : placeF l l.length = (stripF l).length := by unfold placeF; rw [List.take_length]; rfl
theorem place_snoc (l : List Fd) (k : Nat) (h : k < l.length) : placeF l (k + 1) = placeF l k + (if keptB l l[k] then 1 else 0) := by
  unfold placeF
  rw [List.take_succ_eq_append_getElem h, List.filter_append, List.length_append]
  congr 1
  by_cases hh : keptB l l[k] = true
  · simp [hh]
  · simp [hh]
/-- The field at k is kept just if it is the next of the kept. -/
theorem place_at (l : List Fd) (k : Nat) (h : k < l.length) : (keptB l l[k] = true ∧ ∃ hp : placeF l k < (stripF l).length, (stripF l)[placeF l k] = l[k]) ∨ (keptB l l[k] = false ∧ ∀ hp : placeF l k < (stripF l).length, (stripF l)[placeF l k] ≠ l[k]) := by
  have hf := filter_at (keptB l) l k h
  cases hk : keptB l l[k] with
  | true =>
    left
    rw [if_pos hk] at hf
    obtain ⟨hp, e⟩ := List.getElem?_eq_some_iff.1 hf
    exact ⟨rfl, hp, e⟩
  | false =>
    right
    refine ⟨rfl, fun hp e => ?_⟩
    have := (stripF_mem (List.getElem_mem hp)).2
    rw [e, hk] at this; cases this
end Go.Proofs.YtnoolehpooidjaaDoor
