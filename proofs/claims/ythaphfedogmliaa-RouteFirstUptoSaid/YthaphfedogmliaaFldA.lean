/- Plain words of layer 7 over lists of fields: the values of a name, Get, Elements, Has, Remove, Set, Strip, Check; no program in sight. -/
import Derived.Test.YthaphfedogmliaaLexI
set_option linter.unusedVariables false
set_option linter.unusedSimpArgs false
namespace Go.Proofs.Ythaphfedogmliaa
open Go.RowKit Lex

abbrev Fd := List UInt8 × List UInt8
def valuesF (l : List Fd) (name : List UInt8) : List (List UInt8) := (l.filter fun f => alike f.1 name).map (·.2)
def getF (l : List Fd) (name : List UInt8) : List UInt8 × Nat := ((valuesF l name).headD [], (valuesF l name).length)
def elementsF (l : List Fd) (name : List UInt8) : List (List UInt8) := (valuesF l name).flatMap elems
def hasF (l : List Fd) (name e : List UInt8) : Bool := (elementsF l name).any fun x => alike x e
def removeF (l : List Fd) (name : List UInt8) : List Fd := l.filter fun f => !alike f.1 name
def setF (l : List Fd) (name value : List UInt8) : List Fd := removeF l name ++ [(name, value)]
def conn : List UInt8 := [67, 111, 110, 110, 101, 99, 116, 105, 111, 110]
def fixedN : List (List UInt8) := [conn, [75, 101, 101, 112, 45, 65, 108, 105, 118, 101], [80, 114, 111, 120, 121, 45, 67, 111, 110, 110, 101, 99, 116, 105, 111, 110], [84, 69], [84, 114, 97, 105, 108, 101, 114], [84, 114, 97, 110, 115, 102, 101, 114, 45, 69, 110, 99, 111, 100, 105, 110, 103], [85, 112, 103, 114, 97, 100, 101]]
def namesF (l : List Fd) : List (List UInt8) := fixedN ++ elementsF l conn
def stripF (l : List Fd) : List Fd := l.filter fun f => !(namesF l).any fun n => alike f.1 n
def badF (f : Fd) : Bool := !token f.1 || !value f.2 || decide (512 < f.1.length + f.2.length)
def checkF (l : List Fd) : Int := if l.any badF then 70 else if 32 < l.length then 71 else 0

theorem alike_comm (a b : List UInt8) : alike a b = alike b a := by
  unfold alike; rw [Bool.eq_iff_iff, beq_iff_eq, beq_iff_eq]; exact eq_comm
theorem alike_self (a : List UInt8) : alike a a = true := by unfold alike; simp
theorem alike_low {a b : List UInt8} (h : lower a = lower b) (c : List UInt8) : alike c a = alike c b := by unfold alike; rw [h]
theorem valuesF_low {a b : List UInt8} (h : lower a = lower b) (l : List Fd) : valuesF l a = valuesF l b := by
  unfold valuesF; congr 2; funext f; exact alike_low h f.1

theorem valuesF_snoc (l : List Fd) (f : Fd) (name : List UInt8) : valuesF (l ++ [f]) name = valuesF l name ++ (if alike f.1 name then [f.2] else []) := by
  unfold valuesF; rw [List.filter_append, List.map_append]
  congr 1
  by_cases h : alike f.1 name = true
  · simp [h]
  · simp [h]
theorem valuesF_take (l : List Fd) (k : Nat) (h : k < l.length) (name : List UInt8) : valuesF (l.take (k + 1)) name = valuesF (l.take k) name ++ (if alike l[k].1 name then [l[k].2] else []) := by
  rw [List.take_succ_eq_append_getElem h, valuesF_snoc]
theorem valuesF_length (l : List Fd) (name : List UInt8) : (valuesF l name).length ≤ l.length := by
  unfold valuesF; rw [List.length_map]; exact List.length_filter_le _ _
theorem valuesF_prefix (l : List Fd) (k : Nat) (name : List UInt8) : valuesF (l.take k) name <+: valuesF l name := by
  conv => rhs; rw [← List.take_append_drop k l]
  unfold valuesF
  rw [List.filter_append, List.map_append]
  exact List.prefix_append _ _
theorem valuesF_mem {l : List Fd} {name v : List UInt8} (h : v ∈ valuesF l name) : ∃ f ∈ l, f.2 = v := by
  unfold valuesF at h
  obtain ⟨f, hf, rfl⟩ := List.mem_map.1 h
  exact ⟨f, (List.mem_filter.1 hf).1, rfl⟩

theorem removeF_snoc (l : List Fd) (f : Fd) (name : List UInt8) : removeF (l ++ [f]) name = removeF l name ++ (if alike f.1 name then [] else [f]) := by
  unfold removeF; rw [List.filter_append]
  congr 1
  by_cases h : alike f.1 name = true
  · simp [h]
  · simp [h]
theorem removeF_take (l : List Fd) (k : Nat) (h : k < l.length) (name : List UInt8) : removeF (l.take (k + 1)) name = removeF (l.take k) name ++ (if alike l[k].1 name then [] else [l[k]]) := by
  rw [List.take_succ_eq_append_getElem h, removeF_snoc]
theorem removeF_length (l : List Fd) (name : List UInt8) : (removeF l name).length ≤ l.length := List.length_filter_le _ _
theorem removeF_mem {l : List Fd} {name : List UInt8} {f : Fd} (h : f ∈ removeF l name) : f ∈ l := (List.mem_filter.1 h).1
theorem removeF_low {a b : List UInt8} (h : lower a = lower b) (l : List Fd) : removeF l a = removeF l b := by
  unfold removeF; congr 1; funext f; rw [alike_low h f.1]
/-- Removing one name after the other. -/
theorem removeF_all (l : List Fd) (ns : List (List UInt8)) : ns.foldl removeF l = l.filter fun f => !ns.any fun n => alike f.1 n := by
  induction ns generalizing l with
  | nil => exact (List.filter_eq_self.2 fun _ _ => rfl).symm
  | cons n ns ih =>
    rw [List.foldl_cons, ih]
    unfold removeF
    rw [List.filter_filter]
    congr 1
    funext f
    rw [List.any_cons, Bool.not_or, Bool.and_comm]
theorem stripF_fold (l : List Fd) : (namesF l).foldl removeF l = stripF l := removeF_all l _

theorem checkF_bad {l : List Fd} {k : Nat} (h : k < l.length) (hb : badF l[k] = true) : checkF l = 70 := by
  unfold checkF; rw [if_pos (List.any_eq_true.2 ⟨_, List.getElem_mem h, hb⟩)]
theorem checkF_many {l : List Fd} (h : ∀ f ∈ l, badF f = false) (hn : 32 < l.length) : checkF l = 71 := by
  unfold checkF
  rw [if_neg (by rw [List.any_eq_true]; rintro ⟨f, hf, hb⟩; rw [h f hf] at hb; cases hb), if_pos hn]
theorem checkF_ok {l : List Fd} (h : ∀ f ∈ l, badF f = false) (hn : ¬ 32 < l.length) : checkF l = 0 := by
  unfold checkF
  rw [if_neg (by rw [List.any_eq_true]; rintro ⟨f, hf, hb⟩; rw [h f hf] at hb; cases hb), if_neg hn]
theorem all_take_good {l : List Fd} {k : Nat} (h : k < l.length) (ha : ∀ f ∈ l.take k, badF f = false) (hb : badF l[k] = false) : ∀ f ∈ l.take (k + 1), badF f = false := by
  intro f hf
  rw [List.take_succ_eq_append_getElem h, List.mem_append] at hf
  rcases hf with hf | hf
  · exact ha f hf
  · simp at hf; subst hf; exact hb

/-- A list of fields, as its two cells a field lie in a world. -/
def Flds (w : World) (A : Option Addr) (l : List Fd) : Prop := ∀ j (h : j < l.length), ∃ (g o : Nat), A = some ⟨g, o, none⟩ ∧ w.cell? ⟨g, o + j * 2, none⟩ = some (.string (bs l[j].1)) ∧ w.cell? ⟨g, o + j * 2 + 1, none⟩ = some (.string (bs l[j].2))
theorem Flds.below {w w' : World} {A : Option Addr} {l : List Fd} (h : Flds w A l) (hb : Below w.heap.size w w') : Flds w' A l := by
  intro j hj
  obtain ⟨g, o, e, c1, c2⟩ := h j hj
  exact ⟨g, o, e, (hb.cell (World.block_lt_of_cell? w _ c1)).trans c1, (hb.cell (World.block_lt_of_cell? w _ c2)).trans c2⟩
theorem Flds.nil (w : World) (A : Option Addr) : Flds w A [] := fun j hj => absurd hj (Nat.not_lt_zero _)
def fvals (l : List Fd) : List Value := l.flatMap fun f => [.string (bs f.1), .string (bs f.2)]
theorem fvals_append (a b : List Fd) : fvals (a ++ b) = fvals a ++ fvals b := by unfold fvals; rw [List.flatMap_append]
theorem fvals_at : ∀ (l : List Fd) (k : Nat) (h : k < l.length), (fvals l)[k * 2]? = some (.string (bs l[k].1)) ∧ (fvals l)[k * 2 + 1]? = some (.string (bs l[k].2))
  | f :: l, 0, _ => ⟨rfl, rfl⟩
  | f :: l, k + 1, h => by
    have := fvals_at l k (by simpa using h)
    have e1 : fvals (f :: l) = .string (bs f.1) :: .string (bs f.2) :: fvals l := rfl
    rw [e1, show (k + 1) * 2 = k * 2 + 1 + 1 from by omega]
    exact this
theorem flds_own {w : World} {base : Nat} {e : TypeId} {A : Option Addr} {cap : Nat} {l : List Fd} (h : w.ownsRow base e 2 (.slice A l.length cap) l.length (fvals l)) : Flds w A l := by
  intro j hj
  obtain ⟨h1, h2⟩ := fvals_at l j hj
  rcases h.2 with ⟨_, h0⟩ | ⟨g, cap', cur, he, _, _, _⟩
  · omega
  · injection he with e1 e2 e3
    subst e1
    have a1 := World.ownsRow.cells h (g := g) rfl _ _ h1
    have a2 := World.ownsRow.cells h (g := g) rfl _ _ h2
    have ad : ∀ k, (⟨g, 0, none⟩ : Addr).add k = ⟨g, 0 + k, none⟩ := fun k => by unfold Addr.add; split <;> simp_all
    rw [ad] at a1 a2
    exact ⟨g, 0, rfl, a1, by rw [Nat.add_assoc]; exact a2⟩
end Go.Proofs.Ythaphfedogmliaa
