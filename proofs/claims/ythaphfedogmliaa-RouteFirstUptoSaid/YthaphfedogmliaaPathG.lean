/- The contract of strings.Split at one byte in plain words, and of path.Normal, for every text of at most 4194304 bytes. -/
import Derived.Test.YthaphfedogmliaaPathF
import Derived.Test.YthaphfedogmliaaPathE
import Derived.Deep.OwnRows
set_option linter.unusedVariables false
set_option linter.unusedSimpArgs false
namespace Go.Proofs.Ythaphfedogmliaa
open Go.RowKit Lex

def strs (ps : List (List UInt8)) : List Value := ps.map fun x => .string (bs x)

theorem info_str : (Try.prog.info? 9).map (fun i => (i.zero, i.size, i.bytes)) = some (some (.string ByteArray.empty), 1, 16) := by kernel_rfl

/-- A row of the call's own, cut short. -/
theorem own_take {w : World} {B : Nat} {e : TypeId} {g cap n : Nat} {xs : List Value} (h : w.ownsRow B e 1 (.slice (some ⟨g, 0, none⟩) n cap) n xs) (m : Nat) (hm : m ≤ n) : w.ownsRow B e 1 (.slice (some ⟨g, 0, none⟩) m cap) m (xs.take m) := by
  obtain ⟨h1, h2⟩ := h
  refine ⟨by rw [List.length_take]; omega, ?_⟩
  rcases h2 with ⟨h, _⟩ | ⟨g', cap', cur, he, a, b, c, d, f, k⟩
  · cases h
  · injection he with e1 e2 e3
    injection e1 with e1
    injection e1 with e1
    subst e1 e3
    refine .inr ⟨g, cap, cur, rfl, a, b, by omega, d, f, ?_⟩
    rw [← k, List.take_take]
    congr 1
    omega

def normVal (o : Option (List UInt8)) : Value := .tuple #[.string (bs (o.getD [])), .int .i64 (if o.isSome then 0 else 50)]

theorem slash_prefix (p : List UInt8) : Lib.hasPrefix p [47] = decide (p.head? = some 47) := by
  unfold Lib.hasPrefix
  cases p with
  | nil => rfl
  | cons a p =>
    rw [Bool.eq_iff_iff, List.isPrefixOf_iff_prefix, decide_eq_true_eq]
    constructor
    · rintro ⟨t, ht⟩; injection ht with h _; rw [h]; rfl
    · intro h; injection h with h; subst h; exact ⟨p, rfl⟩

theorem own_slice' {w : World} {B n z : Nat} {e : TypeId} {v : Value} {xs : List Value} (h : w.ownsRow B e z v n xs) : ∃ A c, v = .slice A n c := by
  rcases h.2 with ⟨rfl, rfl⟩ | ⟨g, cap, cur, rfl, _⟩
  · exact ⟨none, 0, rfl⟩
  · exact ⟨_, cap, rfl⟩

/-- Whether the piece ahead of k is one of dots, or empty. -/
def openAt (ps : List (List UInt8)) : Nat → Bool
  | 0 => false
  | k + 1 => ((ps[k]?).map dots).getD false
theorem openAt_next {ps : List (List UInt8)} {k : Nat} (h : k < ps.length) : openAt ps (k + 1) = dots ps[k] := by simp [openAt, h]
theorem openAt_last (ps : List (List UInt8)) : openAt ps ps.length = (ps.getLast?.map dots).getD false := by
  cases h : ps.length with
  | zero => have : ps = [] := List.eq_nil_of_length_eq_zero h
            subst this; rfl
  | succ n => rw [List.getLast?_eq_getElem?, h]; rfl

/-- What is kept behind k pieces. -/
structure Kept (ps kept : List (List UInt8)) (k N : Nat) : Prop where
  left : normK [] ps = normK kept (ps.drop k)
  len : kept.length ≤ k
  each : ∀ x ∈ kept, x.length ≤ N
theorem Kept.start (ps : List (List UInt8)) (N : Nat) : Kept ps [] 0 N := ⟨by simp, by simp, by simp⟩
theorem drop_cons {α : Type} (l : List α) (k : Nat) (h : k < l.length) : l.drop k = l[k] :: l.drop (k + 1) := List.drop_eq_getElem_cons h
theorem Kept.up {ps kept : List (List UInt8)} {k N : Nat} (h : Kept ps kept k N) (hk : k < ps.length) (hx : ps[k] = [46, 46]) (hn : kept ≠ []) : Kept ps kept.dropLast (k + 1) N := by
  refine ⟨?_, by have := h.len; simp; omega, fun x hx => h.each x (List.dropLast_subset _ hx)⟩
  rw [h.left, drop_cons ps k hk, hx]
  simp only [normK, if_true]
  rw [if_neg hn]
theorem Kept.out {ps kept : List (List UInt8)} {k N : Nat} (h : Kept ps kept k N) (hk : k < ps.length) (hx : ps[k] = [46, 46]) (hn : kept = []) : normK [] ps = none := by
  rw [h.left, drop_cons ps k hk, hx]
  simp only [normK, if_true]
  rw [if_pos hn]
theorem Kept.stay {ps kept : List (List UInt8)} {k N : Nat} (h : Kept ps kept k N) (hk : k < ps.length) (hx : ps[k] ≠ [46, 46]) (hd : dots ps[k] = true) : Kept ps kept (k + 1) N := by
  refine ⟨?_, by have := h.len; omega, h.each⟩
  rw [h.left, drop_cons ps k hk]
  simp only [normK]
  rw [if_neg hx, if_pos hd]
theorem Kept.keep {ps kept : List (List UInt8)} {k N : Nat} (h : Kept ps kept k N) (hk : k < ps.length) (hd : dots ps[k] = false) (hl : ps[k].length ≤ N) : Kept ps (kept ++ [ps[k]]) (k + 1) N := by
  refine ⟨?_, by have := h.len; simp; omega, fun x hx => ?_⟩
  · rw [h.left, drop_cons ps k hk]
    simp only [normK]
    rw [if_neg (by intro e; rw [e] at hd; revert hd; decide), if_neg (by rw [hd]; simp)]
  · rcases List.mem_append.1 hx with h1 | h1
    · exact h.each x h1
    · simp at h1; subst h1; exact hl

theorem ret_norm {a : ByteArray} {l : List UInt8} (h : a.data.toList = l) : Ending.returned (.tuple #[.string a, .int .i64 0]) = .returned (normVal (some l)) := by
  subst h
  simp [normVal, list_bs]
theorem below_then {W w1 w2 : World} (h : Below W.heap.size W w1) (k : Below w1.heap.size w1 w2) : Below W.heap.size W w2 := h.trans (k.mono h.size)

end Go.Proofs.Ythaphfedogmliaa
