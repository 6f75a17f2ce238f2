/- Plain words of layer 5 over lists of bytes: pieces between slashes, the normal form of a path; no program in sight. -/
import Derived.Test.YthaphfedogmliaaPathA
import Derived.Lib.Split
import Derived.Lib.CountLaws
import Derived.Lib.Join
set_option linter.unusedVariables false
set_option linter.unusedSimpArgs false
namespace Go.Proofs.Ythaphfedogmliaa.Lex

/-- The pieces between the bytes c. -/
def pieces (c : UInt8) : List UInt8 → List (List UInt8)
  | [] => [[]]
  | b :: l => if b = c then [] :: pieces c l else match pieces c l with | p :: ps => (b :: p) :: ps | [] => [[b]]

theorem pieces_ne (c : UInt8) (l : List UInt8) : pieces c l ≠ [] := by
  cases l with
  | nil => simp [pieces]
  | cons b l => simp only [pieces]; split; · simp
                split <;> simp
theorem pieces_no {c : UInt8} : ∀ {a : List UInt8}, (∀ x ∈ a, x ≠ c) → pieces c a = [a]
  | [], _ => rfl
  | b :: a, h => by
    simp only [pieces]
    rw [if_neg (h b (by simp)), pieces_no (a := a) (fun x hx => h x (by simp [hx]))]
theorem pieces_at {c : UInt8} : ∀ {a : List UInt8} (r : List UInt8), (∀ x ∈ a, x ≠ c) → pieces c (a ++ c :: r) = a :: pieces c r
  | [], r, _ => by simp [pieces]
  | b :: a, r, h => by
    rw [List.cons_append]
    simp only [pieces]
    rw [if_neg (h b (by simp)), pieces_at (a := a) r (fun x hx => h x (by simp [hx]))]

theorem occ_one (l : List UInt8) (c : UInt8) (i : Nat) : Lib.occAt l [c] i = true ↔ l[i]? = some c := by
  unfold Lib.occAt
  rw [List.isPrefixOf_iff_prefix]
  constructor
  · rintro ⟨t, ht⟩
    have : (l.drop i)[0]? = some c := by rw [← ht]; rfl
    rw [List.getElem?_drop, Nat.add_zero] at this
    exact this
  · intro h
    have h0 : (l.drop i)[0]? = some c := by rw [List.getElem?_drop, Nat.add_zero]; exact h
    cases hd : l.drop i with
    | nil => rw [hd] at h0; simp at h0
    | cons b t => rw [hd] at h0; simp at h0; subst h0; exact ⟨t, rfl⟩

theorem split_one (c : UInt8) (l : List UInt8) : Lib.split l [c] = pieces c l := by
  unfold Lib.split
  induction hn : l.length using Nat.strongRecOn generalizing l with
  | ind n ih =>
    rcases Lib.index_spec l [c] with ⟨h1, h2⟩ | ⟨i, h1, h2, h3, h4⟩
    · rw [Lib.count_miss h1]
      simp only [Lib.splitK]
      rw [pieces_no]
      intro x hx e
      obtain ⟨j, hj, hjx⟩ := List.getElem_of_mem hx
      have := h2 j (by omega)
      rw [← Bool.not_eq_true, occ_one] at this
      exact this (by rw [List.getElem?_eq_getElem hj, hjx, e])
    · have hc := (occ_one l c i).1 h3
      have hil : i < l.length := by
        rcases Nat.lt_or_ge i l.length with h | h
        · exact h
        · rw [List.getElem?_eq_none h] at hc; cases hc
      have hsp : l = l.take i ++ c :: l.drop (i + 1) := by
        have : l.drop i = c :: l.drop (i + 1) := by
          rw [List.drop_eq_getElem_cons hil]
          rw [List.getElem?_eq_getElem hil] at hc
          injection hc with hc
          rw [hc]
        rw [← this, List.take_append_drop]
      rw [Lib.count_hit (by simp) h1, Nat.add_comm 1]
      simp only [Lib.splitK]
      rw [if_neg (by rw [h1]; simp), h1]
      simp only [Int.toNat_natCast, Nat.add_zero, List.length_singleton]
      rw [ih (l.drop (i + 1)).length (by rw [List.length_drop]; omega) (l.drop (i + 1)) rfl]
      conv => rhs; rw [hsp]
      rw [pieces_at]
      intro x hx e
      obtain ⟨j, hj, hjx⟩ := List.getElem_of_mem hx
      rw [List.length_take] at hj
      have hj' : j < i := by omega
      have := h4 j hj'
      rw [← Bool.not_eq_true, occ_one] at this
      rw [List.getElem_take] at hjx
      exact this (by rw [List.getElem?_eq_getElem (by omega), hjx, e])

theorem pieces_count (c : UInt8) (l : List UInt8) : Lib.count l [c] + 1 = (pieces c l).length := by
  induction hn : l.length using Nat.strongRecOn generalizing l with
  | ind n ih =>
    rcases Lib.index_spec l [c] with ⟨h1, h2⟩ | ⟨i, h1, h2, h3, h4⟩
    · rw [Lib.count_miss h1, ← split_one]
      unfold Lib.split
      rw [Lib.count_miss h1]; rfl
    · have hc := (occ_one l c i).1 h3
      have hil : i < l.length := by
        rcases Nat.lt_or_ge i l.length with h | h
        · exact h
        · rw [List.getElem?_eq_none h] at hc; cases hc
      rw [← split_one]
      unfold Lib.split
      rw [Lib.count_hit (by simp) h1, Nat.add_comm 1]
      simp only [Lib.splitK]
      rw [if_neg (by rw [h1]; simp), h1]
      simp only [Int.toNat_natCast, Nat.add_zero, List.length_singleton, List.length_cons]
      have := ih (l.drop (i + 1)).length (by rw [List.length_drop]; omega) (l.drop (i + 1)) rfl
      rw [← split_one] at this
      unfold Lib.split at this
      show Lib.count (l.drop (i + 1)) [c] + 1 + 1 = (Lib.splitK [c] 0 (Lib.count (l.drop (i + 1)) [c]) (l.drop (i + 1))).length + 1
      rw [← this]

theorem pieces_length (c : UInt8) (l : List UInt8) : (pieces c l).length ≤ l.length + 1 := by
  induction l with
  | nil => simp [pieces]
  | cons b l ih =>
    simp only [pieces]
    split
    · simp; omega
    · split
      · rename_i h; rw [h] at ih; simp at ih ⊢; omega
      · simp
theorem pieces_mem (c : UInt8) (l : List UInt8) : ∀ p ∈ pieces c l, p.length ≤ l.length ∧ ∀ x ∈ p, x ≠ c := by
  induction l with
  | nil => intro p hp; simp [pieces] at hp; subst hp; simp
  | cons b l ih =>
    intro p hp
    simp only [pieces] at hp
    split at hp
    · rcases List.mem_cons.1 hp with rfl | h
      · simp
      · have := ih p h; exact ⟨by simp; omega, this.2⟩
    · rename_i hb
      split at hp
      · rename_i q qs hq
        rw [hq] at ih
        rcases List.mem_cons.1 hp with rfl | h
        · have := ih q (by simp)
          refine ⟨by simp; omega, fun x hx => ?_⟩
          rcases List.mem_cons.1 hx with rfl | hx
          · exact hb
          · exact this.2 x hx
        · have := ih p (by simp [h]); exact ⟨by simp; omega, this.2⟩
      · rename_i hq; exact absurd hq (pieces_ne c l)

/-! ### the normal form -/
def dots (x : List UInt8) : Bool := decide (x = []) || decide (x = [46]) || decide (x = [46, 46])
def normK : List (List UInt8) → List (List UInt8) → Option (List (List UInt8))
  | kept, [] => some kept
  | kept, x :: r => if x = [46, 46] then (if kept = [] then none else normK kept.dropLast r) else if dots x then normK kept r else normK (kept ++ [x]) r
def build (kept : List (List UInt8)) (isOpen : Bool) : List UInt8 := 47 :: Lib.join kept [47] ++ (if isOpen = true ∧ kept ≠ [] then [47] else [])
def normal (l : List UInt8) : Option (List UInt8) :=
  match unesc l with
  | none => none
  | some p => if p.head? = some 47 then (normK [] (pieces 47 p.tail)).map fun kept => build kept (((pieces 47 p.tail).getLast?.map dots).getD false) else none

theorem unesc_length {l l' : List UInt8} (h : unesc l = some l') : l'.length ≤ l.length := by
  induction l using walkE_ind generalizing l' with
  | h0 => simp [unesc, walkE_nil] at h; subst h; simp
  | h1 c r ih hc =>
    unfold unesc at h
    cases hb : badU c with
    | true => rw [walkE_bad hb] at h; cases h
    | false =>
      rw [walkE_plain hb hc] at h
      cases hr : walkE badU encU r with
      | none => rw [hr] at h; cases h
      | some r' => rw [hr] at h; simp at h; subst h; have := ih hr; simp; omega
  | h2 a b r ih =>
    have hb : badU 37 = false := by decide
    unfold unesc at h
    cases hp : pair a b with
    | none => rw [walkE_none hp] at h; cases h
    | some n =>
      rw [walkE_some hb hp] at h
      cases hr : walkE badU encU r with
      | none => rw [hr] at h; cases h
      | some r' =>
        rw [hr] at h; simp at h; subst h
        have := ih hr
        have : (encU n).length ≤ 3 := by unfold encU; split <;> simp
        simp; omega
  | h3 r hr => unfold unesc at h; rw [walkE_short hr] at h; cases h

theorem join_length (kept : List (List UInt8)) (N : Nat) (h : ∀ x ∈ kept, x.length ≤ N) : (Lib.join kept [47]).length ≤ kept.length * (N + 1) := by
  unfold Lib.join
  induction kept with
  | nil => simp
  | cons x r ih =>
    have h1 := ih (fun y hy => h y (by simp [hy]))
    have h2 := h x (by simp)
    cases r with
    | nil => simp [List.intercalate]; omega
    | cons y r =>
      have e : List.intercalate [47] (x :: y :: r) = x ++ [47] ++ List.intercalate [47] (y :: r) := by simp [List.intercalate]
      rw [e]
      simp only [List.length_append, List.length_cons, List.length_nil] at h1 ⊢
      rw [Nat.add_mul (r.length + 1) 1 (N + 1)]
      omega

end Go.Proofs.Ythaphfedogmliaa.Lex
