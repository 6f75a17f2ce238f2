/- The texts HdL, HdC, Box2, PathL, PathM in one. -/
import Derived.Test.YtgmjkkiahanekaaGreatDoorM6
import Derived.Test.YtgmjkkiahanekaaGreatDoorM7
import Derived.Test.YtgmjkkiahanekaaGreatDoorM1
import Derived.Test.YtgmjkkiahanekaaGreatDoorM3
import Derived.WalkKit
import Derived.Below
import Derived.Test.YtgmjkkiahanekaaGreatDoorM5
/- Plain laws of layer 8 over lists of bytes; no program in sight. -/
set_option linter.unusedVariables false
set_option linter.unusedSimpArgs false
namespace Go.Proofs.YtgmjkkiahanekaaGreatDoor
open Lex

def crlfs : Nat → List UInt8
  | 0 => []
  | k + 1 => 13 :: 10 :: crlfs k
theorem crlfs_length (k : Nat) : (crlfs k).length = 2 * k := by induction k with | zero => rfl | succ k ih => simp [crlfs, ih]; omega
theorem crlfs_succ (k : Nat) : crlfs (k + 1) = crlfs k ++ [13, 10] := by
  induction k with
  | zero => rfl
  | succ k ih =>
    show 13 :: 10 :: crlfs (k + 1) = (13 :: 10 :: crlfs k) ++ [13, 10]
    rw [ih]; rfl
/-- No empty line begins here. -/
def fresh (r : List UInt8) : Prop := ahead r = 0
theorem ahead_cons2 (r : List UInt8) : ahead (13 :: 10 :: r) = 1 + ahead r := rfl
theorem ahead_crlfs (k : Nat) (r : List UInt8) : ahead (crlfs k ++ r) = k + ahead r := by
  induction k with
  | zero => simp [crlfs]
  | succ k ih =>
    rw [show crlfs (k + 1) ++ r = 13 :: 10 :: (crlfs k ++ r) from rfl, ahead_cons2, ih]; omega
theorem ahead_split : ∀ (n : Nat) (d : List UInt8), d.length ≤ n → ∃ r, d = crlfs (ahead d) ++ r ∧ fresh r
  | 0, d, h => by
    obtain rfl : d = [] := List.eq_nil_of_length_eq_zero (by omega)
    exact ⟨[], rfl, rfl⟩
  | n + 1, d, h => by
    by_cases hd : ∃ r, d = 13 :: 10 :: r
    · obtain ⟨r, rfl⟩ := hd
      obtain ⟨q, hq, hf⟩ := ahead_split n r (by simp at h; omega)
      refine ⟨q, ?_, hf⟩
      rw [ahead_cons2, Nat.add_comm, show crlfs (ahead r + 1) ++ q = 13 :: 10 :: (crlfs (ahead r) ++ q) from rfl, ← hq]
    · have : ahead d = 0 := by
        unfold ahead
        split
        · exact absurd ⟨_, rfl⟩ hd
        · rfl
      exact ⟨d, by rw [this]; rfl, this⟩
theorem ahead_le (d : List UInt8) : 2 * ahead d ≤ d.length := by
  obtain ⟨r, h, _⟩ := ahead_split d.length d (Nat.le_refl _)
  have := congrArg List.length h
  rw [List.length_append, crlfs_length] at this; omega
theorem drop_crlfs (k : Nat) (r : List UInt8) : (crlfs k ++ r).drop (2 * k) = r := by rw [← crlfs_length k, List.drop_left]
theorem fresh_iff {r : List UInt8} : fresh r ↔ ∀ t, r ≠ 13 :: 10 :: t := by
  unfold fresh
  constructor
  · intro h t e; subst e; rw [ahead_cons2] at h; omega
  · intro h
    unfold ahead
    split
    · exact absurd rfl (h _)
    · rfl
theorem fresh_take {r : List UInt8} (h : fresh r) (k : Nat) : fresh (r.take k) := by
  rw [fresh_iff] at *
  intro t e
  match k, r with
  | 0, _ => simp at e
  | 1, [] => simp at e
  | 1, _ :: _ => simp at e
  | k + 2, [] => simp at e
  | k + 2, [a] => simp at e
  | k + 2, a :: b :: r =>
    simp only [List.take_succ_cons, List.cons.injEq] at e
    obtain ⟨rfl, rfl, _⟩ := e
    exact h r rfl
theorem fresh_more {r : List UInt8} (h : fresh r) (h0 : r ≠ []) (h1 : r ≠ [13]) (t : List UInt8) : fresh (r ++ t) := by
  rw [fresh_iff] at *
  intro q e
  match r with
  | [] => exact h0 rfl
  | [a] => simp only [List.singleton_append, List.cons.injEq] at e; rw [e.1] at h1; exact h1 rfl
  | a :: b :: r =>
    simp only [List.cons_append, List.cons.injEq] at e
    obtain ⟨rfl, rfl, _⟩ := e
    exact h r rfl
theorem readL_skip (first : List UInt8 → Hd × Int) (k : Nat) (r : List UInt8) (h : fresh r) : readL true first (crlfs k ++ r) = ((readAt first r).1, (if (readAt first r).2.1 = 0 then 0 else (readAt first r).2.1 + 2 * k), (readAt first r).2.2) := by
  unfold readL
  rw [ahead_crlfs, h]
  simp only [Nat.add_zero, if_true, drop_crlfs]
theorem readL_plain (first : List UInt8 → Hd × Int) (d : List UInt8) : readL false first d = readAt first d := by
  unfold readL
  simp only [Bool.false_eq_true, if_false, List.drop_zero, Nat.add_zero]
  rcases readAt first d with ⟨h, n, e⟩
  simp only
  by_cases hn : n = 0
  · rw [if_pos hn, hn]
  · rw [if_neg hn]

/-! ### heads from their first line on -/
theorem readAt_none {first : List UInt8 → Hd × Int} {d : List UInt8} {e : Int} (h : lineL 82 1100 d = (none, e)) : readAt first d = ({}, 0, e) := by unfold readAt; rw [h]
theorem readAt_bad {first : List UInt8 → Hd × Int} {d l : List UInt8} {e : Int} (h : lineL 82 1100 d = (some l, e)) (hf : (first l).2 ≠ 0) : readAt first d = ({}, 0, (first l).2) := by unfold readAt; rw [h]; simp only; rw [if_pos hf]
theorem readAt_part {first : List UInt8 → Hd × Int} {d l : List UInt8} {e e2 : Int} (h : lineL 82 1100 d = (some l, e)) (hf : (first l).2 = 0) (hg : fieldsL 32 (d.drop (l.length + 2)) = (none, e2)) : readAt first d = ({}, 0, e2) := by
  unfold readAt; rw [h]; simp only; rw [if_neg (by rw [hf]; simp), hg]
theorem readAt_whole {first : List UInt8 → Hd × Int} {d l : List UInt8} {e e2 : Int} {fs : List Fd} {n : Nat} (h : lineL 82 1100 d = (some l, e)) (hf : (first l).2 = 0) (hg : fieldsL 32 (d.drop (l.length + 2)) = (some (fs, n), e2)) :
    readAt first d = ({ (first l).1 with fields := fs }, n + (l.length + 2), 0) := by
  unfold readAt; rw [h]; simp only; rw [if_neg (by rw [hf]; simp), hg]
/-- What a head can be. -/
theorem readAt_cases (first : List UInt8 → Hd × Int) (d : List UInt8) :
    (∃ e, lineL 82 1100 d = (none, e) ∧ readAt first d = ({}, 0, e)) ∨
    (∃ l e, lineL 82 1100 d = (some l, e) ∧ (first l).2 ≠ 0 ∧ readAt first d = ({}, 0, (first l).2)) ∨
    (∃ l e e2, lineL 82 1100 d = (some l, e) ∧ (first l).2 = 0 ∧ fieldsL 32 (d.drop (l.length + 2)) = (none, e2) ∧ readAt first d = ({}, 0, e2)) ∨
    (∃ l e e2 fs n, lineL 82 1100 d = (some l, e) ∧ (first l).2 = 0 ∧ fieldsL 32 (d.drop (l.length + 2)) = (some (fs, n), e2) ∧ readAt first d = ({ (first l).1 with fields := fs }, n + (l.length + 2), 0)) := by
  cases h : lineL 82 1100 d with
  | mk o e =>
    cases o with
    | none => exact .inl ⟨e, rfl, readAt_none h⟩
    | some l =>
      by_cases hf : (first l).2 = 0
      · cases hg : fieldsL 32 (d.drop (l.length + 2)) with
        | mk o2 e2 =>
          cases o2 with
          | none => exact .inr (.inr (.inl ⟨l, e, e2, rfl, hf, hg, readAt_part h hf hg⟩))
          | some x =>
            obtain ⟨fs, n⟩ := x
            exact .inr (.inr (.inr ⟨l, e, e2, fs, n, rfl, hf, hg, readAt_whole h hf hg⟩))
      · exact .inr (.inl ⟨l, e, rfl, hf, readAt_bad h hf⟩)
theorem readAt_more {first : List UInt8 → Hd × Int} {d : List UInt8} (t : List UInt8) (h : (readAt first d).2.2 ≠ 0 ∨ 0 < (readAt first d).2.1) : readAt first (d ++ t) = readAt first d ∧ d ≠ [] ∧ d ≠ [13] := by
  have hne : lineL 82 1100 d ≠ (none, 0) := by
    intro h2; rw [readAt_none h2] at h; rcases h with h | h
    · exact h rfl
    · exact absurd h (Nat.lt_irrefl 0)
  have hm := lineL_more t hne
  refine ⟨?_, fun e => hne (by rw [e]; rfl), fun e => hne (by rw [e]; rfl)⟩
  rcases readAt_cases first d with ⟨e, h1, h2⟩ | ⟨l, e, h1, h3, h2⟩ | ⟨l, e, e2, h1, h3, h4, h2⟩ | ⟨l, e, e2, fs, n, h1, h3, h4, h2⟩
  · rw [h1] at hm; rw [h2, readAt_none hm]
  · rw [h1] at hm; rw [h2, readAt_bad hm h3]
  · rw [h1] at hm
    rw [h2] at h
    obtain ⟨r, rfl, _⟩ := lineL_some h1
    rw [drop_line] at h4
    have h5 := fieldsL_more 32 r t (by rw [h4]; intro h6; injection h6 with _ h6; subst h6; simp at h)
    rw [h2, readAt_part hm h3 (e2 := e2) (by rw [List.append_assoc, List.cons_append, List.cons_append, drop_line, h5, h4])]
  · rw [h1] at hm
    obtain ⟨r, rfl, _⟩ := lineL_some h1
    rw [drop_line] at h4
    have h5 := fieldsL_more 32 r t (by rw [h4]; intro h6; injection h6 with h6; cases h6)
    rw [h2, readAt_whole hm h3 (fs := fs) (n := n) (e2 := e2) (by rw [List.append_assoc, List.cons_append, List.cons_append, drop_line, h5, h4])]
theorem readAt_used {first : List UInt8 → Hd × Int} {d : List UInt8} (h : 0 < (readAt first d).2.1) :
    (readAt first d).2.2 = 0 ∧ (readAt first d).2.1 ≤ d.length ∧ (∀ k, k < (readAt first d).2.1 → readAt first (d.take k) = ({}, 0, 0)) ∧ readAt first (d.take (readAt first d).2.1) = readAt first d := by
  rcases readAt_cases first d with ⟨e, h1, h2⟩ | ⟨l, e, h1, h3, h2⟩ | ⟨l, e, e2, h1, h3, h4, h2⟩ | ⟨l, e, e2, fs, n, h1, h3, h4, h2⟩
  · rw [h2] at h; exact absurd h (Nat.lt_irrefl 0)
  · rw [h2] at h; exact absurd h (Nat.lt_irrefl 0)
  · rw [h2] at h; exact absurd h (Nat.lt_irrefl 0)
  · rw [h2]
    simp only
    obtain ⟨r, rfl, ha, hb, _⟩ := lineL_some h1
    rw [drop_line] at h4
    obtain ⟨u1, u2, u3, u4, u5, u6⟩ := fieldsL_used 32 h4
    refine ⟨trivial, by simp; omega, fun k hk => ?_, ?_⟩
    · by_cases hk2 : k < l.length + 2
      · exact readAt_none (lineL_cut ha hb hk2)
      · have et : (l ++ 13 :: 10 :: r).take k = l ++ 13 :: 10 :: r.take (k - (l.length + 2)) := by
          rw [List.take_append, List.take_of_length_le (by omega)]
          obtain ⟨j, hj⟩ : ∃ j, k - l.length = j + 2 := ⟨k - l.length - 2, by omega⟩
          rw [hj, show k - (l.length + 2) = j by omega]; rfl
        rw [et]
        exact readAt_part (lineL_at ha hb) h3 (by rw [drop_line]; exact u5 _ (by omega))
    · have et : (l ++ 13 :: 10 :: r).take (n + (l.length + 2)) = l ++ 13 :: 10 :: r.take n := by
        rw [List.take_append, List.take_of_length_le (by omega), show n + (l.length + 2) - l.length = n + 2 by omega]; rfl
      rw [et]
      exact readAt_whole (e2 := e2) (lineL_at ha hb) h3 (by rw [drop_line]; exact u6)
/-- Where no bytes are used there is no head. -/
theorem readAt_empty {first : List UInt8 → Hd × Int} {d : List UInt8} (h : (readAt first d).2.1 = 0) : (readAt first d).1 = {} := by
  rcases readAt_cases first d with ⟨e, h1, h2⟩ | ⟨l, e, h1, h3, h2⟩ | ⟨l, e, e2, h1, h3, h4, h2⟩ | ⟨l, e, e2, fs, n, h1, h3, h4, h2⟩ <;> rw [h2] at h ⊢
  simp at h
theorem readL_empty {skip : Bool} {first : List UInt8 → Hd × Int} {d : List UInt8} (h : (readL skip first d).2.1 = 0) : (readL skip first d).1 = {} := by
  unfold readL at *
  simp only at h ⊢
  generalize (if skip = true then 2 * ahead d else 0) = k at *
  by_cases hn : (readAt first (d.drop k)).2.1 = 0
  · exact readAt_empty hn
  · rw [if_neg hn] at h; omega
theorem readL_err {skip : Bool} {first : List UInt8 → Hd × Int} {d : List UInt8} (h : (readL skip first d).2.2 ≠ 0) : (readL skip first d).2.1 = 0 := by
  unfold readL at *
  simp only at h ⊢
  generalize hk : (if skip = true then 2 * ahead d else 0) = k at *
  by_cases hn : (readAt first (d.drop k)).2.1 = 0
  · rw [if_pos hn]
  · exact absurd (readAt_used (by omega : 0 < _)).1 h
/-- What has been told of a head stays so. -/
theorem readL_more {skip : Bool} {first : List UInt8 → Hd × Int} {d : List UInt8} (t : List UInt8) (h : (readL skip first d).2.2 ≠ 0 ∨ 0 < (readL skip first d).2.1) : readL skip first (d ++ t) = readL skip first d := by
  cases skip with
  | false => rw [readL_plain] at *; rw [readL_plain]; exact (readAt_more t h).1
  | true =>
    obtain ⟨r, hr, hf⟩ := ahead_split d.length d (Nat.le_refl _)
    generalize ahead d = k at hr
    subst hr
    rw [readL_skip first k r hf] at h ⊢
    simp only at h
    obtain ⟨h1, h2, h3⟩ := readAt_more (first := first) (d := r) t (by
      rcases h with h | h
      · exact .inl h
      · right; split at h <;> omega)
    rw [List.append_assoc, readL_skip first k _ (fresh_more hf h2 h3 t), h1]
theorem readL_len {skip : Bool} {first : List UInt8 → Hd × Int} {d : List UInt8} : (readL skip first d).2.1 ≤ d.length := by
  have key : ∀ d : List UInt8, (readAt first d).2.1 ≤ d.length := fun d => by
    by_cases hn : 0 < (readAt first d).2.1
    · exact (readAt_used hn).2.1
    · omega
  cases skip with
  | false => rw [readL_plain]; exact key d
  | true =>
    have h1 := key (d.drop (2 * ahead d))
    have h2 := ahead_le d
    rw [List.length_drop] at h1
    unfold readL
    simp only [if_true]
    by_cases hn : (readAt first (d.drop (2 * ahead d))).2.1 = 0
    · rw [if_pos hn]; exact Nat.zero_le _
    · rw [if_neg hn]; omega
/-- Cut short it isn't whole, and is no error; what is used makes it. -/
theorem readL_used {first : List UInt8 → Hd × Int} {d : List UInt8} (h : 0 < (readL true first d).2.1) :
    (readL true first d).2.2 = 0 ∧ (∀ k, k < (readL true first d).2.1 → readL true first (d.take k) = ({}, 0, 0)) ∧ readL true first (d.take (readL true first d).2.1) = readL true first d := by
  obtain ⟨r, hr, hf⟩ := ahead_split d.length d (Nat.le_refl _)
  generalize ahead d = a at hr
  subst hr
  rw [readL_skip first a r hf] at h
  simp only [readL_skip first a r hf]
  simp only at h
  have hn : 0 < (readAt first r).2.1 := by split at h <;> omega
  obtain ⟨u1, u2, u3, u4⟩ := readAt_used hn
  rw [if_neg (by omega)]
  refine ⟨u1, fun k hk => ?_, ?_⟩
  · by_cases hk2 : k ≤ 2 * a
    · have hsplit : ∃ j x, (crlfs a ++ r).take k = crlfs j ++ x ∧ (x = [] ∨ x = [13]) := by
        rw [List.take_append_of_le_length (by rw [crlfs_length]; exact hk2)]
        clear hk h hn u1 u2 u3 u4 hf
        induction a generalizing k with
        | zero => exact ⟨0, [], by simp [crlfs], .inl rfl⟩
        | succ a ih =>
          match k with
          | 0 => exact ⟨0, [], by simp [crlfs], .inl rfl⟩
          | 1 => exact ⟨0, [13], rfl, .inr rfl⟩
          | k + 2 =>
            obtain ⟨j, x, h1, h2⟩ := ih k (by omega)
            exact ⟨j + 1, x, by rw [show (crlfs (a + 1)).take (k + 2) = 13 :: 10 :: (crlfs a).take k from rfl, h1]; rfl, h2⟩
      obtain ⟨j, x, e, hx⟩ := hsplit
      have hlx : lineL 82 1100 x = (none, 0) := by rcases hx with rfl | rfl <;> rfl
      have hfx : fresh x := by rcases hx with rfl | rfl <;> rfl
      rw [e, readL_skip first j x hfx, readAt_none hlx]; rfl
    · have et : (crlfs a ++ r).take k = crlfs a ++ r.take (k - 2 * a) := by
        rw [List.take_append, List.take_of_length_le (by rw [crlfs_length]; omega), crlfs_length]
      rw [et, readL_skip first a _ (fresh_take hf _), u3 _ (by omega)]; rfl
  · have et : (crlfs a ++ r).take ((readAt first r).2.1 + 2 * a) = crlfs a ++ r.take (readAt first r).2.1 := by
      rw [List.take_append, List.take_of_length_le (by rw [crlfs_length]; omega), crlfs_length, Nat.add_sub_cancel]
    rw [et, readL_skip first a _ (fresh_take hf _), u4, if_neg (by omega)]
/-- Empty lines ahead are passed over and counted. -/
theorem readL_ahead (first : List UInt8 → Hd × Int) (k : Nat) (d : List UInt8) :
    readL true first (crlfs k ++ d) = ((readL true first d).1, (if (readL true first d).2.1 = 0 then 0 else (readL true first d).2.1 + 2 * k), (readL true first d).2.2) := by
  obtain ⟨r, hr, hf⟩ := ahead_split d.length d (Nat.le_refl _)
  generalize ahead d = a at hr
  subst hr
  have e : crlfs k ++ (crlfs a ++ r) = crlfs (k + a) ++ r := by
    clear hf
    induction k with
    | zero => simp [crlfs]
    | succ k ih => rw [show k + 1 + a = (k + a) + 1 by omega]; show 13 :: 10 :: (crlfs k ++ (crlfs a ++ r)) = 13 :: 10 :: (crlfs (k + a) ++ r); rw [ih]
  rw [e, readL_skip first _ r hf, readL_skip first _ r hf]
  simp only
  by_cases hn : (readAt first r).2.1 = 0
  · rw [if_pos hn, if_pos hn]; rfl
  · rw [if_neg hn, if_neg hn, if_neg (by omega), Nat.mul_add]
    congr 2; omega

/-! ### bare line ends -/
def bare : List UInt8 → Bool
  | 13 :: 10 :: r => bare r
  | [] => true
  | c :: r => lb c && bare r
theorem bare_cons {c : UInt8} {r : List UInt8} (h : lb c = true) : bare (c :: r) = bare r := by
  have hc := h
  simp only [lb, Bool.and_eq_true, decide_eq_true_eq] at hc
  conv => lhs; unfold bare
  split
  · rename_i e; injection e with e _; exact absurd e hc.2
  · rename_i e; cases e
  · rename_i e; injection e with e1 e2; subst e1 e2; rw [h, Bool.true_and]
theorem bare_line {l : List UInt8} (h : l.all lb = true) (r : List UInt8) : bare (l ++ 13 :: 10 :: r) = bare r := by
  induction l with
  | nil => rfl
  | cons c l ih =>
    simp only [List.all_cons, Bool.and_eq_true] at h
    rw [List.cons_append, bare_cons h.1, ih h.2]
theorem bare_fields (room : Nat) : ∀ {d : List UInt8} {fs : List Fd} {n : Nat} {e : Int}, fieldsL room d = (some (fs, n), e) → bare (d.take n) = true := by
  induction room with
  | zero =>
    intro d fs n e h
    cases hl : lineL 83 512 d with
    | mk o e' =>
      cases o with
      | none => rw [fieldsL_none hl] at h; injection h with h; cases h
      | some l =>
        by_cases h0 : l = []
        · subst h0
          rw [fieldsL_end hl] at h
          injection h with h _; injection h with h; injection h with _ h4
          subst h4
          obtain ⟨r, rfl, _⟩ := lineL_some hl
          rfl
        · rw [fieldsL_large hl h0] at h; injection h with h; cases h
  | succ room ih =>
    intro d fs n e h
    cases hl : lineL 83 512 d with
    | mk o e' =>
      cases o with
      | none => rw [fieldsL_none hl] at h; injection h with h; cases h
      | some l =>
        by_cases h0 : l = []
        · subst h0
          rw [fieldsL_end hl] at h
          injection h with h _; injection h with h; injection h with _ h4
          subst h4
          obtain ⟨r, rfl, _⟩ := lineL_some hl
          rfl
        · cases hf : fieldL l with
          | none => rw [fieldsL_bad hl h0 hf] at h; injection h with h; cases h
          | some f =>
            obtain ⟨r, rfl, ha, hb, _⟩ := lineL_some hl
            rw [fieldsL_step hl h0 hf, drop_line] at h
            cases hq : fieldsL room r with
            | mk o2 e2 =>
              rw [hq] at h
              cases o2 with
              | none => injection h with h; cases h
              | some x =>
                obtain ⟨gs, q⟩ := x
                injection h with h h2
                simp only [Option.map_some, Option.some.injEq, Prod.mk.injEq] at h
                obtain ⟨rfl, rfl⟩ := h
                have et : (l ++ 13 :: 10 :: r).take (q + (l.length + 2)) = l ++ 13 :: 10 :: r.take q := by
                  rw [List.take_append, List.take_of_length_le (by omega), show q + (l.length + 2) - l.length = q + 2 by omega]; rfl
                rw [et, bare_line ha]
                exact ih hq
theorem bare_readAt (first : List UInt8 → Hd × Int) (d : List UInt8) : bare (d.take (readAt first d).2.1) = true := by
  rcases readAt_cases first d with ⟨e, h1, h2⟩ | ⟨l, e, h1, h3, h2⟩ | ⟨l, e, e2, h1, h3, h4, h2⟩ | ⟨l, e, e2, fs, n, h1, h3, h4, h2⟩ <;> rw [h2]
  · rfl
  · rfl
  · rfl
  · simp only
    obtain ⟨r, rfl, ha, hb, _⟩ := lineL_some h1
    rw [drop_line] at h4
    have et : (l ++ 13 :: 10 :: r).take (n + (l.length + 2)) = l ++ 13 :: 10 :: r.take n := by
      rw [List.take_append, List.take_of_length_le (by omega), show n + (l.length + 2) - l.length = n + 2 by omega]; rfl
    rw [et, bare_line ha]
    exact bare_fields 32 h4
theorem bare_crlfs (k : Nat) (r : List UInt8) : bare (crlfs k ++ r) = bare r := by
  induction k with
  | zero => rfl
  | succ k ih => exact ih
theorem bare_readL (skip : Bool) (first : List UInt8 → Hd × Int) (d : List UInt8) : bare (d.take (readL skip first d).2.1) = true := by
  cases skip with
  | false => rw [readL_plain]; exact bare_readAt first d
  | true =>
    obtain ⟨r, hr, hf⟩ := ahead_split d.length d (Nat.le_refl _)
    generalize ahead d = a at hr
    subst hr
    rw [readL_skip first a r hf]
    simp only
    split
    · rfl
    · rw [List.take_append, List.take_of_length_le (by rw [crlfs_length]; omega), crlfs_length, Nat.add_sub_cancel, bare_crlfs]
      exact bare_readAt first r
/-- In a bare text each 10 has a 13 ahead and each 13 a 10 behind it. -/
theorem bare_at : ∀ (n : Nat) (l : List UInt8), l.length ≤ n → bare l = true → ∀ i (hi : i < l.length), (l[i] = 10 → ∃ h : 0 < i, l[i - 1] = 13) ∧ (l[i] = 13 → ∃ h : i + 1 < l.length, l[i + 1] = 10)
  | 0, l, hl, _, i, hi => by omega
  | n + 1, l, hl, hb, i, hi => by
    match l, hb, hi with
    | [], _, hi => simp at hi
    | c :: r, hb, hi =>
      by_cases hcr : ∃ t, c = 13 ∧ r = 10 :: t
      · obtain ⟨t, rfl, rfl⟩ := hcr
        have hbt : bare t = true := hb
        match i, hi with
        | 0, _ => exact ⟨fun e => by simp at e, fun _ => ⟨by simp, rfl⟩⟩
        | 1, _ => exact ⟨fun _ => ⟨by omega, rfl⟩, fun e => by simp at e⟩
        | i + 2, hi =>
          have hi' : i < t.length := by simpa using hi
          obtain ⟨h1, h2⟩ := bare_at n t (by simp at hl; omega) hbt i hi'
          refine ⟨fun e => ?_, fun e => ?_⟩
          · obtain ⟨h3, h4⟩ := h1 (by simpa using e)
            obtain ⟨j, rfl⟩ : ∃ j, i = j + 1 := ⟨i - 1, by omega⟩
            exact ⟨by omega, by simpa using h4⟩
          · obtain ⟨h3, h4⟩ := h2 (by simpa using e)
            exact ⟨by simp; omega, by simpa using h4⟩
      · have hc : lb c = true ∧ bare r = true := by
          unfold bare at hb
          split at hb
          · rename_i e; injection e with e1 e2; exact absurd ⟨_, e1, e2⟩ hcr
          · rename_i e; cases e
          · rename_i e; injection e with e1 e2; subst e1 e2; simpa using hb
        have hcc := hc.1
        simp only [lb, Bool.and_eq_true, decide_eq_true_eq] at hcc
        match i, hi with
        | 0, _ => exact ⟨fun e => absurd e hcc.1, fun e => absurd e hcc.2⟩
        | i + 1, hi =>
          have hi' : i < r.length := by simpa using hi
          obtain ⟨h1, h2⟩ := bare_at n r (by simp at hl; omega) hc.2 i hi'
          refine ⟨fun e => ?_, fun e => ?_⟩
          · obtain ⟨h3, h4⟩ := h1 (by simpa using e)
            obtain ⟨j, rfl⟩ : ∃ j, i = j + 1 := ⟨i - 1, by omega⟩
            exact ⟨by omega, by simpa using h4⟩
          · obtain ⟨h3, h4⟩ := h2 (by simpa using e)
            exact ⟨by simp; omega, by simpa using h4⟩
end Go.Proofs.YtgmjkkiahanekaaGreatDoor

/- The contract of head.version. -/
set_option linter.unusedVariables false
set_option linter.unusedSimpArgs false
namespace Go.Proofs.YtgmjkkiahanekaaGreatDoor
open Go.RowKit Lex

theorem decimal_one (c : UInt8) : decimal [c] 1 = if digit c = true then ((c.toNat : Int) - 48, true) else (0, false) := by
  have key : ∀ c : Fin 256, decimal [UInt8.ofNat c.val] 1 = if digit (UInt8.ofNat c.val) = true then (((UInt8.ofNat c.val).toNat : Int) - 48, true) else (0, false) := by decide +kernel
  have := key ⟨c.toNat, c.toNat_lt⟩
  simpa using this
theorem ext_list (s : ByteArray) (a b : Nat) : (s.extract a b).data.toList = (s.data.toList.drop a).take (b - a) := by rw [Lib.extract_data]
theorem ext_one (s : ByteArray) (k : Nat) (h : k < s.size) : (s.extract k (k + 1)).data.toList = [s[k]] := by
  rw [ext_list, byte_at s k h, Nat.add_sub_cancel_left]; rfl
theorem at_list (s : ByteArray) (k : Nat) (h : k < s.size) : s.data.toList[k]? = some s[k] := by
  have h2 := List.getElem?_eq_getElem (l := s.data.toList) (i := k) (by rw [size_list]; exact h)
  rw [h2]; rfl
def verVal (x : Int × Int) : Value := .tuple #[.int .i64 x.1, .int .i64 x.2]
set_option maxRecDepth 100000 in
set_option maxHeartbeats 1000000 in
theorem version_c (s : ByteArray) (w : World) (hs : s.size ≤ 9223372036854775806) :
    Calls Tryz.prog 129 #[.string s] w fun e w' => e = .returned (verVal (versionL s.data.toList)) ∧ w = w' := by
  by_cases h8 : s.size = 8
  · have b8 : ((s.size : Int) != 8) = false := by rw [bne_eq_false_iff_eq]; omega
    have e5 := at_list s 5 (by omega)
    have e6 := at_list s 6 (by omega)
    have e7 := at_list s 7 (by omega)
    have x5 : (s.extract 0 5).toList = s.data.toList.take 5 := by rw [Lib.toList_data, ext_list]; rfl
    have n6 := neN s[6] 46 46 rfl
    generalize hv : versionL s.data.toList = v
    unfold versionL at hv
    rw [size_list, e5, e6, e7] at hv
    by_cases h5 : s.data.toList.take 5 = httpV
    · have p5 : (s.extract 0 5).toList = [72, 84, 84, 80, 47] := by rw [x5]; exact h5
      by_cases h6 : s[6] = 46
      · rw [decide_eq_true h6] at n6
        rw [if_pos ⟨h8, h5, by rw [h6]⟩] at hv
        simp only at hv
        have D1 := fun w => Lib.hid (decimal_c (s.extract 5 6) 1 w)
        have D2 := fun w => Lib.hid (decimal_c (s.extract 7 8) 1 w)
        rw [ext_one s 5 (by omega), decimal_one] at D1
        rw [ext_one s 7 (by omega), decimal_one] at D2
        by_cases d5 : digit s[5] = true
        · by_cases d7 : digit s[7] = true
          · rw [if_pos ⟨d5, d7⟩] at hv
            rw [if_pos d5] at D1
            rw [if_pos d7] at D2
            have hmj : ((s[5].toNat : Int) - 48 = 1) ↔ s[5] = 49 := by rw [← UInt8.toNat_inj]; show _ ↔ s[5].toNat = 49; omega
            generalize (s[5].toNat : Int) - 48 = mj at *
            generalize (s[7].toNat : Int) - 48 = mn at *
            by_cases h1 : s[5] = 49
            · rw [if_pos h1] at hv
              have b1 : (mj != 1) = false := by rw [bne_eq_false_iff_eq]; exact hmj.2 h1
              subst hv
              clear e5 e6 e7 x5 h5 h6 d5 d7 hmj h1
              go_enter Tryz.func129, Tryz.ntmps129
              go_wp2_with (first | (have hk := K1.out; go_at_call 128; refine (D2 _).out.mono ?_; rintro e w2 ⟨rfl, rfl⟩; clear hk) | (go_at_call 128; refine (D1 _).out.mono ?_; rintro e w1 ⟨rfl, rfl⟩; have K1 := Lib.hid True.intro))
              go_ret2
              exact ⟨rfl, rfl⟩
            · rw [if_neg h1] at hv
              have b1 : (mj != 1) = true := by rw [bne_iff_ne]; exact fun h => h1 (hmj.1 h)
              subst hv
              clear e5 e6 e7 x5 h5 h6 d5 d7 hmj h1
              go_enter Tryz.func129, Tryz.ntmps129
              go_wp2_with (first | (have hk := K1.out; go_at_call 128; refine (D2 _).out.mono ?_; rintro e w2 ⟨rfl, rfl⟩; clear hk) | (go_at_call 128; refine (D1 _).out.mono ?_; rintro e w1 ⟨rfl, rfl⟩; have K1 := Lib.hid True.intro))
              go_ret2
              exact ⟨rfl, rfl⟩
          · rw [if_neg (fun h => d7 h.2)] at hv
            rw [if_pos d5] at D1
            rw [if_neg d7] at D2
            generalize (s[5].toNat : Int) - 48 = mj at *
            subst hv
            clear e5 e6 e7 x5 h5 h6 d5 d7
            go_enter Tryz.func129, Tryz.ntmps129
            go_wp2_with (first | (have hk := K1.out; go_at_call 128; refine (D2 _).out.mono ?_; rintro e w2 ⟨rfl, rfl⟩; clear hk) | (go_at_call 128; refine (D1 _).out.mono ?_; rintro e w1 ⟨rfl, rfl⟩; have K1 := Lib.hid True.intro))
            go_ret2
            exact ⟨rfl, rfl⟩
        · rw [if_neg (fun h => d5 h.1)] at hv
          rw [if_neg d5] at D1
          obtain ⟨a, b, hab⟩ : ∃ a b, (if digit s[7] = true then ((s[7].toNat : Int) - 48, true) else (0, false)) = (a, b) := ⟨_, _, rfl⟩
          rw [hab] at D2
          subst hv
          clear e5 e6 e7 x5 h5 h6 d5 hab
          go_enter Tryz.func129, Tryz.ntmps129
          go_wp2_with (first | (have hk := K1.out; go_at_call 128; refine (D2 _).out.mono ?_; rintro e w2 ⟨rfl, rfl⟩; clear hk) | (go_at_call 128; refine (D1 _).out.mono ?_; rintro e w1 ⟨rfl, rfl⟩; have K1 := Lib.hid True.intro))
          go_ret2
          exact ⟨rfl, rfl⟩
      · rw [decide_eq_false h6] at n6
        rw [if_neg (fun h => h6 (by have := h.2.2; injection this))] at hv
        subst hv
        clear e5 e6 e7 x5 h5 h6
        go_enter Tryz.func129, Tryz.ntmps129
        go_wp2
        go_ret2
        exact ⟨rfl, rfl⟩
    · have p5 : ¬ (s.extract 0 5).toList = [72, 84, 84, 80, 47] := by rw [x5]; exact h5
      rw [if_neg (fun h => h5 h.2.1)] at hv
      subst hv
      clear e5 e6 e7 x5 h5
      go_enter Tryz.func129, Tryz.ntmps129
      go_wp2
      go_ret2
      exact ⟨rfl, rfl⟩
  · have hv : versionL s.data.toList = (0, 80) := by unfold versionL; rw [if_neg]; rw [size_list]; exact fun h => h8 h.1
    have b8 : ((s.size : Int) != 8) = true := by rw [bne_iff_ne]; omega
    rw [hv]
    go_enter Tryz.func129, Tryz.ntmps129
    go_wp2
    go_ret2
    exact ⟨rfl, rfl⟩
end Go.Proofs.YtgmjkkiahanekaaGreatDoor

/- A struct of two cells in a block of its own. -/
set_option linter.unusedVariables false
set_option linter.unusedSimpArgs false
namespace Go.Proofs.YtgmjkkiahanekaaGreatDoor
open Go.RowKit Lex

structure Box2 (w : World) (B : Nat) (v0 v1 : Value) : Prop where
  c0 : w.cell? ⟨B, 0, none⟩ = some v0
  c1 : w.cell? ⟨B, 1, none⟩ = some v1
  fz : ∀ j, w.frozen? ⟨B, j, none⟩ = false
theorem box2_new (w : World) (v0 v1 : Value) (T : TypeId) : Box2 (w.alloc (.cells #[v0, v1] T)) w.heap.size v0 v1 := by
  refine ⟨?_, ?_, fun j => by rw [World.frozen?_alloc_new]⟩ <;> (rw [World.cell?_alloc_new]; rfl)
theorem Box2.below {w w' : World} {B : Nat} {v0 v1 : Value} (h : Box2 w B v0 v1) (hb : Below w.heap.size w w') : Box2 w' B v0 v1 := by
  have hlt := World.block_lt_of_cell? w _ h.c0
  exact ⟨cell_below hb h.c0, cell_below hb h.c1, fun j => (hb.frozen (p := ⟨B, j, none⟩) hlt).trans (h.fz j)⟩
theorem Box2.alloc {w : World} {B : Nat} {v0 v1 : Value} (h : Box2 w B v0 v1) (o : Obj) : Box2 (w.alloc o) B v0 v1 := h.below ((Below.refl _ w).alloc (Nat.le_refl _) o)
theorem Box2.stored {w : World} {B : Nat} {v0 v1 : Value} (h : Box2 w B v0 v1) (u0 u1 : Value) : Box2 ((w.setCell ⟨B, 0, none⟩ u0).setCell ⟨B, 1, none⟩ u1) B u0 u1 where
  c0 := by
    rw [World.cell?_setCell_other _ _ _ _ (fun e => by injection e with _ e2 _; exact absurd e2 (by decide))]
    exact World.cell?_setCell_same w _ u0 h.c0
  c1 := by
    have e : (w.setCell ⟨B, 0, none⟩ u0).cell? ⟨B, 1, none⟩ = some v1 := by
      rw [World.cell?_setCell_other _ _ _ _ (fun e => by injection e with _ e2 _; exact absurd e2 (by decide))]
      exact h.c1
    exact World.cell?_setCell_same _ _ u1 e
  fz := fun j => by rw [World.frozen?_setCell, World.frozen?_setCell]; exact h.fz j
end Go.Proofs.YtgmjkkiahanekaaGreatDoor

/- The walks over PathNormals and PathMeans. -/
set_option linter.unusedVariables false
set_option linter.unusedSimpArgs false
namespace Go.Proofs.YtgmjkkiahanekaaGreatDoor
open Go.RowKit Lex

theorem cell_after {w w' : World} {m : Int} (hb : Below w.heap.size w w') (hm : w.cell? ⟨0, 0, none⟩ = some (.int .i64 m)) : w'.cell? ⟨0, 0, none⟩ = some (.int .i64 m) := cell_below hb hm

end Go.Proofs.YtgmjkkiahanekaaGreatDoor

/- The walk over PathMeans. -/
set_option linter.unusedVariables false
set_option linter.unusedSimpArgs false
namespace Go.Proofs.YtgmjkkiahanekaaGreatDoor
open Go.RowKit Lex

theorem encU_decode (n : UInt8) : decodeL (encU n) = some [n] := by
  have key : ∀ n : Fin 256, decodeL (encU (UInt8.ofNat n.val)) = some [UInt8.ofNat n.val] := by decide +kernel
  have h := key ⟨n.toNat, n.toNat_lt⟩
  simpa using h
theorem unesc_means {l l' : List UInt8} (h : unesc l = some l') : ∃ d, decodeL l = some d ∧ decodeL l' = some d := by
  induction l using walkE_ind generalizing l' with
  | h0 => simp [unesc, walkE_nil] at h; subst h; exact ⟨[], rfl, rfl⟩
  | h1 c r ih hc =>
    unfold unesc at h
    cases hb : badU c with
    | true => rw [walkE_bad hb] at h; cases h
    | false =>
      rw [walkE_plain hb hc] at h
      cases hr : walkE badU encU r with
      | none => rw [hr] at h; cases h
      | some r' =>
        rw [hr] at h; simp at h; subst h
        obtain ⟨d, h1, h2⟩ := ih hr
        refine ⟨c :: d, ?_, ?_⟩
        · unfold decodeL at *; rw [walkE_plain rfl hc, h1]; rfl
        · unfold decodeL at *; rw [walkE_plain rfl hc, h2]; rfl
  | h2 a b r ih =>
    unfold unesc at h
    cases hp : pair a b with
    | none => rw [walkE_none hp] at h; cases h
    | some n =>
      rw [walkE_some (by decide) hp] at h
      cases hr : walkE badU encU r with
      | none => rw [hr] at h; cases h
      | some r' =>
        rw [hr] at h; simp at h; subst h
        obtain ⟨d, h1, h2⟩ := ih hr
        refine ⟨n :: d, ?_, ?_⟩
        · unfold decodeL at *; rw [walkE_some rfl hp, h1]; rfl
        · have := encU_decode n
          unfold decodeL at *; rw [walkE_append this, h2]; rfl
  | h3 r hr => unfold unesc at h; rw [walkE_short hr] at h; cases h
theorem normal_escapes {l p : List UInt8} (h : normal l = some p) : ∃ t, escapes l = some t ∧ unesc l = some t := by
  unfold normal at h
  cases hu : unesc l with
  | none => rw [hu] at h; cases h
  | some t =>
    rw [hu] at h
    simp only at h
    by_cases h47 : t.head? = some 47
    · exact ⟨t, by unfold escapes; rw [if_pos (unesc_head' hu h47), hu], rfl⟩
    · rw [if_neg h47] at h; cases h

end Go.Proofs.YtgmjkkiahanekaaGreatDoor

