/- Plain laws of layer 8 over lists of bytes; no program in sight. -/
import Derived.Test.YtjbmipbjlhcooaaDoorHdA
set_option linter.unusedVariables false
set_option linter.unusedSimpArgs false
namespace Go.Proofs.YtjbmipbjlhcooaaDoor
open Lex

def crlfs : Nat → List UInt8
  | 0 => []
  | k + 1 => 13 :: 10 :: crlfs k
theorem crlfs_length (k : Nat) : (crlfs k).length = 2 * k := by induction k with | zero => rfl | succ k ih => simp [crlfs, ih]; omega
theorem crlfs_succ (k : Nat) : crlfs (k + 1) = crlfs k ++ [13, 10] := by
  induction k with
  | zero => rfl
  | succ k ih =>
    show 13 :: 10 :: crlfs (k + 1) = (13 :: 10 :: crlfs k) ++ [13, 10]
    rw [ih]; rfl
/-- No empty line begins here. -/
def fresh (r : List UInt8) : Prop := ahead r = 0
theorem ahead_cons2 (r : List UInt8) : ahead (13 :: 10 :: r) = 1 + ahead r := rfl
theorem ahead_crlfs (k : Nat) (r : List UInt8) : ahead (crlfs k ++ r) = k + ahead r := by
  induction k with
  | zero => simp [crlfs]
  | succ k ih =>
    rw [show crlfs (k + 1) ++ r = 13 :: 10 :: (crlfs k ++ r) from rfl, ahead_cons2, ih]; omega
theorem ahead_split : ∀ (n : Nat) (d : List UInt8), d.length ≤ n → ∃ r, d = crlfs (ahead d) ++ r ∧ fresh r
  | 0, d, h => by
    obtain rfl : d = [] := List.eq_nil_of_length_eq_zero (by omega)
    exact ⟨[], rfl, rfl⟩
  | n + 1, d, h => by
    by_cases hd : ∃ r, d = 13 :: 10 :: r
    · obtain ⟨r, rfl⟩ := hd
      obtain ⟨q, hq, hf⟩ := ahead_split n r (by simp at h; omega)
      refine ⟨q, ?_, hf⟩
      rw [ahead_cons2, Nat.add_comm, show crlfs (ahead r + 1) ++ q = 13 :: 10 :: (crlfs (ahead r) ++ q) from rfl, ← hq]
    · have : ahead d = 0 := by
        unfold ahead
        split
        · exact absurd ⟨_, rfl⟩ hd
        · rfl
      exact ⟨d, by rw [this]; rfl, this⟩
theorem ahead_le (d : List UInt8) : 2 * ahead d ≤ d.length := by
  obtain ⟨r, h, _⟩ := ahead_split d.length d (Nat.le_refl _)
  have := congrArg List.length h
  rw [List.length_append, crlfs_length] at this; omega
theorem drop_crlfs (k : Nat) (r : List UInt8) : (crlfs k ++ r).drop (2 * k) = r := by rw [← crlfs_length k, List.drop_left]
theorem fresh_iff {r : List UInt8} : fresh r ↔ ∀ t, r ≠ 13 :: 10 :: t := by
  unfold fresh
  constructor
  · intro h t e; subst e; rw [ahead_cons2] at h; omega
  · intro h
    unfold ahead
    split
    · exact absurd rfl (h _)
    · rfl
theorem fresh_take {r : List UInt8} (h : fresh r) (k : Nat) : fresh (r.take k) := by
  rw [fresh_iff] at *
  intro t e
  match k, r with
  | 0, _ => simp at e
  | 1, [] => simp at e
  | 1, _ :: _ => simp at e
  | k + 2, [] => simp at e
  | k + 2, [a] => simp at e
  | k + 2, a :: b :: r =>
    simp only [List.take_succ_cons, List.cons.injEq] at e
    obtain ⟨rfl, rfl, _⟩ := e
    exact h r rfl
theorem fresh_more {r : List UInt8} (h : fresh r) (h0 : r ≠ []) (h1 : r ≠ [13]) (t : List UInt8) : fresh (r ++ t) := by
  rw [fresh_iff] at *
  intro q e
  match r with
  | [] => exact h0 rfl
  | [a] => simp only [List.singleton_append, List.cons.injEq] at e; rw [e.1] at h1; exact h1 rfl
  | a :: b :: r =>
    simp only [List.cons_append, List.cons.injEq] at e
    obtain ⟨rfl, rfl, _⟩ := e
    exact h r rfl
theorem readL_skip (first : List UInt8 → Hd × Int) (k : Nat) (r : List UInt8) (h : fresh r) : readL true first (crlfs k ++ r) = ((readAt first r).1, (if (readAt first r).2.1 = 0 then 0 else (readAt first r).2.1 + 2 * k), (readAt first r).2.2) := by
  unfold readL
  rw [ahead_crlfs, h]
  simp only [Nat.add_zero, if_true, drop_crlfs]
theorem readL_plain (first : List UInt8 → Hd × Int) (d : List UInt8) : readL false first d = readAt first d := by
  unfold readL
  simp only [Bool.false_eq_true, if_false, List.drop_zero, Nat.add_zero]
  rcases readAt first d with ⟨h, n, e⟩
  simp only
  by_cases hn : n = 0
  · rw [if_pos hn, hn]
  · rw [if_neg hn]

/-! ### heads from their first line on -/
theorem readAt_none {first : List UInt8 → Hd × Int} {d : List UInt8} {e : Int} (h : lineL 82 1100 d = (none, e)) : readAt first d = ({}, 0, e) := by unfold readAt; rw [h]
theorem readAt_bad {first : List UInt8 → Hd × Int} {d l : List UInt8} {e : Int} (h : lineL 82 1100 d = (some l, e)) (hf : (first l).2 ≠ 0) : readAt first d = ({}, 0, (first l).2) := by unfold readAt; rw [h]; simp only; rw [if_pos hf]
theorem readAt_part {first : List UInt8 → Hd × Int} {d l : List UInt8} {e e2 : Int} (h : lineL 82 1100 d = (some l, e)) (hf : (first l).2 = 0) (hg : fieldsL 32 (d.drop (l.length + 2)) = (none, e2)) : readAt first d = ({}, 0, e2) := by
  unfold readAt; rw [h]; simp only; rw [if_neg (by rw [hf]; simp), hg]
theorem readAt_whole {first : List UInt8 → Hd × Int} {d l : List UInt8} {e e2 : Int} {fs : List Fd} {n : Nat} (h : lineL 82 1100 d = (some l, e)) (hf : (first l).2 = 0) (hg : fieldsL 32 (d.drop (l.length + 2)) = (some (fs, n), e2)) :
    readAt first d = ({ (first l).1 with fields := fs }, n + (l.length + 2), 0) := by
  unfold readAt; rw [h]; simp only; rw [if_neg (by rw [hf]; simp), hg]
/-- What a head can be. -/
theorem readAt_cases (first : List UInt8 → Hd × Int) (d : List UInt8) :
    (∃ e, lineL 82 1100 d = (none, e) ∧ readAt first d = ({}, 0, e)) ∨
    (∃ l e, lineL 82 1100 d = (some l, e) ∧ (first l).2 ≠ 0 ∧ readAt first d = ({}, 0, (first l).2)) ∨
    (∃ l e e2, lineL 82 1100 d = (some l, e) ∧ (first l).2 = 0 ∧ fieldsL 32 (d.drop (l.length + 2)) = (none, e2) ∧ readAt first d = ({}, 0, e2)) ∨
    (∃ l e e2 fs n, lineL 82 1100 d = (some l, e) ∧ (first l).2 = 0 ∧ fieldsL 32 (d.drop (l.length + 2)) = (some (fs, n), e2) ∧ readAt first d = ({ (first l).1 with fields := fs }, n + (l.length + 2), 0)) := by
  cases h : lineL 82 1100 d with
  | mk o e =>
    cases o with
    | none => exact .inl ⟨e, rfl, readAt_none h⟩
    | some l =>
      by_cases hf : (first l).2 = 0
      · cases hg : fieldsL 32 (d.drop (l.length + 2)) with
        | mk o2 e2 =>
          cases o2 with
          | none => exact .inr (.inr (.inl ⟨l, e, e2, rfl, hf, hg, readAt_part h hf hg⟩))
          | some x =>
            obtain ⟨fs, n⟩ := x
            exact .inr (.inr (.inr ⟨l, e, e2, fs, n, rfl, hf, hg, readAt_whole h hf hg⟩))
      · exact .inr (.inl ⟨l, e, rfl, hf, readAt_bad h hf⟩)
theorem readAt_more {first : List UInt8 → Hd × Int} {d : List UInt8} (t : List UInt8) (h : (readAt first d).2.2 ≠ 0 ∨ 0 < (readAt first d).2.1) : readAt first (d ++ t) = readAt first d ∧ d ≠ [] ∧ d ≠ [13] := by
  have hne : lineL 82 1100 d ≠ (none, 0) := by
    intro h2; rw [readAt_none h2] at h; rcases h with h | h
    · exact h rfl
    · exact absurd h (Nat.lt_irrefl 0)
  have hm := lineL_more t hne
  refine ⟨?_, fun e => hne (by rw [e]; rfl), fun e => hne (by rw [e]; rfl)⟩
  rcases readAt_cases first d with ⟨e, h1, h2⟩ | ⟨l, e, h1, h3, h2⟩ | ⟨l, e, e2, h1, h3, h4, h2⟩ | ⟨l, e, e2, fs, n, h1, h3, h4, h2⟩
  · rw [h1] at hm; rw [h2, readAt_none hm]
  · rw [h1] at hm; rw [h2, readAt_bad hm h3]
  · rw [h1] at hm
    rw [h2] at h
    obtain ⟨r, rfl, _⟩ := lineL_some h1
    rw [drop_line] at h4
    have h5 := fieldsL_more 32 r t (by rw [h4]; intro h6; injection h6 with _ h6; subst h6; simp at h)
    rw [h2, readAt_part hm h3 (e2 := e2) (by rw [List.append_assoc, List.cons_append, List.cons_append, drop_line, h5, h4])]
  · rw [h1] at hm
    obtain ⟨r, rfl, _⟩ := lineL_some h1
    rw [drop_line] at h4
    have h5 := fieldsL_more 32 r t (by rw [h4]; intro h6; injection h6 with h6; cases h6)
    rw [h2, readAt_whole hm h3 (fs := fs) (n := n) (e2 := e2) (by rw [List.append_assoc, List.cons_append, List.cons_append, drop_line, h5, h4])]
theorem readAt_used {first : List UInt8 → Hd × Int} {d : List UInt8} (h : 0 < (readAt first d).2.1) :
    (readAt first d).2.2 = 0 ∧ (readAt first d).2.1 ≤ d.length ∧ (∀ k, k < (readAt first d).2.1 → readAt first (d.take k) = ({}, 0, 0)) ∧ readAt first (d.take (readAt first d).2.1) = readAt first d := by
  rcases readAt_cases first d with ⟨e, h1, h2⟩ | ⟨l, e, h1, h3, h2⟩ | ⟨l, e, e2, h1, h3, h4, h2⟩ | ⟨l, e, e2, fs, n, h1, h3, h4, h2⟩
  · rw [h2] at h; exact absurd h (Nat.lt_irrefl 0)
  · rw [h2] at h; exact absurd h (Nat.lt_irrefl 0)
  · rw [h2] at h; exact absurd h (Nat.lt_irrefl 0)
  · rw [h2]
    simp only
    obtain ⟨r, rfl, ha, hb, _⟩ := lineL_some h1
    rw [drop_line] at h4
    obtain ⟨u1, u2, u3, u4, u5, u6⟩ := fieldsL_used 32 h4
    refine ⟨trivial, by simp; omega, fun k hk => ?_, ?_⟩
    · by_cases hk2 : k < l.length + 2
      · exact readAt_none (lineL_cut ha hb hk2)
      · have et : (l ++ 13 :: 10 :: r).take k = l ++ 13 :: 10 :: r.take (k - (l.length + 2)) := by
          rw [List.take_append, List.take_of_length_le (by omega)]
          obtain ⟨j, hj⟩ : ∃ j, k - l.length = j + 2 := ⟨k - l.length - 2, by omega⟩
          rw [hj, show k - (l.length + 2) = j by omega]; rfl
        rw [et]
        exact readAt_part (lineL_at ha hb) h3 (by rw [drop_line]; exact u5 _ (by omega))
    · have et : (l ++ 13 :: 10 :: r).take (n + (l.length + 2)) = l ++ 13 :: 10 :: r.take n := by
        rw [List.take_append, List.take_of_length_le (by omega), show n + (l.length + 2) - l.length = n + 2 by omega]; rfl
      rw [et]
      exact readAt_whole (e2 := e2) (lineL_at ha hb) h3 (by rw [drop_line]; exact u6)
/-- Where no bytes are used there is no head. -/
theorem readAt_empty {first : List UInt8 → Hd × Int} {d : List UInt8} (h : (readAt first d).2.1 = 0) : (readAt first d).1 = {} := by
  rcases readAt_cases first d with ⟨e, h1, h2⟩ | ⟨l, e, h1, h3, h2⟩ | ⟨l, e, e2, h1, h3, h4, h2⟩ | ⟨l, e, e2, fs, n, h1, h3, h4, h2⟩ <;> rw [h2] at h ⊢
  simp at h
theorem readL_empty {skip : Bool} {first : List UInt8 → Hd × Int} {d : List UInt8} (h : (readL skip first d).2.1 = 0) : (readL skip first d).1 = {} := by
  unfold readL at *
  simp only at h ⊢
  generalize (if skip = true then 2 * ahead d else 0) = k at *
  by_cases hn : (readAt first (d.drop k)).2.1 = 0
  · exact readAt_empty hn
  · rw [if_neg hn] at h; omega
theorem readL_err {skip : Bool} {first : List UInt8 → Hd × Int} {d : List UInt8} (h : (readL skip first d).2.2 ≠ 0) : (readL skip first d).2.1 = 0 := by
  unfold readL at *
  simp only at h ⊢
  generalize hk : (if skip = true then 2 * ahead d else 0) = k at *
  by_cases hn : (readAt first (d.drop k)).2.1 = 0
  · rw [if_pos hn]
  · exact absurd (readAt_used (by omega : 0 < _)).1 h
/-- What has been told of a head stays so. -/
theorem readL_more {skip : Bool} {first : List UInt8 → Hd × Int} {d : List UInt8} (t : List UInt8) (h : (readL skip first d).2.2 ≠ 0 ∨ 0 < (readL skip first d).2.1) : readL skip first (d ++ t) = readL skip first d := by
  cases skip with
  | false => rw [readL_plain] at *; rw [readL_plain]; exact (readAt_more t h).1
  | true =>
    obtain ⟨r, hr, hf⟩ := ahead_split d.length d (Nat.le_refl _)
    generalize ahead d = k at hr
    subst hr
    rw [readL_skip first k r hf] at h ⊢
    simp only at h
    obtain ⟨h1, h2, h3⟩ := readAt_more (first := first) (d := r) t (by
      rcases h with h | h
      · exact .inl h
      · right; split at h <;> omega)
    rw [List.append_assoc, readL_skip first k _ (fresh_more hf h2 h3 t), h1]
theorem readL_len {skip : Bool} {first : List UInt8 → Hd × Int} {d : List UInt8} : (readL skip first d).2.1 ≤ d.length := by
  have key : ∀ d : List UInt8, (readAt first d).2.1 ≤ d.length := fun d => by
    by_cases hn : 0 < (readAt first d).2.1
    · exact (readAt_used hn).2.1
    · omega
  cases skip with
  | false => rw [readL_plain]; exact key d
  | true =>
    have h1 := key (d.drop (2 * ahead d))
    have h2 := ahead_le d
    rw [List.length_drop] at h1
    unfold readL
    simp only [if_true]
    by_cases hn : (readAt first (d.drop (2 * ahead d))).2.1 = 0
    · rw [if_pos hn]; exact Nat.zero_le _
    · rw [if_neg hn]; omega
/-- Cut short it isn't whole, and is no error; what is used makes it. -/
theorem readL_used {first : List UInt8 → Hd × Int} {d : List UInt8} (h : 0 < (readL true first d).2.1) :
    (readL true first d).2.2 = 0 ∧ (∀ k, k < (readL true first d).2.1 → readL true first (d.take k) = ({}, 0, 0)) ∧ readL true first (d.take (readL true first d).2.1) = readL true first d := by
  obtain ⟨r, hr, hf⟩ := ahead_split d.length d (Nat.le_refl _)
  generalize ahead d = a at hr
  subst hr
  rw [readL_skip first a r hf] at h
  simp only [readL_skip first a r hf]
  simp only at h
  have hn : 0 < (readAt first r).2.1 := by split at h <;> omega
  obtain ⟨u1, u2, u3, u4⟩ := readAt_used hn
  rw [if_neg (by omega)]
  refine ⟨u1, fun k hk => ?_, ?_⟩
  · by_cases hk2 : k ≤ 2 * a
    · have hsplit : ∃ j x, (crlfs a ++ r).take k = crlfs j ++ x ∧ (x = [] ∨ x = [13]) := by
        rw [List.take_append_of_le_length (by rw [crlfs_length]; exact hk2)]
        clear hk h hn u1 u2 u3 u4 hf
        induction a generalizing k with
        | zero => exact ⟨0, [], by simp [crlfs], .inl rfl⟩
        | succ a ih =>
          match k with
          | 0 => exact ⟨0, [], by simp [crlfs], .inl rfl⟩
          | 1 => exact ⟨0, [13], rfl, .inr rfl⟩
          | k + 2 =>
            obtain ⟨j, x, h1, h2⟩ := ih k (by omega)
            exact ⟨j + 1, x, by rw [show (crlfs (a + 1)).take (k + 2) = 13 :: 10 :: (crlfs a).take k from rfl, h1]; rfl, h2⟩
      obtain ⟨j, x, e, hx⟩ := hsplit
      have hlx : lineL 82 1100 x = (none, 0) := by rcases hx with rfl | rfl <;> rfl
      have hfx : fresh x := by rcases hx with rfl | rfl <;> rfl
      rw [e, readL_skip first j x hfx, readAt_none hlx]; rfl
    · have et : (crlfs a ++ r).take k = crlfs a ++ r.take (k - 2 * a) := by
        rw [List.take_append, List.take_of_length_le (by rw [crlfs_length]; omega), crlfs_length]
      rw [et, readL_skip first a _ (fresh_take hf _), u3 _ (by omega)]; rfl
  · have et : (crlfs a ++ r).take ((readAt first r).2.1 + 2 * a) = crlfs a ++ r.take (readAt first r).2.1 := by
      rw [List.take_append, List.take_of_length_le (by rw [crlfs_length]; omega), crlfs_length, Nat.add_sub_cancel]
    rw [et, readL_skip first a _ (fresh_take hf _), u4, if_neg (by omega)]
/-- Empty lines ahead are passed over and counted. -/
theorem readL_ahead (first : List UInt8 → Hd × Int) (k : Nat) (d : List UInt8) :
    readL true first (crlfs k ++ d) = ((readL true first d).1, (if (readL true first d).2.1 = 0 then 0 else (readL true first d).2.1 + 2 * k), (readL true first d).2.2) := by
  obtain ⟨r, hr, hf⟩ := ahead_split d.length d (Nat.le_refl _)
  generalize ahead d = a at hr
  subst hr
  have e : crlfs k ++ (crlfs a ++ r) = crlfs (k + a) ++ r := by
    clear hf
    induction k with
    | zero => simp [crlfs]
    | succ k ih => rw [show k + 1 + a = (k + a) + 1 by omega]; show 13 :: 10 :: (crlfs k ++ (crlfs a ++ r)) = 13 :: 10 :: (crlfs (k + a) ++ r); rw [ih]
  rw [e, readL_skip first _ r hf, readL_skip first _ r hf]
  simp only
  by_cases hn : (readAt first r).2.1 = 0
  · rw [if_pos hn, if_pos hn]; rfl
  · rw [if_neg hn, if_neg hn, if_neg (by omega), Nat.mul_add]
    congr 2; omega

/-! ### bare line ends -/
def bare : List UInt8 → Bool
  | 13 :: 10 :: r => bare r
  | [] => true
  | c :: r => lb c && bare r
theorem bare_cons {c : UInt8} {r : List UInt8} (h : lb c = true) : bare (c :: r) = bare r := by
  have hc := h
  simp only [lb, Bool.and_eq_true, decide_eq_true_eq] at hc
  conv => lhs; unfold bare
  split
  · rename_i e; injection e with e _; exact absurd e hc.2
  · rename_i e; cases e
  · rename_i e; injection e with e1 e2; subst e1 e2; rw [h, Bool.true_and]
theorem bare_line {l : List UInt8} (h : l.all lb = true) (r : List UInt8) : bare (l ++ 13 :: 10 :: r) = bare r := by
  induction l with
  | nil => rfl
  | cons c l ih =>
    simp only [List.all_cons, Bool.and_eq_true] at h
    rw [List.cons_append, bare_cons h.1, ih h.2]
theorem bare_fields (room : Nat) : ∀ {d : List UInt8} {fs : List Fd} {n : Nat} {e : Int}, fieldsL room d = (some (fs, n), e) → bare (d.take n) = true := by
  induction room with
  | zero =>
    intro d fs n e h
    cases hl : lineL 83 512 d with
    | mk o e' =>
      cases o with
      | none => rw [fieldsL_none hl] at h; injection h with h; cases h
      | some l =>
        by_cases h0 : l = []
        · subst h0
          rw [fieldsL_end hl] at h
          injection h with h _; injection h with h; injection h with _ h4
          subst h4
          obtain ⟨r, rfl, _⟩ := lineL_some hl
          rfl
        · rw [fieldsL_large hl h0] at h; injection h with h; cases h
  | succ room ih =>
    intro d fs n e h
    cases hl : lineL 83 512 d with
    | mk o e' =>
      cases o with
      | none => rw [fieldsL_none hl] at h; injection h with h; cases h
      | some l =>
        by_cases h0 : l = []
        · subst h0
          rw [fieldsL_end hl] at h
          injection h with h _; injection h with h; injection h with _ h4
          subst h4
          obtain ⟨r, rfl, _⟩ := lineL_some hl
          rfl
        · cases hf : fieldL l with
          | none => rw [fieldsL_bad hl h0 hf] at h; injection h with h; cases h
          | some f =>
            obtain ⟨r, rfl, ha, hb, _⟩ := lineL_some hl
            rw [fieldsL_step hl h0 hf, drop_line] at h
            cases hq : fieldsL room r with
            | mk o2 e2 =>
              rw [hq] at h
              cases o2 with
              | none => injection h with h; cases h
              | some x =>
                obtain ⟨gs, q⟩ := x
                injection h with h h2
                simp only [Option.map_some, Option.some.injEq, Prod.mk.injEq] at h
                obtain ⟨rfl, rfl⟩ := h
                have et : (l ++ 13 :: 10 :: r).take (q + (l.length + 2)) = l ++ 13 :: 10 :: r.take q := by
                  rw [List.take_append, List.take_of_length_le (by omega), show q + (l.length + 2) - l.length = q + 2 by omega]; rfl
                rw [et, bare_line ha]
                exact ih hq
theorem bare_readAt (first : List UInt8 → Hd × Int) (d : List UInt8) : bare (d.take (readAt first d).2.1) = true := by
  rcases readAt_cases first d with ⟨e, h1, h2⟩ | ⟨l, e, h1, h3, h2⟩ | ⟨l, e, e2, h1, h3, h4, h2⟩ | ⟨l, e, e2, fs, n, h1, h3, h4, h2⟩ <;> rw [h2]
  · rfl
  · rfl
  · rfl
  · simp only
    obtain ⟨r, rfl, ha, hb, _⟩ := lineL_some h1
    rw [drop_line] at h4
    have et : (l ++ 13 :: 10 :: r).take (n + (l.length + 2)) = l ++ 13 :: 10 :: r.take n := by
      rw [List.take_append, List.take_of_length_le (by omega), show n + (l.length + 2) - l.length = n + 2 by omega]; rfl
    rw [et, bare_line ha]
    exact bare_fields 32 h4
theorem bare_crlfs (k : Nat) (r : List UInt8) : bare (crlfs k ++ r) = bare r := by
  induction k with
  | zero => rfl
  | succ k ih => exact ih
theorem bare_readL (skip : Bool) (first : List UInt8 → Hd × Int) (d : List UInt8) : bare (d.take (readL skip first d).2.1) = true := by
  cases skip with
  | false => rw [readL_plain]; exact bare_readAt first d
  | true =>
    obtain ⟨r, hr, hf⟩ := ahead_split d.length d (Nat.le_refl _)
    generalize ahead d = a at hr
    subst hr
    rw [readL_skip first a r hf]
    simp only
    split
    · rfl
    · rw [List.take_append, List.take_of_length_le (by rw [crlfs_length]; omega), crlfs_length, Nat.add_sub_cancel, bare_crlfs]
      exact bare_readAt first r
/-- In a bare text each 10 has a 13 ahead and each 13 a 10 behind it. -/
theorem bare_at : ∀ (n : Nat) (l : List UInt8), l.length ≤ n → bare l = true → ∀ i (hi : i < l.length), (l[i] = 10 → ∃ h : 0 < i, l[i - 1] = 13) ∧ (l[i] = 13 → ∃ h : i + 1 < l.length, l[i + 1] = 10)
  | 0, l, hl, _, i, hi => by omega
  | n + 1, l, hl, hb, i, hi => by
    match l, hb, hi with
    | [], _, hi => simp at hi
    | c :: r, hb, hi =>
      by_cases hcr : ∃ t, c = 13 ∧ r = 10 :: t
      · obtain ⟨t, rfl, rfl⟩ := hcr
        have hbt : bare t = true := hb
        match i, hi with
        | 0, _ => exact ⟨fun e => by simp at e, fun _ => ⟨by simp, rfl⟩⟩
        | 1, _ => exact ⟨fun _ => ⟨by omega, rfl⟩, fun e => by simp at e⟩
        | i + 2, hi =>
          have hi' : i < t.length := by simpa using hi
          obtain ⟨h1, h2⟩ := bare_at n t (by simp at hl; omega) hbt i hi'
          refine ⟨fun e => ?_, fun e => ?_⟩
          · obtain ⟨h3, h4⟩ := h1 (by simpa using e)
            obtain ⟨j, rfl⟩ : ∃ j, i = j + 1 := ⟨i - 1, by omega⟩
            exact ⟨by omega, by simpa using h4⟩
          · obtain ⟨h3, h4⟩ := h2 (by simpa using e)
            exact ⟨by simp; omega, by simpa using h4⟩
      · have hc : lb c = true ∧ bare r = true := by
          unfold bare at hb
          split at hb
          · rename_i e; injection e with e1 e2; exact absurd ⟨_, e1, e2⟩ hcr
          · rename_i e; cases e
          · rename_i e; injection e with e1 e2; subst e1 e2; simpa using hb
        have hcc := hc.1
        simp only [lb, Bool.and_eq_true, decide_eq_true_eq] at hcc
        match i, hi with
        | 0, _ => exact ⟨fun e => absurd e hcc.1, fun e => absurd e hcc.2⟩
        | i + 1, hi =>
          have hi' : i < r.length := by simpa using hi
          obtain ⟨h1, h2⟩ := bare_at n r (by simp at hl; omega) hc.2 i hi'
          refine ⟨fun e => ?_, fun e => ?_⟩
          · obtain ⟨h3, h4⟩ := h1 (by simpa using e)
            obtain ⟨j, rfl⟩ : ∃ j, i = j + 1 := ⟨i - 1, by omega⟩
            exact ⟨by omega, by simpa using h4⟩
          · obtain ⟨h3, h4⟩ := h2 (by simpa using e)
            exact ⟨by simp; omega, by simpa using h4⟩
end Go.Proofs.YtjbmipbjlhcooaaDoor
