/- The texts HdA, ChkA, FldB in one. -/
import Derived.Test.YtgmjkkiahanekaaDoorM0
import Derived.Test.YtgmjkkiahanekaaDoorM1
import Derived.Test.YtgmjkkiahanekaaDoorM2
import Derived.RangeFuncNested
import Derived.RangeFuncBound
import Derived.RangeFuncCalls
import Derived.RangeFuncLeaves
import Derived.RangeFuncFrom
import Derived.RangeFuncBox
import Derived.Shelf.Abstract
import Derived.Shelf.RegionOpen
import Derived.WalkKit
import Derived.OwnWalkIn
import Derived.TacticsInMore
import Derived.LoopNIn
import Derived.LoopIn
/- Plain words of layer 8 over lists of bytes: lines, versions, start and status lines, fields' lines, heads; no program in sight. -/
set_option linter.unusedVariables false
set_option linter.unusedSimpArgs false
namespace Go.Proofs.YtgmjkkiahanekaaDoor
open Lex

/-- The line that begins a text: the line, or none and the error; room: how many bytes it may have. -/
def lineL (over : Int) : Nat → List UInt8 → Option (List UInt8) × Int
  | _, [] => (none, 0)
  | room, c :: r =>
    if c = 10 then (none, 80)
    else if c = 13 then (if r = [] then (none, 0) else if r.head? = some 10 then (some [], 0) else (none, 80))
    else match room with
      | 0 => (none, over)
      | room + 1 => ((lineL over room r).1.map (c :: ·), (lineL over room r).2)
def httpV : List UInt8 := [72, 84, 84, 80, 47]
/-- The minor digit and the error. -/
def versionL (s : List UInt8) : Int × Int :=
  if s.length = 8 ∧ s.take 5 = httpV ∧ s[6]? = some 46 then
    (match s[5]?, s[7]? with
    | some a, some b => if digit a = true ∧ digit b = true then (if a = 49 then ((b.toNat : Int) - 48, 0) else (0, 81)) else (0, 80)
    | _, _ => (0, 80))
  else (0, 80)
def tchar (c : UInt8) : Bool := decide (33 ≤ (c.toNat : Int)) && decide ((c.toNat : Int) ≤ 126)
structure Hd where
  method : List UInt8 := []
  target : List UInt8 := []
  status : Int := 0
  reason : List UInt8 := []
  minor : Int := 0
  fields : List Fd := []
/-- A start line. -/
def startL (l : List UInt8) : Hd × Int :=
  match pieces 32 l with
  | [a, b, c] => if token a = true ∧ a.length ≤ 16 ∧ b ≠ [] ∧ b.all tchar = true then (if (versionL c).2 = 0 then ({ method := a, target := b, minor := (versionL c).1 }, 0) else ({}, (versionL c).2)) else ({}, 80)
  | _ => ({}, 80)
/-- A status line. -/
def statusL (l : List UInt8) : Hd × Int :=
  if l.length < 12 ∨ l[8]? ≠ some 32 ∨ (12 < l.length ∧ l[12]? ≠ some 32) then ({}, 80)
  else if (decimal ((l.drop 9).take 3) 3).2 = true ∧ 100 ≤ (decimal ((l.drop 9).take 3) 3).1 ∧ (decimal ((l.drop 9).take 3) 3).1 ≤ 599 then
    (if (l.drop 13).all okv = true then
      (if (versionL (l.take 8)).2 = 0 then ({ status := (decimal ((l.drop 9).take 3) 3).1, reason := l.drop 13, minor := (versionL (l.take 8)).1 }, 0) else ({}, (versionL (l.take 8)).2))
    else ({}, 80))
  else ({}, 80)
/-- A field's line. -/
def fieldL (l : List UInt8) : Option Fd :=
  if (cutB l 58).2.2 = true ∧ token (cutB l 58).1 = true ∧ (trim (cutB l 58).2.1).all okv = true then some ((cutB l 58).1, trim (cutB l 58).2.1) else none
/-- The fields' lines: the fields and how many bytes they have, with the empty line; room: how many fields more. -/
def fieldsL : Nat → List UInt8 → Option (List Fd × Nat) × Int
  | 0, d => match lineL 83 512 d with
    | (none, e) => (none, e)
    | (some l, _) => if l = [] then (some ([], 2), 0) else (none, 83)
  | room + 1, d => match lineL 83 512 d with
    | (none, e) => (none, e)
    | (some l, _) => if l = [] then (some ([], 2), 0) else
      match fieldL l with
      | none => (none, 70)
      | some f => ((fieldsL room (d.drop (l.length + 2))).1.map fun x => (f :: x.1, x.2 + (l.length + 2)), (fieldsL room (d.drop (l.length + 2))).2)
/-- The empty lines ahead. -/
def ahead : List UInt8 → Nat
  | 13 :: 10 :: r => 1 + ahead r
  | _ => 0
/-- A head from its first line on: the head and the bytes used (0: none), the error. -/
def readAt (first : List UInt8 → Hd × Int) (d : List UInt8) : Hd × Nat × Int :=
  match lineL 82 1100 d with
  | (none, e) => ({}, 0, e)
  | (some l, _) => if (first l).2 ≠ 0 then ({}, 0, (first l).2) else
    match fieldsL 32 (d.drop (l.length + 2)) with
    | (none, e) => ({}, 0, e)
    | (some (fs, n), _) => ({ (first l).1 with fields := fs }, n + (l.length + 2), 0)
def readL (skip : Bool) (first : List UInt8 → Hd × Int) (d : List UInt8) : Hd × Nat × Int :=
  let k := if skip then 2 * ahead d else 0
  ((readAt first (d.drop k)).1, (if (readAt first (d.drop k)).2.1 = 0 then 0 else (readAt first (d.drop k)).2.1 + k), (readAt first (d.drop k)).2.2)

/-! ### lines -/
theorem lineL_nil (over : Int) (room : Nat) : lineL over room [] = (none, 0) := by cases room <;> rfl
theorem lineL_10 (over : Int) (room : Nat) (r : List UInt8) : lineL over room (10 :: r) = (none, 80) := by cases room <;> rfl
theorem lineL_13 (over : Int) (room : Nat) (r : List UInt8) : lineL over room (13 :: r) = if r = [] then (none, 0) else if r.head? = some 10 then (some [], 0) else (none, 80) := by cases room <;> rfl
theorem lineL_over (over : Int) {c : UInt8} (r : List UInt8) (h1 : c ≠ 10) (h2 : c ≠ 13) : lineL over 0 (c :: r) = (none, over) := by
  simp only [lineL]; rw [if_neg h1, if_neg h2]
theorem lineL_step (over : Int) {c : UInt8} (room : Nat) (r : List UInt8) (h1 : c ≠ 10) (h2 : c ≠ 13) : lineL over (room + 1) (c :: r) = ((lineL over room r).1.map (c :: ·), (lineL over room r).2) := by
  simp only [lineL]; rw [if_neg h1, if_neg h2]
/-- A byte of a line. -/
def lb (c : UInt8) : Bool := decide (c ≠ 10) && decide (c ≠ 13)
theorem lineL_app (over : Int) : ∀ (a : List UInt8) (room : Nat) (r : List UInt8), a.all lb = true → a.length ≤ room → lineL over room (a ++ r) = ((lineL over (room - a.length) r).1.map (a ++ ·), (lineL over (room - a.length) r).2)
  | [], room, r, _, _ => by simp
  | c :: a, room, r, h, hl => by
    simp only [List.all_cons, Bool.and_eq_true, lb, decide_eq_true_eq] at h
    simp only [List.length_cons] at hl
    obtain ⟨room, rfl⟩ : ∃ q, room = q + 1 := ⟨room - 1, by omega⟩
    rw [List.cons_append, lineL_step over room _ h.1.1 h.1.2, lineL_app over a room r (by simpa [lb] using h.2) (by omega)]
    rw [show room + 1 - (c :: a).length = room - a.length by simp]
    cases (lineL over (room - a.length) r).1 <;> simp
/-- What a line can be. -/
theorem lineL_cases (over : Int) (room : Nat) (d : List UInt8) :
    (∃ l r, d = l ++ 13 :: 10 :: r ∧ l.all lb = true ∧ l.length ≤ room ∧ lineL over room d = (some l, 0)) ∨
    (d.all lb = true ∧ d.length ≤ room ∧ lineL over room d = (none, 0)) ∨
    (∃ a, d = a ++ [13] ∧ a.all lb = true ∧ a.length ≤ room ∧ lineL over room d = (none, 0)) ∨
    (∃ a r, d = a ++ 10 :: r ∧ a.all lb = true ∧ a.length ≤ room ∧ lineL over room d = (none, 80)) ∨
    (∃ a c r, d = a ++ 13 :: c :: r ∧ c ≠ 10 ∧ a.all lb = true ∧ a.length ≤ room ∧ lineL over room d = (none, 80)) ∨
    (∃ a c r, d = a ++ c :: r ∧ lb c = true ∧ a.all lb = true ∧ a.length = room ∧ lineL over room d = (none, over)) := by
  induction d generalizing room with
  | nil => exact .inr (.inl ⟨rfl, Nat.zero_le _, lineL_nil over room⟩)
  | cons c r ih =>
    by_cases h10 : c = 10
    · subst h10
      exact .inr (.inr (.inr (.inl ⟨[], r, rfl, rfl, Nat.zero_le _, lineL_10 over room r⟩)))
    · by_cases h13 : c = 13
      · subst h13
        rw [lineL_13]
        cases r with
        | nil => exact .inr (.inr (.inl ⟨[], rfl, rfl, Nat.zero_le _, rfl⟩))
        | cons x r =>
          rw [if_neg (by simp)]
          by_cases hx : x = 10
          · subst hx
            exact .inl ⟨[], r, rfl, rfl, Nat.zero_le _, by simp⟩
          · rw [if_neg (by simpa using hx)]
            exact .inr (.inr (.inr (.inr (.inl ⟨[], x, r, rfl, hx, rfl, Nat.zero_le _, rfl⟩))))
      · have hlb : lb c = true := by simp [lb, h10, h13]
        cases room with
        | zero => exact .inr (.inr (.inr (.inr (.inr ⟨[], c, r, rfl, hlb, rfl, rfl, lineL_over over r h10 h13⟩))))
        | succ room =>
          rw [lineL_step over room r h10 h13]
          have cs : ∀ a : List UInt8, a.all lb = true → (c :: a).all lb = true := fun a ha => by rw [List.all_cons, hlb, ha]; rfl
          rcases ih room with ⟨l, t, rfl, h1, h2, h3⟩ | ⟨h1, h2, h3⟩ | ⟨a, rfl, h1, h2, h3⟩ | ⟨a, t, rfl, h1, h2, h3⟩ | ⟨a, x, t, rfl, hx, h1, h2, h3⟩ | ⟨a, x, t, rfl, hx, h1, h2, h3⟩
          · rw [h3]; exact .inl ⟨c :: l, t, rfl, cs l h1, by simp; omega, rfl⟩
          · rw [h3]; exact .inr (.inl ⟨cs r h1, by simp; omega, rfl⟩)
          · rw [h3]; exact .inr (.inr (.inl ⟨c :: a, rfl, cs a h1, by simp; omega, rfl⟩))
          · rw [h3]; exact .inr (.inr (.inr (.inl ⟨c :: a, t, rfl, cs a h1, by simp; omega, rfl⟩)))
          · rw [h3]; exact .inr (.inr (.inr (.inr (.inl ⟨c :: a, x, t, rfl, hx, cs a h1, by simp; omega, rfl⟩))))
          · rw [h3]; exact .inr (.inr (.inr (.inr (.inr ⟨c :: a, x, t, rfl, hx, cs a h1, by simp; omega, rfl⟩))))
theorem lineL_at {over : Int} {room : Nat} {l r : List UInt8} (h : l.all lb = true) (hl : l.length ≤ room) : lineL over room (l ++ 13 :: 10 :: r) = (some l, 0) := by
  rw [lineL_app over l room _ h hl, lineL_13]; simp
theorem lineL_some {over : Int} {room : Nat} {d l : List UInt8} {e : Int} (h : lineL over room d = (some l, e)) : ∃ r, d = l ++ 13 :: 10 :: r ∧ l.all lb = true ∧ l.length ≤ room ∧ e = 0 := by
  rcases lineL_cases over room d with ⟨l', r, rfl, h1, h2, h3⟩ | ⟨h1, h2, h3⟩ | ⟨a, rfl, h1, h2, h3⟩ | ⟨a, t, rfl, h1, h2, h3⟩ | ⟨a, x, t, rfl, hx, h1, h2, h3⟩ | ⟨a, x, t, rfl, hx, h1, h2, h3⟩
  · rw [h3] at h; injection h with h4 h5; injection h4 with h4; subst h4; exact ⟨r, rfl, h1, h2, h5.symm⟩
  all_goals rw [h3] at h; injection h with h4 _; cases h4
/-- What has been told of a line stays so. -/
theorem lineL_more {over : Int} {room : Nat} {d : List UInt8} (t : List UInt8) (h : lineL over room d ≠ (none, 0)) : lineL over room (d ++ t) = lineL over room d := by
  rcases lineL_cases over room d with ⟨l', r, rfl, h1, h2, h3⟩ | ⟨h1, h2, h3⟩ | ⟨a, rfl, h1, h2, h3⟩ | ⟨a, r, rfl, h1, h2, h3⟩ | ⟨a, x, r, rfl, hx, h1, h2, h3⟩ | ⟨a, x, r, rfl, hx, h1, h2, h3⟩
  · rw [h3]
    rw [List.append_assoc]; exact lineL_at h1 h2
  · exact absurd h3 h
  · exact absurd h3 h
  · rw [h3, List.append_assoc, lineL_app over a room _ h1 h2, List.cons_append, lineL_10]; rfl
  · rw [h3, List.append_assoc, lineL_app over a room _ h1 h2, List.cons_append, List.cons_append, lineL_13, if_neg (by simp), if_neg (by simpa using hx)]; rfl
  · simp only [lb, Bool.and_eq_true, decide_eq_true_eq] at hx
    rw [h3, List.append_assoc, lineL_app over a room _ h1 (by omega), List.cons_append, show room - a.length = 0 by omega, lineL_over over _ hx.1 hx.2]; rfl
/-- Cut short, a line isn't whole, and is no error. -/
theorem lineL_cut {over : Int} {room : Nat} {l r : List UInt8} (h : l.all lb = true) (hl : l.length ≤ room) {k : Nat} (hk : k < l.length + 2) : lineL over room ((l ++ 13 :: 10 :: r).take k) = (none, 0) := by
  by_cases h1 : k ≤ l.length
  · rw [List.take_append_of_le_length h1]
    have h2 : (l.take k).all lb = true := by
      rw [List.all_eq_true] at h ⊢
      exact fun x hx => h x (List.mem_of_mem_take hx)
    have := lineL_app over (l.take k) room [] h2 (by rw [List.length_take]; omega)
    rw [List.append_nil, lineL_nil] at this
    exact this
  · have hk : k = l.length + 1 := by omega
    subst hk
    rw [List.take_append, List.take_of_length_le (by omega), show l.length + 1 - l.length = 1 by omega]
    rw [lineL_app over l room _ h hl]
    rw [show List.take 1 (13 :: 10 :: r) = [13] from rfl, lineL_13]; simp

/-! ### steadiness -/
theorem fieldsL_none {room : Nat} {d : List UInt8} {e : Int} (h : lineL 83 512 d = (none, e)) : fieldsL room d = (none, e) := by cases room <;> simp only [fieldsL, h]
theorem fieldsL_end {room : Nat} {d : List UInt8} {e : Int} (h : lineL 83 512 d = (some [], e)) : fieldsL room d = (some ([], 2), 0) := by cases room <;> simp only [fieldsL, h, if_true]
theorem fieldsL_large {d l : List UInt8} {e : Int} (h : lineL 83 512 d = (some l, e)) (hl : l ≠ []) : fieldsL 0 d = (none, 83) := by simp only [fieldsL, h, if_neg hl]
theorem fieldsL_bad {room : Nat} {d l : List UInt8} {e : Int} (h : lineL 83 512 d = (some l, e)) (hl : l ≠ []) (hf : fieldL l = none) : fieldsL (room + 1) d = (none, 70) := by simp only [fieldsL, h, if_neg hl, hf]
theorem fieldsL_step {room : Nat} {d l : List UInt8} {e : Int} {f : Fd} (h : lineL 83 512 d = (some l, e)) (hl : l ≠ []) (hf : fieldL l = some f) :
    fieldsL (room + 1) d = ((fieldsL room (d.drop (l.length + 2))).1.map fun x => (f :: x.1, x.2 + (l.length + 2)), (fieldsL room (d.drop (l.length + 2))).2) := by simp only [fieldsL, h, if_neg hl, hf]
theorem drop_line (l r : List UInt8) : (l ++ 13 :: 10 :: r).drop (l.length + 2) = r := by
  rw [← List.drop_drop, List.drop_left]; rfl
theorem fieldsL_more (room : Nat) : ∀ (d t : List UInt8), fieldsL room d ≠ (none, 0) → fieldsL room (d ++ t) = fieldsL room d := by
  induction room with
  | zero =>
    intro d t h
    cases hl : lineL 83 512 d with
    | mk o e =>
      have hne : lineL 83 512 d ≠ (none, 0) := fun h2 => h (fieldsL_none h2)
      have hm := lineL_more t hne
      rw [hl] at hm
      cases o with
      | none => rw [fieldsL_none hl, fieldsL_none hm]
      | some l =>
        by_cases h0 : l = []
        · subst h0; rw [fieldsL_end hl, fieldsL_end hm]
        · rw [fieldsL_large hl h0, fieldsL_large hm h0]
  | succ room ih =>
    intro d t h
    cases hl : lineL 83 512 d with
    | mk o e =>
      have hne : lineL 83 512 d ≠ (none, 0) := fun h2 => h (fieldsL_none h2)
      have hm := lineL_more t hne
      rw [hl] at hm
      cases o with
      | none => rw [fieldsL_none hl, fieldsL_none hm]
      | some l =>
        by_cases h0 : l = []
        · subst h0; rw [fieldsL_end hl, fieldsL_end hm]
        · cases hf : fieldL l with
          | none => rw [fieldsL_bad hl h0 hf, fieldsL_bad hm h0 hf]
          | some f =>
            rw [fieldsL_step hl h0 hf, fieldsL_step hm h0 hf]
            rw [fieldsL_step hl h0 hf] at h
            obtain ⟨r, rfl, _⟩ := lineL_some hl
            rw [List.append_assoc, List.cons_append, List.cons_append, drop_line, drop_line]
            rw [drop_line] at h
            rw [ih r t (fun h2 => h (by rw [h2]; rfl))]
/-- What is used: all bytes of the fields' lines, and cut short they aren't whole. -/
theorem fieldsL_used (room : Nat) : ∀ {d : List UInt8} {fs : List Fd} {n : Nat} {e : Int}, fieldsL room d = (some (fs, n), e) → 2 ≤ n ∧ n ≤ d.length ∧ fs.length ≤ room ∧ e = 0 ∧ (∀ k, k < n → fieldsL room (d.take k) = (none, 0)) ∧ fieldsL room (d.take n) = (some (fs, n), e) := by
  induction room with
  | zero =>
    intro d fs n e h
    cases hl : lineL 83 512 d with
    | mk o e' =>
      cases o with
      | none => rw [fieldsL_none hl] at h; injection h with h; cases h
      | some l =>
        by_cases h0 : l = []
        · subst h0
          rw [fieldsL_end hl] at h
          injection h with h h2; injection h with h; injection h with h3 h4
          subst h3 h4 h2
          obtain ⟨r, rfl, ha, hb, _⟩ := lineL_some hl
          refine ⟨Nat.le_refl _, by simp, Nat.le_refl _, rfl, fun k hk => fieldsL_none (lineL_cut ha hb (by simpa using hk)), ?_⟩
          exact fieldsL_end (e := 0) rfl
        · rw [fieldsL_large hl h0] at h; injection h with h; cases h
  | succ room ih =>
    intro d fs n e h
    cases hl : lineL 83 512 d with
    | mk o e' =>
      cases o with
      | none => rw [fieldsL_none hl] at h; injection h with h; cases h
      | some l =>
        by_cases h0 : l = []
        · subst h0
          rw [fieldsL_end hl] at h
          injection h with h h2; injection h with h; injection h with h3 h4
          subst h3 h4 h2
          obtain ⟨r, rfl, ha, hb, _⟩ := lineL_some hl
          refine ⟨Nat.le_refl _, by simp, Nat.zero_le _, rfl, fun k hk => fieldsL_none (lineL_cut ha hb (by simpa using hk)), ?_⟩
          exact fieldsL_end (e := 0) rfl
        · cases hf : fieldL l with
          | none => rw [fieldsL_bad hl h0 hf] at h; injection h with h; cases h
          | some f =>
            obtain ⟨r, rfl, ha, hb, _⟩ := lineL_some hl
            rw [fieldsL_step hl h0 hf, drop_line] at h
            cases hq : fieldsL room r with
            | mk o2 e2 =>
              rw [hq] at h
              cases o2 with
              | none => injection h with h; cases h
              | some x =>
                obtain ⟨gs, q⟩ := x
                injection h with h h2
                simp only [Option.map_some, Option.some.injEq, Prod.mk.injEq] at h
                obtain ⟨rfl, rfl⟩ := h
                simp only at h2
                subst h2
                obtain ⟨i1, i2, i3, i4, i5, i6⟩ := ih hq
                refine ⟨by omega, by simp; omega, by simp; omega, i4, fun k hk => ?_, ?_⟩
                · by_cases hk2 : k < l.length + 2
                  · exact fieldsL_none (lineL_cut ha hb hk2)
                  · have et : (l ++ 13 :: 10 :: r).take k = l ++ 13 :: 10 :: r.take (k - (l.length + 2)) := by
                      rw [List.take_append, List.take_of_length_le (by omega)]
                      obtain ⟨j, hj⟩ : ∃ j, k - l.length = j + 2 := ⟨k - l.length - 2, by omega⟩
                      rw [hj, show k - (l.length + 2) = j by omega]; rfl
                    rw [et, fieldsL_step (lineL_at ha hb) h0 hf, drop_line, i5 _ (by omega)]; rfl
                · have et : (l ++ 13 :: 10 :: r).take (q + (l.length + 2)) = l ++ 13 :: 10 :: r.take q := by
                    rw [List.take_append, List.take_of_length_le (by omega), show q + (l.length + 2) - l.length = q + 2 by omega]; rfl
                  rw [et, fieldsL_step (lineL_at ha hb) h0 hf, drop_line, i6]; rfl
end Go.Proofs.YtgmjkkiahanekaaDoor

/- Plain words of layer 10 over lists of bytes: the decoder of a body in chunks as a machine that takes one byte after the other; no program in sight. -/
set_option linter.unusedVariables false
set_option linter.unusedSimpArgs false
namespace Go.Proofs.YtgmjkkiahanekaaDoor
open Lex

structure Dec where
  most : Int
  size : Int := 0
  st : Int := 0
  left : Int := 0
  line : List UInt8 := []
  cr : Bool := false
  tr : Int := 0
  err : Int := 0

/-- A byte of what stands behind a size. -/
def extc (c : UInt8) : Bool := decide (c = 9) || (decide (32 ≤ (c.toNat : Int)) && decide ((c.toNat : Int) ≤ 126))
/-- The size that a size line says. -/
def sizeL (l : List UInt8) : Option Int := if (hex (cutB l 59).1 8).2 = true ∧ (cutB l 59).2.1.all extc = true then some (hex (cutB l 59).1 8).1 else none
def sizedD (d : Dec) (l : List UInt8) : Dec × Int :=
  match sizeL l with
  | none => (d, 100)
  | some n => if n = 0 then ({ d with st := 3 }, 0) else if d.most - d.size < n then (d, 101) else ({ d with st := 1, left := n }, 0)
def wholeD (d : Dec) (l : List UInt8) : Dec × Int :=
  if d.st = 0 then sizedD d l
  else if d.st = 2 then ({ d with st := 0 }, 0)
  else if l = [] then ({ d with st := 4 }, 0)
  else ({ d with tr := d.tr + 1 }, if fieldL l = none ∨ 32 < d.tr + 1 then 100 else 0)
def boundD (st : Int) : Nat := if st = 0 then 64 else if st = 3 then 512 else 0
def takeD (d : Dec) (c : UInt8) : Dec × Int :=
  if d.cr = true ∧ c = 10 then wholeD { d with line := [], cr := false } d.line
  else if d.cr = true ∨ c = 10 then (d, 100)
  else if c = 13 then ({ d with cr := true }, 0)
  else if boundD d.st ≤ d.line.length then (d, 100)
  else ({ d with line := d.line ++ [c] }, 0)
/-- One byte: behind it the decoder, and the byte if it is one of the body. -/
def stepD (d : Dec) (c : UInt8) : Dec × List UInt8 :=
  if d.st = 1 then ({ d with size := d.size + 1, left := d.left - 1, st := if d.left = 1 then 2 else 1 }, [c])
  else ({ (takeD d c).1 with err := (takeD d c).2 }, [])
/-- The body's bytes, how many bytes were read, the decoder behind them. -/
def runD : Dec → List UInt8 → List UInt8 × Nat × Dec
  | d, [] => ([], 0, d)
  | d, c :: s => if d.st = 4 ∨ d.err ≠ 0 then ([], 0, d) else
    ((stepD d c).2 ++ (runD (stepD d c).1 s).1, (runD (stepD d c).1 s).2.1 + 1, (runD (stepD d c).1 s).2.2)

theorem runD_stop {d : Dec} (h : d.st = 4 ∨ d.err ≠ 0) (s : List UInt8) : runD d s = ([], 0, d) := by
  cases s with
  | nil => rfl
  | cons c s => rw [runD, if_pos h]
theorem runD_cons {d : Dec} (h : ¬ (d.st = 4 ∨ d.err ≠ 0)) (c : UInt8) (s : List UInt8) : runD d (c :: s) = ((stepD d c).2 ++ (runD (stepD d c).1 s).1, (runD (stepD d c).1 s).2.1 + 1, (runD (stepD d c).1 s).2.2) := by
  rw [runD, if_neg h]
theorem runD_len (d : Dec) (s : List UInt8) : (runD d s).2.1 ≤ s.length := by
  induction s generalizing d with
  | nil => exact Nat.le_refl _
  | cons c s ih =>
    by_cases h : d.st = 4 ∨ d.err ≠ 0
    · rw [runD_stop h]; exact Nat.zero_le _
    · rw [runD_cons h]; have := ih (stepD d c).1; simp only [List.length_cons]; omega
theorem stepD_out (d : Dec) (c : UInt8) : (stepD d c).2.length ≤ 1 := by
  unfold stepD; split <;> simp
theorem runD_out (d : Dec) (s : List UInt8) : (runD d s).1.length ≤ (runD d s).2.1 := by
  induction s generalizing d with
  | nil => exact Nat.le_refl _
  | cons c s ih =>
    by_cases h : d.st = 4 ∨ d.err ≠ 0
    · rw [runD_stop h]; exact Nat.le_refl _
    · rw [runD_cons h]; have := ih (stepD d c).1; have := stepD_out d c; simp only [List.length_append]; omega
/-- Read in two pieces. -/
theorem runD_app (d : Dec) (s t : List UInt8) : runD d (s ++ t) =
    if (runD d s).2.2.st = 4 ∨ (runD d s).2.2.err ≠ 0 then runD d s
    else ((runD d s).1 ++ (runD (runD d s).2.2 t).1, s.length + (runD (runD d s).2.2 t).2.1, (runD (runD d s).2.2 t).2.2) := by
  induction s generalizing d with
  | nil =>
    rw [List.nil_append]
    by_cases h : d.st = 4 ∨ d.err ≠ 0
    · rw [runD_stop h t, runD_stop h [], if_pos h]
    · rw [show runD d [] = ([], 0, d) from rfl, if_neg h]; simp
  | cons c s ih =>
    by_cases h : d.st = 4 ∨ d.err ≠ 0
    · rw [runD_stop h, runD_stop h, if_pos h]
    · rw [List.cons_append, runD_cons h, runD_cons h c s, ih]
      split
      · rfl
      · simp only [List.append_assoc, List.length_cons]; congr 2; omega
/-- What isn't whole and no error has used all. -/
theorem runD_all {d : Dec} {s : List UInt8} (h : ¬ ((runD d s).2.2.st = 4 ∨ (runD d s).2.2.err ≠ 0)) : (runD d s).2.1 = s.length := by
  induction s generalizing d with
  | nil => rfl
  | cons c s ih =>
    by_cases h0 : d.st = 4 ∨ d.err ≠ 0
    · rw [runD_stop h0] at h; exact absurd h0 h
    · rw [runD_cons h0] at h ⊢
      simp only [List.length_cons]
      rw [ih h]
theorem runD_prefix {d : Dec} {s : List UInt8} (k : Nat) (hk : k ≤ s.length) (h : ¬ ((runD d (s.take k)).2.2.st = 4 ∨ (runD d (s.take k)).2.2.err ≠ 0)) :
    runD d s = ((runD d (s.take k)).1 ++ (runD (runD d (s.take k)).2.2 (s.drop k)).1, k + (runD (runD d (s.take k)).2.2 (s.drop k)).2.1, (runD (runD d (s.take k)).2.2 (s.drop k)).2.2) := by
  have e := runD_app d (s.take k) (s.drop k)
  rw [List.take_append_drop, if_neg h, List.length_take, Nat.min_eq_left hk] at e
  exact e

/-- What every decoder keeps that began at New. -/
structure Dec.Ok (d : Dec) : Prop where
  st : 0 ≤ d.st ∧ d.st ≤ 4
  size : 0 ≤ d.size ∧ d.size + d.left ≤ max d.most 0
  left : 0 ≤ d.left ∧ d.left < 4294967296
  data : d.st = 1 → 0 < d.left ∧ d.line = [] ∧ d.cr = false
  line : d.line.length ≤ 512
  tr : 0 ≤ d.tr ∧ d.tr ≤ 33
  wf : -9223372036854775808 ≤ d.most ∧ d.most ≤ 9223372036854775807
  ok : d.err = 0 → d.tr ≤ 32
theorem dec_new (m : Int) (h : -9223372036854775808 ≤ m) (h2 : m ≤ 9223372036854775807) : Dec.Ok { most := m } :=
  ⟨by simp, by simp; omega, by simp, fun h => by simp at h, by simp, by simp, ⟨h, h2⟩, fun _ => by simp⟩
theorem size_bound {l : List UInt8} {n : Int} (h : sizeL l = some n) : 0 ≤ n ∧ n < 4294967296 := by
  unfold sizeL at h
  split at h
  · rename_i hh
    injection h with h
    have h1 := hh.1
    subst h
    unfold hex number at h1 ⊢
    simp only [show ¬ ((15 : Int) < 8) by decide, if_false] at h1 ⊢
    split at h1
    · cases h1
    · rename_i hc
      rw [if_neg hc]
      simp only [not_or, Bool.not_eq_false] at hc
      obtain ⟨hc1, hc2, hc3⟩ := hc
      have hb := num_bound 16 (by decide) (cutB l 59).1 hc3
      have h16 : (16 : Int) ^ (cutB l 59).1.length ≤ 16 ^ 8 := by
        have : (cutB l 59).1.length ≤ 8 := by omega
        exact_mod_cast Nat.pow_le_pow_right (n := 16) (by decide) this
      have e8 : (16 : Int) ^ 8 = 4294967296 := by decide
      show 0 ≤ num 16 (cutB l 59).1 ∧ num 16 (cutB l 59).1 < 4294967296
      omega
  · cases h
/-- Each byte keeps it. -/
theorem ok_whole {d : Dec} (h : d.Ok) (he : d.err = 0) (h4 : d.st ≠ 4) (h1 : d.st ≠ 1) (hcr : d.cr = false) (hl : d.line = []) (l : List UInt8) : Dec.Ok { (wholeD d l).1 with err := (wholeD d l).2 } := by
  obtain ⟨a1, a2, a3, a4, a5, a6, a7, a8⟩ := h
  have a9 := a8 he
  unfold wholeD
  split
  · rename_i h0
    unfold sizedD
    split
    · exact ⟨a1, a2, a3, a4, a5, a6, a7, fun h => by simp at h⟩
    · rename_i n hn
      have hb := size_bound hn
      split
      · exact ⟨by simp, a2, a3, fun h => by simp at h, a5, a6, a7, fun _ => a9⟩
      · split
        · exact ⟨a1, a2, a3, a4, a5, a6, a7, fun h => by simp at h⟩
        · exact ⟨by simp, ⟨a2.1, by show d.size + n ≤ max d.most 0; omega⟩, ⟨hb.1, hb.2⟩, fun _ => ⟨by show 0 < n; omega, hl, hcr⟩, a5, a6, a7, fun _ => a9⟩
  · split
    · exact ⟨by simp, a2, a3, fun h => by simp at h, a5, a6, a7, fun _ => a9⟩
    · split
      · exact ⟨by simp, a2, a3, fun h => by simp at h, a5, a6, a7, fun _ => a9⟩
      · refine ⟨a1, a2, a3, a4, a5, ⟨by show 0 ≤ d.tr + 1; omega, by show d.tr + 1 ≤ 33; omega⟩, a7, fun h => ?_⟩
        show d.tr + 1 ≤ 32
        have h : (if fieldL l = none ∨ 32 < d.tr + 1 then (100 : Int) else 0) = 0 := h
        split at h
        · cases h
        · rename_i hh
          simp only [not_or] at hh
          omega
theorem ok_step {d : Dec} (h : d.Ok) (hn : ¬ (d.st = 4 ∨ d.err ≠ 0)) (c : UInt8) : (stepD d c).1.Ok := by
  simp only [not_or, Decidable.not_not] at hn
  obtain ⟨h4, he⟩ := hn
  unfold stepD
  split
  · rename_i h1
    obtain ⟨a1, a2, a3, a4, a5, a6, a7, a8⟩ := h
    obtain ⟨b1, b2, b3⟩ := a4 h1
    refine ⟨?_, ⟨by show 0 ≤ d.size + 1; omega, by show d.size + 1 + (d.left - 1) ≤ max d.most 0; omega⟩, ⟨by show 0 ≤ d.left - 1; omega, by show d.left - 1 < _; omega⟩, fun hh => ?_, a5, a6, a7, a8⟩
    · show 0 ≤ (if d.left = 1 then (2 : Int) else 1) ∧ (if d.left = 1 then (2 : Int) else 1) ≤ 4
      split <;> decide
    · have hh : (if d.left = 1 then (2 : Int) else 1) = 1 := hh
      split at hh
      · cases hh
      · exact ⟨by show 0 < d.left - 1; omega, b2, b3⟩
  · rename_i h1
    unfold takeD
    split
    · refine ok_whole (d := { d with line := [], cr := false }) ?_ he h4 h1 rfl rfl d.line
      obtain ⟨a1, a2, a3, a4, a5, a6, a7, a8⟩ := h
      exact ⟨a1, a2, a3, fun hh => absurd hh h1, by simp, a6, a7, a8⟩
    · obtain ⟨a1, a2, a3, a4, a5, a6, a7, a8⟩ := h
      have a9 := a8 he
      split
      · exact ⟨a1, a2, a3, a4, a5, a6, a7, fun hh => by simp at hh⟩
      · split
        · exact ⟨a1, a2, a3, fun hh => absurd hh h1, a5, a6, a7, fun _ => a9⟩
        · split
          · exact ⟨a1, a2, a3, a4, a5, a6, a7, fun hh => by simp at hh⟩
          · rename_i hb
            refine ⟨a1, a2, a3, fun hh => absurd hh h1, ?_, a6, a7, fun _ => a9⟩
            show (d.line ++ [c]).length ≤ 512
            rw [List.length_append]
            have : boundD d.st ≤ 512 := by unfold boundD; repeat' (first | decide | split)
            simp; omega
theorem ok_run {d : Dec} (h : d.Ok) (s : List UInt8) : (runD d s).2.2.Ok := by
  induction s generalizing d with
  | nil => exact h
  | cons c s ih =>
    by_cases h0 : d.st = 4 ∨ d.err ≠ 0
    · rw [runD_stop h0]; exact h
    · rw [runD_cons h0]; exact ih (ok_step h h0 c)
theorem run_most (d : Dec) (s : List UInt8) : (runD d s).2.2.most = d.most := by
  induction s generalizing d with
  | nil => rfl
  | cons c s ih =>
    by_cases h0 : d.st = 4 ∨ d.err ≠ 0
    · rw [runD_stop h0]
    · rw [runD_cons h0]
      refine (ih _).trans ?_
      unfold stepD takeD wholeD sizedD
      repeat' (first | rfl | split)
end Go.Proofs.YtgmjkkiahanekaaDoor

/- The iterator fields.all: for every list of fields and every name it gives the values of the fields of that name, in their order. -/
set_option linter.unusedVariables false
set_option linter.unusedSimpArgs false
namespace Go.Proofs.YtgmjkkiahanekaaDoor
open Go.RowKit Lex Go.Shelf
attribute [local go_sem] Oper.semAt_some

/-- A value of at most N bytes. -/
abbrev Val (N : Nat) := { v : List UInt8 // v.length ≤ N }
abbrev encV {N : Nat} (v : Val N) : Array Value := #[.string (bs v.1)]

theorem all_c (a : Option Addr) (n c : Nat) (name : ByteArray) (w : World) :
    Calls Tryd.prog 58 #[.slice a n c, .string name] w fun e w' => e = .returned (.func (.func 70) #[] #[.pointer (some ⟨w.heap.size, 0, none⟩), .pointer (some ⟨w.heap.size + 1, 0, none⟩)]) ∧ w' = (w.alloc (.cells #[.slice a n c] 37)).alloc (.cells #[.string name] 9) := by
  go_enter Tryd.func58, Tryd.ntmps58
  go_wp2
  go_ret
  exact ⟨rfl, rfl⟩

theorem abides_below {β : Type} {B : Nat} {J : β → World → Prop} (h : AbidesFrom B J) {s : β} {W W' : World} (hs : J s W) (hb : Below W.heap.size W W') : J s W' :=
  h s W W' none hs ⟨hb.os, hb.tape, hb.output, hb.size, fun k hk _ => hb.block k hk⟩ (fun r e => by cases e)

theorem held1 {w w1 : World} {a : Addr} {v : Value} (hb : Below w.heap.size w w1) (h : w.cell? a = some v) : w1.cell? a = some v := (hb.cell (World.block_lt_of_cell? w _ h)).trans h
theorem belowA {w w1 : World} {o : Obj} (hb : Below (w.alloc o).heap.size (w.alloc o) w1) : Below w.heap.size w w1 := ((Below.refl _ w).alloc (Nat.le_refl _) o).trans (hb.mono (by simp))
theorem cell_first (w : World) (a b : Value) (T : TypeId) : (w.alloc (.cells #[a, b] T)).cell? ⟨w.heap.size, 0, none⟩ = some a := by rw [World.cell?_alloc_new]; rfl
theorem cell_second (w : World) (a b : Value) (T : TypeId) : (w.alloc (.cells #[a, b] T)).cell? ⟨w.heap.size, 1, none⟩ = some b := by rw [World.cell?_alloc_new]; rfl

theorem flds_lt {w : World} {A : Option Addr} {fs : List Fd} (h : Flds w A fs) : ∀ g o, 0 < fs.length → A = some ⟨g, o, none⟩ → g < w.heap.size := by
  intro g o hl e
  obtain ⟨g', o', e', c, _⟩ := h 0 hl
  rw [e'] at e
  injection e with e; injection e with e1 _
  subst e1
  exact World.block_lt_of_cell? w _ c
/-- What a round keeps: what lay below n₀, and the box of the name. -/
def KpN (n₀ Bn : Nat) (W W' : World) : Prop := Below n₀ W W' ∧ ∀ v, W.cell? ⟨Bn, 0, none⟩ = some v → W'.cell? ⟨Bn, 0, none⟩ = some v
theorem KpN.t {n₀ Bn : Nat} {A B C : World} (h : KpN n₀ Bn A B) (k : KpN n₀ Bn B C) : KpN n₀ Bn A C := ⟨h.1.trans k.1, fun v hv => k.2 v (h.2 v hv)⟩
theorem KpN.b {n₀ Bn B : Nat} (hB : n₀ ≤ B) (W : World) (l : Nat) (o o' : Obj) (hl : B ≤ l) (ho : W.heap[l]? = some o) (hc : o.isCells = false) (hw : o.isWalk = false) : KpN n₀ Bn W (W.putObj l o') :=
  ⟨(Below.refl n₀ W).grown (grownBy_putObj' W l o') (by have := (Array.getElem?_eq_some_iff.1 ho).1; omega) (fun k e => by cases e; omega), fun v hv => cell_kept hv (grownBy_putObj' W l o') (fun r e => by cases e; exact ⟨o, ho, hc⟩)⟩

set_option maxRecDepth 100000 in
set_option maxHeartbeats 4000000 in
theorem all1_in (n : Nat) (hn : 1 ≤ n) (l Bs Bn n₀ N : Nat) (A : Option Addr) (cap : Nat) (fs : List Fd) (name : ByteArray) (hnm : name.size ≤ 140737488351232) (hl : fs.length ≤ 4398046511104) (hs1 : ∀ f ∈ fs, f.1.length ≤ 140737488351232) (hs2 : ∀ f ∈ fs, f.2.length ≤ N)
    (J Jx : List (Val N) → World → Prop)
    (hY : ∀ pre x W, J pre W → pre.length < fs.length → YieldAt Fence.wide (n - 1) Tryd.prog l (encV x) W fun e W' =>
      (e = .returned (.bool true) ∧ J (pre ++ [x]) W' ∧ KpN n₀ Bn W W') ∨ (e = .returned (.bool false) ∧ Jx (pre ++ [x]) W'))
    (W : World) (hn0 : n₀ ≤ W.heap.size) (hJ : AbidesFrom W.heap.size J) (hBs : W.cell? ⟨Bs, 0, none⟩ = some (.slice A fs.length cap)) (hBn : W.cell? ⟨Bn, 0, none⟩ = some (.string name)) (hF : Flds W A fs) (hFn : ∀ g o, 0 < fs.length → A = some ⟨g, o, none⟩ → g < n₀) (h0 : J [] W) :
    CallsIn Fence.wide n Tryd.prog 70 #[.func (.yield l) #[] #[], .pointer (some ⟨Bs, 0, none⟩), .pointer (some ⟨Bn, 0, none⟩)] W fun e W' => (∃ v, e = .returned v) ∧
      ((∃ ys, ys.map (·.1) = valuesF fs name.data.toList ∧ J ys W') ∨ (∃ pre, (pre.map (·.1) <+: valuesF fs name.data.toList) ∧ Jx pre W')) := by
  refine callsIn_of_wp Tryd.func70 rfl trivial ?_ rfl
  simp only [Tryd.ntmps70, List.size_toArray, List.length_cons, List.length_nil, Nat.reduceAdd, Nat.reduceSub, Array.replicate_succ, Array.replicate_zero, List.push_toArray, List.append_toArray, List.nil_append, List.cons_append]
  gi_wp2
  clear hBs
  gi_loopw [8] (fun i wr => ∃ (k : Nat) (pre : List (Val N)), k ≤ fs.length ∧ i = .int .i64 k ∧ pre.map (·.1) = valuesF (fs.take k) name.data.toList ∧ J pre wr ∧ Below n₀ W wr ∧ W.heap.size ≤ wr.heap.size ∧ wr.cell? ⟨Bn, 0, none⟩ = some (.string name))
    (fun i _ => fs.length - (intOf i).toNat)
  case atStart => exact ⟨0, [], Nat.zero_le _, rfl, rfl, h0, Below.refl _ _, Nat.le_refl _, hBn⟩
  case round =>
    obtain ⟨k, pre, hk, rfl, hpre, hJs, hnx, hsz, hcn⟩ := hrel
    by_cases hlt : k < fs.length
    · obtain ⟨g, o, hA, d1, d2⟩ := hF k hlt
      have hg := hFn g o (by omega) hA
      have c1 := (hnx.cell (p := ⟨g, o + k * 2, none⟩) hg).trans d1
      have c2 := (hnx.cell (p := ⟨g, o + k * 2 + 1, none⟩) hg).trans d2
      subst hA
      have AL := fun w => Lib.hid (alike_c (bs fs[k].1) name w (Nat.le_trans (hs1 _ (List.getElem_mem hlt)) (by decide)) (Nat.le_trans hnm (by decide)))
      have hvt := valuesF_take fs k hlt name.data.toList
      have hval := hs2 _ (List.getElem_mem hlt)
      have hbn : Bn < wr.heap.size := World.block_lt_of_cell? wr _ hcn
      have hpl : pre.length < fs.length := by
        have h1 := congrArg List.length hpre
        rw [List.length_map] at h1
        have h2 := valuesF_length (fs.take k) name.data.toList
        rw [List.length_take] at h2
        omega
      rw [bs_list] at AL
      have HP := Lib.hid hpre
      have HVT := Lib.hid hvt
      clear hpre hvt d1 d2
      cases hal : alike fs[k].1 name.data.toList with
      | false =>
        rw [hal] at AL HVT
        gi_wp2_with fail
        refine ⟨trivial, ?_⟩
        refine (callsIn_wide.2 (AL _).out).mono ?_
        rintro e w1 ⟨rfl, hb1⟩
        have HB1 := Lib.hid hb1
        clear hb1
        gi_wp2_with fail
        refine ⟨fun _ h => (by cases h), ?_⟩
        gi_wp2
        go_roundw
        case rel => exact ⟨k + 1, pre, by omega, by go_num, by rw [HVT.out, HP.out]; simp, abides_below (W := wr) hJ hJs (belowA HB1.out), hnx.trans ((belowA HB1.out).mono (by omega)), by have := (belowA HB1.out).size; omega, held1 (belowA HB1.out) hcn⟩
        case measure => simp [intOf]; omega
      | true =>
        rw [hal] at AL HVT
        gi_wp2_with fail
        refine ⟨trivial, ?_⟩
        refine (callsIn_wide.2 (AL _).out).mono ?_
        rintro e w1 ⟨rfl, hb1⟩
        have hj1 := abides_below (W := wr) hJ hJs (belowA hb1)
        have hz1 := (belowA hb1).size
        have hb2 := hnx.trans ((belowA hb1).mono (by omega))
        have hcn1 := held1 (belowA hb1) hcn
        have hcf := held1 hb1 (cell_second wr (.string (bs fs[k].1)) (.string (bs fs[k].2)) 79)
        clear hb1
        obtain ⟨fn, tmps, assign, body, hy, hR⟩ := hY pre ⟨fs[k].2, hval⟩ w1 hj1 hpl
        dsimp only [encV] at hy
        gi_wp2
        refine hR.mono ?_
        rintro e W3 (⟨rfl, hJ3, hk3⟩ | ⟨rfl, hJx3⟩)
        · gi_wp2
          go_roundw
          case rel => exact ⟨k + 1, pre ++ [⟨fs[k].2, hval⟩], by omega, by go_num, by rw [HVT.out, List.map_append, HP.out]; simp, hJ3, hb2.trans hk3.1, by have := hk3.1.size; omega, hk3.2 _ hcn1⟩
          case measure => simp [intOf]; omega
        · gi_wp2
          refine bodyPost_ret (results_none rfl _ _ _) rfl ?_
          exact ⟨⟨_, rfl⟩, .inr ⟨pre ++ [⟨fs[k].2, hval⟩], by
            have h := valuesF_prefix fs (k + 1) name.data.toList
            rw [HVT.out] at h
            rw [List.map_append, HP.out]; simpa using h, hJx3⟩⟩
    · obtain rfl : k = fs.length := by omega
      rw [List.take_length] at hpre
      gi_wp2
      go_end0
      exact ⟨⟨_, rfl⟩, .inl ⟨pre, hpre, hJs⟩⟩

theorem all_stops (n : Nat) (hn : 1 ≤ n) (Bs Bn n₀ N : Nat) (A : Option Addr) (cap : Nat) (fs : List Fd) (name : ByteArray) (hnm : name.size ≤ 140737488351232) (hl : fs.length ≤ 4398046511104) (hs1 : ∀ f ∈ fs, f.1.length ≤ 140737488351232) (hs2 : ∀ f ∈ fs, f.2.length ≤ N)
    (w : World) (hn0 : n₀ ≤ w.heap.size) (hBs : w.cell? ⟨Bs, 0, none⟩ = some (.slice A fs.length cap)) (hBn : w.cell? ⟨Bn, 0, none⟩ = some (.string name)) (hF : Flds w A fs) (hFn : ∀ g o, 0 < fs.length → A = some ⟨g, o, none⟩ → g < n₀) :
    SeqStopsK Fence.wide n Tryd.prog 70 #[.pointer (some ⟨Bs, 0, none⟩), .pointer (some ⟨Bn, 0, none⟩)] (encV (N := N)) (KpN n₀ Bn) (fun ys => ys.map (·.1) = valuesF fs name.data.toList) (fun pre => pre.map (·.1) <+: valuesF fs name.data.toList) fs.length w :=
  fun l J Jx W hW hJ hJx hY h0 => (all1_in n hn l Bs Bn n₀ N A cap fs name hnm hl hs1 hs2 J Jx hY W (Nat.le_trans hn0 hW.size) hJ (held1 hW hBs) (held1 hW hBn) (hF.below hW) hFn h0).mono
    fun e W' ⟨he, h⟩ => ⟨he, h.elim (fun ⟨ys, h1, h2⟩ => .inl ⟨ys, h1, h2⟩) (fun ⟨pre, h1, h2⟩ => .inr ⟨pre, h1, h2⟩)⟩
end Go.Proofs.YtgmjkkiahanekaaDoor

