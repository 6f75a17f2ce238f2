/- Plain words of layer 8 over lists of bytes: lines, versions, start and status lines, fields' lines, heads; no program in sight. -/
import Derived.Test.YtjbmipbjlhcooaaDoorPathF
import Derived.Test.YtjbmipbjlhcooaaDoorPathE
import Derived.Test.YtjbmipbjlhcooaaDoorLexH
import Derived.Test.YtjbmipbjlhcooaaDoorFldA
set_option linter.unusedVariables false
set_option linter.unusedSimpArgs false
namespace Go.Proofs.YtjbmipbjlhcooaaDoor
open Lex

/-- The line that begins a text: the line, or none and the error; room: how many bytes it may have. -/
def lineL (over : Int) : Nat → List UInt8 → Option (List UInt8) × Int
  | _, [] => (none, 0)
  | room, c :: r =>
    if c = 10 then (none, 80)
    else if c = 13 then (if r = [] then (none, 0) else if r.head? = some 10 then (some [], 0) else (none, 80))
    else match room with
      | 0 => (none, over)
      | room + 1 => ((lineL over room r).1.map (c :: ·), (lineL over room r).2)
def httpV : List UInt8 := [72, 84, 84, 80, 47]
/-- The minor digit and the error. -/
def versionL (s : List UInt8) : Int × Int :=
  if s.length = 8 ∧ s.take 5 = httpV ∧ s[6]? = some 46 then
    (match s[5]?, s[7]? with
    | some a, some b => if digit a = true ∧ digit b = true then (if a = 49 then ((b.toNat : Int) - 48, 0) else (0, 81)) else (0, 80)
    | _, _ => (0, 80))
  else (0, 80)
def tchar (c : UInt8) : Bool := decide (33 ≤ (c.toNat : Int)) && decide ((c.toNat : Int) ≤ 126)
structure Hd where
  method : List UInt8 := []
  target : List UInt8 := []
  status : Int := 0
  reason : List UInt8 := []
  minor : Int := 0
  fields : List Fd := []
/-- A start line. -/
def startL (l : List UInt8) : Hd × Int :=
  match pieces 32 l with
  | [a, b, c] => if token a = true ∧ a.length ≤ 16 ∧ b ≠ [] ∧ b.all tchar = true then (if (versionL c).2 = 0 then ({ method := a, target := b, minor := (versionL c).1 }, 0) else ({}, (versionL c).2)) else ({}, 80)
  | _ => ({}, 80)
/-- A status line. -/
def statusL (l : List UInt8) : Hd × Int :=
  if l.length < 12 ∨ l[8]? ≠ some 32 ∨ (12 < l.length ∧ l[12]? ≠ some 32) then ({}, 80)
  else if (decimal ((l.drop 9).take 3) 3).2 = true ∧ 100 ≤ (decimal ((l.drop 9).take 3) 3).1 ∧ (decimal ((l.drop 9).take 3) 3).1 ≤ 599 then
    (if (l.drop 13).all okv = true then
      (if (versionL (l.take 8)).2 = 0 then ({ status := (decimal ((l.drop 9).take 3) 3).1, reason := l.drop 13, minor := (versionL (l.take 8)).1 }, 0) else ({}, (versionL (l.take 8)).2))
    else ({}, 80))
  else ({}, 80)
/-- A field's line. -/
def fieldL (l : List UInt8) : Option Fd :=
  if (cutB l 58).2.2 = true ∧ token (cutB l 58).1 = true ∧ (trim (cutB l 58).2.1).all okv = true then some ((cutB l 58).1, trim (cutB l 58).2.1) else none
/-- The fields' lines: the fields and how many bytes they have, with the empty line; room: how many fields more. -/
def fieldsL : Nat → List UInt8 → Option (List Fd × Nat) × Int
  | 0, d => match lineL 83 512 d with
    | (none, e) => (none, e)
    | (some l, _) => if l = [] then (some ([], 2), 0) else (none, 83)
  | room + 1, d => match lineL 83 512 d with
    | (none, e) => (none, e)
    | (some l, _) => if l = [] then (some ([], 2), 0) else
      match fieldL l with
      | none => (none, 70)
      | some f => ((fieldsL room (d.drop (l.length + 2))).1.map fun x => (f :: x.1, x.2 + (l.length + 2)), (fieldsL room (d.drop (l.length + 2))).2)
/-- The empty lines ahead. -/
def ahead : List UInt8 → Nat
  | 13 :: 10 :: r => 1 + ahead r
  | _ => 0
/-- A head from its first line on: the head and the bytes used (0: none), the error. -/
def readAt (first : List UInt8 → Hd × Int) (d : List UInt8) : Hd × Nat × Int :=
  match lineL 82 1100 d with
  | (none, e) => ({}, 0, e)
  | (some l, _) => if (first l).2 ≠ 0 then ({}, 0, (first l).2) else
    match fieldsL 32 (d.drop (l.length + 2)) with
    | (none, e) => ({}, 0, e)
    | (some (fs, n), _) => ({ (first l).1 with fields := fs }, n + (l.length + 2), 0)
def readL (skip : Bool) (first : List UInt8 → Hd × Int) (d : List UInt8) : Hd × Nat × Int :=
  let k := if skip then 2 * ahead d else 0
  ((readAt first (d.drop k)).1, (if (readAt first (d.drop k)).2.1 = 0 then 0 else (readAt first (d.drop k)).2.1 + k), (readAt first (d.drop k)).2.2)

/-! ### lines -/
theorem lineL_nil (over : Int) (room : Nat) : lineL over room [] = (none, 0) := by cases room <;> rfl
theorem lineL_10 (over : Int) (room : Nat) (r : List UInt8) : lineL over room (10 :: r) = (none, 80) := by cases room <;> rfl
theorem lineL_13 (over : Int) (room : Nat) (r : List UInt8) : lineL over room (13 :: r) = if r = [] then (none, 0) else if r.head? = some 10 then (some [], 0) else (none, 80) := by cases room <;> rfl
theorem lineL_over (over : Int) {c : UInt8} (r : List UInt8) (h1 : c ≠ 10) (h2 : c ≠ 13) : lineL over 0 (c :: r) = (none, over) := by
  simp only [lineL]; rw [if_neg h1, if_neg h2]
theorem lineL_step (over : Int) {c : UInt8} (room : Nat) (r : List UInt8) (h1 : c ≠ 10) (h2 : c ≠ 13) : lineL over (room + 1) (c :: r) = ((lineL over room r).1.map (c :: ·), (lineL over room r).2) := by
  simp only [lineL]; rw [if_neg h1, if_neg h2]
/-- A byte of a line. -/
def lb (c : UInt8) : Bool := decide (c ≠ 10) && decide (c ≠ 13)
theorem lineL_app (over : Int) : ∀ (a : List UInt8) (room : Nat) (r : List UInt8), a.all lb = true → a.length ≤ room → lineL over room (a ++ r) = ((lineL over (room - a.length) r).1.map (a ++ ·), (lineL over (room - a.length) r).2)
  | [], room, r, _, _ => by simp
  | c :: a, room, r, h, hl => by
    simp only [List.all_cons, Bool.and_eq_true, lb, decide_eq_true_eq] at h
    simp only [List.length_cons] at hl
    obtain ⟨room, rfl⟩ : ∃ q, room = q + 1 := ⟨room - 1, by omega⟩
    rw [List.cons_append, lineL_step over room _ h.1.1 h.1.2, lineL_app over a room r (by simpa [lb] using h.2) (by omega)]
    rw [show room + 1 - (c :: a).length = room - a.length by simp]
    cases (lineL over (room - a.length) r).1 <;> simp
/-- What a line can be. -/
theorem lineL_cases (over : Int) (room : Nat) (d : List UInt8) :
    (∃ l r, d = l ++ 13 :: 10 :: r ∧ l.all lb = true ∧ l.length ≤ room ∧ lineL over room d = (some l, 0)) ∨
    (d.all lb = true ∧ d.length ≤ room ∧ lineL over room d = (none, 0)) ∨
    (∃ a, d = a ++ [13] ∧ a.all lb = true ∧ a.length ≤ room ∧ lineL over room d = (none, 0)) ∨
    (∃ a r, d = a ++ 10 :: r ∧ a.all lb = true ∧ a.length ≤ room ∧ lineL over room d = (none, 80)) ∨
    (∃ a c r, d = a ++ 13 :: c :: r ∧ c ≠ 10 ∧ a.all lb = true ∧ a.length ≤ room ∧ lineL over room d = (none, 80)) ∨
    (∃ a c r, d = a ++ c :: r ∧ lb c = true ∧ a.all lb = true ∧ a.length = room ∧ lineL over room d = (none, over)) := by
  induction d generalizing room with
  | nil => exact .inr (.inl ⟨rfl, Nat.zero_le _, lineL_nil over room⟩)
  | cons c r ih =>
    by_cases h10 : c = 10
    · subst h10
      exact .inr (.inr (.inr (.inl ⟨[], r, rfl, rfl, Nat.zero_le _, lineL_10 over room r⟩)))
    · by_cases h13 : c = 13
      · subst h13
        rw [lineL_13]
        cases r with
        | nil => exact .inr (.inr (.inl ⟨[], rfl, rfl, Nat.zero_le _, rfl⟩))
        | cons x r =>
          rw [if_neg (by simp)]
          by_cases hx : x = 10
          · subst hx
            exact .inl ⟨[], r, rfl, rfl, Nat.zero_le _, by simp⟩
          · rw [if_neg (by simpa using hx)]
            exact .inr (.inr (.inr (.inr (.inl ⟨[], x, r, rfl, hx, rfl, Nat.zero_le _, rfl⟩))))
      · have hlb : lb c = true := by simp [lb, h10, h13]
        cases room with
        | zero => exact .inr (.inr (.inr (.inr (.inr ⟨[], c, r, rfl, hlb, rfl, rfl, lineL_over over r h10 h13⟩))))
        | succ room =>
          rw [lineL_step over room r h10 h13]
          have cs : ∀ a : List UInt8, a.all lb = true → (c :: a).all lb = true := fun a ha => by rw [List.all_cons, hlb, ha]; rfl
          rcases ih room with ⟨l, t, rfl, h1, h2, h3⟩ | ⟨h1, h2, h3⟩ | ⟨a, rfl, h1, h2, h3⟩ | ⟨a, t, rfl, h1, h2, h3⟩ | ⟨a, x, t, rfl, hx, h1, h2, h3⟩ | ⟨a, x, t, rfl, hx, h1, h2, h3⟩
          · rw [h3]; exact .inl ⟨c :: l, t, rfl, cs l h1, by simp; omega, rfl⟩
          · rw [h3]; exact .inr (.inl ⟨cs r h1, by simp; omega, rfl⟩)
          · rw [h3]; exact .inr (.inr (.inl ⟨c :: a, rfl, cs a h1, by simp; omega, rfl⟩))
          · rw [h3]; exact .inr (.inr (.inr (.inl ⟨c :: a, t, rfl, cs a h1, by simp; omega, rfl⟩)))
          · rw [h3]; exact .inr (.inr (.inr (.inr (.inl ⟨c :: a, x, t, rfl, hx, cs a h1, by simp; omega, rfl⟩))))
          · rw [h3]; exact .inr (.inr (.inr (.inr (.inr ⟨c :: a, x, t, rfl, hx, cs a h1, by simp; omega, rfl⟩))))
theorem lineL_at {over : Int} {room : Nat} {l r : List UInt8} (h : l.all lb = true) (hl : l.length ≤ room) : lineL over room (l ++ 13 :: 10 :: r) = (some l, 0) := by
  rw [lineL_app over l room _ h hl, lineL_13]; simp
theorem lineL_some {over : Int} {room : Nat} {d l : List UInt8} {e : Int} (h : lineL over room d = (some l, e)) : ∃ r, d = l ++ 13 :: 10 :: r ∧ l.all lb = true ∧ l.length ≤ room ∧ e = 0 := by
  rcases lineL_cases over room d with ⟨l', r, rfl, h1, h2, h3⟩ | ⟨h1, h2, h3⟩ | ⟨a, rfl, h1, h2, h3⟩ | ⟨a, t, rfl, h1, h2, h3⟩ | ⟨a, x, t, rfl, hx, h1, h2, h3⟩ | ⟨a, x, t, rfl, hx, h1, h2, h3⟩
  · rw [h3] at h; injection h with h4 h5; injection h4 with h4; subst h4; exact ⟨r, rfl, h1, h2, h5.symm⟩
  all_goals rw [h3] at h; injection h with h4 _; cases h4
/-- What has been told of a line stays so. -/
theorem lineL_more {over : Int} {room : Nat} {d : List UInt8} (t : List UInt8) (h : lineL over room d ≠ (none, 0)) : lineL over room (d ++ t) = lineL over room d := by
  rcases lineL_cases over room d with ⟨l', r, rfl, h1, h2, h3⟩ | ⟨h1, h2, h3⟩ | ⟨a, rfl, h1, h2, h3⟩ | ⟨a, r, rfl, h1, h2, h3⟩ | ⟨a, x, r, rfl, hx, h1, h2, h3⟩ | ⟨a, x, r, rfl, hx, h1, h2, h3⟩
  · rw [h3]
    rw [List.append_assoc]; exact lineL_at h1 h2
  · exact absurd h3 h
  · exact absurd h3 h
  · rw [h3, List.append_assoc, lineL_app over a room _ h1 h2, List.cons_append, lineL_10]; rfl
  · rw [h3, List.append_assoc, lineL_app over a room _ h1 h2, List.cons_append, List.cons_append, lineL_13, if_neg (by simp), if_neg (by simpa using hx)]; rfl
  · simp only [lb, Bool.and_eq_true, decide_eq_true_eq] at hx
    rw [h3, List.append_assoc, lineL_app over a room _ h1 (by omega), List.cons_append, show room - a.length = 0 by omega, lineL_over over _ hx.1 hx.2]; rfl
/-- Cut short, a line isn't whole, and is no error. -/
theorem lineL_cut {over : Int} {room : Nat} {l r : List UInt8} (h : l.all lb = true) (hl : l.length ≤ room) {k : Nat} (hk : k < l.length + 2) : lineL over room ((l ++ 13 :: 10 :: r).take k) = (none, 0) := by
  by_cases h1 : k ≤ l.length
  · rw [List.take_append_of_le_length h1]
    have h2 : (l.take k).all lb = true := by
      rw [List.all_eq_true] at h ⊢
      exact fun x hx => h x (List.mem_of_mem_take hx)
    have := lineL_app over (l.take k) room [] h2 (by rw [List.length_take]; omega)
    rw [List.append_nil, lineL_nil] at this
    exact this
  · have hk : k = l.length + 1 := by omega
    subst hk
    rw [List.take_append, List.take_of_length_le (by omega), show l.length + 1 - l.length = 1 by omega]
    rw [lineL_app over l room _ h hl]
    rw [show List.take 1 (13 :: 10 :: r) = [13] from rfl, lineL_13]; simp

/-! ### steadiness -/
theorem fieldsL_none {room : Nat} {d : List UInt8} {e : Int} (h : lineL 83 512 d = (none, e)) : fieldsL room d = (none, e) := by cases room <;> simp only [fieldsL, h]
theorem fieldsL_end {room : Nat} {d : List UInt8} {e : Int} (h : lineL 83 512 d = (some [], e)) : fieldsL room d = (some ([], 2), 0) := by cases room <;> simp only [fieldsL, h, if_true]
theorem fieldsL_large {d l : List UInt8} {e : Int} (h : lineL 83 512 d = (some l, e)) (hl : l ≠ []) : fieldsL 0 d = (none, 83) := by simp only [fieldsL, h, if_neg hl]
theorem fieldsL_bad {room : Nat} {d l : List UInt8} {e : Int} (h : lineL 83 512 d = (some l, e)) (hl : l ≠ []) (hf : fieldL l = none) : fieldsL (room + 1) d = (none, 70) := by simp only [fieldsL, h, if_neg hl, hf]
theorem fieldsL_step {room : Nat} {d l : List UInt8} {e : Int} {f : Fd} (h : lineL 83 512 d = (some l, e)) (hl : l ≠ []) (hf : fieldL l = some f) :
    fieldsL (room + 1) d = ((fieldsL room (d.drop (l.length + 2))).1.map fun x => (f :: x.1, x.2 + (l.length + 2)), (fieldsL room (d.drop (l.length + 2))).2) := by simp only [fieldsL, h, if_neg hl, hf]
theorem drop_line (l r : List UInt8) : (l ++ 13 :: 10 :: r).drop (l.length + 2) = r := by
  rw [← List.drop_drop, List.drop_left]; rfl
theorem fieldsL_more (room : Nat) : ∀ (d t : List UInt8), fieldsL room d ≠ (none, 0) → fieldsL room (d ++ t) = fieldsL room d := by
  induction room with
  | zero =>
    intro d t h
    cases hl : lineL 83 512 d with
    | mk o e =>
      have hne : lineL 83 512 d ≠ (none, 0) := fun h2 => h (fieldsL_none h2)
      have hm := lineL_more t hne
      rw [hl] at hm
      cases o with
      | none => rw [fieldsL_none hl, fieldsL_none hm]
      | some l =>
        by_cases h0 : l = []
        · subst h0; rw [fieldsL_end hl, fieldsL_end hm]
        · rw [fieldsL_large hl h0, fieldsL_large hm h0]
  | succ room ih =>
    intro d t h
    cases hl : lineL 83 512 d with
    | mk o e =>
      have hne : lineL 83 512 d ≠ (none, 0) := fun h2 => h (fieldsL_none h2)
      have hm := lineL_more t hne
      rw [hl] at hm
      cases o with
      | none => rw [fieldsL_none hl, fieldsL_none hm]
      | some l =>
        by_cases h0 : l = []
        · subst h0; rw [fieldsL_end hl, fieldsL_end hm]
        · cases hf : fieldL l with
          | none => rw [fieldsL_bad hl h0 hf, fieldsL_bad hm h0 hf]
          | some f =>
            rw [fieldsL_step hl h0 hf, fieldsL_step hm h0 hf]
            rw [fieldsL_step hl h0 hf] at h
            obtain ⟨r, rfl, _⟩ := lineL_some hl
            rw [List.append_assoc, List.cons_append, List.cons_append, drop_line, drop_line]
            rw [drop_line] at h
            rw [ih r t (fun h2 => h (by rw [h2]; rfl))]
/-- What is used: all bytes of the fields' lines, and cut short they aren't whole. -/
theorem fieldsL_used (room : Nat) : ∀ {d : List UInt8} {fs : List Fd} {n : Nat} {e : Int}, fieldsL room d = (some (fs, n), e) → 2 ≤ n ∧ n ≤ d.length ∧ fs.length ≤ room ∧ e = 0 ∧ (∀ k, k < n → fieldsL room (d.take k) = (none, 0)) ∧ fieldsL room (d.take n) = (some (fs, n), e) := by
  induction room with
  | zero =>
    intro d fs n e h
    cases hl : lineL 83 512 d with
    | mk o e' =>
      cases o with
      | none => rw [fieldsL_none hl] at h; injection h with h; cases h
      | some l =>
        by_cases h0 : l = []
        · subst h0
          rw [fieldsL_end hl] at h
          injection h with h h2; injection h with h; injection h with h3 h4
          subst h3 h4 h2
          obtain ⟨r, rfl, ha, hb, _⟩ := lineL_some hl
          refine ⟨Nat.le_refl _, by simp, Nat.le_refl _, rfl, fun k hk => fieldsL_none (lineL_cut ha hb (by simpa using hk)), ?_⟩
          exact fieldsL_end (e := 0) rfl
        · rw [fieldsL_large hl h0] at h; injection h with h; cases h
  | succ room ih =>
    intro d fs n e h
    cases hl : lineL 83 512 d with
    | mk o e' =>
      cases o with
      | none => rw [fieldsL_none hl] at h; injection h with h; cases h
      | some l =>
        by_cases h0 : l = []
        · subst h0
          rw [fieldsL_end hl] at h
          injection h with h h2; injection h with h; injection h with h3 h4
          subst h3 h4 h2
          obtain ⟨r, rfl, ha, hb, _⟩ := lineL_some hl
          refine ⟨Nat.le_refl _, by simp, Nat.zero_le _, rfl, fun k hk => fieldsL_none (lineL_cut ha hb (by simpa using hk)), ?_⟩
          exact fieldsL_end (e := 0) rfl
        · cases hf : fieldL l with
          | none => rw [fieldsL_bad hl h0 hf] at h; injection h with h; cases h
          | some f =>
            obtain ⟨r, rfl, ha, hb, _⟩ := lineL_some hl
            rw [fieldsL_step hl h0 hf, drop_line] at h
            cases hq : fieldsL room r with
            | mk o2 e2 =>
              rw [hq] at h
              cases o2 with
              | none => injection h with h; cases h
              | some x =>
                obtain ⟨gs, q⟩ := x
                injection h with h h2
                simp only [Option.map_some, Option.some.injEq, Prod.mk.injEq] at h
                obtain ⟨rfl, rfl⟩ := h
                simp only at h2
                subst h2
                obtain ⟨i1, i2, i3, i4, i5, i6⟩ := ih hq
                refine ⟨by omega, by simp; omega, by simp; omega, i4, fun k hk => ?_, ?_⟩
                · by_cases hk2 : k < l.length + 2
                  · exact fieldsL_none (lineL_cut ha hb hk2)
                  · have et : (l ++ 13 :: 10 :: r).take k = l ++ 13 :: 10 :: r.take (k - (l.length + 2)) := by
                      rw [List.take_append, List.take_of_length_le (by omega)]
                      obtain ⟨j, hj⟩ : ∃ j, k - l.length = j + 2 := ⟨k - l.length - 2, by omega⟩
                      rw [hj, show k - (l.length + 2) = j by omega]; rfl
                    rw [et, fieldsL_step (lineL_at ha hb) h0 hf, drop_line, i5 _ (by omega)]; rfl
                · have et : (l ++ 13 :: 10 :: r).take (q + (l.length + 2)) = l ++ 13 :: 10 :: r.take q := by
                    rw [List.take_append, List.take_of_length_le (by omega), show q + (l.length + 2) - l.length = q + 2 by omega]; rfl
                  rw [et, fieldsL_step (lineL_at ha hb) h0 hf, drop_line, i6]; rfl
end Go.Proofs.YtjbmipbjlhcooaaDoor
