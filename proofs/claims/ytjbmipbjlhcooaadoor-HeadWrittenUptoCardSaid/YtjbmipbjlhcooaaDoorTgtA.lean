/- Plain words of layer 6 over lists of bytes: hosts, authorities, targets, and what the laws ask of them; no program in sight. -/
import Derived.Test.YtjbmipbjlhcooaaDoorPathN
import Derived.Test.YtjbmipbjlhcooaaDoorLexH
import Derived.Lib.IndexMore
import Derived.Lib.IndexAny
set_option linter.unusedVariables false
set_option linter.unusedSimpArgs false
namespace Go.Proofs.YtjbmipbjlhcooaaDoor
open Lex

def alnumI (n : Int) : Bool := decide (97 ≤ n) && decide (n ≤ 122) || decide (48 ≤ n) && decide (n ≤ 57)
def alnumB (c : UInt8) : Bool := alnumI c.toNat
def hostC (c : UInt8) : Bool := alnumB c || decide ((c.toNat : Int) = 45) || decide ((c.toNat : Int) = 46)
/-- Two dots in a row. -/
def dotted : List UInt8 → Bool
  | a :: b :: r => (decide ((a.toNat : Int) = 46) && decide ((b.toNat : Int) = 46)) || dotted (b :: r)
  | _ => false
def hostB (l : List UInt8) : Bool := decide (l ≠ []) && decide (l.length ≤ 64) && ((l.head?.map alnumB).getD false) && ((l.getLast?.map alnumB).getD false) && !dotted l && l.all hostC

theorem prefix_dots (a : UInt8) (r : List UInt8) : ([46, 46] : List UInt8).isPrefixOf (a :: r) = (decide ((a.toNat : Int) = 46) && ((r.head?.map fun b => decide ((b.toNat : Int) = 46)).getD false)) := by
  have h46 : ∀ c : UInt8, ((46 : UInt8) == c) = decide ((c.toNat : Int) = 46) := by
    intro c; rw [Bool.eq_iff_iff, beq_iff_eq, decide_eq_true_eq, ← UInt8.toNat_inj]; simp only [UInt8.reduceToNat]; omega
  cases r with
  | nil => simp [List.isPrefixOf]
  | cons b r => simp [List.isPrefixOf, h46]
theorem contains_dots (l : List UInt8) : Lib.contains l [46, 46] = dotted l := by
  unfold Lib.contains
  induction l with
  | nil => decide
  | cons a r ih =>
    have hge := Lib.index_ge r [46, 46]
    cases r with
    | nil => unfold Lib.index; rw [prefix_dots]; simp [dotted, Lib.index]
    | cons b r =>
      unfold Lib.index
      rw [show ([46, 46] : List UInt8).isPrefixOf (a :: b :: r) = (decide ((a.toNat : Int) = 46) && decide ((b.toNat : Int) = 46)) from prefix_dots a (b :: r)]
      unfold dotted
      by_cases h : (decide ((a.toNat : Int) = 46) && decide ((b.toNat : Int) = 46)) = true
      · rw [if_pos h, h]; rfl
      · rw [if_neg h, Bool.eq_false_iff.2 h, Bool.false_or, ← ih]
        by_cases h1 : Lib.index (b :: r) [46, 46] = -1
        · rw [if_pos (by rw [h1]; rfl), h1]
        · rw [if_neg (by simpa using h1)]
          rw [Bool.eq_iff_iff, decide_eq_true_eq, decide_eq_true_eq]; omega

/-- What an authority is: the host and the port. -/
def authB (l : List UInt8) : Option (List UInt8 × Int) :=
  if hostB (lower (cutB l 58).1) = false then none
  else if (cutB l 58).2.2 = false then some (lower (cutB l 58).1, 0)
  else if (decimal (cutB l 58).2.1 5).2 = true ∧ 1 ≤ (decimal (cutB l 58).2.1 5).1 ∧ (decimal (cutB l 58).2.1 5).1 ≤ 65535 then some (lower (cutB l 58).1, (decimal (cutB l 58).2.1 5).1) else none

structure Tg where
  form : Int := 0
  host : List UInt8 := []
  port : Int := 0
  path : List UInt8 := []
  query : List UInt8 := []
  has : Bool := false
def badQ (c : UInt8) : Bool := decide ((c.toNat : Int) < 33) || decide (126 < (c.toNat : Int)) || decide ((c.toNat : Int) = 35)
/-- A target, or the error's number. -/
def localT (t : Tg) (s : List UInt8) : Tg × Int :=
  match normal (cutB s 63).1 with
  | none => ({}, 50)
  | some p => if (cutB s 63).2.1.any badQ then ({}, 60) else ({ t with path := p, query := (cutB s 63).2.1, has := (cutB s 63).2.2 }, 0)
def httpL : List UInt8 := [104, 116, 116, 112, 58, 47, 47]
def connectL : List UInt8 := [67, 79, 78, 78, 69, 67, 84]
def optionsL : List UInt8 := [79, 80, 84, 73, 79, 78, 83]
/-- The place of the first slash or question mark, or the length. -/
def endT (s : List UInt8) : Nat := if Lib.indexAny s [47, 63] < 0 then s.length else (Lib.indexAny s [47, 63]).toNat
def absT (s : List UInt8) : Tg × Int :=
  match authB (s.take (endT s)) with
  | none => ({}, 61)
  | some (h, p) => localT { form := 2, host := h, port := p } (if (s.drop (endT s)).head? = some 47 then s.drop (endT s) else 47 :: s.drop (endT s))
def parseT (method s : List UInt8) : Tg × Int :=
  if method = connectL then (match authB s with
    | none => ({}, 60)
    | some (h, p) => if p = 0 then ({}, 60) else ({ form := 3, host := h, port := p }, 0))
  else if s = [42] ∧ method = optionsL then ({ form := 4 }, 0)
  else if s.head? = some 47 then localT { form := 1 } s
  else if 7 ≤ s.length ∧ alike (s.take 7) httpL = true then absT (s.drop 7)
  else ({}, 60)
def originT (t : Tg) : List UInt8 := if t.form = 4 then [42] else if t.form ≠ 1 ∧ t.form ≠ 2 then [] else if t.has = true then t.path ++ 63 :: t.query else t.path

/-! ### cuts -/
theorem indexByte_at {l r : List UInt8} {c : UInt8} (h : ∀ x ∈ l, x ≠ c) : Lib.indexByte (l ++ c :: r) c = l.length := by
  induction l with
  | nil => simp [Lib.indexByte]
  | cons a l ih =>
    have ha : (a == c) = false := by simpa using h a (by simp)
    have := ih (fun x hx => h x (by simp [hx]))
    simp only [List.cons_append, Lib.indexByte, ha, this]
    rw [if_neg (by simp), if_neg (by simp; try omega)]; simp
theorem indexByte_no {l : List UInt8} {c : UInt8} (h : ∀ x ∈ l, x ≠ c) : Lib.indexByte l c = -1 := by
  induction l with
  | nil => rfl
  | cons a l ih =>
    have ha : (a == c) = false := by simpa using h a (by simp)
    simp only [Lib.indexByte, ha, ih (fun x hx => h x (by simp [hx]))]; rfl
theorem cutB_at {l r : List UInt8} {c : UInt8} (h : ∀ x ∈ l, x ≠ c) : cutB (l ++ c :: r) c = (l, r, true) := by
  unfold cutB
  rw [indexByte_at h, if_pos (by omega)]
  simp
theorem cutB_no {l : List UInt8} {c : UInt8} (h : ∀ x ∈ l, x ≠ c) : cutB l c = (l, [], false) := by
  unfold cutB
  rw [indexByte_no h, if_neg (by omega)]
theorem cutB_cases (l : List UInt8) (c : UInt8) : (∃ a r, l = a ++ c :: r ∧ (∀ x ∈ a, x ≠ c) ∧ cutB l c = (a, r, true)) ∨ ((∀ x ∈ l, x ≠ c) ∧ cutB l c = (l, [], false)) := by
  induction l with
  | nil => right; exact ⟨by simp, rfl⟩
  | cons b l ih =>
    by_cases hb : b = c
    · subst hb
      left; exact ⟨[], l, rfl, by simp, cutB_at (l := []) (by simp)⟩
    · rcases ih with ⟨a, r, rfl, h1, _⟩ | ⟨h1, _⟩
      · left
        have h2 : ∀ x ∈ b :: a, x ≠ c := by
          intro x hx
          rcases List.mem_cons.1 hx with rfl | hx
          · exact hb
          · exact h1 x hx
        exact ⟨b :: a, r, rfl, h2, cutB_at h2⟩
      · right
        have h2 : ∀ x ∈ b :: l, x ≠ c := by
          intro x hx
          rcases List.mem_cons.1 hx with rfl | hx
          · exact hb
          · exact h1 x hx
        exact ⟨h2, cutB_no h2⟩

/-! ### hosts and authorities -/
theorem hostC_no58 {c : UInt8} (h : hostC c = true) : c ≠ 58 ∧ lowB c = c := by
  have key : ∀ c : Fin 256, hostC (UInt8.ofNat c.val) = true → (UInt8.ofNat c.val) ≠ 58 ∧ lowB (UInt8.ofNat c.val) = UInt8.ofNat c.val := by decide +kernel
  have := key ⟨c.toNat, c.toNat_lt⟩
  simpa using this (by simpa using h)
theorem hostB_parts {l : List UInt8} (h : hostB l = true) : (∀ c ∈ l, hostC c = true) ∧ l.length ≤ 64 := by
  unfold hostB at h
  simp only [Bool.and_eq_true, decide_eq_true_eq] at h
  exact ⟨fun c hc => List.all_eq_true.1 h.2 c hc, h.1.1.1.1.2⟩
theorem hostB_lower {l : List UInt8} (h : hostB l = true) : lower l = l := by
  have h1 := (hostB_parts h).1
  clear h
  induction l with
  | nil => rfl
  | cons a l ih =>
    show lowB a :: lower l = _
    rw [(hostC_no58 (h1 a (by simp))).2, ih (fun c hc => h1 c (by simp [hc]))]
theorem hostB_no58 {l : List UInt8} (h : hostB l = true) : ∀ c ∈ l, c ≠ 58 := fun c hc => (hostC_no58 ((hostB_parts h).1 c hc)).1
theorem authB_host {l h : List UInt8} {p : Int} (hh : authB l = some (h, p)) : hostB h = true ∧ 0 ≤ p ∧ p ≤ 65535 ∧ lower h = h := by
  unfold authB at hh
  split at hh
  · cases hh
  · rename_i h1
    have h1 : hostB (lower (cutB l 58).1) = true := by simpa using h1
    split at hh
    · injection hh with hh; injection hh with e1 e2
      subst e1 e2
      exact ⟨h1, by omega, by omega, hostB_lower h1⟩
    · split at hh
      · rename_i h2
        injection hh with hh; injection hh with e1 e2
        subst e1 e2
        exact ⟨h1, by omega, by omega, hostB_lower h1⟩
      · cases hh
theorem authB_self {h : List UInt8} (hh : hostB h = true) : authB h = some (h, 0) := by
  unfold authB
  rw [cutB_no (hostB_no58 hh)]
  simp only [hostB_lower hh, hh]
  simp
theorem authB_80 {h : List UInt8} (hh : hostB h = true) : authB (h ++ [58, 48, 48, 48, 56, 48]) = some (h, 80) := by
  unfold authB
  rw [cutB_at (hostB_no58 hh)]
  simp only [hostB_lower hh, hh]
  rw [if_neg (by simp), if_neg (by simp)]
  rw [show decimal [48, 48, 48, 56, 48] 5 = (80, true) from by decide]
  simp

theorem lowB_58 (c : UInt8) : lowB c = 58 ↔ c = 58 := by
  have key : ∀ c : Fin 256, lowB (UInt8.ofNat c.val) = 58 ↔ (UInt8.ofNat c.val) = 58 := by decide +kernel
  have := key ⟨c.toNat, c.toNat_lt⟩
  simpa using this
theorem worth_low (c : UInt8) : (worth (lowB c) < 10 ↔ worth c < 10) ∧ (worth c < 10 → worth (lowB c) = worth c) := by
  have key : ∀ c : Fin 256, (worth (lowB (UInt8.ofNat c.val)) < 10 ↔ worth (UInt8.ofNat c.val) < 10) ∧ (worth (UInt8.ofNat c.val) < 10 → worth (lowB (UInt8.ofNat c.val)) = worth (UInt8.ofNat c.val)) := by decide +kernel
  have := key ⟨c.toNat, c.toNat_lt⟩
  simpa using this
theorem num_low {l : List UInt8} (h : (l.all fun c => decide (worth c < 10)) = true) : num 10 (lower l) = num 10 l := by
  unfold num lower
  rw [List.foldl_map]
  have key : ∀ (l : List UInt8) (n : Int), (l.all fun c => decide (worth c < 10)) = true → l.foldl (fun n c => n * 10 + worth (lowB c)) n = l.foldl (fun n c => n * 10 + worth c) n := by
    intro l
    induction l with
    | nil => intros; rfl
    | cons a l ih =>
      intro n h
      simp only [List.all_cons, Bool.and_eq_true, decide_eq_true_eq] at h
      simp only [List.foldl_cons]
      rw [(worth_low a).2 h.1, ih _ h.2]
  exact key l 0 h
theorem decimal_low (l : List UInt8) (d : Int) : decimal (lower l) d = decimal l d := by
  unfold decimal number
  have ha : ((lower l).all fun c => decide (worth c < 10)) = (l.all fun c => decide (worth c < 10)) := by
    unfold lower
    rw [List.all_map]
    congr 1
    funext c
    show decide (worth (lowB c) < 10) = _
    rw [Bool.eq_iff_iff, decide_eq_true_eq, decide_eq_true_eq]; exact (worth_low c).1
  have hn : lower l = [] ↔ l = [] := by cases l <;> simp [lower]
  rw [lower_length, ha]
  by_cases hall : (l.all fun c => decide (worth c < 10)) = true
  · rw [num_low hall]
    simp only [hn]
  · rw [if_pos (.inr (.inr (Bool.eq_false_iff.2 hall))), if_pos (.inr (.inr (Bool.eq_false_iff.2 hall)))]
theorem cutB_low (l : List UInt8) : cutB (lower l) 58 = (lower (cutB l 58).1, lower (cutB l 58).2.1, (cutB l 58).2.2) := by
  have hno : ∀ a : List UInt8, (∀ x ∈ a, x ≠ 58) → ∀ x ∈ lower a, x ≠ 58 := by
    intro a ha x hx
    unfold lower at hx
    obtain ⟨y, hy, rfl⟩ := List.mem_map.1 hx
    intro e
    exact ha y hy ((lowB_58 y).1 e)
  rcases cutB_cases l 58 with ⟨a, r, rfl, h1, h2⟩ | ⟨h1, h2⟩
  · rw [h2]
    have e : lower (a ++ 58 :: r) = lower a ++ 58 :: lower r := by unfold lower; rw [List.map_append, List.map_cons]; congr 1
    rw [e, cutB_at (hno a h1)]
  · rw [h2, cutB_no (hno l h1)]; rfl
theorem authB_low (l : List UInt8) : authB (lower l) = authB l := by
  unfold authB
  rw [cutB_low]
  simp only [lower_lower, decimal_low]
end Go.Proofs.YtjbmipbjlhcooaaDoor
