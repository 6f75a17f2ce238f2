/- Plain lemmas of layer 4 over lists of bytes: trimming, the small form of a text; no program in sight. -/
import Derived.Test.YthaphfedogmliaaLexA
set_option linter.unusedVariables false
set_option linter.unusedSimpArgs false
namespace Go.Proofs.Ythaphfedogmliaa.Lex

def trim (l : List UInt8) : List UInt8 := Lib.trimS l [32, 9]
def blankB (c : UInt8) : Bool := decide ((c.toNat : Int) = 32) || decide ((c.toNat : Int) = 9)
theorem blank_eq (c : UInt8) : ([32, 9] : List UInt8).contains c = blankB c := by
  unfold blankB
  rw [Bool.eq_iff_iff]
  simp only [List.contains_cons, List.contains_nil, Bool.or_false, Bool.or_eq_true, beq_iff_eq, decide_eq_true_eq, ← UInt8.toNat_inj, UInt8.reduceToNat]
  omega

theorem dropWhile_all {p : UInt8 → Bool} : ∀ {a : List UInt8}, a.all p = true → ∀ r, (a ++ r).dropWhile p = r.dropWhile p
  | [], _, r => rfl
  | x :: a, h, r => by
    simp only [List.all_cons, Bool.and_eq_true] at h
    rw [List.cons_append, List.dropWhile_cons, if_pos h.1, dropWhile_all h.2]
theorem dropWhile_head {p : UInt8 → Bool} {m : List UInt8} (h : ∀ b, m.head? = some b → p b = false) : m.dropWhile p = m := by
  cases m with
  | nil => rfl
  | cons x m => rw [List.dropWhile_cons, if_neg (by rw [h x rfl]; simp)]
theorem dropWhile_nil {p : UInt8 → Bool} {a : List UInt8} (h : a.all p = true) : a.dropWhile p = [] := by
  have := dropWhile_all h []
  rw [List.append_nil] at this
  exact this

/-- What stands between blanks, where it neither begins nor ends with one. -/
theorem trim_mid {a m b : List UInt8} (ha : a.all blankB = true) (hb : b.all blankB = true) (h1 : ∀ x, m.head? = some x → blankB x = false) (h2 : ∀ x, m.getLast? = some x → blankB x = false) : trim (a ++ m ++ b) = m := by
  unfold trim Lib.trimS Lib.trimLeftS Lib.trimRightS
  rw [show (fun x => ([32, 9] : List UInt8).contains x) = blankB from funext blank_eq]
  rw [List.reverse_append, List.reverse_append, dropWhile_all (by rw [List.all_reverse]; exact hb)]
  cases m with
  | nil =>
    rw [List.reverse_nil, List.nil_append, dropWhile_nil (a := a.reverse) (by rw [List.all_reverse]; exact ha)]
    rfl
  | cons x m =>
    have hr : ((x :: m).reverse ++ a.reverse).dropWhile blankB = (x :: m).reverse ++ a.reverse := by
      refine dropWhile_head fun y hy => ?_
      rw [List.head?_append, List.head?_reverse] at hy
      cases hl : (x :: m).getLast? with
      | none => simp at hl
      | some z => rw [hl] at hy; simp at hy; subst hy; exact h2 _ hl
    rw [hr, List.reverse_append, List.reverse_reverse, List.reverse_reverse, dropWhile_all ha]
    exact dropWhile_head h1

theorem trim_parts (l : List UInt8) : ∃ a m b, l = a ++ m ++ b ∧ a.all blankB = true ∧ b.all blankB = true ∧ (∀ x, m.head? = some x → blankB x = false) ∧ (∀ x, m.getLast? = some x → blankB x = false) := by
  induction l with
  | nil => exact ⟨[], [], [], rfl, rfl, rfl, by simp, by simp⟩
  | cons c l ih =>
    obtain ⟨a, m, b, rfl, ha, hb, h1, h2⟩ := ih
    by_cases hc : blankB c = true
    · exact ⟨c :: a, m, b, rfl, by simp [hc, ha], hb, h1, h2⟩
    · have hc : blankB c = false := by simpa using hc
      cases m with
      | nil => exact ⟨[], [c], a ++ b, by simp, rfl, by rw [List.all_append, ha, hb]; rfl, by simp [hc], by simp [hc]⟩
      | cons x m => exact ⟨[], c :: (a ++ x :: m), b, by simp, rfl, hb, by simp [hc], fun y hy => h2 y (by
          rw [← List.cons_append, List.getLast?_append] at hy
          cases hl : (x :: m).getLast? with
          | none => simp at hl
          | some z => rw [hl] at hy; simpa using hy)⟩

theorem trim_trim (l : List UInt8) : trim (trim l) = trim l := by
  obtain ⟨a, m, b, rfl, ha, hb, h1, h2⟩ := trim_parts l
  rw [trim_mid ha hb h1 h2]
  have := trim_mid (a := []) (b := []) rfl rfl h1 h2
  simpa using this

theorem trim_self (l : List UInt8) : trim l = l ↔ (∀ x, l.head? = some x → blankB x = false) ∧ (∀ x, l.getLast? = some x → blankB x = false) := by
  constructor
  · intro h
    obtain ⟨a, m, b, rfl, ha, hb, h1, h2⟩ := trim_parts l
    rw [trim_mid ha hb h1 h2] at h
    have hlen := congrArg List.length h
    simp at hlen
    have ha0 : a = [] := List.eq_nil_of_length_eq_zero (by omega)
    have hb0 : b = [] := List.eq_nil_of_length_eq_zero (by omega)
    subst ha0 hb0
    simpa using ⟨h1, h2⟩
  · rintro ⟨h1, h2⟩
    have := trim_mid (a := []) (b := []) rfl rfl h1 h2
    simpa using this

theorem trim_length (l : List UInt8) : (trim l).length ≤ l.length := by
  obtain ⟨a, m, b, rfl, ha, hb, h1, h2⟩ := trim_parts l
  rw [trim_mid ha hb h1 h2]
  simp; omega

/-- A text whose parts from 0 to f and from t on are blanks. -/
theorem trim_at (l : List UInt8) (f t : Nat) (hft : f ≤ t) (ht : t ≤ l.length) (ha : (l.take f).all blankB = true) (hb : (l.drop t).all blankB = true)
    (h1 : f < t → ∀ x, l[f]? = some x → blankB x = false) (h2 : f < t → ∀ x, l[t - 1]? = some x → blankB x = false) : trim l = (l.drop f).take (t - f) := by
  have e : l = l.take f ++ (l.drop f).take (t - f) ++ l.drop t := by
    have e1 : l.take f ++ (l.drop f).take (t - f) = l.take t := by
      have := List.take_add (l := l) (i := f) (j := t - f)
      rw [show f + (t - f) = t from by omega] at this
      exact this.symm
    rw [e1, List.take_append_drop]
  have hm := trim_mid (a := l.take f) (m := (l.drop f).take (t - f)) (b := l.drop t) ha hb ?_ ?_
  · rw [← e] at hm; exact hm
  · intro x hx
    by_cases h : f < t
    · refine h1 h x ?_
      rw [List.head?_take, if_neg (by omega), List.head?_drop] at hx
      exact hx
    · rw [show t - f = 0 from by omega] at hx; simp at hx
  · intro x hx
    by_cases h : f < t
    · refine h2 h x ?_
      rw [List.getLast?_eq_getElem?, List.length_take, List.length_drop, List.getElem?_take, List.getElem?_drop] at hx
      rw [Nat.min_eq_left (by omega)] at hx
      split at hx
      · rw [← hx]; congr 1; omega
      · cases hx
    · rw [show t - f = 0 from by omega] at hx; simp at hx

/-! ### values -/
def okv (c : UInt8) : Bool := decide ((c.toNat : Int) = 9) || !(decide ((c.toNat : Int) < 32) || decide ((c.toNat : Int) = 127))
def value (l : List UInt8) : Bool := l.all okv && (trim l == l)

/-! ### the small form -/
def low (n : Int) : Int := if 65 ≤ n ∧ n ≤ 90 then n + 32 else n
def lowB (c : UInt8) : UInt8 := UInt8.ofNat (low c.toNat).toNat
def lower (l : List UInt8) : List UInt8 := l.map lowB
theorem low_range (c : UInt8) : 0 ≤ low c.toNat ∧ low c.toNat ≤ 255 := by
  have := c.toNat_lt
  unfold low
  split <;> omega
theorem lowB_nat (c : UInt8) : ((lowB c).toNat : Int) = low c.toNat := by
  have h := low_range c
  unfold lowB
  rw [UInt8.toNat_ofNat_of_lt' (by rw [UInt8.size]; omega)]
  omega
theorem low_low (n : Int) : low (low n) = low n := by
  unfold low
  by_cases h : 65 ≤ n ∧ n ≤ 90
  · rw [if_pos h, if_neg (by omega)]
  · rw [if_neg h, if_neg h]
theorem lowB_lowB (c : UInt8) : lowB (lowB c) = lowB c := by
  rw [← UInt8.toNat_inj]
  have h1 := lowB_nat (lowB c)
  rw [lowB_nat c, low_low] at h1
  have h2 := lowB_nat c
  omega
theorem lower_lower (l : List UInt8) : lower (lower l) = lower l := by
  simp [lower, lowB_lowB]
theorem lower_length (l : List UInt8) : (lower l).length = l.length := by simp [lower]
def alike (a b : List UInt8) : Bool := lower a == lower b
theorem alike_length {a b : List UInt8} (h : a.length ≠ b.length) : alike a b = false := by
  unfold alike
  rw [beq_eq_false_iff_ne]
  intro e
  exact h (by rw [← lower_length a, e, lower_length])

theorem tmark_low (c : UInt8) : tmark (lowB c) = tmark c := by
  have key : ∀ c : Fin 256, tmark (lowB (UInt8.ofNat c.val)) = tmark (UInt8.ofNat c.val) := by decide +kernel
  have h := key ⟨c.toNat, c.toNat_lt⟩
  simpa using h
theorem okv_low (c : UInt8) : okv (lowB c) = okv c := by
  have h := lowB_nat c
  unfold okv
  rw [h]
  unfold low
  rw [Bool.eq_iff_iff]
  split
  · simp; omega
  · simp
theorem blank_low (c : UInt8) : blankB (lowB c) = blankB c := by
  have h := lowB_nat c
  unfold blankB
  rw [h]
  unfold low
  rw [Bool.eq_iff_iff]
  split
  · simp; omega
  · simp
theorem token_lower (l : List UInt8) : token (lower l) = token l := by
  unfold token lower
  rw [List.all_map, show (tmark ∘ lowB) = tmark from funext tmark_low]
  cases l <;> rfl
theorem value_lower (l : List UInt8) : value (lower l) = value l := by
  unfold value
  have h1 : (lower l).all okv = l.all okv := by
    unfold lower
    rw [List.all_map, show (okv ∘ lowB) = okv from funext okv_low]
  rw [h1]
  congr 1
  rw [Bool.eq_iff_iff, beq_iff_eq, beq_iff_eq, trim_self, trim_self]
  unfold lower
  rw [List.head?_map, List.getLast?_map]
  constructor
  · rintro ⟨a, b⟩
    exact ⟨fun x hx => by have := a (lowB x) (by rw [hx]; rfl); rwa [blank_low] at this, fun x hx => by have := b (lowB x) (by rw [hx]; rfl); rwa [blank_low] at this⟩
  · rintro ⟨a, b⟩
    refine ⟨fun x hx => ?_, fun x hx => ?_⟩
    · cases h : l.head? with
      | none => rw [h] at hx; cases hx
      | some y => rw [h] at hx; simp at hx; subst hx; rw [blank_low]; exact a y h
    · cases h : l.getLast? with
      | none => rw [h] at hx; cases hx
      | some y => rw [h] at hx; simp at hx; subst hx; rw [blank_low]; exact b y h

end Go.Proofs.Ythaphfedogmliaa.Lex
