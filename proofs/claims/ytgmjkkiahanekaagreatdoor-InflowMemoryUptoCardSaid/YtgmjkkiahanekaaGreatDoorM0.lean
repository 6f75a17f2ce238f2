/- The texts LexA, LexP, PathA, PathF, LexB in one. -/
import Derived.Lib.SlTrimSet
import Derived.Lib.Split
import Derived.Lib.CountLaws
import Derived.Lib.Join
import Derived.Lib.Bytealg
import Derived.Lib.IndexMore
import Derived.Test.YtgmjkkiahanekaaGreatDoorShelf
import Derived.WalkKit
import Derived.WalkLawsBesides
import Derived.WalkSpells
import Derived.Tactics
import Derived.Tactics2
import Derived.LoopTactic
import Derived.Outline
import Derived.Below
import Derived.Lib.Hide
/- Plain words of layer 4 over lists of bytes: letters, digits, tokens, numbers; no program in sight. -/
set_option linter.unusedVariables false
namespace Go.Proofs.YtgmjkkiahanekaaGreatDoor.Lex

/-- The bytes of a text as a text. -/
abbrev bs (l : List UInt8) : ByteArray := ⟨l.toArray⟩
theorem bs_list (l : List UInt8) : (bs l).data.toList = l := rfl
theorem list_bs (s : ByteArray) : bs s.data.toList = s := by simp [bs]
theorem bs_size (l : List UInt8) : (bs l).size = l.length := rfl
theorem size_list (s : ByteArray) : s.data.toList.length = s.size := rfl

def letterI (n : Int) : Bool := decide (97 ≤ n) && decide (n ≤ 122) || decide (65 ≤ n) && decide (n ≤ 90)
def digitI (n : Int) : Bool := decide (48 ≤ n) && decide (n ≤ 57)
def letter (c : UInt8) : Bool := letterI c.toNat
def digit (c : UInt8) : Bool := digitI c.toNat
def marks : List UInt8 := [33, 35, 36, 37, 38, 39, 42, 43, 45, 46, 94, 95, 124, 126, 96]
def tmark (c : UInt8) : Bool := letter c || digit c || marks.contains c
def token (l : List UInt8) : Bool := !l.isEmpty && l.all tmark

theorem isEmpty_size (s : ByteArray) : s.data.toList.isEmpty = decide (s.size = 0) := by
  cases h : s.data.toList with
  | nil => have : s.size = 0 := by rw [← size_list, h]; rfl
           simp [this]
  | cons a l => have : s.size = l.length + 1 := by rw [← size_list, h]; rfl
                simp [this]
theorem take_snoc (s : ByteArray) (k : Nat) (h : k < s.size) : s.data.toList.take (k + 1) = s.data.toList.take k ++ [s[k]] := by
  rw [List.take_succ_eq_append_getElem (by simpa using h)]; rfl
theorem take_all (s : ByteArray) (k : Nat) (h : ¬ k < s.size) : s.data.toList.take k = s.data.toList :=
  List.take_of_length_le (by rw [size_list]; omega)
theorem all_of_take (p : UInt8 → Bool) (s : ByteArray) (k : Nat) (h : k < s.size) (hp : p s[k] = false) : s.data.toList.all p = false := by
  have : s[k] ∈ s.data.toList := by
    have := List.getElem_mem (l := s.data.toList) (n := k) (by rw [size_list]; exact h)
    exact this
  rw [Bool.eq_false_iff]
  intro ha
  rw [List.all_eq_true] at ha
  rw [ha _ this] at hp
  cases hp
theorem all_take_snoc (p : UInt8 → Bool) (s : ByteArray) (k : Nat) (h : k < s.size) (ha : (s.data.toList.take k).all p = true) (hp : p s[k] = true) : (s.data.toList.take (k + 1)).all p = true := by
  rw [take_snoc s k h, List.all_append, ha]; simp [hp]

/-! ### numbers -/
/-- A digit's worth, in a base up to 16; 99: none. -/
def worth (c : UInt8) : Int :=
  if 48 ≤ (c.toNat : Int) ∧ (c.toNat : Int) ≤ 57 then c.toNat - 48
  else if 65 ≤ (c.toNat : Int) ∧ (c.toNat : Int) ≤ 70 then c.toNat - 55
  else if 97 ≤ (c.toNat : Int) ∧ (c.toNat : Int) ≤ 102 then c.toNat - 87 else 99
theorem worth_0 (c : UInt8) : 0 ≤ worth c ∧ worth c ≤ 99 := by unfold worth; split <;> (try split) <;> (try split) <;> omega
def num (base : Int) (l : List UInt8) : Int := l.foldl (fun n c => n * base + worth c) 0
theorem num_snoc (base : Int) (l : List UInt8) (c : UInt8) : num base (l ++ [c]) = num base l * base + worth c := by simp [num, List.foldl_append]
theorem snoc_ind {α : Type} {P : List α → Prop} (h0 : P []) (h1 : ∀ l c, P l → P (l ++ [c])) (l : List α) : P l := by
  rw [← List.reverse_reverse l]
  induction l.reverse with
  | nil => exact h0
  | cons c l ih => rw [List.reverse_cons]; exact h1 _ _ ih
theorem num_bound (base : Int) (hb : 1 ≤ base) : ∀ l : List UInt8, (l.all fun c => decide (worth c < base)) = true → 0 ≤ num base l ∧ num base l < base ^ l.length := by
  intro l
  induction l using snoc_ind with
  | h0 => simp [num]
  | h1 l c ih =>
    intro h
    rw [List.all_append] at h
    simp at h
    obtain ⟨h1, h2⟩ := h
    obtain ⟨i1, i2⟩ := ih (by simpa using h1)
    rw [num_snoc]
    have hw := worth_0 c
    have p0 : 0 ≤ num base l * base := Int.mul_nonneg i1 (by omega)
    refine ⟨by omega, ?_⟩
    have p1 : (num base l + 1) * base ≤ base ^ l.length * base := Int.mul_le_mul_of_nonneg_right (by omega) (by omega)
    rw [Int.add_mul, Int.one_mul] at p1
    simp only [List.length_append, List.length_singleton, Int.pow_succ]
    omega
/-- What Decimal (base 10, at most 18 digits) and Hex (base 16, at most 15) read. -/
def number (base : Int) (l : List UInt8) (digits : Int) : Int × Bool :=
  if l = [] ∨ digits < l.length ∨ (l.all fun c => decide (worth c < base)) = false then (0, false) else (num base l, true)

end Go.Proofs.YtgmjkkiahanekaaGreatDoor.Lex

/- Plain lemmas of layer 4 over lists of bytes: trimming, the small form of a text; no program in sight. -/
set_option linter.unusedVariables false
set_option linter.unusedSimpArgs false
namespace Go.Proofs.YtgmjkkiahanekaaGreatDoor.Lex

def trim (l : List UInt8) : List UInt8 := Lib.trimS l [32, 9]
def blankB (c : UInt8) : Bool := decide ((c.toNat : Int) = 32) || decide ((c.toNat : Int) = 9)
theorem blank_eq (c : UInt8) : ([32, 9] : List UInt8).contains c = blankB c := by
  unfold blankB
  rw [Bool.eq_iff_iff]
  simp only [List.contains_cons, List.contains_nil, Bool.or_false, Bool.or_eq_true, beq_iff_eq, decide_eq_true_eq, ← UInt8.toNat_inj, UInt8.reduceToNat]
  omega

theorem dropWhile_all {p : UInt8 → Bool} : ∀ {a : List UInt8}, a.all p = true → ∀ r, (a ++ r).dropWhile p = r.dropWhile p
  | [], _, r => rfl
  | x :: a, h, r => by
    simp only [List.all_cons, Bool.and_eq_true] at h
    rw [List.cons_append, List.dropWhile_cons, if_pos h.1, dropWhile_all h.2]
theorem dropWhile_head {p : UInt8 → Bool} {m : List UInt8} (h : ∀ b, m.head? = some b → p b = false) : m.dropWhile p = m := by
  cases m with
  | nil => rfl
  | cons x m => rw [List.dropWhile_cons, if_neg (by rw [h x rfl]; simp)]
theorem dropWhile_nil {p : UInt8 → Bool} {a : List UInt8} (h : a.all p = true) : a.dropWhile p = [] := by
  have := dropWhile_all h []
  rw [List.append_nil] at this
  exact this

/-- What stands between blanks, where it neither begins nor ends with one. -/
theorem trim_mid {a m b : List UInt8} (ha : a.all blankB = true) (hb : b.all blankB = true) (h1 : ∀ x, m.head? = some x → blankB x = false) (h2 : ∀ x, m.getLast? = some x → blankB x = false) : trim (a ++ m ++ b) = m := by
  unfold trim Lib.trimS Lib.trimLeftS Lib.trimRightS
  rw [show (fun x => ([32, 9] : List UInt8).contains x) = blankB from funext blank_eq]
  rw [List.reverse_append, List.reverse_append, dropWhile_all (by rw [List.all_reverse]; exact hb)]
  cases m with
  | nil =>
    rw [List.reverse_nil, List.nil_append, dropWhile_nil (a := a.reverse) (by rw [List.all_reverse]; exact ha)]
    rfl
  | cons x m =>
    have hr : ((x :: m).reverse ++ a.reverse).dropWhile blankB = (x :: m).reverse ++ a.reverse := by
      refine dropWhile_head fun y hy => ?_
      rw [List.head?_append, List.head?_reverse] at hy
      cases hl : (x :: m).getLast? with
      | none => simp at hl
      | some z => rw [hl] at hy; simp at hy; subst hy; exact h2 _ hl
    rw [hr, List.reverse_append, List.reverse_reverse, List.reverse_reverse, dropWhile_all ha]
    exact dropWhile_head h1

theorem trim_parts (l : List UInt8) : ∃ a m b, l = a ++ m ++ b ∧ a.all blankB = true ∧ b.all blankB = true ∧ (∀ x, m.head? = some x → blankB x = false) ∧ (∀ x, m.getLast? = some x → blankB x = false) := by
  induction l with
  | nil => exact ⟨[], [], [], rfl, rfl, rfl, by simp, by simp⟩
  | cons c l ih =>
    obtain ⟨a, m, b, rfl, ha, hb, h1, h2⟩ := ih
    by_cases hc : blankB c = true
    · exact ⟨c :: a, m, b, rfl, by simp [hc, ha], hb, h1, h2⟩
    · have hc : blankB c = false := by simpa using hc
      cases m with
      | nil => exact ⟨[], [c], a ++ b, by simp, rfl, by rw [List.all_append, ha, hb]; rfl, by simp [hc], by simp [hc]⟩
      | cons x m => exact ⟨[], c :: (a ++ x :: m), b, by simp, rfl, hb, by simp [hc], fun y hy => h2 y (by
          rw [← List.cons_append, List.getLast?_append] at hy
          cases hl : (x :: m).getLast? with
          | none => simp at hl
          | some z => rw [hl] at hy; simpa using hy)⟩

theorem trim_trim (l : List UInt8) : trim (trim l) = trim l := by
  obtain ⟨a, m, b, rfl, ha, hb, h1, h2⟩ := trim_parts l
  rw [trim_mid ha hb h1 h2]
  have := trim_mid (a := []) (b := []) rfl rfl h1 h2
  simpa using this

theorem trim_self (l : List UInt8) : trim l = l ↔ (∀ x, l.head? = some x → blankB x = false) ∧ (∀ x, l.getLast? = some x → blankB x = false) := by
  constructor
  · intro h
    obtain ⟨a, m, b, rfl, ha, hb, h1, h2⟩ := trim_parts l
    rw [trim_mid ha hb h1 h2] at h
    have hlen := congrArg List.length h
    simp at hlen
    have ha0 : a = [] := List.eq_nil_of_length_eq_zero (by omega)
    have hb0 : b = [] := List.eq_nil_of_length_eq_zero (by omega)
    subst ha0 hb0
    simpa using ⟨h1, h2⟩
  · rintro ⟨h1, h2⟩
    have := trim_mid (a := []) (b := []) rfl rfl h1 h2
    simpa using this

theorem trim_length (l : List UInt8) : (trim l).length ≤ l.length := by
  obtain ⟨a, m, b, rfl, ha, hb, h1, h2⟩ := trim_parts l
  rw [trim_mid ha hb h1 h2]
  simp; omega

/-- A text whose parts from 0 to f and from t on are blanks. -/
theorem trim_at (l : List UInt8) (f t : Nat) (hft : f ≤ t) (ht : t ≤ l.length) (ha : (l.take f).all blankB = true) (hb : (l.drop t).all blankB = true)
    (h1 : f < t → ∀ x, l[f]? = some x → blankB x = false) (h2 : f < t → ∀ x, l[t - 1]? = some x → blankB x = false) : trim l = (l.drop f).take (t - f) := by
  have e : l = l.take f ++ (l.drop f).take (t - f) ++ l.drop t := by
    have e1 : l.take f ++ (l.drop f).take (t - f) = l.take t := by
      have := List.take_add (l := l) (i := f) (j := t - f)
      rw [show f + (t - f) = t from by omega] at this
      exact this.symm
    rw [e1, List.take_append_drop]
  have hm := trim_mid (a := l.take f) (m := (l.drop f).take (t - f)) (b := l.drop t) ha hb ?_ ?_
  · rw [← e] at hm; exact hm
  · intro x hx
    by_cases h : f < t
    · refine h1 h x ?_
      rw [List.head?_take, if_neg (by omega), List.head?_drop] at hx
      exact hx
    · rw [show t - f = 0 from by omega] at hx; simp at hx
  · intro x hx
    by_cases h : f < t
    · refine h2 h x ?_
      rw [List.getLast?_eq_getElem?, List.length_take, List.length_drop, List.getElem?_take, List.getElem?_drop] at hx
      rw [Nat.min_eq_left (by omega)] at hx
      split at hx
      · rw [← hx]; congr 1; omega
      · cases hx
    · rw [show t - f = 0 from by omega] at hx; simp at hx

/-! ### values -/
def okv (c : UInt8) : Bool := decide ((c.toNat : Int) = 9) || !(decide ((c.toNat : Int) < 32) || decide ((c.toNat : Int) = 127))
def value (l : List UInt8) : Bool := l.all okv && (trim l == l)

/-! ### the small form -/
def low (n : Int) : Int := if 65 ≤ n ∧ n ≤ 90 then n + 32 else n
def lowB (c : UInt8) : UInt8 := UInt8.ofNat (low c.toNat).toNat
def lower (l : List UInt8) : List UInt8 := l.map lowB
theorem low_range (c : UInt8) : 0 ≤ low c.toNat ∧ low c.toNat ≤ 255 := by
  have := c.toNat_lt
  unfold low
  split <;> omega
theorem lowB_nat (c : UInt8) : ((lowB c).toNat : Int) = low c.toNat := by
  have h := low_range c
  unfold lowB
  rw [UInt8.toNat_ofNat_of_lt' (by rw [UInt8.size]; omega)]
  omega
theorem low_low (n : Int) : low (low n) = low n := by
  unfold low
  by_cases h : 65 ≤ n ∧ n ≤ 90
  · rw [if_pos h, if_neg (by omega)]
  · rw [if_neg h, if_neg h]
theorem lowB_lowB (c : UInt8) : lowB (lowB c) = lowB c := by
  rw [← UInt8.toNat_inj]
  have h1 := lowB_nat (lowB c)
  rw [lowB_nat c, low_low] at h1
  have h2 := lowB_nat c
  omega
theorem lower_lower (l : List UInt8) : lower (lower l) = lower l := by
  simp [lower, lowB_lowB]
theorem lower_length (l : List UInt8) : (lower l).length = l.length := by simp [lower]
def alike (a b : List UInt8) : Bool := lower a == lower b
theorem alike_length {a b : List UInt8} (h : a.length ≠ b.length) : alike a b = false := by
  unfold alike
  rw [beq_eq_false_iff_ne]
  intro e
  exact h (by rw [← lower_length a, e, lower_length])

theorem tmark_low (c : UInt8) : tmark (lowB c) = tmark c := by
  have key : ∀ c : Fin 256, tmark (lowB (UInt8.ofNat c.val)) = tmark (UInt8.ofNat c.val) := by decide +kernel
  have h := key ⟨c.toNat, c.toNat_lt⟩
  simpa using h
theorem okv_low (c : UInt8) : okv (lowB c) = okv c := by
  have h := lowB_nat c
  unfold okv
  rw [h]
  unfold low
  rw [Bool.eq_iff_iff]
  split
  · simp; omega
  · simp
theorem blank_low (c : UInt8) : blankB (lowB c) = blankB c := by
  have h := lowB_nat c
  unfold blankB
  rw [h]
  unfold low
  rw [Bool.eq_iff_iff]
  split
  · simp; omega
  · simp
theorem token_lower (l : List UInt8) : token (lower l) = token l := by
  unfold token lower
  rw [List.all_map, show (tmark ∘ lowB) = tmark from funext tmark_low]
  cases l <;> rfl
theorem value_lower (l : List UInt8) : value (lower l) = value l := by
  unfold value
  have h1 : (lower l).all okv = l.all okv := by
    unfold lower
    rw [List.all_map, show (okv ∘ lowB) = okv from funext okv_low]
  rw [h1]
  congr 1
  rw [Bool.eq_iff_iff, beq_iff_eq, beq_iff_eq, trim_self, trim_self]
  unfold lower
  rw [List.head?_map, List.getLast?_map]
  constructor
  · rintro ⟨a, b⟩
    exact ⟨fun x hx => by have := a (lowB x) (by rw [hx]; rfl); rwa [blank_low] at this, fun x hx => by have := b (lowB x) (by rw [hx]; rfl); rwa [blank_low] at this⟩
  · rintro ⟨a, b⟩
    refine ⟨fun x hx => ?_, fun x hx => ?_⟩
    · cases h : l.head? with
      | none => rw [h] at hx; cases hx
      | some y => rw [h] at hx; simp at hx; subst hx; rw [blank_low]; exact a y h
    · cases h : l.getLast? with
      | none => rw [h] at hx; cases hx
      | some y => rw [h] at hx; simp at hx; subst hx; rw [blank_low]; exact b y h

end Go.Proofs.YtgmjkkiahanekaaGreatDoor.Lex

/- Plain words of layer 5 over lists of bytes: escapes, what a text without needless escapes is, what it decodes to; no program in sight. -/
set_option linter.unusedVariables false
set_option linter.unusedSimpArgs false
namespace Go.Proofs.YtgmjkkiahanekaaGreatDoor.Lex

def plainB (c : UInt8) : Bool := letter c || digit c || ([45, 46, 95, 126] : List UInt8).contains c
def badU (c : UInt8) : Bool := decide ((c.toNat : Int) < 33) || decide (126 < (c.toNat : Int)) || decide ((c.toNat : Int) = 63) || decide ((c.toNat : Int) = 35)
/-- A large digit of a number below 16. -/
def large (n : Nat) : UInt8 := ([48, 49, 50, 51, 52, 53, 54, 55, 56, 57, 65, 66, 67, 68, 69, 70] : List UInt8).getD n 0
def encU (n : UInt8) : List UInt8 := if plainB n then [n] else [37, large (n.toNat / 16), large (n.toNat % 16)]
/-- The byte of two digits. -/
def pair (a b : UInt8) : Option UInt8 := if worth a < 16 ∧ worth b < 16 then some (UInt8.ofNat (worth a * 16 + worth b).toNat) else none

/-- A text gone through escape by escape. -/
def walkE (bad : UInt8 → Bool) (enc : UInt8 → List UInt8) : List UInt8 → Option (List UInt8)
  | [] => some []
  | [c] => if bad c then none else if c = 37 then none else some [c]
  | [c, d] => if bad c then none else if c = 37 then none else (walkE bad enc [d]).map (c :: ·)
  | c :: a :: b :: r => if bad c then none else if c = 37 then (match pair a b with | none => none | some n => (walkE bad enc r).map (enc n ++ ·)) else (walkE bad enc (a :: b :: r)).map (c :: ·)

section
variable {bad : UInt8 → Bool} {enc : UInt8 → List UInt8}
theorem walkE_nil : walkE bad enc [] = some [] := rfl
theorem walkE_bad {c : UInt8} {r : List UInt8} (h : bad c = true) : walkE bad enc (c :: r) = none := by
  match r with
  | [] => simp [walkE, h]
  | [d] => simp [walkE, h]
  | a :: b :: r => simp [walkE, h]
theorem walkE_plain {c : UInt8} {r : List UInt8} (h : bad c = false) (h' : c ≠ 37) : walkE bad enc (c :: r) = (walkE bad enc r).map (c :: ·) := by
  match r with
  | [] => simp [walkE, h, h']
  | [d] => simp [walkE, h, h']
  | a :: b :: r => simp [walkE, h, h']
theorem walkE_short {r : List UInt8} (h : r.length < 2) : walkE bad enc (37 :: r) = none := by
  match r, h with
  | [], _ => simp [walkE]
  | [d], _ => simp [walkE]
theorem walkE_none {a b : UInt8} {r : List UInt8} (h : pair a b = none) : walkE bad enc (37 :: a :: b :: r) = none := by
  simp [walkE, h]
theorem walkE_some {a b n : UInt8} {r : List UInt8} (hb : bad 37 = false) (h : pair a b = some n) : walkE bad enc (37 :: a :: b :: r) = (walkE bad enc r).map (enc n ++ ·) := by
  simp [walkE, h, hb]

/-- Induction along a walk. -/
theorem walkE_ind {P : List UInt8 → Prop} (h0 : P []) (h1 : ∀ c r, P r → c ≠ 37 → P (c :: r)) (h2 : ∀ a b r, P r → P (37 :: a :: b :: r)) (h3 : ∀ r, r.length < 2 → P (37 :: r)) : ∀ l, P l := by
  intro l
  induction hn : l.length using Nat.strongRecOn generalizing l with
  | ind n ih =>
    match l with
    | [] => exact h0
    | c :: r =>
      by_cases hc : c = 37
      · subst hc
        match r with
        | [] => exact h3 _ (by simp)
        | [d] => exact h3 _ (by simp)
        | a :: b :: r => exact h2 a b r (ih r.length (by simp at hn; omega) r rfl)
      · exact h1 c r (ih r.length (by simp at hn; omega) r rfl) hc

theorem walkE_append {l l' m : List UInt8} (h : walkE bad enc l = some l') : walkE bad enc (l ++ m) = (walkE bad enc m).map (l' ++ ·) := by
  induction l using walkE_ind generalizing l' with
  | h0 => simp [walkE_nil] at h; subst h; simp
  | h1 c r ih hc =>
    cases hb : bad c with
    | true => rw [walkE_bad hb] at h; cases h
    | false =>
      rw [walkE_plain hb hc] at h
      rw [List.cons_append, walkE_plain hb hc]
      cases hr : walkE bad enc r with
      | none => rw [hr] at h; cases h
      | some r' =>
        rw [hr] at h; simp at h; subst h
        rw [ih hr, Option.map_map]
        rfl
  | h2 a b r ih =>
    cases hb : bad 37 with
    | true => rw [walkE_bad hb] at h; cases h
    | false =>
      cases hp : pair a b with
      | none => rw [walkE_none hp] at h; cases h
      | some n =>
        rw [walkE_some hb hp] at h
        rw [List.cons_append, List.cons_append, List.cons_append, walkE_some hb hp]
        cases hr : walkE bad enc r with
        | none => rw [hr] at h; cases h
        | some r' =>
          rw [hr] at h; simp at h; subst h
          rw [ih hr, Option.map_map]
          congr 1
          funext x
          simp
  | h3 r hr => rw [walkE_short hr] at h; cases h
end

def unesc : List UInt8 → Option (List UInt8) := walkE badU encU
def decodeL : List UInt8 → Option (List UInt8) := walkE (fun _ => false) (fun n => [n])

/-! ### what comes out of unesc stays -/
theorem encU_fixed (n : UInt8) : unesc (encU n) = some (encU n) := by
  have key : ∀ n : Fin 256, unesc (encU (UInt8.ofNat n.val)) = some (encU (UInt8.ofNat n.val)) := by decide +kernel
  have h := key ⟨n.toNat, n.toNat_lt⟩
  simpa using h
theorem unesc_single {c : UInt8} (h : badU c = false) (h' : c ≠ 37) : unesc [c] = some [c] := by
  unfold unesc; rw [walkE_plain h h', walkE_nil]; rfl
theorem unesc_append {a b a' b' : List UInt8} (ha : unesc a = some a') (hb : unesc b = some b') : unesc (a ++ b) = some (a' ++ b') := by
  have := walkE_append (m := b) ha
  have hb' : walkE badU encU b = some b' := hb
  rw [hb'] at this
  exact this
theorem unesc_fixed {l l' : List UInt8} (h : unesc l = some l') : unesc l' = some l' := by
  induction l using walkE_ind generalizing l' with
  | h0 => simp [unesc, walkE_nil] at h; subst h; rfl
  | h1 c r ih hc =>
    cases hb : badU c with
    | true => unfold unesc at h; rw [walkE_bad hb] at h; cases h
    | false =>
      unfold unesc at h
      rw [walkE_plain hb hc] at h
      cases hr : walkE badU encU r with
      | none => rw [hr] at h; cases h
      | some r' =>
        rw [hr] at h; simp at h; subst h
        exact unesc_append (a := [c]) (unesc_single hb hc) (ih hr)
  | h2 a b r ih =>
    have hb : badU 37 = false := by decide
    unfold unesc at h
    cases hp : pair a b with
    | none => rw [walkE_none hp] at h; cases h
    | some n =>
      rw [walkE_some hb hp] at h
      cases hr : walkE badU encU r with
      | none => rw [hr] at h; cases h
      | some r' =>
        rw [hr] at h; simp at h; subst h
        exact unesc_append (encU_fixed n) (ih hr)
  | h3 r hr => unfold unesc at h; rw [walkE_short hr] at h; cases h

end Go.Proofs.YtgmjkkiahanekaaGreatDoor.Lex

/- Plain words of layer 5 over lists of bytes: pieces between slashes, the normal form of a path; no program in sight. -/
set_option linter.unusedVariables false
set_option linter.unusedSimpArgs false
namespace Go.Proofs.YtgmjkkiahanekaaGreatDoor.Lex

/-- The pieces between the bytes c. -/
def pieces (c : UInt8) : List UInt8 → List (List UInt8)
  | [] => [[]]
  | b :: l => if b = c then [] :: pieces c l else match pieces c l with | p :: ps => (b :: p) :: ps | [] => [[b]]

theorem pieces_ne (c : UInt8) (l : List UInt8) : pieces c l ≠ [] := by
  cases l with
  | nil => simp [pieces]
  | cons b l => simp only [pieces]; split; · simp
                split <;> simp
theorem pieces_no {c : UInt8} : ∀ {a : List UInt8}, (∀ x ∈ a, x ≠ c) → pieces c a = [a]
  | [], _ => rfl
  | b :: a, h => by
    simp only [pieces]
    rw [if_neg (h b (by simp)), pieces_no (a := a) (fun x hx => h x (by simp [hx]))]
theorem pieces_at {c : UInt8} : ∀ {a : List UInt8} (r : List UInt8), (∀ x ∈ a, x ≠ c) → pieces c (a ++ c :: r) = a :: pieces c r
  | [], r, _ => by simp [pieces]
  | b :: a, r, h => by
    rw [List.cons_append]
    simp only [pieces]
    rw [if_neg (h b (by simp)), pieces_at (a := a) r (fun x hx => h x (by simp [hx]))]

theorem occ_one (l : List UInt8) (c : UInt8) (i : Nat) : Lib.occAt l [c] i = true ↔ l[i]? = some c := by
  unfold Lib.occAt
  rw [List.isPrefixOf_iff_prefix]
  constructor
  · rintro ⟨t, ht⟩
    have : (l.drop i)[0]? = some c := by rw [← ht]; rfl
    rw [List.getElem?_drop, Nat.add_zero] at this
    exact this
  · intro h
    have h0 : (l.drop i)[0]? = some c := by rw [List.getElem?_drop, Nat.add_zero]; exact h
    cases hd : l.drop i with
    | nil => rw [hd] at h0; simp at h0
    | cons b t => rw [hd] at h0; simp at h0; subst h0; exact ⟨t, rfl⟩

theorem split_one (c : UInt8) (l : List UInt8) : Lib.split l [c] = pieces c l := by
  unfold Lib.split
  induction hn : l.length using Nat.strongRecOn generalizing l with
  | ind n ih =>
    rcases Lib.index_spec l [c] with ⟨h1, h2⟩ | ⟨i, h1, h2, h3, h4⟩
    · rw [Lib.count_miss h1]
      simp only [Lib.splitK]
      rw [pieces_no]
      intro x hx e
      obtain ⟨j, hj, hjx⟩ := List.getElem_of_mem hx
      have := h2 j (by omega)
      rw [← Bool.not_eq_true, occ_one] at this
      exact this (by rw [List.getElem?_eq_getElem hj, hjx, e])
    · have hc := (occ_one l c i).1 h3
      have hil : i < l.length := by
        rcases Nat.lt_or_ge i l.length with h | h
        · exact h
        · rw [List.getElem?_eq_none h] at hc; cases hc
      have hsp : l = l.take i ++ c :: l.drop (i + 1) := by
        have : l.drop i = c :: l.drop (i + 1) := by
          rw [List.drop_eq_getElem_cons hil]
          rw [List.getElem?_eq_getElem hil] at hc
          injection hc with hc
          rw [hc]
        rw [← this, List.take_append_drop]
      rw [Lib.count_hit (by simp) h1, Nat.add_comm 1]
      simp only [Lib.splitK]
      rw [if_neg (by rw [h1]; simp), h1]
      simp only [Int.toNat_natCast, Nat.add_zero, List.length_singleton]
      rw [ih (l.drop (i + 1)).length (by rw [List.length_drop]; omega) (l.drop (i + 1)) rfl]
      conv => rhs; rw [hsp]
      rw [pieces_at]
      intro x hx e
      obtain ⟨j, hj, hjx⟩ := List.getElem_of_mem hx
      rw [List.length_take] at hj
      have hj' : j < i := by omega
      have := h4 j hj'
      rw [← Bool.not_eq_true, occ_one] at this
      rw [List.getElem_take] at hjx
      exact this (by rw [List.getElem?_eq_getElem (by omega), hjx, e])

theorem pieces_count (c : UInt8) (l : List UInt8) : Lib.count l [c] + 1 = (pieces c l).length := by
  induction hn : l.length using Nat.strongRecOn generalizing l with
  | ind n ih =>
    rcases Lib.index_spec l [c] with ⟨h1, h2⟩ | ⟨i, h1, h2, h3, h4⟩
    · rw [Lib.count_miss h1, ← split_one]
      unfold Lib.split
      rw [Lib.count_miss h1]; rfl
    · have hc := (occ_one l c i).1 h3
      have hil : i < l.length := by
        rcases Nat.lt_or_ge i l.length with h | h
        · exact h
        · rw [List.getElem?_eq_none h] at hc; cases hc
      rw [← split_one]
      unfold Lib.split
      rw [Lib.count_hit (by simp) h1, Nat.add_comm 1]
      simp only [Lib.splitK]
      rw [if_neg (by rw [h1]; simp), h1]
      simp only [Int.toNat_natCast, Nat.add_zero, List.length_singleton, List.length_cons]
      have := ih (l.drop (i + 1)).length (by rw [List.length_drop]; omega) (l.drop (i + 1)) rfl
      rw [← split_one] at this
      unfold Lib.split at this
      show Lib.count (l.drop (i + 1)) [c] + 1 + 1 = (Lib.splitK [c] 0 (Lib.count (l.drop (i + 1)) [c]) (l.drop (i + 1))).length + 1
      rw [← this]

theorem pieces_length (c : UInt8) (l : List UInt8) : (pieces c l).length ≤ l.length + 1 := by
  induction l with
  | nil => simp [pieces]
  | cons b l ih =>
    simp only [pieces]
    split
    · simp; omega
    · split
      · rename_i h; rw [h] at ih; simp at ih ⊢; omega
      · simp
theorem pieces_mem (c : UInt8) (l : List UInt8) : ∀ p ∈ pieces c l, p.length ≤ l.length ∧ ∀ x ∈ p, x ≠ c := by
  induction l with
  | nil => intro p hp; simp [pieces] at hp; subst hp; simp
  | cons b l ih =>
    intro p hp
    simp only [pieces] at hp
    split at hp
    · rcases List.mem_cons.1 hp with rfl | h
      · simp
      · have := ih p h; exact ⟨by simp; omega, this.2⟩
    · rename_i hb
      split at hp
      · rename_i q qs hq
        rw [hq] at ih
        rcases List.mem_cons.1 hp with rfl | h
        · have := ih q (by simp)
          refine ⟨by simp; omega, fun x hx => ?_⟩
          rcases List.mem_cons.1 hx with rfl | hx
          · exact hb
          · exact this.2 x hx
        · have := ih p (by simp [h]); exact ⟨by simp; omega, this.2⟩
      · rename_i hq; exact absurd hq (pieces_ne c l)

/-! ### the normal form -/
def dots (x : List UInt8) : Bool := decide (x = []) || decide (x = [46]) || decide (x = [46, 46])
def normK : List (List UInt8) → List (List UInt8) → Option (List (List UInt8))
  | kept, [] => some kept
  | kept, x :: r => if x = [46, 46] then (if kept = [] then none else normK kept.dropLast r) else if dots x then normK kept r else normK (kept ++ [x]) r
def build (kept : List (List UInt8)) (isOpen : Bool) : List UInt8 := 47 :: Lib.join kept [47] ++ (if isOpen = true ∧ kept ≠ [] then [47] else [])
def normal (l : List UInt8) : Option (List UInt8) :=
  match unesc l with
  | none => none
  | some p => if p.head? = some 47 then (normK [] (pieces 47 p.tail)).map fun kept => build kept (((pieces 47 p.tail).getLast?.map dots).getD false) else none

theorem unesc_length {l l' : List UInt8} (h : unesc l = some l') : l'.length ≤ l.length := by
  induction l using walkE_ind generalizing l' with
  | h0 => simp [unesc, walkE_nil] at h; subst h; simp
  | h1 c r ih hc =>
    unfold unesc at h
    cases hb : badU c with
    | true => rw [walkE_bad hb] at h; cases h
    | false =>
      rw [walkE_plain hb hc] at h
      cases hr : walkE badU encU r with
      | none => rw [hr] at h; cases h
      | some r' => rw [hr] at h; simp at h; subst h; have := ih hr; simp; omega
  | h2 a b r ih =>
    have hb : badU 37 = false := by decide
    unfold unesc at h
    cases hp : pair a b with
    | none => rw [walkE_none hp] at h; cases h
    | some n =>
      rw [walkE_some hb hp] at h
      cases hr : walkE badU encU r with
      | none => rw [hr] at h; cases h
      | some r' =>
        rw [hr] at h; simp at h; subst h
        have := ih hr
        have : (encU n).length ≤ 3 := by unfold encU; split <;> simp
        simp; omega
  | h3 r hr => unfold unesc at h; rw [walkE_short hr] at h; cases h

theorem join_length (kept : List (List UInt8)) (N : Nat) (h : ∀ x ∈ kept, x.length ≤ N) : (Lib.join kept [47]).length ≤ kept.length * (N + 1) := by
  unfold Lib.join
  induction kept with
  | nil => simp
  | cons x r ih =>
    have h1 := ih (fun y hy => h y (by simp [hy]))
    have h2 := h x (by simp)
    cases r with
    | nil => simp [List.intercalate]; omega
    | cons y r =>
      have e : List.intercalate [47] (x :: y :: r) = x ++ [47] ++ List.intercalate [47] (y :: r) := by simp [List.intercalate]
      rw [e]
      simp only [List.length_append, List.length_cons, List.length_nil] at h1 ⊢
      rw [Nat.add_mul (r.length + 1) 1 (N + 1)]
      omega

end Go.Proofs.YtgmjkkiahanekaaGreatDoor.Lex

/- The contracts of lex.letter, digit, Token, Decimal and Hex, and of the document's Marks, Token, number, Decimal and Hex: each answers what the plain words of LexA say, for every text; the world is as it was. -/
set_option linter.unusedVariables false
set_option linter.unusedSimpArgs false
namespace Go.Proofs.YtgmjkkiahanekaaGreatDoor
open Go.RowKit Lex

theorem ret_int {k : IntKind} {a b : Int} (h : a = b) : Ending.returned (.int k a) = .returned (.int k b) := by rw [h]
theorem ret_bool {a b : Bool} (h : a = b) : Ending.returned (.bool a) = .returned (.bool b) := by rw [h]

theorem digit_c (n : Int) (w : World) : Calls Tryz.prog 154 #[.int .u8 n] w fun e w' => e = .returned (.bool (digitI n)) ∧ w = w' := by
  go_enter Tryz.func154, Tryz.ntmps154
  go_wp2
  all_goals
    go_ret
    exact ⟨ret_bool (by unfold digitI; rw [Bool.eq_iff_iff]; simp <;> omega), rfl⟩

theorem letter_c (n : Int) (w : World) : Calls Tryz.prog 158 #[.int .u8 n] w fun e w' => e = .returned (.bool (letterI n)) ∧ w = w' := by
  go_enter Tryz.func158, Tryz.ntmps158
  go_wp2
  all_goals
    go_ret
    exact ⟨ret_bool (by unfold letterI; rw [Bool.eq_iff_iff]; simp <;> omega), rfl⟩

theorem indexByte_neg (l : List UInt8) (c : UInt8) : (Lib.indexByte l c < 0) ↔ l.contains c = false := by
  induction l with
  | nil => simp [Lib.indexByte]
  | cons b l ih =>
    simp only [Lib.indexByte]
    by_cases hb : b = c
    · subst hb; simp
    · have h1 : (b == c) = false := by simpa using hb
      have h2 : (c == b) = false := by simpa using fun h => hb h.symm
      rw [if_neg (by simp [h1])]
      have e : (b :: l).contains c = l.contains c := by rw [List.contains_cons, h2, Bool.false_or]
      rw [e, ← ih]
      have hge : Lib.indexByte l c = -1 ∨ 0 ≤ Lib.indexByte l c := by
        clear ih e
        induction l with
        | nil => left; rfl
        | cons d l ih =>
          simp only [Lib.indexByte]
          split
          · right; omega
          · split
            · left; rfl
            · right; rcases ih with h | h
              · rename_i h3; rw [h] at h3; simp at h3
              · omega
      split
      · rename_i h; have : Lib.indexByte l c = -1 := by simpa using h
        omega
      · rename_i h
        have : Lib.indexByte l c ≠ -1 := by simpa using h
        omega

theorem marks_c (c : UInt8) (w : World) :
    Calls Tryz.prog 159 #[.string ⟨#[33, 35, 36, 37, 38, 39, 42, 43, 45, 46, 94, 95, 124, 126, 96]⟩, .int .u8 c.toNat] w fun e w' => e = .returned (.int .i64 (Lib.indexByte marks c)) ∧ w = w' :=
  (Tryz.strings_IndexByte ⟨#[33, 35, 36, 37, 38, 39, 42, 43, 45, 46, 94, 95, 124, 126, 96]⟩ c.toNat w).mono fun e w' ⟨he, hw⟩ => ⟨by rw [he]; simp [marks], hw.symm⟩

theorem token_c (s : ByteArray) (w : World) (hs : s.size ≤ 9223372036854775807) : Calls Tryz.prog 134 #[.string s] w fun e w' => e = .returned (.bool (token s.data.toList)) ∧ w = w' := by
  go_enter Tryz.func134, Tryz.ntmps134
  go_wp2
  go_loop [7] (fun i => ∃ k : Nat, k ≤ s.size ∧ i = .int .i64 k ∧ (s.data.toList.take k).all tmark = true) (fun i => s.size - (intOf i).toNat)
  case atStart => exact ⟨0, Nat.zero_le _, rfl, by simp⟩
  case round =>
    obtain ⟨k, hk, rfl, ha⟩ := hrel
    by_cases hlt : k < s.size
    · have M := fun w => Lib.hid (marks_c s[k] w)
      have HA := Lib.hid ha
      clear ha
      cases hl : letterI s[k].toNat with
      | true =>
        have hm : tmark s[k] = true := by simp [tmark, letter, hl]
        have HM := Lib.hid hm
        clear hm
        go_wp2_with (go_at_call 158; refine (letter_c _ _).mono ?_; rintro e w' ⟨rfl, rfl⟩)
        go_round
        case rel => exact ⟨k + 1, by omega, by go_num, all_take_snoc _ s k hlt HA.out HM.out⟩
        case measure => simp [intOf]; omega
      | false =>
        cases hd : digitI s[k].toNat with
        | true =>
          have hm : tmark s[k] = true := by simp [tmark, digit, hd]
          have HM := Lib.hid hm
          clear hm
          go_wp2_with (first | (go_at_call 158; refine (letter_c _ _).mono ?_; rintro e w' ⟨rfl, rfl⟩) | (go_at_call 154; refine (digit_c _ _).mono ?_; rintro e w' ⟨rfl, rfl⟩))
          go_round
          case rel => exact ⟨k + 1, by omega, by go_num, all_take_snoc _ s k hlt HA.out HM.out⟩
          case measure => simp [intOf]; omega
        | false =>
          by_cases hn : Lib.indexByte marks s[k] < 0
          · have hm : tmark s[k] = false := by unfold tmark letter digit; rw [hl, hd, (indexByte_neg _ _).1 hn]; rfl
            have HM := Lib.hid (all_of_take tmark s k hlt hm)
            clear hm
            go_wp2_with (first | (go_at_call 158; refine (letter_c _ _).mono ?_; rintro e w' ⟨rfl, rfl⟩) | (go_at_call 154; refine (digit_c _ _).mono ?_; rintro e w' ⟨rfl, rfl⟩) | (go_at_call 159; refine (M _).out.mono ?_; rintro e w' ⟨rfl, rfl⟩))
            go_ret
            exact ⟨ret_bool (by unfold token; rw [HM.out]; simp), rfl⟩
          · have hm : tmark s[k] = true := by
              have : marks.contains s[k] = true := by
                rw [← Bool.not_eq_false]; exact fun h => hn ((indexByte_neg _ _).2 h)
              unfold tmark; rw [this]; simp
            have HM := Lib.hid hm
            clear hm
            go_wp2_with (first | (go_at_call 158; refine (letter_c _ _).mono ?_; rintro e w' ⟨rfl, rfl⟩) | (go_at_call 154; refine (digit_c _ _).mono ?_; rintro e w' ⟨rfl, rfl⟩) | (go_at_call 159; refine (M _).out.mono ?_; rintro e w' ⟨rfl, rfl⟩))
            go_round
            case rel => exact ⟨k + 1, by omega, by go_num, all_take_snoc _ s k hlt HA.out HM.out⟩
            case measure => simp [intOf]; omega
    · have HA := Lib.hid ha
      clear ha
      go_wp2
      go_ret
      exact ⟨ret_bool (by have h := HA.out; rw [take_all s k hlt] at h; unfold token; rw [h, ByteArray.toList_eq]; simp), rfl⟩

/-! ### the document's -/
theorem rmarks_c (c : UInt8) (w : World) : Calls Tryz.prog 79 #[.int .u8 c.toNat] w fun e w' => e = .returned (.bool (tmark c)) ∧ w = w' := by
  have hc := c.toNat_lt
  have hm : tmark c = (letterI c.toNat || digitI c.toNat || decide ((c.toNat : Int) = 33 ∨ (c.toNat : Int) = 35 ∨ (c.toNat : Int) = 36 ∨ (c.toNat : Int) = 37 ∨ (c.toNat : Int) = 38 ∨ (c.toNat : Int) = 39 ∨ (c.toNat : Int) = 42 ∨ (c.toNat : Int) = 43 ∨ (c.toNat : Int) = 45 ∨ (c.toNat : Int) = 46 ∨ (c.toNat : Int) = 94 ∨ (c.toNat : Int) = 95 ∨ (c.toNat : Int) = 96 ∨ (c.toNat : Int) = 124 ∨ (c.toNat : Int) = 126)) := by
    unfold tmark letter digit
    congr 1
    rw [Bool.eq_iff_iff]
    simp only [marks, List.contains_cons, List.contains_nil, Bool.or_false, Bool.or_eq_true, beq_iff_eq, decide_eq_true_eq, ← UInt8.toNat_inj]
    simp only [UInt8.reduceToNat]
    omega
  have HM := Lib.hid hm
  clear hm hc
  generalize tmark c = q at *
  generalize (c.toNat : Int) = n at *
  go_enter Tryz.func79, Tryz.ntmps79
  go_wp2
  all_goals go_ret
  all_goals exact ⟨ret_bool (by
    rw [HM.out, Bool.eq_iff_iff]
    simp only [beq_iff_eq, beq_eq_false_iff_ne, ne_eq] at *
    simp [letterI, digitI] <;> omega), rfl⟩

theorem rtoken_c (s : ByteArray) (w : World) (hs : s.size ≤ 9223372036854775807) : Calls Tryz.prog 53 #[.string s] w fun e w' => e = .returned (.bool (token s.data.toList)) ∧ w = w' := by
  go_enter Tryz.func53, Tryz.ntmps53
  go_wp2
  go_loop [3] (fun i => ∃ k : Nat, k ≤ s.size ∧ i = .int .i64 k ∧ (s.data.toList.take k).all tmark = true) (fun i => s.size - (intOf i).toNat)
  case atStart => exact ⟨0, Nat.zero_le _, rfl, by simp⟩
  case round =>
    obtain ⟨k, hk, rfl, ha⟩ := hrel
    have HA := Lib.hid ha
    clear ha
    by_cases hlt : k < s.size
    · cases hm : tmark s[k] with
      | true =>
        go_wp2_with (go_at_call 79; refine (rmarks_c _ _).mono ?_; rintro e w' ⟨rfl, rfl⟩)
        go_round
        case rel => exact ⟨k + 1, by omega, by go_num, all_take_snoc _ s k hlt HA.out hm⟩
        case measure => simp [intOf]; omega
      | false =>
        have HM := Lib.hid (all_of_take tmark s k hlt hm)
        go_wp2_with (go_at_call 79; refine (rmarks_c _ _).mono ?_; rintro e w' ⟨rfl, rfl⟩)
        go_ret
        exact ⟨ret_bool (by unfold token; rw [HM.out]; simp), rfl⟩
    · go_wp2
      go_ret
      exact ⟨ret_bool (by
        have h := HA.out; rw [take_all s k hlt] at h; unfold token; rw [h]
        rw [isEmpty_size, Bool.and_true, Bool.eq_iff_iff]; simp only [decide_eq_true_eq, Bool.not_eq_true', decide_eq_false_iff_not]; omega), rfl⟩

end Go.Proofs.YtgmjkkiahanekaaGreatDoor

