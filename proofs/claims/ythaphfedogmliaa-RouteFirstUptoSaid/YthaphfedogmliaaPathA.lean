/- Plain words of layer 5 over lists of bytes: escapes, what a text without needless escapes is, what it decodes to; no program in sight. -/
import Derived.Test.YthaphfedogmliaaLexP
set_option linter.unusedVariables false
set_option linter.unusedSimpArgs false
namespace Go.Proofs.Ythaphfedogmliaa.Lex

def plainB (c : UInt8) : Bool := letter c || digit c || ([45, 46, 95, 126] : List UInt8).contains c
def badU (c : UInt8) : Bool := decide ((c.toNat : Int) < 33) || decide (126 < (c.toNat : Int)) || decide ((c.toNat : Int) = 63) || decide ((c.toNat : Int) = 35)
/-- A large digit of a number below 16. -/
def large (n : Nat) : UInt8 := ([48, 49, 50, 51, 52, 53, 54, 55, 56, 57, 65, 66, 67, 68, 69, 70] : List UInt8).getD n 0
def encU (n : UInt8) : List UInt8 := if plainB n then [n] else [37, large (n.toNat / 16), large (n.toNat % 16)]
/-- The byte of two digits. -/
def pair (a b : UInt8) : Option UInt8 := if worth a < 16 ∧ worth b < 16 then some (UInt8.ofNat (worth a * 16 + worth b).toNat) else none

/-- A text gone through escape by escape. -/
def walkE (bad : UInt8 → Bool) (enc : UInt8 → List UInt8) : List UInt8 → Option (List UInt8)
  | [] => some []
  | [c] => if bad c then none else if c = 37 then none else some [c]
  | [c, d] => if bad c then none else if c = 37 then none else (walkE bad enc [d]).map (c :: ·)
  | c :: a :: b :: r => if bad c then none else if c = 37 then (match pair a b with | none => none | some n => (walkE bad enc r).map (enc n ++ ·)) else (walkE bad enc (a :: b :: r)).map (c :: ·)

section
variable {bad : UInt8 → Bool} {enc : UInt8 → List UInt8}
theorem walkE_nil : walkE bad enc [] = some [] := rfl
theorem walkE_bad {c : UInt8} {r : List UInt8} (h : bad c = true) : walkE bad enc (c :: r) = none := by
  match r with
  | [] => simp [walkE, h]
  | [d] => simp [walkE, h]
  | a :: b :: r => simp [walkE, h]
theorem walkE_plain {c : UInt8} {r : List UInt8} (h : bad c = false) (h' : c ≠ 37) : walkE bad enc (c :: r) = (walkE bad enc r).map (c :: ·) := by
  match r with
  | [] => simp [walkE, h, h']
  | [d] => simp [walkE, h, h']
  | a :: b :: r => simp [walkE, h, h']
theorem walkE_short {r : List UInt8} (h : r.length < 2) : walkE bad enc (37 :: r) = none := by
  match r, h with
  | [], _ => simp [walkE]
  | [d], _ => simp [walkE]
theorem walkE_none {a b : UInt8} {r : List UInt8} (h : pair a b = none) : walkE bad enc (37 :: a :: b :: r) = none := by
  simp [walkE, h]
theorem walkE_some {a b n : UInt8} {r : List UInt8} (hb : bad 37 = false) (h : pair a b = some n) : walkE bad enc (37 :: a :: b :: r) = (walkE bad enc r).map (enc n ++ ·) := by
  simp [walkE, h, hb]

/-- Induction along a walk. -/
theorem walkE_ind {P : List UInt8 → Prop} (h0 : P []) (h1 : ∀ c r, P r → c ≠ 37 → P (c :: r)) (h2 : ∀ a b r, P r → P (37 :: a :: b :: r)) (h3 : ∀ r, r.length < 2 → P (37 :: r)) : ∀ l, P l := by
  intro l
  induction hn : l.length using Nat.strongRecOn generalizing l with
  | ind n ih =>
    match l with
    | [] => exact h0
    | c :: r =>
      by_cases hc : c = 37
      · subst hc
        match r with
        | [] => exact h3 _ (by simp)
        | [d] => exact h3 _ (by simp)
        | a :: b :: r => exact h2 a b r (ih r.length (by simp at hn; omega) r rfl)
      · exact h1 c r (ih r.length (by simp at hn; omega) r rfl) hc

theorem walkE_append {l l' m : List UInt8} (h : walkE bad enc l = some l') : walkE bad enc (l ++ m) = (walkE bad enc m).map (l' ++ ·) := by
  induction l using walkE_ind generalizing l' with
  | h0 => simp [walkE_nil] at h; subst h; simp
  | h1 c r ih hc =>
    cases hb : bad c with
    | true => rw [walkE_bad hb] at h; cases h
    | false =>
      rw [walkE_plain hb hc] at h
      rw [List.cons_append, walkE_plain hb hc]
      cases hr : walkE bad enc r with
      | none => rw [hr] at h; cases h
      | some r' =>
        rw [hr] at h; simp at h; subst h
        rw [ih hr, Option.map_map]
        rfl
  | h2 a b r ih =>
    cases hb : bad 37 with
    | true => rw [walkE_bad hb] at h; cases h
    | false =>
      cases hp : pair a b with
      | none => rw [walkE_none hp] at h; cases h
      | some n =>
        rw [walkE_some hb hp] at h
        rw [List.cons_append, List.cons_append, List.cons_append, walkE_some hb hp]
        cases hr : walkE bad enc r with
        | none => rw [hr] at h; cases h
        | some r' =>
          rw [hr] at h; simp at h; subst h
          rw [ih hr, Option.map_map]
          congr 1
          funext x
          simp
  | h3 r hr => rw [walkE_short hr] at h; cases h
end

def unesc : List UInt8 → Option (List UInt8) := walkE badU encU
def decodeL : List UInt8 → Option (List UInt8) := walkE (fun _ => false) (fun n => [n])

/-! ### what comes out of unesc stays -/
theorem encU_fixed (n : UInt8) : unesc (encU n) = some (encU n) := by
  have key : ∀ n : Fin 256, unesc (encU (UInt8.ofNat n.val)) = some (encU (UInt8.ofNat n.val)) := by decide +kernel
  have h := key ⟨n.toNat, n.toNat_lt⟩
  simpa using h
theorem unesc_single {c : UInt8} (h : badU c = false) (h' : c ≠ 37) : unesc [c] = some [c] := by
  unfold unesc; rw [walkE_plain h h', walkE_nil]; rfl
theorem unesc_append {a b a' b' : List UInt8} (ha : unesc a = some a') (hb : unesc b = some b') : unesc (a ++ b) = some (a' ++ b') := by
  have := walkE_append (m := b) ha
  have hb' : walkE badU encU b = some b' := hb
  rw [hb'] at this
  exact this
theorem unesc_fixed {l l' : List UInt8} (h : unesc l = some l') : unesc l' = some l' := by
  induction l using walkE_ind generalizing l' with
  | h0 => simp [unesc, walkE_nil] at h; subst h; rfl
  | h1 c r ih hc =>
    cases hb : badU c with
    | true => unfold unesc at h; rw [walkE_bad hb] at h; cases h
    | false =>
      unfold unesc at h
      rw [walkE_plain hb hc] at h
      cases hr : walkE badU encU r with
      | none => rw [hr] at h; cases h
      | some r' =>
        rw [hr] at h; simp at h; subst h
        exact unesc_append (a := [c]) (unesc_single hb hc) (ih hr)
  | h2 a b r ih =>
    have hb : badU 37 = false := by decide
    unfold unesc at h
    cases hp : pair a b with
    | none => rw [walkE_none hp] at h; cases h
    | some n =>
      rw [walkE_some hb hp] at h
      cases hr : walkE badU encU r with
      | none => rw [hr] at h; cases h
      | some r' =>
        rw [hr] at h; simp at h; subst h
        exact unesc_append (encU_fixed n) (ih hr)
  | h3 r hr => unfold unesc at h; rw [walkE_short hr] at h; cases h

end Go.Proofs.Ythaphfedogmliaa.Lex
