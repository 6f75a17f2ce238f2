/- The texts OutS in one. -/
import Derived.Test.YtgmjkkiahanekaaDoorM30
import Derived.Test.YtgmjkkiahanekaaDoorM3
import Derived.Test.YtgmjkkiahanekaaDoorM31
/- The plain law of OutflowBack, its third part: a body in one chunk comes out as it is. -/
set_option linter.unusedVariables false
set_option linter.unusedSimpArgs false
namespace Go.Proofs.YtgmjkkiahanekaaDoor
open Lex

def d0 : Dec := { most := 1099511627776 }
def hexOk (n : Nat) : Bool :=
  decide ((runD d0 (hexR 8 n ++ [13, 10])).1 = []) && decide ((runD d0 (hexR 8 n ++ [13, 10])).2.2.st = 1) && decide ((runD d0 (hexR 8 n ++ [13, 10])).2.2.left = n) && decide ((runD d0 (hexR 8 n ++ [13, 10])).2.2.line = [])
   && decide ((runD d0 (hexR 8 n ++ [13, 10])).2.2.cr = false) && decide ((runD d0 (hexR 8 n ++ [13, 10])).2.2.err = 0)
def hexTo (a : Nat) : Bool := (List.range 100).all fun b => decide (a * 100 + b = 0) || hexOk (a * 100 + b)
theorem hex_0 : ((List.range 34).all fun a => hexTo a) = true := by kernel_rfl
theorem hex_1 : ((List.range 34).all fun a => hexTo (34 + a)) = true := by kernel_rfl
theorem hex_2 : ((List.range 34).all fun a => hexTo (68 + a)) = true := by kernel_rfl
theorem hexTo_all (i : Nat) (h : i ≤ 100) : hexTo i = true := by
  by_cases h1 : i < 34
  · exact List.all_eq_true.1 hex_0 i (List.mem_range.2 h1)
  · by_cases h2 : i < 68
    · have := List.all_eq_true.1 hex_1 (i - 34) (List.mem_range.2 (by omega))
      rwa [show 34 + (i - 34) = i by omega] at this
    · have := List.all_eq_true.1 hex_2 (i - 68) (List.mem_range.2 (by omega))
      rwa [show 68 + (i - 68) = i by omega] at this
theorem hex_ok (n : Nat) (h : n ≤ 10000) (h0 : 0 < n) : hexOk n = true := by
  have h1 := List.all_eq_true.1 (hexTo_all (n / 100) (by omega)) (n % 100) (List.mem_range.2 (by omega))
  rw [show n / 100 * 100 + n % 100 = n by omega, decide_eq_false (by omega), Bool.false_or] at h1
  exact h1
/-- The bytes of a chunk. -/
theorem run_data : ∀ (b : List UInt8) (d : Dec), 0 < b.length → d.st = 1 → d.left = (b.length : Int) → d.err = 0 →
    (runD d b).1 = b ∧ (runD d b).2.2.st = 2 ∧ (runD d b).2.2.err = 0 ∧ (runD d b).2.2.line = d.line ∧ (runD d b).2.2.cr = d.cr
  | [], d, h, _, _, _ => by simp at h
  | [c], d, _, hs, hl, he => by
    have hn : ¬ (d.st = 4 ∨ d.err ≠ 0) := by rw [hs, he]; simp
    rw [runD_cons hn]
    have h1 : d.left = 1 := by simpa using hl
    unfold stepD
    rw [if_pos hs, if_pos h1]
    exact ⟨rfl, rfl, he, rfl, rfl⟩
  | c :: c2 :: r, d, _, hs, hl, he => by
    have hn : ¬ (d.st = 4 ∨ d.err ≠ 0) := by rw [hs, he]; simp
    have hl2 : d.left = (r.length : Int) + 2 := by simp only [List.length_cons] at hl; omega
    have hst : stepD d c = ({ d with size := d.size + 1, left := d.left - 1, st := 1 }, [c]) := by
      unfold stepD; rw [if_pos hs, if_neg (by omega)]
    have ih := run_data (c2 :: r) { d with size := d.size + 1, left := d.left - 1, st := 1 } (by simp) rfl (by simp only [List.length_cons]; omega) he
    rw [runD_cons hn, hst]
    obtain ⟨i1, i2, i3, i4, i5⟩ := ih
    exact ⟨by rw [i1]; rfl, i2, i3, i4, i5⟩
/-- What stands behind a chunk's bytes. -/
theorem run_tail (d : Dec) (hs : d.st = 2) (he : d.err = 0) (hl : d.line = []) (hc : d.cr = false) :
    ((runD d [13, 10, 48, 13, 10, 13, 10]).1 = [] ∧ (runD d [13, 10, 48, 13, 10, 13, 10]).2.2.st = 4 ∧ (runD d [13, 10, 48, 13, 10, 13, 10]).2.2.err = 0) ∧
    ((runD d [13, 10, 48, 13, 10, 13]).1 = [] ∧ (runD d [13, 10, 48, 13, 10, 13]).2.2.st = 3 ∧ (runD d [13, 10, 48, 13, 10, 13]).2.2.err = 0) := by
  obtain ⟨m, z, st, lf, ln, cr, tr, er⟩ := d
  simp only at hs he hl hc
  subst hs he hl hc
  exact ⟨⟨by kernel_rfl, by kernel_rfl, by kernel_rfl⟩, ⟨by kernel_rfl, by kernel_rfl, by kernel_rfl⟩⟩
theorem run_empty : ((runD d0 [48, 13, 10, 13, 10]).1 = [] ∧ (runD d0 [48, 13, 10, 13, 10]).2.2.st = 4 ∧ (runD d0 [48, 13, 10, 13, 10]).2.2.err = 0) ∧
    ((runD d0 [48, 13, 10, 13]).1 = [] ∧ (runD d0 [48, 13, 10, 13]).2.2.st = 3 ∧ (runD d0 [48, 13, 10, 13]).2.2.err = 0) := ⟨⟨by kernel_rfl, by kernel_rfl, by kernel_rfl⟩, ⟨by kernel_rfl, by kernel_rfl, by kernel_rfl⟩⟩
/-- The whole of an encoded body, and the whole less its last byte. -/
theorem run_enc (b : List UInt8) (hb : b.length ≤ 10000) :
    ((runD d0 (encL b ++ [48, 13, 10, 13, 10])).1 = b ∧ (runD d0 (encL b ++ [48, 13, 10, 13, 10])).2.2.st = 4 ∧ (runD d0 (encL b ++ [48, 13, 10, 13, 10])).2.2.err = 0) ∧
    ((runD d0 (encL b ++ [48, 13, 10, 13])).1 = b ∧ (runD d0 (encL b ++ [48, 13, 10, 13])).2.2.st = 3 ∧ (runD d0 (encL b ++ [48, 13, 10, 13])).2.2.err = 0) := by
  unfold encL
  by_cases h : b = []
  · subst h
    rw [if_pos rfl]
    exact run_empty
  · rw [if_neg h]
    have hp : 0 < b.length := List.length_pos_iff.2 h
    have g := hex_ok b.length hb hp
    unfold hexOk at g
    simp only [Bool.and_eq_true, decide_eq_true_eq] at g
    obtain ⟨⟨⟨⟨⟨g1, g2⟩, g3⟩, g4⟩, g5⟩, g6⟩ := g
    have r2 := run_data b _ hp g2 g3 g6
    rw [g4, g5] at r2
    obtain ⟨q1, q2, q3, q4, q5⟩ := r2
    obtain ⟨⟨t1, t2, t3⟩, ⟨u1, u2, u3⟩⟩ := run_tail _ q2 q3 q4 q5
    have A : ∀ y : List UInt8, (hexR 8 b.length ++ [13, 10] ++ b ++ [13, 10]) ++ y = (hexR 8 b.length ++ [13, 10]) ++ (b ++ ([13, 10] ++ y)) := fun y => by simp
    generalize hexR 8 b.length ++ [13, 10] = P at *
    constructor
    · rw [A, runD_app, if_neg (by rw [g2, g6]; simp), runD_app, if_neg (by rw [q2, q3]; simp), g1, q1]
      exact ⟨by simp only [List.cons_append, List.nil_append]; rw [t1]; simp, t2, t3⟩
    · rw [A, runD_app, if_neg (by rw [g2, g6]; simp), runD_app, if_neg (by rw [q2, q3]; simp), g1, q1]
      exact ⟨by simp only [List.cons_append, List.nil_append]; rw [u1]; simp, u2, u3⟩
theorem back_ch (b : List UInt8) (hb : b.length ≤ 10000) (more : List UInt8) : Well (toldR getM [chHead ++ (encL b ++ [48, 13, 10, 13, 10] ++ more)] true) b := by
  obtain ⟨hd, r0, hr, a1, a2, a3⟩ := told_framed framed_ch (by decide) (encL b ++ [48, 13, 10, 13, 10] ++ more)
  obtain ⟨⟨e1, e2, e3⟩, -⟩ := run_enc b hb
  have hx : runD d0 (encL b ++ [48, 13, 10, 13, 10] ++ more) = runD d0 (encL b ++ [48, 13, 10, 13, 10]) := by rw [runD_app, if_pos (.inl e2)]
  have m2 : r0.mode = 2 := by subst hr; rfl
  have m3 : r0.buf = encL b ++ [48, 13, 10, 13, 10] ++ more := by subst hr; rfl
  have m4 : r0.dec = d0 := by subst hr; rfl
  have m5 : r0.over = false := by subst hr; rfl
  have m6 : r0.err = 0 := by subst hr; rfl
  obtain ⟨y, hy⟩ : ∃ y, runD d0 (encL b ++ [48, 13, 10, 13, 10] ++ more) = y := ⟨_, rfl⟩
  rw [← hx, hy] at e1 e2 e3
  have hb2 : bodyAll r0 = (b, endR { r0 with buf := r0.buf.drop y.2.1, dec := y.2.2, over := true }) := by
    unfold bodyAll
    rw [if_neg (by rw [m2]; decide), if_pos m2, if_neg (by rw [m5]; decide), m3, m4, hy, if_neg (by rw [e3]; decide), if_pos e2, e1]
  rw [hb2] at a1 a2 a3
  simp only at a1 a2 a3
  rw [all_ended (by rfl)] at a1 a2 a3
  exact ⟨a1, by rw [a2]; simp, by rw [a3]; rfl, by rw [a3]; exact m6⟩
theorem back_ch_short (b : List UInt8) (hb : b.length ≤ 10000) : Short (toldR getM [chHead ++ (encL b ++ [48, 13, 10, 13])] true) := by
  obtain ⟨hd, r0, hr, a1, a2, a3⟩ := told_framed framed_ch (by decide) (encL b ++ [48, 13, 10, 13])
  obtain ⟨-, ⟨e1, e2, e3⟩⟩ := run_enc b hb
  have hall := runD_all (d := d0) (s := encL b ++ [48, 13, 10, 13]) (by rw [e2, e3]; simp)
  have m2 : r0.mode = 2 := by subst hr; rfl
  have m3 : r0.buf = encL b ++ [48, 13, 10, 13] := by subst hr; rfl
  have m4 : r0.dec = d0 := by subst hr; rfl
  have m5 : r0.over = false := by subst hr; rfl
  have m7 : r0.ended = false := by subst hr; rfl
  have m8 : r0.closed = false := by subst hr; rfl
  obtain ⟨y, hy⟩ : ∃ y, runD d0 (encL b ++ [48, 13, 10, 13]) = y := ⟨_, rfl⟩
  rw [hy] at e1 e2 e3 hall
  have hb2 : bodyAll r0 = (b, { r0 with buf := [], dec := y.2.2, over := false, err := 0 }) := by
    unfold bodyAll
    rw [if_neg (by rw [m2]; decide), if_pos m2, if_neg (by rw [m5]; decide), m3, m4, hy, if_neg (by rw [e3]; decide), if_neg (by rw [e2]; decide), e1, hall, List.drop_length]
    unfold shortR
    simp only [m8]
    rfl
  have ha : allR { ({ r0 with buf := [], dec := y.2.2, over := false, err := 0 } : Rd) with closed := true } = (none, [], { r0 with buf := [], dec := y.2.2, over := false, err := 121, closed := true }) := by
    rw [all_body (by simp [m7]) (by simp [m2])]
    unfold bodyAll
    rw [if_neg (by simp [m2]), if_pos m2]
    simp [runD_nil, e2, e3, shortR]
  rw [hb2] at a1 a2 a3
  simp only at a1 a2 a3
  rw [ha] at a1 a2 a3
  exact ⟨by rw [a3]; exact m7, by rw [a3]⟩
end Go.Proofs.YtgmjkkiahanekaaDoor

