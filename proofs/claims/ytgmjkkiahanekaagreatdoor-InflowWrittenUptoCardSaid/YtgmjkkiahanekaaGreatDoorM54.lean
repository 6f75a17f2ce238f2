/- The texts PlY in one. -/
import Derived.Test.YtgmjkkiahanekaaGreatDoorM48
/- The plain law of InflowWritten: requests written one behind the other come out in their order. -/
set_option linter.unusedVariables false
set_option linter.unusedSimpArgs false
namespace Go.Proofs.YtgmjkkiahanekaaGreatDoor
open Lex

def postW : List UInt8 := [80, 79, 83, 84]
def pth (i : Nat) : List UInt8 := [47, 112] ++ digF 5 i
def pthOk (i : Nat) : Bool := decide ((parseT postW (pth i)).2 = 0) && decide ((parseT postW (pth i)).1.form = 1) && decide ((parseT postW (pth i)).1.path = pth i) && (pth i).all tchar && decide ((pth i).length ≤ 100)
theorem pth_all : ((List.range 40).all pthOk) = true := by kernel_rfl
theorem pth_ok {i : Nat} (h : i < 40) : (parseT postW (pth i)).2 = 0 ∧ (parseT postW (pth i)).1.form = 1 ∧ (parseT postW (pth i)).1.path = pth i ∧ (pth i).all tchar = true ∧ (pth i).length ≤ 100 := by
  have := List.all_eq_true.1 pth_all i (List.mem_range.2 h)
  unfold pthOk at this
  simp only [Bool.and_eq_true, decide_eq_true_eq] at this
  exact ⟨this.1.1.1.1, this.1.1.1.2, this.1.1.2, this.1.2, this.2⟩
def kOf (size : Int) (i : Nat) : Int := if i % 2 = 1 then 0 else size
def wone (size : Int) (i : Nat) (b : List UInt8) : List UInt8 := wrL postW (pth i) b (kOf size i)
/-- The texts of the bodies from the i-th on. -/
def wfrom (size : Int) : Nat → List (List UInt8) → List UInt8
  | _, [] => []
  | i, b :: l => wone size i b ++ wfrom size (i + 1) l
theorem wfrom_snoc (size : Int) : ∀ (l : List (List UInt8)) (i : Nat) (b : List UInt8), wfrom size i (l ++ [b]) = wfrom size i l ++ wone size (i + l.length) b
  | [], i, b => by simp [wfrom]
  | c :: l, i, b => by
    rw [List.cons_append, wfrom, wfrom, wfrom_snoc size l (i + 1) b, List.append_assoc, List.length_cons, show i + 1 + l.length = i + (l.length + 1) by omega]
/-- What is read of them. -/
structure OneW (i : Nat) (b : List UInt8) (q : Rq) : Prop where
  body : q.body = b
  sized : q.sized = true
  path : q.tg.path = pth i
  meth : q.head.method = postW
theorem wfrom_docs (size : Int) : ∀ (l : List (List UInt8)) (i : Nat), i + l.length ≤ 40 → (∀ b ∈ l, b.length ≤ 500) →
    ∃ qs : List Rq, docs 1000 (wfrom size i l) = (qs, [], 0) ∧ qs.length = l.length ∧ ∀ j (h : j < l.length) (h2 : j < qs.length), OneW (i + j) (l[j]'h) (qs[j]'h2)
  | [], i, _, _ => ⟨[], docs_nil 1000, rfl, fun j h => absurd h (Nat.not_lt_zero _)⟩
  | b :: l, i, hi, hb => by
    simp only [List.length_cons] at hi
    obtain ⟨qs, h1, h2, h3⟩ := wfrom_docs size l (i + 1) (by omega) (fun x hx => hb x (List.mem_cons_of_mem _ hx))
    obtain ⟨p1, p2, p3, p4, p5⟩ := pth_ok (i := i) (by omega)
    have hbl := hb b List.mem_cons_self
    obtain ⟨q, q1, q2, q3, q4, q5⟩ := (wr_doc (me := postW) (t := pth i) (tg := (parseT postW (pth i)).1) (by decide) (by decide) (by decide) p4 (by simp [pth]) (by omega) (Prod.ext rfl p1) p2 (body := b) (by omega) 1000 (kOf size i) (by decide) (wfrom size (i + 1) l)).1 (by omega)
    refine ⟨q :: qs, ?_, by simp [h2], ?_⟩
    · rw [wfrom, wone, docs_step q1, List.drop_left, h1]
    · intro j h h'
      cases j with
      | zero => exact ⟨q2, q3, by rw [List.getElem_cons_zero, q4, p3]; rfl, q5⟩
      | succ j =>
        have := h3 j (by simpa using h) (by simpa using h')
        rw [show i + (j + 1) = i + 1 + j by omega]
        exact this
end Go.Proofs.YtgmjkkiahanekaaGreatDoor

