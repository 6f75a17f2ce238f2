/- The texts OutK in one. -/
import Derived.Test.YtgmjkkiahanekaaDoorM7
import Derived.Test.YtgmjkkiahanekaaDoorM27
/- The plain law of OutflowInterim: interim responses ahead change nothing. -/
set_option linter.unusedVariables false
set_option linter.unusedSimpArgs false
namespace Go.Proofs.YtgmjkkiahanekaaDoor
open Lex

def interL (n : Nat) : List UInt8 := [72, 84, 84, 80, 47, 49, 46, 49, 32] ++ digF 2 n ++ [32, 87, 97, 105, 116, 13, 10, 88, 58, 32, 121, 13, 10, 13, 10]
def interOk (n : Nat) : Bool :=
  decide ((readAt statusL (interL n)).2.2 = 0) && decide ((readAt statusL (interL n)).2.1 = (interL n).length) && decide ((readAt statusL (interL n)).1.status = n)
theorem inter_ok : ∀ n, n < 200 → 100 ≤ n → interOk n = true := by decide +kernel
theorem interL_pos (n : Nat) : 0 < (interL n).length := by unfold interL; simp
theorem interL_len (n : Nat) : (interL n).length ≤ 30 := by unfold interL; have := dig_len 2 n; simp only [List.length_append, List.length_cons, List.length_nil]; omega
def Inter (n : Nat) : Prop := 100 ≤ n ∧ n < 200 ∧ n ≠ 101
theorem inter_skip (me : List UInt8) {n : Nat} (h : Inter n) (b : List UInt8) (K : Nat) : headsR me (K + 1) (interL n ++ b) = headsR me K b := by
  obtain ⟨h1, h2, h3⟩ := h
  have g := inter_ok n h2 h1
  unfold interOk at g
  simp only [Bool.and_eq_true, decide_eq_true_eq] at g
  obtain ⟨⟨g1, g2⟩, g3⟩ := g
  have hm := status_more b (B := interL n) (.inr (by rw [g2]; exact interL_pos n))
  have hnb : noBody (n : Int) = true := by unfold noBody; simp; omega
  have hr : respF me (readAt statusL (interL n)).1.status (readAt statusL (interL n)).1.minor (readAt statusL (interL n)).1.fields = (1, 0, 0) := by
    unfold respF
    rw [g3, if_neg (by omega), if_pos hnb]
  rw [headsR, hm, g1, g2, hr, if_neg (fun h => h.elim (fun h => h rfl) (fun h => by have := interL_pos n; omega)), if_neg (by simp), if_pos (by rw [g3]; omega), List.drop_left]
theorem inter_heads (me x : List UInt8) : ∀ ns : List Nat, (∀ n ∈ ns, Inter n) → headsR me (((ns.map interL).flatten ++ x).length + 1) ((ns.map interL).flatten ++ x) = headsR me (x.length + 1) x
  | [], _ => rfl
  | n :: r, h => by
    rw [List.map_cons, List.flatten_cons, List.append_assoc, inter_skip me (h n (List.mem_cons_self ..))]
    rw [heads_fuel me _ _ (((r.map interL).flatten ++ x).length + 1) (by have := interL_pos n; simp only [List.length_append]; omega) (Nat.lt_succ_self _)]
    exact inter_heads me x r (fun m hm => h m (List.mem_cons_of_mem _ hm))
theorem allR_new (me b : List UInt8) : allR { method := me, buf := b } = match headsR me (b.length + 1) b with
    | (none, e, c) => (none, [], { ({ method := me, buf := b } : Rd) with buf := c, err := if e = 0 then (if ({ method := me, buf := b } : Rd).closed = true then 121 else 0) else e })
    | (some (h, k, l), _, c) => (some h.status, bodyAll (headed { method := me, buf := b } h k l c)) := by
  unfold allR
  rw [if_neg (by simp), if_pos rfl]
  rfl
theorem inter_allR (me A x : List UInt8) (h : headsR me ((A ++ x).length + 1) (A ++ x) = headsR me (x.length + 1) x) : allR { method := me, buf := A ++ x } = allR { method := me, buf := x } := by
  rw [allR_new, allR_new, h]
  split <;> rfl
theorem inter_told (me x : List UInt8) (c : Bool) (ns : List Nat) (h : ∀ n ∈ ns, Inter n) : toldR me [(ns.map interL).flatten ++ x] c = toldR me [x] c := by
  have e := inter_allR me _ x (inter_heads me x ns h)
  have e2 : addR (newS me) ((ns.map interL).flatten ++ x) = addR (newS me) x := by
    unfold addR
    rw [show feedR (newS me).2.2 ((ns.map interL).flatten ++ x) = { method := me, buf := (ns.map interL).flatten ++ x } from rfl, show feedR (newS me).2.2 x = { method := me, buf := x } from rfl, e]
  show endsR (addR (newS me) _) c = endsR (addR (newS me) x) c
  rw [e2]
end Go.Proofs.YtgmjkkiahanekaaDoor

