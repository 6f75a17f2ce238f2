/- Plain laws of HeadBounds: what the texts at the bounds are as heads; no program in sight. -/
import Derived.Test.YtjbmipbjlhcooaaDoorHdW
set_option linter.unusedVariables false
set_option linter.unusedSimpArgs false
namespace Go.Proofs.YtjbmipbjlhcooaaDoor
open Lex

def crlf : List UInt8 := [13, 10]
def httpE : List UInt8 := [72, 84, 84, 80, 47, 49, 46, 49]
def aas (n : Nat) : List UInt8 := List.replicate n 97
theorem lineL_long {over : Int} {room : Nat} {l : List UInt8} (t : List UInt8) (h : l.all lb = true) (hl : room < l.length) : lineL over room (l ++ t) = (none, over) := by
  have e1 := List.take_append_drop room l
  rw [List.drop_eq_getElem_cons hl] at e1
  have e : l ++ t = l.take room ++ (l[room] :: (l.drop (room + 1) ++ t)) := by
    rw [← List.cons_append, ← List.append_assoc, e1]
  have hb : lb l[room] = true := List.all_eq_true.1 h _ (List.getElem_mem hl)
  simp only [lb, Bool.and_eq_true, decide_eq_true_eq] at hb
  rw [e, lineL_app over _ room _ (by rw [List.all_eq_true] at h ⊢; exact fun x hx => h x (List.mem_of_mem_take hx)) (by rw [List.length_take]; omega), List.length_take, show room - min room l.length = 0 by omega, lineL_over over _ hb.1 hb.2]
  rfl
theorem lineL_part {over : Int} {room : Nat} {l : List UInt8} (h : l.all lb = true) (hl : l.length ≤ room) : lineL over room l = (none, 0) := by
  have := lineL_app over l room [] h hl
  rw [List.append_nil, lineL_nil] at this
  exact this
theorem all_aas {p : UInt8 → Bool} (h : p 97 = true) (n : Nat) : (aas n).all p = true := by
  rw [List.all_eq_true]; intro x hx; rw [List.eq_of_mem_replicate hx]; exact h
theorem aas_length (n : Nat) : (aas n).length = n := List.length_replicate
theorem skip0 (c : UInt8) (r : List UInt8) (h : c ≠ 13) : SkipAt true (c :: r) 0 := by
  unfold SkipAt
  rw [if_pos rfl, fresh_iff.2 (fun t e => by injection e with e _; exact h e)]
/-! ### a start line -/
def getL (b : List UInt8) : List UInt8 := [71, 69, 84] ++ 32 :: (47 :: b ++ 32 :: httpE)
theorem getL_start (n : Nat) : startL (getL (aas n)) = ({ method := [71, 69, 84], target := 47 :: aas n, minor := 1 }, 0) := by
  unfold getL
  have h := start_4 (x := [71, 69, 84]) (y := 47 :: aas n) (c := httpE) (by decide) (by rw [List.all_cons, all_aas (by decide)]; decide) (by decide) (by decide) (by simp) (by rw [List.all_cons, all_aas (by decide)]; decide)
  rw [h, show versionL httpE = (1, 0) from by decide]
  rfl
theorem getL_all (n : Nat) : (getL (aas n)).all lb = true := by
  simp only [getL, httpE, List.all_append, List.all_cons, List.all_nil, List.cons_append, all_aas (p := lb) (by decide)]; decide
theorem getL_length (n : Nat) : (getL (aas n)).length = n + 14 := by
  simp [getL, httpE, aas]
theorem getL_skip (n : Nat) (t : List UInt8) : SkipAt true (getL (aas n) ++ t) 0 := skip0 71 _ (by decide)
def hdG (n : Nat) : Hd := { method := [71, 69, 84], target := 47 :: aas n, minor := 1 }
theorem first_long (n : Nat) (t : List UInt8) (h : 1086 < n) : readL true startL (getL (aas n) ++ t) = ({}, 0, 82) :=
  readL_n (getL_skip n t) (by rw [List.drop_zero]; exact lineL_long t (getL_all n) (by rw [getL_length]; omega))
theorem first_part (n : Nat) (h : n ≤ 1086) : readL true startL (getL (aas n)) = ({}, 0, 0) := by
  have := getL_skip n []
  rw [List.append_nil] at this
  exact readL_n this (by rw [List.drop_zero]; exact lineL_part (getL_all n) (by rw [getL_length]; omega))
theorem first_line (n : Nat) (r : List UInt8) (h : n ≤ 1086) : lineL 82 1100 ((getL (aas n) ++ (13 :: 10 :: r)).drop 0) = (some (getL (aas n)), 0) := by
  rw [List.drop_zero]; exact lineL_at (getL_all n) (by rw [getL_length]; omega)
theorem first_fields (n : Nat) (r : List UInt8) (h : n ≤ 1086) (e2 : Int) (hf : fieldsL 32 r = (none, e2)) : readL true startL (getL (aas n) ++ (13 :: 10 :: r)) = ({}, 0, e2) :=
  readL_p (getL_skip n _) (first_line n r h) (by rw [getL_start]) (by rw [Nat.zero_add, drop_line]; exact hf)
theorem first_whole (n : Nat) (r : List UInt8) (h : n ≤ 1086) (fs : List Fd) (k : Nat) (e2 : Int) (hf : fieldsL 32 r = (some (fs, k), e2)) : readL true startL (getL (aas n) ++ (13 :: 10 :: r)) = ({ hdG n with fields := fs }, k + (n + 16), 0) := by
  have := readL_w (first := startL) (getL_skip n _) (first_line n r h) (by rw [getL_start]) (fs := fs) (n := k) (e2 := e2) (by rw [Nat.zero_add, drop_line]; exact hf)
  rw [getL_start, getL_length] at this
  exact this
/-! ### fields' lines -/
def xf (v : List UInt8) : List UInt8 := 88 :: 58 :: v
theorem xf_field {v : List UInt8} (h1 : trim v = v) (h2 : v.all okv = true) : fieldL (xf v) = some ([88], v) := by
  unfold fieldL xf
  rw [show (88 :: 58 :: v : List UInt8) = [88] ++ 58 :: v from rfl, cutB_at (by decide), h1, if_pos ⟨rfl, by show token [88] = true; decide, h2⟩]
theorem xf_all {v : List UInt8} (h : v.all lb = true) : (xf v).all lb = true := by unfold xf; rw [List.all_cons, List.all_cons, h]; decide
theorem xf_long {room : Nat} {v : List UInt8} (t : List UInt8) (h : v.all lb = true) (hl : 510 < v.length) : fieldsL room (xf v ++ t) = (none, 83) :=
  fieldsL_none (lineL_long t (xf_all h) (by unfold xf; simp; omega))
theorem xf_part {room : Nat} {v : List UInt8} (h : v.all lb = true) (hl : v.length ≤ 510) : fieldsL room (xf v) = (none, 0) :=
  fieldsL_none (lineL_part (xf_all h) (by unfold xf; simp; omega))
theorem xf_step {room : Nat} {v : List UInt8} (r : List UInt8) (h : v.all lb = true) (hl : v.length ≤ 510) (h1 : trim v = v) (h2 : v.all okv = true) :
    fieldsL (room + 1) (xf v ++ 13 :: 10 :: r) = ((fieldsL room r).1.map fun x => (([88], v) :: x.1, x.2 + (v.length + 4)), (fieldsL room r).2) := by
  have := fieldsL_step (room := room) (lineL_at (over := 83) (room := 512) (r := r) (xf_all h) (by unfold xf; simp; omega)) (by unfold xf; simp) (xf_field h1 h2)
  rw [this, drop_line]
  rfl
theorem xf_large {v : List UInt8} (r : List UInt8) (h : v.all lb = true) (hl : v.length ≤ 510) : fieldsL 0 (xf v ++ 13 :: 10 :: r) = (none, 83) :=
  fieldsL_large (lineL_at (over := 83) (room := 512) (r := r) (xf_all h) (by unfold xf; simp; omega)) (by unfold xf; simp)
theorem fields_end (room : Nat) (r : List UInt8) : fieldsL room (13 :: 10 :: r) = (some ([], 2), 0) := fieldsL_end (e := 0) (by rw [lineL_13]; simp)
theorem fields_nil (room : Nat) : fieldsL room [] = (none, 0) := fieldsL_none (e := 0) (lineL_nil 83 512)
theorem aas_trim (n : Nat) : trim (aas n) = aas n := by
  rw [trim_self]
  refine ⟨fun x hx => ?_, fun x hx => ?_⟩
  · have := List.mem_of_mem_head? hx
    rw [List.eq_of_mem_replicate this]; decide
  · have := List.mem_of_getLast? hx
    rw [List.eq_of_mem_replicate this]; decide
/-- k lines 'X:y'. -/
def xys : Nat → List UInt8
  | 0 => []
  | k + 1 => xf [121] ++ 13 :: 10 :: xys k
theorem xys_length (k : Nat) : (xys k).length = 5 * k := by induction k with | zero => rfl | succ k ih => simp only [xys, List.length_append, List.length_cons, ih, xf, List.length_nil]; omega
theorem xys_snoc (k : Nat) : xys k ++ [88, 58, 121, 13, 10] = xys (k + 1) := by
  induction k with
  | zero => rfl
  | succ k ih => rw [xys, List.append_assoc, List.cons_append, List.cons_append, ih]; rfl
theorem xys_fields (k room : Nat) (r : List UInt8) : fieldsL (k + room) (xys k ++ r) = ((fieldsL room r).1.map fun x => (List.replicate k ([88], [121]) ++ x.1, x.2 + 5 * k), (fieldsL room r).2) := by
  induction k with
  | zero => rw [Nat.zero_add]; simp only [xys, List.nil_append, List.replicate_zero, Nat.mul_zero, Nat.add_zero]; cases fieldsL room r with | mk o e => cases o <;> rfl
  | succ k ih =>
    rw [xys, List.append_assoc, List.cons_append, List.cons_append, show k + 1 + room = (k + room) + 1 by omega, xf_step _ (by decide) (by decide) (by decide) (by decide), ih]
    cases fieldsL room r with
    | mk o e =>
      cases o with
      | none => rfl
      | some x =>
        simp only [Option.map_some, List.replicate_succ, List.cons_append, List.length_cons, List.length_nil]
        congr 3
end Go.Proofs.YtjbmipbjlhcooaaDoor
