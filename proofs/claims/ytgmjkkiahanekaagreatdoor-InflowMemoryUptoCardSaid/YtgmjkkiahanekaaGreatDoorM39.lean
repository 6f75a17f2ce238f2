/- The texts HdM, HdAc, InS, InV in one. -/
import Derived.Test.YtgmjkkiahanekaaGreatDoorM38
import Derived.Test.YtgmjkkiahanekaaGreatDoorM34
import Derived.Test.YtgmjkkiahanekaaGreatDoorM32
/- Plain laws of HeadBounds: what the texts at the bounds are as heads; no program in sight. -/
set_option linter.unusedVariables false
set_option linter.unusedSimpArgs false
namespace Go.Proofs.YtgmjkkiahanekaaGreatDoor
open Lex

def crlf : List UInt8 := [13, 10]
def httpE : List UInt8 := [72, 84, 84, 80, 47, 49, 46, 49]
def aas (n : Nat) : List UInt8 := List.replicate n 97
theorem lineL_long {over : Int} {room : Nat} {l : List UInt8} (t : List UInt8) (h : l.all lb = true) (hl : room < l.length) : lineL over room (l ++ t) = (none, over) := by
  have e1 := List.take_append_drop room l
  rw [List.drop_eq_getElem_cons hl] at e1
  have e : l ++ t = l.take room ++ (l[room] :: (l.drop (room + 1) ++ t)) := by
    rw [← List.cons_append, ← List.append_assoc, e1]
  have hb : lb l[room] = true := List.all_eq_true.1 h _ (List.getElem_mem hl)
  simp only [lb, Bool.and_eq_true, decide_eq_true_eq] at hb
  rw [e, lineL_app over _ room _ (by rw [List.all_eq_true] at h ⊢; exact fun x hx => h x (List.mem_of_mem_take hx)) (by rw [List.length_take]; omega), List.length_take, show room - min room l.length = 0 by omega, lineL_over over _ hb.1 hb.2]
  rfl
theorem lineL_part {over : Int} {room : Nat} {l : List UInt8} (h : l.all lb = true) (hl : l.length ≤ room) : lineL over room l = (none, 0) := by
  have := lineL_app over l room [] h hl
  rw [List.append_nil, lineL_nil] at this
  exact this
theorem all_aas {p : UInt8 → Bool} (h : p 97 = true) (n : Nat) : (aas n).all p = true := by
  rw [List.all_eq_true]; intro x hx; rw [List.eq_of_mem_replicate hx]; exact h
theorem aas_length (n : Nat) : (aas n).length = n := List.length_replicate
theorem skip0 (c : UInt8) (r : List UInt8) (h : c ≠ 13) : SkipAt true (c :: r) 0 := by
  unfold SkipAt
  rw [if_pos rfl, fresh_iff.2 (fun t e => by injection e with e _; exact h e)]
/-! ### a start line -/
def getL (b : List UInt8) : List UInt8 := [71, 69, 84] ++ 32 :: (47 :: b ++ 32 :: httpE)
theorem getL_start (n : Nat) : startL (getL (aas n)) = ({ method := [71, 69, 84], target := 47 :: aas n, minor := 1 }, 0) := by
  unfold getL
  have h := start_4 (x := [71, 69, 84]) (y := 47 :: aas n) (c := httpE) (by decide) (by rw [List.all_cons, all_aas (by decide)]; decide) (by decide) (by decide) (by simp) (by rw [List.all_cons, all_aas (by decide)]; decide)
  rw [h, show versionL httpE = (1, 0) from by decide]
  rfl
theorem getL_all (n : Nat) : (getL (aas n)).all lb = true := by
  simp only [getL, httpE, List.all_append, List.all_cons, List.all_nil, List.cons_append, all_aas (p := lb) (by decide)]; decide
theorem getL_length (n : Nat) : (getL (aas n)).length = n + 14 := by
  simp [getL, httpE, aas]
theorem getL_skip (n : Nat) (t : List UInt8) : SkipAt true (getL (aas n) ++ t) 0 := skip0 71 _ (by decide)
def hdG (n : Nat) : Hd := { method := [71, 69, 84], target := 47 :: aas n, minor := 1 }
theorem first_long (n : Nat) (t : List UInt8) (h : 1086 < n) : readL true startL (getL (aas n) ++ t) = ({}, 0, 82) :=
  readL_n (getL_skip n t) (by rw [List.drop_zero]; exact lineL_long t (getL_all n) (by rw [getL_length]; omega))
theorem first_part (n : Nat) (h : n ≤ 1086) : readL true startL (getL (aas n)) = ({}, 0, 0) := by
  have := getL_skip n []
  rw [List.append_nil] at this
  exact readL_n this (by rw [List.drop_zero]; exact lineL_part (getL_all n) (by rw [getL_length]; omega))
theorem first_line (n : Nat) (r : List UInt8) (h : n ≤ 1086) : lineL 82 1100 ((getL (aas n) ++ (13 :: 10 :: r)).drop 0) = (some (getL (aas n)), 0) := by
  rw [List.drop_zero]; exact lineL_at (getL_all n) (by rw [getL_length]; omega)
theorem first_fields (n : Nat) (r : List UInt8) (h : n ≤ 1086) (e2 : Int) (hf : fieldsL 32 r = (none, e2)) : readL true startL (getL (aas n) ++ (13 :: 10 :: r)) = ({}, 0, e2) :=
  readL_p (getL_skip n _) (first_line n r h) (by rw [getL_start]) (by rw [Nat.zero_add, drop_line]; exact hf)
theorem first_whole (n : Nat) (r : List UInt8) (h : n ≤ 1086) (fs : List Fd) (k : Nat) (e2 : Int) (hf : fieldsL 32 r = (some (fs, k), e2)) : readL true startL (getL (aas n) ++ (13 :: 10 :: r)) = ({ hdG n with fields := fs }, k + (n + 16), 0) := by
  have := readL_w (first := startL) (getL_skip n _) (first_line n r h) (by rw [getL_start]) (fs := fs) (n := k) (e2 := e2) (by rw [Nat.zero_add, drop_line]; exact hf)
  rw [getL_start, getL_length] at this
  exact this
/-! ### fields' lines -/
def xf (v : List UInt8) : List UInt8 := 88 :: 58 :: v
theorem xf_field {v : List UInt8} (h1 : trim v = v) (h2 : v.all okv = true) : fieldL (xf v) = some ([88], v) := by
  unfold fieldL xf
  rw [show (88 :: 58 :: v : List UInt8) = [88] ++ 58 :: v from rfl, cutB_at (by decide), h1, if_pos ⟨rfl, by show token [88] = true; decide, h2⟩]
theorem xf_all {v : List UInt8} (h : v.all lb = true) : (xf v).all lb = true := by unfold xf; rw [List.all_cons, List.all_cons, h]; decide
theorem xf_long {room : Nat} {v : List UInt8} (t : List UInt8) (h : v.all lb = true) (hl : 510 < v.length) : fieldsL room (xf v ++ t) = (none, 83) :=
  fieldsL_none (lineL_long t (xf_all h) (by unfold xf; simp; omega))
theorem xf_part {room : Nat} {v : List UInt8} (h : v.all lb = true) (hl : v.length ≤ 510) : fieldsL room (xf v) = (none, 0) :=
  fieldsL_none (lineL_part (xf_all h) (by unfold xf; simp; omega))
theorem xf_step {room : Nat} {v : List UInt8} (r : List UInt8) (h : v.all lb = true) (hl : v.length ≤ 510) (h1 : trim v = v) (h2 : v.all okv = true) :
    fieldsL (room + 1) (xf v ++ 13 :: 10 :: r) = ((fieldsL room r).1.map fun x => (([88], v) :: x.1, x.2 + (v.length + 4)), (fieldsL room r).2) := by
  have := fieldsL_step (room := room) (lineL_at (over := 83) (room := 512) (r := r) (xf_all h) (by unfold xf; simp; omega)) (by unfold xf; simp) (xf_field h1 h2)
  rw [this, drop_line]
  rfl
theorem xf_large {v : List UInt8} (r : List UInt8) (h : v.all lb = true) (hl : v.length ≤ 510) : fieldsL 0 (xf v ++ 13 :: 10 :: r) = (none, 83) :=
  fieldsL_large (lineL_at (over := 83) (room := 512) (r := r) (xf_all h) (by unfold xf; simp; omega)) (by unfold xf; simp)
theorem fields_end (room : Nat) (r : List UInt8) : fieldsL room (13 :: 10 :: r) = (some ([], 2), 0) := fieldsL_end (e := 0) (by rw [lineL_13]; simp)
theorem fields_nil (room : Nat) : fieldsL room [] = (none, 0) := fieldsL_none (e := 0) (lineL_nil 83 512)
theorem aas_trim (n : Nat) : trim (aas n) = aas n := by
  rw [trim_self]
  refine ⟨fun x hx => ?_, fun x hx => ?_⟩
  · have := List.mem_of_mem_head? hx
    rw [List.eq_of_mem_replicate this]; decide
  · have := List.mem_of_getLast? hx
    rw [List.eq_of_mem_replicate this]; decide
/-- k lines 'X:y'. -/
def xys : Nat → List UInt8
  | 0 => []
  | k + 1 => xf [121] ++ 13 :: 10 :: xys k
theorem xys_length (k : Nat) : (xys k).length = 5 * k := by induction k with | zero => rfl | succ k ih => simp only [xys, List.length_append, List.length_cons, ih, xf, List.length_nil]; omega
theorem xys_snoc (k : Nat) : xys k ++ [88, 58, 121, 13, 10] = xys (k + 1) := by
  induction k with
  | zero => rfl
  | succ k ih => rw [xys, List.append_assoc, List.cons_append, List.cons_append, ih]; rfl
theorem xys_fields (k room : Nat) (r : List UInt8) : fieldsL (k + room) (xys k ++ r) = ((fieldsL room r).1.map fun x => (List.replicate k ([88], [121]) ++ x.1, x.2 + 5 * k), (fieldsL room r).2) := by
  induction k with
  | zero => rw [Nat.zero_add]; simp only [xys, List.nil_append, List.replicate_zero, Nat.mul_zero, Nat.add_zero]; cases fieldsL room r with | mk o e => cases o <;> rfl
  | succ k ih =>
    rw [xys, List.append_assoc, List.cons_append, List.cons_append, show k + 1 + room = (k + room) + 1 by omega, xf_step _ (by decide) (by decide) (by decide) (by decide), ih]
    cases fieldsL room r with
    | mk o e =>
      cases o with
      | none => rfl
      | some x =>
        simp only [Option.map_some, List.replicate_succ, List.cons_append, List.length_cons, List.length_nil]
        congr 3
end Go.Proofs.YtgmjkkiahanekaaGreatDoor

/- Plain laws of HeadWritten: a head written line by line is read back; no program in sight. -/
set_option linter.unusedVariables false
set_option linter.unusedSimpArgs false
namespace Go.Proofs.YtgmjkkiahanekaaGreatDoor
open Lex

theorem tmark_at {c : UInt8} (h : tmark c = true) : lb c = true ∧ c ≠ 32 ∧ c ≠ 58 ∧ c ≠ 13 := by
  have key : ∀ c : Fin 256, tmark (UInt8.ofNat c.val) = true → lb (UInt8.ofNat c.val) = true ∧ UInt8.ofNat c.val ≠ 32 ∧ UInt8.ofNat c.val ≠ 58 ∧ UInt8.ofNat c.val ≠ 13 := by decide +kernel
  have := key ⟨c.toNat, c.toNat_lt⟩
  simp only [UInt8.ofNat_toNat] at this
  exact this h
theorem tchar_at {c : UInt8} (h : tchar c = true) : lb c = true ∧ c ≠ 32 := by
  have key : ∀ c : Fin 256, tchar (UInt8.ofNat c.val) = true → lb (UInt8.ofNat c.val) = true ∧ UInt8.ofNat c.val ≠ 32 := by decide +kernel
  have := key ⟨c.toNat, c.toNat_lt⟩
  simp only [UInt8.ofNat_toNat] at this
  exact this h
theorem okv_at {c : UInt8} (h : okv c = true) : lb c = true := by
  have key : ∀ c : Fin 256, okv (UInt8.ofNat c.val) = true → lb (UInt8.ofNat c.val) = true := by decide +kernel
  have := key ⟨c.toNat, c.toNat_lt⟩
  simp only [UInt8.ofNat_toNat] at this
  exact this h
theorem blank_at {c : UInt8} (h : blankB c = true) : lb c = true := by
  have key : ∀ c : Fin 256, blankB (UInt8.ofNat c.val) = true → lb (UInt8.ofNat c.val) = true := by decide +kernel
  have := key ⟨c.toNat, c.toNat_lt⟩
  simp only [UInt8.ofNat_toNat] at this
  exact this h
theorem all_imp {p q : UInt8 → Bool} {l : List UInt8} (h : l.all p = true) (hi : ∀ c, p c = true → q c = true) : l.all q = true := by
  rw [List.all_eq_true] at h ⊢
  exact fun x hx => hi x (h x hx)
theorem token_all {l : List UInt8} (h : token l = true) : l ≠ [] ∧ l.all tmark = true := by
  unfold token at h
  rw [Bool.and_eq_true] at h
  refine ⟨?_, h.2⟩
  rintro rfl
  simp at h
def fline (b : List UInt8) (f : Fd) : List UInt8 := f.1 ++ 58 :: (b ++ f.2 ++ b)
def flines (b : List UInt8) : List Fd → List UInt8
  | [] => []
  | f :: l => fline b f ++ 13 :: 10 :: flines b l
theorem flines_snoc (b : List UInt8) (l : List Fd) (f : Fd) : flines b (l ++ [f]) = flines b l ++ (fline b f ++ [13, 10]) := by
  induction l with
  | nil => rfl
  | cons g l ih => simp only [List.cons_append, flines, ih, List.append_assoc]
theorem badF_no {f : Fd} (h : badF f = false) : token f.1 = true ∧ f.2.all okv = true ∧ trim f.2 = f.2 := by
  unfold badF value at h
  simp only [Bool.or_eq_false_iff, Bool.not_eq_false', Bool.and_eq_true, beq_iff_eq] at h
  exact ⟨h.1.1, h.1.2.1, h.1.2.2⟩
theorem fline_field {b : List UInt8} (hb : b.all blankB = true) {f : Fd} (h : badF f = false) : fieldL (fline b f) = some f := by
  obtain ⟨h1, h2, h3⟩ := badF_no h
  unfold fieldL fline
  rw [cutB_at (fun x hx => (tmark_at (List.all_eq_true.1 (token_all h1).2 x hx)).2.2.1)]
  have ht := (trim_self f.2).1 h3
  rw [trim_mid hb hb ht.1 ht.2, if_pos ⟨rfl, h1, h2⟩]
theorem fline_all {b : List UInt8} (hb : b.all blankB = true) {f : Fd} (h : badF f = false) : (fline b f).all lb = true := by
  obtain ⟨h1, h2, h3⟩ := badF_no h
  unfold fline
  rw [List.all_append, List.all_cons, List.all_append, List.all_append, all_imp hb (fun c => blank_at), all_imp h2 (fun c => okv_at), all_imp (token_all h1).2 (fun c hc => (tmark_at hc).1)]
  decide
theorem fline_length (b : List UInt8) (f : Fd) : (fline b f).length = f.1.length + f.2.length + 2 * b.length + 1 := by
  unfold fline; simp only [List.length_append, List.length_cons]; omega
theorem flines_fields {b : List UInt8} (hb : b.all blankB = true) (hbl : b.length ≤ 10) : ∀ (l : List Fd), (∀ f ∈ l, badF f = false ∧ f.1.length + f.2.length ≤ 490) → ∀ (room : Nat) (r : List UInt8),
    fieldsL (l.length + room) (flines b l ++ r) = ((fieldsL room r).1.map fun x => (l ++ x.1, x.2 + (flines b l).length), (fieldsL room r).2)
  | [], _, room, r => by
    simp only [List.length_nil, Nat.zero_add, flines, List.nil_append, Nat.add_zero]
    cases fieldsL room r with | mk o e => cases o <;> rfl
  | f :: l, h, room, r => by
    have hf := h f (by simp)
    have ih := flines_fields hb hbl l (fun g hg => h g (by simp [hg])) room r
    have hl := lineL_at (over := 83) (room := 512) (r := flines b l ++ r) (fline_all hb hf.1) (by rw [fline_length]; omega)
    rw [flines, List.append_assoc, List.cons_append, List.cons_append, List.length_cons, show l.length + 1 + room = (l.length + room) + 1 by omega,
      fieldsL_step hl (by unfold fline; simp) (fline_field hb hf.1), drop_line, ih]
    cases fieldsL room r with
    | mk o e =>
      cases o with
      | none => rfl
      | some x =>
        simp only [Option.map_some, List.cons_append, List.length_append, List.length_cons]
        congr 3
        omega
/-- The text's first line, with its end. -/
def wfirst (m t : List UInt8) : List UInt8 := m ++ 32 :: (t ++ 32 :: httpE)
theorem wfirst_length (m t : List UInt8) : (wfirst m t).length = m.length + t.length + 10 := by
  unfold wfirst; simp only [List.length_append, List.length_cons, httpE, List.length_nil]; omega
theorem written_plain {m t b : List UInt8} {l : List Fd} (hm : token m = true) (hml : m.length ≤ 16) (ht : t.all tchar = true) (ht0 : t ≠ []) (htl : t.length ≤ 1024) (hb : b.all blankB = true) (hbl : b.length ≤ 10)
    (hl : l.length ≤ 32) (hf : ∀ f ∈ l, badF f = false ∧ f.1.length + f.2.length ≤ 490) :
    readL true startL (wfirst m t ++ 13 :: 10 :: (flines b l ++ [13, 10])) = ({ method := m, target := t, minor := 1, fields := l }, (wfirst m t).length + (flines b l).length + 4, 0) := by
  obtain ⟨hm0, hma⟩ := token_all hm
  have m32 : m.all not32 = true := all_imp hma (fun c hc => by have := (tmark_at hc).2.1; simp [not32, this])
  have t32 : t.all not32 = true := all_imp ht (fun c hc => by have := (tchar_at hc).2; simp [not32, this])
  have hst : startL (wfirst m t) = ({ method := m, target := t, minor := 1 }, 0) := by
    unfold wfirst
    rw [start_4 m32 t32 hm hml ht0 ht, show versionL httpE = (1, 0) from by decide]
    rfl
  have hall : (wfirst m t).all lb = true := by
    unfold wfirst
    rw [List.all_append, List.all_cons, List.all_append, List.all_cons, all_imp hma (fun c hc => (tmark_at hc).1), all_imp ht (fun c hc => (tchar_at hc).1)]
    decide
  have hline := lineL_at (over := 82) (room := 1100) (r := flines b l ++ [13, 10]) hall (by rw [wfirst_length]; omega)
  have hskip : SkipAt true (wfirst m t ++ 13 :: 10 :: (flines b l ++ [13, 10])) 0 := by
    obtain ⟨c, m', rfl⟩ := List.exists_cons_of_ne_nil hm0
    exact skip0 c _ (tmark_at (by rw [List.all_cons, Bool.and_eq_true] at hma; exact hma.1)).2.2.2
  have hfs : fieldsL 32 (flines b l ++ [13, 10]) = (some (l, 2 + (flines b l).length), 0) := by
    have := flines_fields hb hbl l hf (32 - l.length) [13, 10]
    rw [show l.length + (32 - l.length) = 32 by omega, fields_end] at this
    simpa using this
  have := readL_w (first := startL) hskip (e := 0) (l := wfirst m t) (by rw [List.drop_zero]; exact hline) (by rw [hst]) (fs := l) (n := 2 + (flines b l).length) (e2 := 0) (by rw [Nat.zero_add, drop_line]; exact hfs)
  rw [this, hst]
  simp only
  congr 2
  omega
end Go.Proofs.YtgmjkkiahanekaaGreatDoor

/- The plain law of InflowSmuggles: a request that two readers could frame differently is read as 400. -/
set_option linter.unusedVariables false
set_option linter.unusedSimpArgs false
namespace Go.Proofs.YtgmjkkiahanekaaGreatDoor
open Lex

theorem wfirst_facts {m t : List UInt8} (hm : token m = true) (hml : m.length ≤ 16) (ht : t.all tchar = true) (ht0 : t ≠ []) (htl : t.length ≤ 1024) (r : List UInt8) :
    startL (wfirst m t) = ({ method := m, target := t, minor := 1 }, 0) ∧ lineL 82 1100 (wfirst m t ++ 13 :: 10 :: r) = (some (wfirst m t), 0) ∧ SkipAt true (wfirst m t ++ 13 :: 10 :: r) 0 := by
  obtain ⟨hm0, hma⟩ := token_all hm
  have m32 : m.all not32 = true := all_imp hma (fun c hc => by have := (tmark_at hc).2.1; simp [not32, this])
  have t32 : t.all not32 = true := all_imp ht (fun c hc => by have := (tchar_at hc).2; simp [not32, this])
  have hst : startL (wfirst m t) = ({ method := m, target := t, minor := 1 }, 0) := by
    unfold wfirst
    rw [start_4 m32 t32 hm hml ht0 ht, show versionL httpE = (1, 0) from by decide]
    rfl
  have hall : (wfirst m t).all lb = true := by
    unfold wfirst
    rw [List.all_append, List.all_cons, List.all_append, List.all_cons, all_imp hma (fun c hc => (tmark_at hc).1), all_imp ht (fun c hc => (tchar_at hc).1)]
    decide
  refine ⟨hst, lineL_at hall (by rw [wfirst_length]; omega), ?_⟩
  obtain ⟨c, m', rfl⟩ := List.exists_cons_of_ne_nil hm0
  exact skip0 c _ (tmark_at (by rw [List.all_cons, Bool.and_eq_true] at hma; exact hma.1)).2.2.2
theorem text_bad {m t : List UInt8} (hm : token m = true) (hml : m.length ≤ 16) (ht : t.all tchar = true) (ht0 : t ≠ []) (htl : t.length ≤ 1024) {r : List UInt8} {e2 : Int} (hf : fieldsL 32 r = (none, e2)) :
    readL true startL (wfirst m t ++ 13 :: 10 :: r) = ({}, 0, e2) := by
  obtain ⟨h1, h2, h3⟩ := wfirst_facts hm hml ht ht0 htl r
  exact readL_p h3 (by rw [List.drop_zero]; exact h2) (by rw [h1]) (by rw [Nat.zero_add, drop_line]; exact hf)
theorem text_good {m t : List UInt8} (hm : token m = true) (hml : m.length ≤ 16) (ht : t.all tchar = true) (ht0 : t ≠ []) (htl : t.length ≤ 1024) {r : List UInt8} {fs : List Fd} {k : Nat} {e2 : Int} (hf : fieldsL 32 r = (some (fs, k), e2)) :
    readL true startL (wfirst m t ++ 13 :: 10 :: r) = ({ method := m, target := t, minor := 1, fields := fs }, k + (wfirst m t).length + 2, 0) := by
  obtain ⟨h1, h2, h3⟩ := wfirst_facts hm hml ht ht0 htl r
  have := readL_w (first := startL) h3 (e := 0) (l := wfirst m t) (by rw [List.drop_zero]; exact h2) (by rw [h1]) (fs := fs) (n := k) (e2 := e2) (by rw [Nat.zero_add, drop_line]; exact hf)
  rw [this, h1]
  simp only
  congr 2
/-- A head with one host h that is framed wrongly. -/
theorem begin_wrong {most : Int} {b : List UInt8} {m t : List UInt8} {fs : List Fd} {n : Nat} (h : readL true startL b = ({ method := m, target := t, minor := 1, fields := fs }, n, 0)) (hn : n ≠ 0)
    (hh : getF fs hostN = ([104], 1)) (hx : (getF fs expectN).2 = 0) {e : Int} (hr : (reqF 1 fs most).2.2 = e) (he : e ≠ 0) (hs : statusE e = 400) : beginL most b = (none, 400) := by
  unfold beginL
  rw [h]
  simp only
  rw [if_neg (fun e => e rfl), if_neg hn]
  split
  · rfl
  · obtain ⟨x, hx2⟩ : ∃ x, hostL { method := m, target := t, minor := 1, fields := fs } (parseT m t).1 = some x := by
      unfold hostL
      simp only
      rw [hh, if_neg (by decide), if_neg (by decide)]
      split
      · exact ⟨_, rfl⟩
      · rw [if_neg (by decide)]
        exact ⟨([104], 0), by decide⟩
    obtain ⟨x1, x2⟩ := x
    rw [hx2]
    simp only
    rw [if_neg (by rw [hx]; exact Nat.lt_irrefl 0), hr, if_pos he, hs]
def bad0 : List UInt8 := [67, 111, 110, 116, 101, 110, 116, 45, 76, 101, 110, 103, 116, 104, 58, 32, 51, 13, 10, 84, 114, 97, 110, 115, 102, 101, 114, 45, 69, 110, 99, 111, 100, 105, 110, 103, 58, 32, 99, 104, 117, 110, 107, 101, 100, 13, 10]
def bad1 : List UInt8 := [67, 111, 110, 116, 101, 110, 116, 45, 76, 101, 110, 103, 116, 104, 58, 32, 51, 13, 10, 67, 111, 110, 116, 101, 110, 116, 45, 76, 101, 110, 103, 116, 104, 58, 32, 52, 13, 10]
def bad2 : List UInt8 := [67, 111, 110, 116, 101, 110, 116, 45, 76, 101, 110, 103, 116, 104, 58, 32, 51, 10]
def bad3 : List UInt8 := [84, 114, 97, 110, 115, 102, 101, 114, 45, 69, 110, 99, 111, 100, 105, 110, 103, 58, 32, 99, 104, 117, 110, 107, 101, 100, 44, 32, 105, 100, 101, 110, 116, 105, 116, 121, 13, 10]
def bad4 : List UInt8 := [67, 111, 110, 116, 101, 110, 116, 45, 76, 101, 110, 103, 116, 104, 32, 58, 32, 51, 13, 10]
def bad5 : List UInt8 := [67, 111, 110, 116, 101, 110, 116, 45, 76, 101, 110, 103, 116, 104, 58, 32, 51, 44, 32, 51, 120, 13, 10]
def badK : Nat → List UInt8
  | 0 => bad0
  | 1 => bad1
  | 2 => bad2
  | 3 => bad3
  | 4 => bad4
  | _ => bad5
def hostH : List UInt8 := [72, 111, 115, 116, 58, 32, 104, 13, 10]
def postM : List UInt8 := [80, 79, 83, 84]
theorem smug_fields0 : fieldsL 32 (hostH ++ bad0 ++ [13, 10]) = (some ([([72, 111, 115, 116], [104]), ([67, 111, 110, 116, 101, 110, 116, 45, 76, 101, 110, 103, 116, 104], [51]), ([84, 114, 97, 110, 115, 102, 101, 114, 45, 69, 110, 99, 111, 100, 105, 110, 103], [99, 104, 117, 110, 107, 101, 100])], 58), 0) := by decide +kernel
theorem smug_fields1 : fieldsL 32 (hostH ++ bad1 ++ [13, 10]) = (some ([([72, 111, 115, 116], [104]), ([67, 111, 110, 116, 101, 110, 116, 45, 76, 101, 110, 103, 116, 104], [51]), ([67, 111, 110, 116, 101, 110, 116, 45, 76, 101, 110, 103, 116, 104], [52])], 49), 0) := by decide +kernel
theorem smug_fields2 : fieldsL 32 (hostH ++ bad2 ++ [13, 10]) = (none, 80) := by decide +kernel
theorem smug_fields3 : fieldsL 32 (hostH ++ bad3 ++ [13, 10]) = (some ([([72, 111, 115, 116], [104]), ([84, 114, 97, 110, 115, 102, 101, 114, 45, 69, 110, 99, 111, 100, 105, 110, 103], [99, 104, 117, 110, 107, 101, 100, 44, 32, 105, 100, 101, 110, 116, 105, 116, 121])], 49), 0) := by decide +kernel
theorem smug_fields4 : fieldsL 32 (hostH ++ bad4 ++ [13, 10]) = (none, 70) := by decide +kernel
theorem smug_fields5 : fieldsL 32 (hostH ++ bad5 ++ [13, 10]) = (some ([([72, 111, 115, 116], [104]), ([67, 111, 110, 116, 101, 110, 116, 45, 76, 101, 110, 103, 116, 104], [51, 44, 32, 51, 120])], 34), 0) := by decide +kernel
theorem smug_begin {p : List UInt8} (hp : p.all tchar = true) (hl : p.length ≤ 1000) (k : Nat) (hk : k < 6) : beginL 100 (wfirst postM (47 :: p) ++ 13 :: 10 :: (hostH ++ badK k ++ [13, 10])) = (none, 400) := by
  have hm : token postM = true := by decide
  have ht : (47 :: p).all tchar = true := by rw [List.all_cons, hp]; decide
  have htl : (47 :: p).length ≤ 1024 := by rw [List.length_cons]; omega
  have bad : ∀ {r : List UInt8} {e : Int}, fieldsL 32 r = (none, e) → e ≠ 0 → statusE e = 400 → beginL 100 (wfirst postM (47 :: p) ++ 13 :: 10 :: r) = (none, 400) := fun {r e} h he hs => by
    unfold beginL
    rw [text_bad hm (by decide) ht (by simp) htl h]
    simp only
    rw [if_pos he, hs]
  have good : ∀ {r : List UInt8} {fs : List Fd} {n : Nat} {e2 : Int}, fieldsL 32 r = (some (fs, n), e2) → getF fs hostN = ([104], 1) → (getF fs expectN).2 = 0 → (reqF 1 fs 100).2.2 = 90 → beginL 100 (wfirst postM (47 :: p) ++ 13 :: 10 :: r) = (none, 400) := fun {r fs n e2} h h1 h2 h3 =>
    begin_wrong (text_good hm (by decide) ht (by simp) htl h) (by omega) h1 h2 h3 (by decide) (by decide)
  match k, hk with
  | 0, _ => exact good smug_fields0 (by decide +kernel) (by decide +kernel) (by decide +kernel)
  | 1, _ => exact good smug_fields1 (by decide +kernel) (by decide +kernel) (by decide +kernel)
  | 2, _ => exact bad smug_fields2 (by decide) (by decide)
  | 3, _ => exact good smug_fields3 (by decide +kernel) (by decide +kernel) (by decide +kernel)
  | 4, _ => exact bad smug_fields4 (by decide) (by decide)
  | 5, _ => exact good smug_fields5 (by decide +kernel) (by decide +kernel) (by decide +kernel)
  | k + 6, h => omega
theorem smug_docs {p : List UInt8} (hp : p.all tchar = true) (hl : p.length ≤ 1000) (k : Nat) (hk : k < 6) (t : List UInt8) :
    docs 100 (wfirst postM (47 :: p) ++ 13 :: 10 :: (hostH ++ badK k ++ [13, 10]) ++ t) = ([], wfirst postM (47 :: p) ++ 13 :: 10 :: (hostH ++ badK k ++ [13, 10]) ++ t, 400) := by
  have h : docR 100 (wfirst postM (47 :: p) ++ 13 :: 10 :: (hostH ++ badK k ++ [13, 10])) = (none, 400) := by unfold docR; rw [smug_begin hp hl k hk]
  exact docs_end (doc_more t h (.inr (by decide)))
end Go.Proofs.YtgmjkkiahanekaaGreatDoor

/- The anchor of layer 11's laws. -/
set_option linter.unusedVariables false
set_option linter.unusedSimpArgs false
namespace Go.Proofs.YtgmjkkiahanekaaGreatDoor
open Go.RowKit Lex

def anT : List UInt8 := [71, 69, 84, 32, 47, 97, 32, 72, 84, 84, 80, 47, 49, 46, 49, 13, 10, 72, 111, 115, 116, 58, 32, 104, 13, 10, 13, 10, 80, 79, 83, 84, 32, 47, 98, 32, 72, 84, 84, 80, 47, 49, 46, 49, 13, 10, 72, 111, 115, 116, 58, 32, 104, 13, 10, 67, 111, 110, 116, 101, 110, 116, 45, 76, 101, 110, 103, 116, 104, 58, 32, 50, 13, 10, 13, 10, 120, 121, 122]
def an0 : In := feedI { most := 9 } anT
theorem an_1 : (nextI an0).2.1 = true ∧ (nextI an0).2.2.1 = 0 ∧ (nextI an0).1.tg.path = [47, 97] ∧ (nextI an0).1.host = [104] ∧ (nextI an0).1.keep = true ∧ (nextI an0).2.2.2.buf.length ≤ 4194000 := by decide +kernel
theorem an_2 : (nextI (nextI an0).2.2.2).2.1 = true ∧ (nextI (nextI an0).2.2.2).2.2.1 = 0 ∧ (nextI (nextI an0).2.2.2).1.body = [120, 121] ∧ (nextI (nextI an0).2.2.2).1.sized = true ∧ (nextI (nextI an0).2.2.2).2.2.2.buf.length = 1 := by decide +kernel
theorem rqVs_get (q : Rq) (A : Option Addr) (c : Nat) : (rqVs q A c)[9]? = some (.string (bs q.tg.path)) ∧ (rqVs q A c)[12]? = some (.string (bs q.host)) ∧ (rqVs q A c)[14]? = some (.string (bs q.body)) ∧ (rqVs q A c)[15]? = some (.bool q.sized) ∧ (rqVs q A c)[16]? = some (.bool q.keep) := ⟨rfl, rfl, rfl, rfl, rfl⟩
set_option maxRecDepth 100000 in
set_option maxHeartbeats 4000000 in
theorem anchor11_c (M : Int) (w : World) (hm : w.cell? ⟨0, 0, none⟩ = some (.int .i64 M)) :
    Calls Tryz.prog 16 #[] w fun e w' => e = .returned (.bool true) ∧ Below w.heap.size w w' := by
  have NW := Lib.hid (inew_to 9 (by decide) w w (Below.refl _ w))
  have HM := Lib.hid hm
  obtain ⟨a1, a2, a3, a4, a5, a6⟩ := an_1
  obtain ⟨b1, b2, b3, b4, b5⟩ := an_2
  have hlen : an0.buf.length ≤ 4194000 := by decide
  clear hm
  go_enter Tryz.func16, Tryz.ntmps16
  go_wp2_with fail
  refine NW.out.mono ?_
  rintro e w1 ⟨rfl, ht1, hz1, hb1⟩
  have FE := Lib.hid (ifeed_to w w.heap.size { most := 9 } _ (bs anT) w1 ht1 (by decide) (by decide))
  rw [bs_list] at FE
  clear ht1 hb1 hz1
  go_wp2_with fail
  refine FE.out.mono ?_
  rintro e w2 ⟨rfl, ht2, ha2, hz2⟩
  have NX := inext_to w w.heap.size an0 _ M w2 ht2 (fun _ => hlen) HM.out
  generalize hx : nextI an0 = x at *
  obtain ⟨q1, ok, s1, r1⟩ := x
  simp only at a1 a2 a3 a4 a5 a6 b1 b2 b3 b4 b5
  subst a1 a2
  simp only [rqV] at NX
  have NXX := Lib.hid NX
  have A3 := Lib.hid a3
  have A4 := Lib.hid a4
  have A5 := Lib.hid a5
  have B1 := Lib.hid b1
  have B2 := Lib.hid b2
  have B3 := Lib.hid b3
  have B4 := Lib.hid b4
  have B5 := Lib.hid b5
  clear NX ht2 ha2 hz2 hx hlen a3 a4 a5 b1 b2 b3 b4 b5
  go_wp2_with fail
  refine NXX.out.mono ?_
  rintro e w3 ⟨P, c3, F3, rfl, hn⟩
  obtain ⟨V1, hV1⟩ : ∃ V1, w3.alloc (.cells #[.string ⟨#[]⟩, .string ⟨#[]⟩, .int .i64 0, .string ⟨#[]⟩, .int .i64 0, .slice none 0 0, .int .i64 0, .string ⟨#[]⟩, .int .i64 0, .string ⟨#[]⟩, .string ⟨#[]⟩, .bool false, .string ⟨#[]⟩, .int .i64 0, .string ⟨#[]⟩, .bool false, .bool false, .string ⟨#[]⟩] 46) = V1 := ⟨_, rfl⟩
  obtain ⟨V, hV⟩ : ∃ V, V1.setCells w3.heap.size 0 (rqVs q1 P c3) = V := ⟨_, rfl⟩
  obtain ⟨th, xb, bV, hVz⟩ := newq_facts w3 _ q1 P c3 hV1 hV
  have TH := Lib.hid th
  have XB := Lib.hid xb
  have HV1 := Lib.hid hV1
  have HV := Lib.hid hV
  have tv := hn.rd.more bV
  have TV := Lib.hid tv
  have F3L := Lib.hid hn.rd.rd.lt
  have hzV : w3.heap.size < V.heap.size := xb.lt
  have NX := inext_to w w.heap.size r1 F3 M V tv (fun _ => a6) HM.out
  generalize hx : nextI r1 = x at *
  obtain ⟨q2, ok, s2, r2⟩ := x
  have b1 := B1.out
  have b2 := B2.out
  simp only at b1 b2
  subst b1 b2
  simp only [rqV] at NX
  have NYY := Lib.hid NX
  clear NX hx hn tv bV hV hV1 xb th hVz
  go_wp2_with (refine wpList_store_mid rfl 46 (.tmp 2) (.tmp 16) rfl w3.heap.size 0 (rqVs q1 P c3).toArray rfl rfl (by rw [HV1.out]; exact TH.out) info_rq (one_rq q1 P c3) ?_; rw [HV1.out, HV.out]; try simp only [Act.put])
  refine NYY.out.mono ?_
  rintro e w5 ⟨P5, c5, F5, rfl, hn⟩
  obtain ⟨V2, hV2⟩ : ∃ V2, w5.alloc (.cells #[.string ⟨#[]⟩, .string ⟨#[]⟩, .int .i64 0, .string ⟨#[]⟩, .int .i64 0, .slice none 0 0, .int .i64 0, .string ⟨#[]⟩, .int .i64 0, .string ⟨#[]⟩, .string ⟨#[]⟩, .bool false, .string ⟨#[]⟩, .int .i64 0, .string ⟨#[]⟩, .bool false, .bool false, .string ⟨#[]⟩] 46) = V2 := ⟨_, rfl⟩
  obtain ⟨W, hW⟩ : ∃ W, V2.setCells w5.heap.size 0 (rqVs q2 P5 c5) = W := ⟨_, rfl⟩
  obtain ⟨th, xb, bW, hWz⟩ := newq_facts w5 _ q2 P5 c5 hV2 hW
  have TH2 := Lib.hid th
  have HV2 := Lib.hid hV2
  have HW := Lib.hid hW
  have X5 := XB.out.away hzV hn.away (fun e => by have := F3L.out _ e; omega)
  have X6 := X5.below (by have := hn.away.size; omega) bW
  have tw := hn.rd.more bW
  have LN := Lib.hid (ilen_c w.heap.size r2 F5 W tw.rd)
  have BW := Lib.hid tw.below
  have m9 := X6.c 9 _ (rqVs_get q1 P c3).1
  have m12 := X6.c 12 _ (rqVs_get q1 P c3).2.1
  have m16 := X6.c 16 _ (rqVs_get q1 P c3).2.2.2.2
  have n14 := xb.c 14 _ (rqVs_get q2 P5 c5).2.2.1
  have n15 := xb.c 15 _ (rqVs_get q2 P5 c5).2.2.2.1
  rw [A3.out, show bs [47, 97] = ⟨#[47, 97]⟩ from rfl] at m9
  rw [A4.out, show bs [104] = ⟨#[104]⟩ from rfl] at m12
  rw [A5.out] at m16
  rw [B3.out, show bs [120, 121] = ⟨#[120, 121]⟩ from rfl] at n14
  rw [B4.out] at n15
  have b5 := B5.out
  try simp only at b5
  rw [b5] at LN
  clear hn tw bW hW hV2 xb th hWz X5 X6 b5
  go_wp2_with (first | (refine wpList_store_mid rfl 46 (.tmp 5) (.tmp 22) rfl w5.heap.size 0 (rqVs q2 P5 c5).toArray rfl rfl (by rw [HV2.out]; exact TH2.out) info_rq (one_rq q2 P5 c5) ?_; rw [HV2.out, HW.out]; try simp only [Act.put]) | fail)
  refine LN.out.mono ?_
  rintro e w7 ⟨rfl, rfl⟩
  go_wp2
  go_ret
  exact ⟨rfl, BW.out⟩
end Go.Proofs.YtgmjkkiahanekaaGreatDoor

