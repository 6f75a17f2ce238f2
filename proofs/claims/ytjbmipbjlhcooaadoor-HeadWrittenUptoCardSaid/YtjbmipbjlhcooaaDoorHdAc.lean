/- Plain laws of HeadWritten: a head written line by line is read back; no program in sight. -/
import Derived.Test.YtjbmipbjlhcooaaDoorHdM
set_option linter.unusedVariables false
set_option linter.unusedSimpArgs false
namespace Go.Proofs.YtjbmipbjlhcooaaDoor
open Lex

theorem tmark_at {c : UInt8} (h : tmark c = true) : lb c = true ∧ c ≠ 32 ∧ c ≠ 58 ∧ c ≠ 13 := by
  have key : ∀ c : Fin 256, tmark (UInt8.ofNat c.val) = true → lb (UInt8.ofNat c.val) = true ∧ UInt8.ofNat c.val ≠ 32 ∧ UInt8.ofNat c.val ≠ 58 ∧ UInt8.ofNat c.val ≠ 13 := by decide +kernel
  have := key ⟨c.toNat, c.toNat_lt⟩
  simp only [UInt8.ofNat_toNat] at this
  exact this h
theorem tchar_at {c : UInt8} (h : tchar c = true) : lb c = true ∧ c ≠ 32 := by
  have key : ∀ c : Fin 256, tchar (UInt8.ofNat c.val) = true → lb (UInt8.ofNat c.val) = true ∧ UInt8.ofNat c.val ≠ 32 := by decide +kernel
  have := key ⟨c.toNat, c.toNat_lt⟩
  simp only [UInt8.ofNat_toNat] at this
  exact this h
theorem okv_at {c : UInt8} (h : okv c = true) : lb c = true := by
  have key : ∀ c : Fin 256, okv (UInt8.ofNat c.val) = true → lb (UInt8.ofNat c.val) = true := by decide +kernel
  have := key ⟨c.toNat, c.toNat_lt⟩
  simp only [UInt8.ofNat_toNat] at this
  exact this h
theorem blank_at {c : UInt8} (h : blankB c = true) : lb c = true := by
  have key : ∀ c : Fin 256, blankB (UInt8.ofNat c.val) = true → lb (UInt8.ofNat c.val) = true := by decide +kernel
  have := key ⟨c.toNat, c.toNat_lt⟩
  simp only [UInt8.ofNat_toNat] at this
  exact this h
theorem all_imp {p q : UInt8 → Bool} {l : List UInt8} (h : l.all p = true) (hi : ∀ c, p c = true → q c = true) : l.all q = true := by
  rw [List.all_eq_true] at h ⊢
  exact fun x hx => hi x (h x hx)
theorem token_all {l : List UInt8} (h : token l = true) : l ≠ [] ∧ l.all tmark = true := by
  unfold token at h
  rw [Bool.and_eq_true] at h
  refine ⟨?_, h.2⟩
  rintro rfl
  simp at h
def fline (b : List UInt8) (f : Fd) : List UInt8 := f.1 ++ 58 :: (b ++ f.2 ++ b)
def flines (b : List UInt8) : List Fd → List UInt8
  | [] => []
  | f :: l => fline b f ++ 13 :: 10 :: flines b l
theorem flines_snoc (b : List UInt8) (l : List Fd) (f : Fd) : flines b (l ++ [f]) = flines b l ++ (fline b f ++ [13, 10]) := by
  induction l with
  | nil => rfl
  | cons g l ih => simp only [List.cons_append, flines, ih, List.append_assoc]
theorem badF_no {f : Fd} (h : badF f = false) : token f.1 = true ∧ f.2.all okv = true ∧ trim f.2 = f.2 := by
  unfold badF value at h
  simp only [Bool.or_eq_false_iff, Bool.not_eq_false', Bool.and_eq_true, beq_iff_eq] at h
  exact ⟨h.1.1, h.1.2.1, h.1.2.2⟩
theorem fline_field {b : List UInt8} (hb : b.all blankB = true) {f : Fd} (h : badF f = false) : fieldL (fline b f) = some f := by
  obtain ⟨h1, h2, h3⟩ := badF_no h
  unfold fieldL fline
  rw [cutB_at (fun x hx => (tmark_at (List.all_eq_true.1 (token_all h1).2 x hx)).2.2.1)]
  have ht := (trim_self f.2).1 h3
  rw [trim_mid hb hb ht.1 ht.2, if_pos ⟨rfl, h1, h2⟩]
theorem fline_all {b : List UInt8} (hb : b.all blankB = true) {f : Fd} (h : badF f = false) : (fline b f).all lb = true := by
  obtain ⟨h1, h2, h3⟩ := badF_no h
  unfold fline
  rw [List.all_append, List.all_cons, List.all_append, List.all_append, all_imp hb (fun c => blank_at), all_imp h2 (fun c => okv_at), all_imp (token_all h1).2 (fun c hc => (tmark_at hc).1)]
  decide
theorem fline_length (b : List UInt8) (f : Fd) : (fline b f).length = f.1.length + f.2.length + 2 * b.length + 1 := by
  unfold fline; simp only [List.length_append, List.length_cons]; omega
theorem flines_fields {b : List UInt8} (hb : b.all blankB = true) (hbl : b.length ≤ 10) : ∀ (l : List Fd), (∀ f ∈ l, badF f = false ∧ f.1.length + f.2.length ≤ 490) → ∀ (room : Nat) (r : List UInt8),
    fieldsL (l.length + room) (flines b l ++ r) = ((fieldsL room r).1.map fun x => (l ++ x.1, x.2 + (flines b l).length), (fieldsL room r).2)
  | [], _, room, r => by
    simp only [List.length_nil, Nat.zero_add, flines, List.nil_append, Nat.add_zero]
    cases fieldsL room r with | mk o e => cases o <;> rfl
  | f :: l, h, room, r => by
    have hf := h f (by simp)
    have ih := flines_fields hb hbl l (fun g hg => h g (by simp [hg])) room r
    have hl := lineL_at (over := 83) (room := 512) (r := flines b l ++ r) (fline_all hb hf.1) (by rw [fline_length]; omega)
    rw [flines, List.append_assoc, List.cons_append, List.cons_append, List.length_cons, show l.length + 1 + room = (l.length + room) + 1 by omega,
      fieldsL_step hl (by unfold fline; simp) (fline_field hb hf.1), drop_line, ih]
    cases fieldsL room r with
    | mk o e =>
      cases o with
      | none => rfl
      | some x =>
        simp only [Option.map_some, List.cons_append, List.length_append, List.length_cons]
        congr 3
        omega
/-- The text's first line, with its end. -/
def wfirst (m t : List UInt8) : List UInt8 := m ++ 32 :: (t ++ 32 :: httpE)
theorem wfirst_length (m t : List UInt8) : (wfirst m t).length = m.length + t.length + 10 := by
  unfold wfirst; simp only [List.length_append, List.length_cons, httpE, List.length_nil]; omega
theorem written_plain {m t b : List UInt8} {l : List Fd} (hm : token m = true) (hml : m.length ≤ 16) (ht : t.all tchar = true) (ht0 : t ≠ []) (htl : t.length ≤ 1024) (hb : b.all blankB = true) (hbl : b.length ≤ 10)
    (hl : l.length ≤ 32) (hf : ∀ f ∈ l, badF f = false ∧ f.1.length + f.2.length ≤ 490) :
    readL true startL (wfirst m t ++ 13 :: 10 :: (flines b l ++ [13, 10])) = ({ method := m, target := t, minor := 1, fields := l }, (wfirst m t).length + (flines b l).length + 4, 0) := by
  obtain ⟨hm0, hma⟩ := token_all hm
  have m32 : m.all not32 = true := all_imp hma (fun c hc => by have := (tmark_at hc).2.1; simp [not32, this])
  have t32 : t.all not32 = true := all_imp ht (fun c hc => by have := (tchar_at hc).2; simp [not32, this])
  have hst : startL (wfirst m t) = ({ method := m, target := t, minor := 1 }, 0) := by
    unfold wfirst
    rw [start_4 m32 t32 hm hml ht0 ht, show versionL httpE = (1, 0) from by decide]
    rfl
  have hall : (wfirst m t).all lb = true := by
    unfold wfirst
    rw [List.all_append, List.all_cons, List.all_append, List.all_cons, all_imp hma (fun c hc => (tmark_at hc).1), all_imp ht (fun c hc => (tchar_at hc).1)]
    decide
  have hline := lineL_at (over := 82) (room := 1100) (r := flines b l ++ [13, 10]) hall (by rw [wfirst_length]; omega)
  have hskip : SkipAt true (wfirst m t ++ 13 :: 10 :: (flines b l ++ [13, 10])) 0 := by
    obtain ⟨c, m', rfl⟩ := List.exists_cons_of_ne_nil hm0
    exact skip0 c _ (tmark_at (by rw [List.all_cons, Bool.and_eq_true] at hma; exact hma.1)).2.2.2
  have hfs : fieldsL 32 (flines b l ++ [13, 10]) = (some (l, 2 + (flines b l).length), 0) := by
    have := flines_fields hb hbl l hf (32 - l.length) [13, 10]
    rw [show l.length + (32 - l.length) = 32 by omega, fields_end] at this
    simpa using this
  have := readL_w (first := startL) hskip (e := 0) (l := wfirst m t) (by rw [List.drop_zero]; exact hline) (by rw [hst]) (fs := l) (n := 2 + (flines b l).length) (e2 := 0) (by rw [Nat.zero_add, drop_line]; exact hfs)
  rw [this, hst]
  simp only
  congr 2
  omega
end Go.Proofs.YtjbmipbjlhcooaaDoor
