/- Plain words of layer 9 over lists of fields: lengths, codings, framings; no program in sight. -/
import Derived.Test.YtbjcbdgkgbjaiaaDoorFldG
set_option linter.unusedVariables false
set_option linter.unusedSimpArgs false
namespace Go.Proofs.YtbjcbdgkgbjaiaaDoor
open Go.RowKit Lex

def clenU : List UInt8 := [67, 111, 110, 116, 101, 110, 116, 45, 76, 101, 110, 103, 116, 104]
def clenL : List UInt8 := [99, 111, 110, 116, 101, 110, 116, 45, 108, 101, 110, 103, 116, 104]
def tencU : List UInt8 := [84, 114, 97, 110, 115, 102, 101, 114, 45, 69, 110, 99, 111, 100, 105, 110, 103]
def tencL : List UInt8 := [116, 114, 97, 110, 115, 102, 101, 114, 45, 101, 110, 99, 111, 100, 105, 110, 103]
def chunkedL : List UInt8 := [99, 104, 117, 110, 107, 101, 100]
def closeL : List UInt8 := [99, 108, 111, 115, 101]
def keepL : List UInt8 := [107, 101, 101, 112, 45, 97, 108, 105, 118, 101]
def connectM : List UInt8 := [67, 79, 78, 78, 69, 67, 84]
def headM : List UInt8 := [72, 69, 65, 68]
theorem clen_low : lower clenU = lower clenL := by decide +kernel
theorem tenc_low : lower tencU = lower tencL := by decide +kernel

/-- One part of a length: the number, or none. -/
def partN (p : List UInt8) : Option Int := if (decimal (trim p) 15).2 = true then some (decimal (trim p) 15).1 else none
/-- The lengths, read one by one: nothing yet, or one number. -/
def lenGo : Option Int → List (List UInt8) → Option (Option Int)
  | st, [] => some st
  | st, p :: r => match partN p with
    | none => none
    | some n => if st = none ∨ st = some n then lenGo (some n) r else none
def partsF (fs : List Fd) : List (List UInt8) := (valuesF fs clenL).flatMap (pieces 44)
def lengthF (fs : List Fd) : Option (Option Int) := lenGo none (partsF fs)
def sizedF (fs : List Fd) : Bool := decide (0 < (getF fs clenL).2)
def codedF (fs : List Fd) : Bool := decide (0 < (getF fs tencL).2)
def chk (x : List UInt8) : Bool := alike x chunkedL
/-- 1: chunked alone; 2: chunked once, at the end; 3: anything else. -/
def codeL (l : List (List UInt8)) : Int := if l = [] ∨ (l.getLast?.map chk).getD false = false ∨ l.dropLast.any chk = true then 3 else if l.length = 1 then 1 else 2
def codeF (fs : List Fd) : Int := codeL (elementsF fs tencL)
def reqF (minor : Int) (fs : List Fd) (most : Int) : Int × Int × Int :=
  if codedF fs = true then (if minor = 0 ∨ sizedF fs = true ∨ codeF fs = 3 then (0, 0, 90) else if codeF fs = 1 then (3, 0, 0) else (0, 0, 91))
  else if sizedF fs = false then (1, 0, 0)
  else match lengthF fs with
    | some (some n) => if most < n then (0, 0, 101) else (2, n, 0)
    | _ => (0, 0, 90)
def noBody (s : Int) : Bool := (decide (100 ≤ s) && decide (s ≤ 199)) || decide (s = 204) || decide (s = 304)
def respF (method : List UInt8) (s minor : Int) (fs : List Fd) : Int × Int × Int :=
  if s = 101 then (5, 0, 0)
  else if noBody s = true then (1, 0, 0)
  else if method = connectM ∧ 200 ≤ s ∧ s ≤ 299 then (5, 0, 0)
  else if method = headM then (1, 0, 0)
  else if codedF fs = true then (if minor = 0 ∨ sizedF fs = true then (0, 0, 90) else if codeF fs = 1 then (3, 0, 0) else (0, 0, 91))
  else if sizedF fs = false then (4, 0, 0)
  else match lengthF fs with
    | some (some n) => (2, n, 0)
    | _ => (0, 0, 90)
def keepF (minor : Int) (fs : List Fd) : Bool := !hasF fs conn closeL && (decide (minor ≠ 0) || hasF fs conn keepL)

theorem lenGo_cons_bad {st : Option Int} {p : List UInt8} {r : List (List UInt8)} (h : partN p = none) : lenGo st (p :: r) = none := by simp only [lenGo, h]
theorem lenGo_cons_ok {st : Option Int} {p : List UInt8} {r : List (List UInt8)} {n : Int} (h : partN p = some n) (hs : st = none ∨ st = some n) : lenGo st (p :: r) = lenGo (some n) r := by simp only [lenGo, h]; rw [if_pos hs]
theorem lenGo_cons_ne {st : Option Int} {p : List UInt8} {r : List (List UInt8)} {n : Int} (h : partN p = some n) (hs : ¬ (st = none ∨ st = some n)) : lenGo st (p :: r) = none := by simp only [lenGo, h]; rw [if_neg hs]
theorem lenGo_some (n : Int) (l : List (List UInt8)) : lenGo (some n) l ≠ some none := by
  induction l generalizing n with
  | nil => simp [lenGo]
  | cons p r ih =>
    cases h : partN p with
    | none => rw [lenGo_cons_bad h]; simp
    | some k =>
      by_cases hs : (some n : Option Int) = none ∨ some n = some k
      · rw [lenGo_cons_ok h hs]; exact ih k
      · rw [lenGo_cons_ne h hs]; simp
theorem lenGo_cons (st : Option Int) (p : List UInt8) (r : List (List UInt8)) : lenGo st (p :: r) ≠ some none := by
  cases h : partN p with
  | none => rw [lenGo_cons_bad h]; simp
  | some k =>
    by_cases hs : st = none ∨ st = some k
    · rw [lenGo_cons_ok h hs]; exact lenGo_some _ _
    · rw [lenGo_cons_ne h hs]; simp
theorem partN_bound {p : List UInt8} {n : Int} (h : partN p = some n) : 0 ≤ n ∧ n < 1000000000000000 := by
  unfold partN at h
  split at h
  · injection h with h
    subst h
    rename_i h2
    generalize trim p = t at *
    unfold decimal at *
    rw [show (if (18 : Int) < 15 then (18 : Int) else 15) = 15 from by decide] at *
    unfold number at *
    split at h2
    · cases h2
    · rename_i h3
      rw [if_neg h3]
      simp only [not_or] at h3
      obtain ⟨a, b, c⟩ := h3
      have hb := num_bound 10 (by omega) t (by simpa using c)
      have hl : t.length ≤ 15 := by omega
      have : (10 : Int) ^ t.length ≤ 10 ^ 15 := by
        have := Nat.pow_le_pow_right (n := 10) (by decide) hl
        exact_mod_cast this
      have h4 : (10 : Int) ^ 15 = 1000000000000000 := by decide
      simp only
      omega
  · cases h
theorem lenGo_bound {st : Option Int} {l : List (List UInt8)} {n : Int} (hs : ∀ m, st = some m → 0 ≤ m ∧ m < 1000000000000000) (h : lenGo st l = some (some n)) : 0 ≤ n ∧ n < 1000000000000000 := by
  induction l generalizing st with
  | nil => simp only [lenGo] at h; injection h with h; exact hs n h
  | cons p r ih =>
    cases hp : partN p with
    | none => rw [lenGo_cons_bad hp] at h; cases h
    | some k =>
      by_cases hq : st = none ∨ st = some k
      · rw [lenGo_cons_ok hp hq] at h
        exact ih (fun m hm => by injection hm with hm; subst hm; exact partN_bound hp) h
      · rw [lenGo_cons_ne hp hq] at h; cases h
theorem length_bound {fs : List Fd} {n : Int} (h : lengthF fs = some (some n)) : 0 ≤ n ∧ n < 1000000000000000 := lenGo_bound (fun _ e => by cases e) h
theorem sized_parts {fs : List Fd} (h : sizedF fs = true) : ∃ p r, partsF fs = p :: r := by
  unfold sizedF getF at h
  simp only [decide_eq_true_eq] at h
  unfold partsF
  cases hv : valuesF fs clenL with
  | nil => rw [hv] at h; simp at h
  | cons v vs =>
    cases hp : pieces 44 v with
    | nil => exact absurd hp (pieces_ne 44 v)
    | cons p ps => exact ⟨p, ps ++ vs.flatMap (pieces 44), by rw [List.flatMap_cons, hp]; rfl⟩
theorem length_sized {fs : List Fd} (h : sizedF fs = true) : lengthF fs ≠ some none := by
  obtain ⟨p, r, e⟩ := sized_parts h
  unfold lengthF; rw [e]; exact lenGo_cons _ _ _
theorem partsF_drop (fs : List Fd) (k : Nat) (h : k < fs.length) : partsF (fs.drop k) = (if alike fs[k].1 clenL then pieces 44 fs[k].2 else []) ++ partsF (fs.drop (k + 1)) := by
  unfold partsF
  rw [valuesF_drop fs k h, List.flatMap_append]
  congr 1
  split <;> simp
theorem partsF_nil : partsF [] = [] := rfl
theorem codeL_nil : codeL [] = 3 := rfl
theorem codeL_cases (l : List (List UInt8)) : codeL l = 1 ∨ codeL l = 2 ∨ codeL l = 3 := by
  unfold codeL; split
  · exact .inr (.inr rfl)
  · split
    · exact .inl rfl
    · exact .inr (.inl rfl)
/-- How often chunked is there. -/
def countC (l : List (List UInt8)) : Nat := (l.filter chk).length
theorem countC_snoc (l : List (List UInt8)) (k : Nat) (h : k < l.length) : countC (l.take (k + 1)) = countC (l.take k) + (if chk l[k] then 1 else 0) := by
  unfold countC
  rw [List.take_succ_eq_append_getElem h, List.filter_append, List.length_append]
  congr 1
  by_cases hc : chk l[k] = true
  · rw [if_pos hc]; simp [hc]
  · rw [if_neg hc]; simp [hc]
theorem countC_any {l : List (List UInt8)} : countC l = 0 ↔ l.any chk = false := by
  unfold countC
  rw [List.length_eq_zero_iff, List.filter_eq_nil_iff, List.any_eq_false]
theorem code_last {l : List (List UInt8)} (hl : l ≠ []) : (codeL l ≠ 3) ↔ (countC l = 1 ∧ chk (l.getLast hl) = true) := by
  have e := List.dropLast_concat_getLast hl
  have hc : countC l = countC l.dropLast + (if chk (l.getLast hl) then 1 else 0) := by
    conv => lhs; rw [← e]
    unfold countC
    rw [List.filter_append, List.length_append]
    congr 1
    by_cases hc : chk (l.getLast hl) = true
    · rw [if_pos hc]; simp [hc]
    · rw [if_neg hc]; simp [hc]
  have hg : (l.getLast?.map chk).getD false = chk (l.getLast hl) := by rw [List.getLast?_eq_some_getLast hl]; rfl
  unfold codeL
  rw [hg]
  cases hk : chk (l.getLast hl) with
  | false => simp
  | true =>
    rw [hk, if_pos rfl] at hc
    have h0 := countC_any (l := l.dropLast)
    by_cases h1 : l.dropLast.any chk = true
    · rw [if_pos (.inr (.inr h1))]
      constructor
      · intro h; exact absurd rfl h
      · rintro ⟨h, _⟩
        have : countC l.dropLast = 0 := by omega
        rw [h0.1 this] at h1; cases h1
    · have h2 : l.dropLast.any chk = false := by simpa using h1
      rw [if_neg (by rintro (h | h | h) <;> simp_all)]
      have h3 := h0.2 h2
      constructor
      · intro _; exact ⟨by omega, rfl⟩
      · intro _; split <;> decide
theorem code_alone {l : List (List UInt8)} (h : codeL l ≠ 3) : codeL l = 1 ↔ l.length = 1 := by
  unfold codeL at *
  split at h
  · exact absurd rfl h
  · rename_i h1
    rw [if_neg h1]
    split
    · rename_i h2; simp [h2]
    · rename_i h2; simp [h2]
end Go.Proofs.YtbjcbdgkgbjaiaaDoor
