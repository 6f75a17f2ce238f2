/- The texts FldE, FldF, LexJ, FldG, FrmA, HdL in one. -/
import Derived.Test.YtgmjkkiahanekaaDoorM5
import Derived.OwnWalk
import Derived.Deep.QuietTactic
import Derived.BigQuiet
import Derived.Test.YtgmjkkiahanekaaDoorM2
import Derived.Test.YtgmjkkiahanekaaDoorM3
/- The contracts of fields.Remove and Set and of the document's alike, Remove and Set, for every list of fields. -/
set_option linter.unusedVariables false
set_option linter.unusedSimpArgs false
namespace Go.Proofs.YtgmjkkiahanekaaDoor
open Go.RowKit Lex

/-- The bounds of a list of fields. -/
structure FB (fs : List Fd) : Prop where
  len : fs.length ≤ 1048600
  nm : ∀ f ∈ fs, f.1.length ≤ 4194304
  vl : ∀ f ∈ fs, f.2.length ≤ 4194304
theorem FB.remove {fs : List Fd} (h : FB fs) (name : List UInt8) : FB (removeF fs name) :=
  ⟨Nat.le_trans (removeF_length fs name) h.len, fun f hf => h.nm f (removeF_mem hf), fun f hf => h.vl f (removeF_mem hf)⟩

theorem info_field : (Tryd.prog.info? 79).map (fun i => (i.zero, i.size, i.bytes)) = some (some (.agg #[.string ByteArray.empty, .string ByteArray.empty]), 2, 32) := by kernel_rfl

theorem ones_field (f : Fd) : ∀ u ∈ [Value.string (bs f.1), Value.string (bs f.2)], u.oneCell' = true := by
  intro u hu
  simp only [List.mem_cons, List.not_mem_nil, or_false] at hu
  rcases hu with rfl | rfl <;> rfl
theorem news2 (w : World) (a b : Value) (e : TypeId) : ∀ j u, [a, b][j]? = some u → (w.alloc (.cells #[a, b] e)).cell? ((⟨w.heap.size, 0, none⟩ : Addr).add j) = some u :=
  fun j u hu => World.news_of_block (cs := #[a, b]) (heap_alloc_new w _) j u hu
theorem fvals_one (f : Fd) : fvals [f] = [.string (bs f.1), .string (bs f.2)] := rfl

end Go.Proofs.YtgmjkkiahanekaaDoor

/- The contracts of fields.Set, and of the document's Remove, Set, Same and Get, for every list of fields. -/
set_option linter.unusedVariables false
set_option linter.unusedSimpArgs false
namespace Go.Proofs.YtgmjkkiahanekaaDoor
open Go.RowKit Lex

end Go.Proofs.YtgmjkkiahanekaaDoor

/- The contract of Same; the walk over LexLists. -/
set_option linter.unusedVariables false
set_option linter.unusedSimpArgs false
namespace Go.Proofs.YtgmjkkiahanekaaDoor
open Go.RowKit Lex

theorem ba_size' (a b : ByteArray) : (a ++ b).size = a.size + b.size := ByteArray.size_append
/-- A slice's texts, read in a world. -/
def Texts (w : World) (A : Option Addr) (l : List (List UInt8)) : Prop := ∀ j (h : j < l.length), ∃ g, A = some ⟨g, 0, none⟩ ∧ w.cell? ⟨g, j, none⟩ = some (.string (bs l[j]))
theorem texts_of {w : World} {base : Nat} {e : TypeId} {A : Option Addr} {c : Nat} {l : List (List UInt8)} (h : w.ownsRow base e 1 (.slice A l.length c) l.length (strs l)) : Texts w A l := by
  intro j hj
  rcases h.2 with ⟨h1, h2⟩ | ⟨g, cap, cur, he, a, b, _⟩
  · omega
  · injection he with e1 e2 e3
    subst e1
    have := World.ownsRow.cells h (g := g) rfl j (.string (bs l[j])) (by simp [strs, hj])
    refine ⟨g, rfl, ?_⟩
    by_cases hj0 : j = 0
    · subst hj0; simpa [Addr.add] using this
    · simpa [Addr.add, hj0] using this
theorem Texts.below {w w' : World} {A : Option Addr} {l : List (List UInt8)} (h : Texts w A l) (hb : Below w.heap.size w w') : Texts w' A l := by
  intro j hj
  obtain ⟨g, e, hc⟩ := h j hj
  exact ⟨g, e, (hb.cell (World.block_lt_of_cell? w _ hc)).trans hc⟩

/-- The text that LexLists builds. -/
def built (l : List (List UInt8)) : List UInt8 := l.flatMap fun x => 32 :: 44 :: (x ++ [9, 44])
theorem built_snoc (l : List (List UInt8)) (k : Nat) (h : k < l.length) : built (l.take (k + 1)) = built (l.take k) ++ (32 :: 44 :: (l[k] ++ [9, 44])) := by
  unfold built
  rw [List.take_succ_eq_append_getElem h, List.flatMap_append]
  simp only [List.flatMap_cons, List.flatMap_nil, List.append_nil]
theorem built_length (l : List (List UInt8)) : (built l).length = (slashed l).length + 3 * l.length := by
  induction l with
  | nil => rfl
  | cons x r ih => 
    have e1 : (built (x :: r)).length = x.length + 4 + (built r).length := by simp [built]; omega
    have e2 : (slashed (x :: r)).length = x.length + 1 + (slashed r).length := by simp [slashed]; omega
    rw [e1, e2, ih, List.length_cons]; omega
theorem slashed_elems (ps : List (List UInt8)) : (slashed (elemsOf ps)).length ≤ (slashed ps).length := by
  induction ps with
  | nil => exact Nat.le_refl _
  | cons x r ih =>
    have e : ∀ (a : List UInt8) (q : List (List UInt8)), (slashed (a :: q)).length = a.length + 1 + (slashed q).length := fun a q => by simp [slashed]; omega
    by_cases h : trim x = []
    · rw [elemsOf_skip h, e]; omega
    · rw [elemsOf_take h, e, e]
      have := trim_length x
      omega
theorem slashed_pieces' (c : UInt8) (t : List UInt8) : (slashed (pieces c t)).length = t.length + 1 := by
  induction t with
  | nil => rfl
  | cons b t ih =>
    have e : ∀ (a : List UInt8) (q : List (List UInt8)), (slashed (a :: q)).length = a.length + 1 + (slashed q).length := fun a q => by simp [slashed]; omega
    simp only [pieces]
    split
    · rw [e, ih]; simp; omega
    · cases hq : pieces c t with
      | nil => exact absurd hq (pieces_ne c t)
      | cons p ps =>
        rw [hq, e] at ih
        simp only [e, List.length_cons]; omega
theorem built_elems (l : List UInt8) : (built (elems l)).length ≤ 4 * (l.length + 1) ∧ (elems l).length ≤ l.length + 1 := by
  have h1 := slashed_elems (pieces 44 l)
  rw [slashed_pieces'] at h1
  have h2 := elemsOf_length (pieces 44 l)
  have h3 := pieces_length 44 l
  have h4 := built_length (elems l)
  unfold elems at *
  omega
theorem elems_built {l : List (List UInt8)} (h : ∀ x ∈ l, x ≠ [] ∧ trim x = x ∧ ∀ c ∈ x, c ≠ (44 : UInt8)) : elems (built l) = l := by
  induction l with
  | nil => decide
  | cons x r ih =>
    obtain ⟨h1, h2, h3⟩ := h x (by simp)
    have e : built (x :: r) = [32] ++ 44 :: ((x ++ [9]) ++ 44 :: built r) := by simp [built]
    obtain ⟨h4, h5⟩ := (trim_self x).1 h2
    have ht : trim (x ++ [9]) = x := by
      have := trim_mid (a := []) (m := x) (b := [9]) rfl (by decide) h4 h5
      simpa using this
    unfold elems
    rw [e, pieces_at _ (by decide), pieces_at _ (by
      intro c hc
      rcases List.mem_append.1 hc with hc | hc
      · exact h3 c hc
      · simp at hc; subst hc; decide)]
    rw [elemsOf_skip (by decide), elemsOf_take (by rw [ht]; exact h1), ht]
    congr 1
    exact ih (fun y hy => h y (by simp [hy]))

end Go.Proofs.YtgmjkkiahanekaaDoor

/- The contracts of fields.Has and of the document's Get, Elements, Has, One and Strip, for every list of fields. -/
set_option linter.unusedVariables false
set_option linter.unusedSimpArgs false
namespace Go.Proofs.YtgmjkkiahanekaaDoor
open Go.RowKit Lex

theorem valuesF_cons (f : Fd) (l : List Fd) (name : List UInt8) : valuesF (f :: l) name = (if alike f.1 name then [f.2] else []) ++ valuesF l name := by
  unfold valuesF
  by_cases hh : alike f.1 name = true
  · simp [hh]
  · simp [hh]
theorem valuesF_drop (fs : List Fd) (k : Nat) (h : k < fs.length) (name : List UInt8) : valuesF (fs.drop k) name = (if alike fs[k].1 name then [fs[k].2] else []) ++ valuesF (fs.drop (k + 1)) name := by
  rw [List.drop_eq_getElem_cons h, valuesF_cons]
theorem elementsF_take (fs : List Fd) (k : Nat) (h : k < fs.length) (name : List UInt8) : elementsF (fs.take (k + 1)) name = elementsF (fs.take k) name ++ (if alike fs[k].1 name then elems fs[k].2 else []) := by
  unfold elementsF
  rw [valuesF_take fs k h, List.flatMap_append]
  congr 1
  split <;> simp
theorem elementsF_length {fs : List Fd} (hB : FB fs) (k : Nat) (name : List UInt8) : (elementsF (fs.take k) name).length ≤ 4398148223000 := by
  have key : ∀ l : List (List UInt8), (∀ v ∈ l, v.length ≤ 4194304) → (l.flatMap elems).length ≤ l.length * 4194305 := by
    intro l
    induction l with
    | nil => intro _; simp
    | cons v l ih =>
      intro hv
      have h1 := ih (fun u hu => hv u (List.mem_cons_of_mem _ hu))
      have h2 := elems_length v
      have h3 := hv v List.mem_cons_self
      rw [List.flatMap_cons, List.length_append, List.length_cons, Nat.add_mul]; omega
  have h1 := key (valuesF (fs.take k) name) (fun v hv => by
    obtain ⟨f, hf, rfl⟩ := valuesF_mem hv
    exact hB.vl f (List.mem_of_mem_take hf))
  have h2 := valuesF_length (fs.take k) name
  rw [List.length_take] at h2
  have h3 : (valuesF (fs.take k) name).length ≤ 1048600 := by have := hB.len; omega
  have h4 := Nat.mul_le_mul_right 4194305 h3
  unfold elementsF
  omega
theorem elementsF_mem {fs : List Fd} (hB : FB fs) {name x : List UInt8} (h : x ∈ elementsF fs name) : x.length ≤ 4194304 := by
  unfold elementsF at h
  obtain ⟨v, hv, hx⟩ := List.mem_flatMap.1 h
  obtain ⟨f, hf, rfl⟩ := valuesF_mem hv
  exact Nat.le_trans (elems_mem x hx).2.2.2 (hB.vl f hf)

theorem any_take_false {α : Type} {p : α → Bool} {l : List α} {k : Nat} (h : k < l.length) (ha : (l.take k).any p = false) (hp : p l[k] = false) : (l.take (k + 1)).any p = false := by
  rw [List.take_succ_eq_append_getElem h, List.any_append, ha]; simp [hp]
theorem any_at {α : Type} {p : α → Bool} {l : List α} {k : Nat} (h : k < l.length) (hp : p l[k] = true) : l.any p = true := List.any_eq_true.2 ⟨_, List.getElem_mem h, hp⟩

end Go.Proofs.YtgmjkkiahanekaaDoor

/- Plain words of layer 9 over lists of fields: lengths, codings, framings; no program in sight. -/
set_option linter.unusedVariables false
set_option linter.unusedSimpArgs false
namespace Go.Proofs.YtgmjkkiahanekaaDoor
open Go.RowKit Lex

def clenU : List UInt8 := [67, 111, 110, 116, 101, 110, 116, 45, 76, 101, 110, 103, 116, 104]
def clenL : List UInt8 := [99, 111, 110, 116, 101, 110, 116, 45, 108, 101, 110, 103, 116, 104]
def tencU : List UInt8 := [84, 114, 97, 110, 115, 102, 101, 114, 45, 69, 110, 99, 111, 100, 105, 110, 103]
def tencL : List UInt8 := [116, 114, 97, 110, 115, 102, 101, 114, 45, 101, 110, 99, 111, 100, 105, 110, 103]
def chunkedL : List UInt8 := [99, 104, 117, 110, 107, 101, 100]
def closeL : List UInt8 := [99, 108, 111, 115, 101]
def keepL : List UInt8 := [107, 101, 101, 112, 45, 97, 108, 105, 118, 101]
def connectM : List UInt8 := [67, 79, 78, 78, 69, 67, 84]
def headM : List UInt8 := [72, 69, 65, 68]
theorem clen_low : lower clenU = lower clenL := by decide +kernel
theorem tenc_low : lower tencU = lower tencL := by decide +kernel

/-- One part of a length: the number, or none. -/
def partN (p : List UInt8) : Option Int := if (decimal (trim p) 15).2 = true then some (decimal (trim p) 15).1 else none
/-- The lengths, read one by one: nothing yet, or one number. -/
def lenGo : Option Int → List (List UInt8) → Option (Option Int)
  | st, [] => some st
  | st, p :: r => match partN p with
    | none => none
    | some n => if st = none ∨ st = some n then lenGo (some n) r else none
def partsF (fs : List Fd) : List (List UInt8) := (valuesF fs clenL).flatMap (pieces 44)
def lengthF (fs : List Fd) : Option (Option Int) := lenGo none (partsF fs)
def sizedF (fs : List Fd) : Bool := decide (0 < (getF fs clenL).2)
def codedF (fs : List Fd) : Bool := decide (0 < (getF fs tencL).2)
def chk (x : List UInt8) : Bool := alike x chunkedL
/-- 1: chunked alone; 2: chunked once, at the end; 3: anything else. -/
def codeL (l : List (List UInt8)) : Int := if l = [] ∨ (l.getLast?.map chk).getD false = false ∨ l.dropLast.any chk = true then 3 else if l.length = 1 then 1 else 2
def codeF (fs : List Fd) : Int := codeL (elementsF fs tencL)
def reqF (minor : Int) (fs : List Fd) (most : Int) : Int × Int × Int :=
  if codedF fs = true then (if minor = 0 ∨ sizedF fs = true ∨ codeF fs = 3 then (0, 0, 90) else if codeF fs = 1 then (3, 0, 0) else (0, 0, 91))
  else if sizedF fs = false then (1, 0, 0)
  else match lengthF fs with
    | some (some n) => if most < n then (0, 0, 101) else (2, n, 0)
    | _ => (0, 0, 90)
def noBody (s : Int) : Bool := (decide (100 ≤ s) && decide (s ≤ 199)) || decide (s = 204) || decide (s = 304)
def respF (method : List UInt8) (s minor : Int) (fs : List Fd) : Int × Int × Int :=
  if s = 101 then (5, 0, 0)
  else if noBody s = true then (1, 0, 0)
  else if method = connectM ∧ 200 ≤ s ∧ s ≤ 299 then (5, 0, 0)
  else if method = headM then (1, 0, 0)
  else if codedF fs = true then (if minor = 0 ∨ sizedF fs = true then (0, 0, 90) else if codeF fs = 1 then (3, 0, 0) else (0, 0, 91))
  else if sizedF fs = false then (4, 0, 0)
  else match lengthF fs with
    | some (some n) => (2, n, 0)
    | _ => (0, 0, 90)
def keepF (minor : Int) (fs : List Fd) : Bool := !hasF fs conn closeL && (decide (minor ≠ 0) || hasF fs conn keepL)

theorem lenGo_cons_bad {st : Option Int} {p : List UInt8} {r : List (List UInt8)} (h : partN p = none) : lenGo st (p :: r) = none := by simp only [lenGo, h]
theorem lenGo_cons_ok {st : Option Int} {p : List UInt8} {r : List (List UInt8)} {n : Int} (h : partN p = some n) (hs : st = none ∨ st = some n) : lenGo st (p :: r) = lenGo (some n) r := by simp only [lenGo, h]; rw [if_pos hs]
theorem lenGo_cons_ne {st : Option Int} {p : List UInt8} {r : List (List UInt8)} {n : Int} (h : partN p = some n) (hs : ¬ (st = none ∨ st = some n)) : lenGo st (p :: r) = none := by simp only [lenGo, h]; rw [if_neg hs]
theorem lenGo_some (n : Int) (l : List (List UInt8)) : lenGo (some n) l ≠ some none := by
  induction l generalizing n with
  | nil => simp [lenGo]
  | cons p r ih =>
    cases h : partN p with
    | none => rw [lenGo_cons_bad h]; simp
    | some k =>
      by_cases hs : (some n : Option Int) = none ∨ some n = some k
      · rw [lenGo_cons_ok h hs]; exact ih k
      · rw [lenGo_cons_ne h hs]; simp
theorem lenGo_cons (st : Option Int) (p : List UInt8) (r : List (List UInt8)) : lenGo st (p :: r) ≠ some none := by
  cases h : partN p with
  | none => rw [lenGo_cons_bad h]; simp
  | some k =>
    by_cases hs : st = none ∨ st = some k
    · rw [lenGo_cons_ok h hs]; exact lenGo_some _ _
    · rw [lenGo_cons_ne h hs]; simp
theorem partN_bound {p : List UInt8} {n : Int} (h : partN p = some n) : 0 ≤ n ∧ n < 1000000000000000 := by
  unfold partN at h
  split at h
  · injection h with h
    subst h
    rename_i h2
    generalize trim p = t at *
    unfold decimal at *
    rw [show (if (18 : Int) < 15 then (18 : Int) else 15) = 15 from by decide] at *
    unfold number at *
    split at h2
    · cases h2
    · rename_i h3
      rw [if_neg h3]
      simp only [not_or] at h3
      obtain ⟨a, b, c⟩ := h3
      have hb := num_bound 10 (by omega) t (by simpa using c)
      have hl : t.length ≤ 15 := by omega
      have : (10 : Int) ^ t.length ≤ 10 ^ 15 := by
        have := Nat.pow_le_pow_right (n := 10) (by decide) hl
        exact_mod_cast this
      have h4 : (10 : Int) ^ 15 = 1000000000000000 := by decide
      simp only
      omega
  · cases h
theorem lenGo_bound {st : Option Int} {l : List (List UInt8)} {n : Int} (hs : ∀ m, st = some m → 0 ≤ m ∧ m < 1000000000000000) (h : lenGo st l = some (some n)) : 0 ≤ n ∧ n < 1000000000000000 := by
  induction l generalizing st with
  | nil => simp only [lenGo] at h; injection h with h; exact hs n h
  | cons p r ih =>
    cases hp : partN p with
    | none => rw [lenGo_cons_bad hp] at h; cases h
    | some k =>
      by_cases hq : st = none ∨ st = some k
      · rw [lenGo_cons_ok hp hq] at h
        exact ih (fun m hm => by injection hm with hm; subst hm; exact partN_bound hp) h
      · rw [lenGo_cons_ne hp hq] at h; cases h
theorem length_bound {fs : List Fd} {n : Int} (h : lengthF fs = some (some n)) : 0 ≤ n ∧ n < 1000000000000000 := lenGo_bound (fun _ e => by cases e) h
theorem sized_parts {fs : List Fd} (h : sizedF fs = true) : ∃ p r, partsF fs = p :: r := by
  unfold sizedF getF at h
  simp only [decide_eq_true_eq] at h
  unfold partsF
  cases hv : valuesF fs clenL with
  | nil => rw [hv] at h; simp at h
  | cons v vs =>
    cases hp : pieces 44 v with
    | nil => exact absurd hp (pieces_ne 44 v)
    | cons p ps => exact ⟨p, ps ++ vs.flatMap (pieces 44), by rw [List.flatMap_cons, hp]; rfl⟩
theorem length_sized {fs : List Fd} (h : sizedF fs = true) : lengthF fs ≠ some none := by
  obtain ⟨p, r, e⟩ := sized_parts h
  unfold lengthF; rw [e]; exact lenGo_cons _ _ _
theorem partsF_drop (fs : List Fd) (k : Nat) (h : k < fs.length) : partsF (fs.drop k) = (if alike fs[k].1 clenL then pieces 44 fs[k].2 else []) ++ partsF (fs.drop (k + 1)) := by
  unfold partsF
  rw [valuesF_drop fs k h, List.flatMap_append]
  congr 1
  split <;> simp
theorem partsF_nil : partsF [] = [] := rfl
theorem codeL_nil : codeL [] = 3 := rfl
theorem codeL_cases (l : List (List UInt8)) : codeL l = 1 ∨ codeL l = 2 ∨ codeL l = 3 := by
  unfold codeL; split
  · exact .inr (.inr rfl)
  · split
    · exact .inl rfl
    · exact .inr (.inl rfl)
/-- How often chunked is there. -/
def countC (l : List (List UInt8)) : Nat := (l.filter chk).length
theorem countC_snoc (l : List (List UInt8)) (k : Nat) (h : k < l.length) : countC (l.take (k + 1)) = countC (l.take k) + (if chk l[k] then 1 else 0) := by
  unfold countC
  rw [List.take_succ_eq_append_getElem h, List.filter_append, List.length_append]
  congr 1
  by_cases hc : chk l[k] = true
  · rw [if_pos hc]; simp [hc]
  · rw [if_neg hc]; simp [hc]
theorem countC_any {l : List (List UInt8)} : countC l = 0 ↔ l.any chk = false := by
  unfold countC
  rw [List.length_eq_zero_iff, List.filter_eq_nil_iff, List.any_eq_false]
theorem code_last {l : List (List UInt8)} (hl : l ≠ []) : (codeL l ≠ 3) ↔ (countC l = 1 ∧ chk (l.getLast hl) = true) := by
  have e := List.dropLast_concat_getLast hl
  have hc : countC l = countC l.dropLast + (if chk (l.getLast hl) then 1 else 0) := by
    conv => lhs; rw [← e]
    unfold countC
    rw [List.filter_append, List.length_append]
    congr 1
    by_cases hc : chk (l.getLast hl) = true
    · rw [if_pos hc]; simp [hc]
    · rw [if_neg hc]; simp [hc]
  have hg : (l.getLast?.map chk).getD false = chk (l.getLast hl) := by rw [List.getLast?_eq_some_getLast hl]; rfl
  unfold codeL
  rw [hg]
  cases hk : chk (l.getLast hl) with
  | false => simp
  | true =>
    rw [hk, if_pos rfl] at hc
    have h0 := countC_any (l := l.dropLast)
    by_cases h1 : l.dropLast.any chk = true
    · rw [if_pos (.inr (.inr h1))]
      constructor
      · intro h; exact absurd rfl h
      · rintro ⟨h, _⟩
        have : countC l.dropLast = 0 := by omega
        rw [h0.1 this] at h1; cases h1
    · have h2 : l.dropLast.any chk = false := by simpa using h1
      rw [if_neg (by rintro (h | h | h) <;> simp_all)]
      have h3 := h0.2 h2
      constructor
      · intro _; exact ⟨by omega, rfl⟩
      · intro _; split <;> decide
theorem code_alone {l : List (List UInt8)} (h : codeL l ≠ 3) : codeL l = 1 ↔ l.length = 1 := by
  unfold codeL at *
  split at h
  · exact absurd rfl h
  · rename_i h1
    rw [if_neg h1]
    split
    · rename_i h2; simp [h2]
    · rename_i h2; simp [h2]
end Go.Proofs.YtgmjkkiahanekaaDoor

/- Plain laws of layer 8 over lists of bytes; no program in sight. -/
set_option linter.unusedVariables false
set_option linter.unusedSimpArgs false
namespace Go.Proofs.YtgmjkkiahanekaaDoor
open Lex

def crlfs : Nat → List UInt8
  | 0 => []
  | k + 1 => 13 :: 10 :: crlfs k
theorem crlfs_length (k : Nat) : (crlfs k).length = 2 * k := by induction k with | zero => rfl | succ k ih => simp [crlfs, ih]; omega
theorem crlfs_succ (k : Nat) : crlfs (k + 1) = crlfs k ++ [13, 10] := by
  induction k with
  | zero => rfl
  | succ k ih =>
    show 13 :: 10 :: crlfs (k + 1) = (13 :: 10 :: crlfs k) ++ [13, 10]
    rw [ih]; rfl
/-- No empty line begins here. -/
def fresh (r : List UInt8) : Prop := ahead r = 0
theorem ahead_cons2 (r : List UInt8) : ahead (13 :: 10 :: r) = 1 + ahead r := rfl
theorem ahead_crlfs (k : Nat) (r : List UInt8) : ahead (crlfs k ++ r) = k + ahead r := by
  induction k with
  | zero => simp [crlfs]
  | succ k ih =>
    rw [show crlfs (k + 1) ++ r = 13 :: 10 :: (crlfs k ++ r) from rfl, ahead_cons2, ih]; omega
theorem ahead_split : ∀ (n : Nat) (d : List UInt8), d.length ≤ n → ∃ r, d = crlfs (ahead d) ++ r ∧ fresh r
  | 0, d, h => by
    obtain rfl : d = [] := List.eq_nil_of_length_eq_zero (by omega)
    exact ⟨[], rfl, rfl⟩
  | n + 1, d, h => by
    by_cases hd : ∃ r, d = 13 :: 10 :: r
    · obtain ⟨r, rfl⟩ := hd
      obtain ⟨q, hq, hf⟩ := ahead_split n r (by simp at h; omega)
      refine ⟨q, ?_, hf⟩
      rw [ahead_cons2, Nat.add_comm, show crlfs (ahead r + 1) ++ q = 13 :: 10 :: (crlfs (ahead r) ++ q) from rfl, ← hq]
    · have : ahead d = 0 := by
        unfold ahead
        split
        · exact absurd ⟨_, rfl⟩ hd
        · rfl
      exact ⟨d, by rw [this]; rfl, this⟩
theorem ahead_le (d : List UInt8) : 2 * ahead d ≤ d.length := by
  obtain ⟨r, h, _⟩ := ahead_split d.length d (Nat.le_refl _)
  have := congrArg List.length h
  rw [List.length_append, crlfs_length] at this; omega
theorem drop_crlfs (k : Nat) (r : List UInt8) : (crlfs k ++ r).drop (2 * k) = r := by rw [← crlfs_length k, List.drop_left]
theorem fresh_iff {r : List UInt8} : fresh r ↔ ∀ t, r ≠ 13 :: 10 :: t := by
  unfold fresh
  constructor
  · intro h t e; subst e; rw [ahead_cons2] at h; omega
  · intro h
    unfold ahead
    split
    · exact absurd rfl (h _)
    · rfl
theorem fresh_take {r : List UInt8} (h : fresh r) (k : Nat) : fresh (r.take k) := by
  rw [fresh_iff] at *
  intro t e
  match k, r with
  | 0, _ => simp at e
  | 1, [] => simp at e
  | 1, _ :: _ => simp at e
  | k + 2, [] => simp at e
  | k + 2, [a] => simp at e
  | k + 2, a :: b :: r =>
    simp only [List.take_succ_cons, List.cons.injEq] at e
    obtain ⟨rfl, rfl, _⟩ := e
    exact h r rfl
theorem fresh_more {r : List UInt8} (h : fresh r) (h0 : r ≠ []) (h1 : r ≠ [13]) (t : List UInt8) : fresh (r ++ t) := by
  rw [fresh_iff] at *
  intro q e
  match r with
  | [] => exact h0 rfl
  | [a] => simp only [List.singleton_append, List.cons.injEq] at e; rw [e.1] at h1; exact h1 rfl
  | a :: b :: r =>
    simp only [List.cons_append, List.cons.injEq] at e
    obtain ⟨rfl, rfl, _⟩ := e
    exact h r rfl
theorem readL_skip (first : List UInt8 → Hd × Int) (k : Nat) (r : List UInt8) (h : fresh r) : readL true first (crlfs k ++ r) = ((readAt first r).1, (if (readAt first r).2.1 = 0 then 0 else (readAt first r).2.1 + 2 * k), (readAt first r).2.2) := by
  unfold readL
  rw [ahead_crlfs, h]
  simp only [Nat.add_zero, if_true, drop_crlfs]
theorem readL_plain (first : List UInt8 → Hd × Int) (d : List UInt8) : readL false first d = readAt first d := by
  unfold readL
  simp only [Bool.false_eq_true, if_false, List.drop_zero, Nat.add_zero]
  rcases readAt first d with ⟨h, n, e⟩
  simp only
  by_cases hn : n = 0
  · rw [if_pos hn, hn]
  · rw [if_neg hn]

/-! ### heads from their first line on -/
theorem readAt_none {first : List UInt8 → Hd × Int} {d : List UInt8} {e : Int} (h : lineL 82 1100 d = (none, e)) : readAt first d = ({}, 0, e) := by unfold readAt; rw [h]
theorem readAt_bad {first : List UInt8 → Hd × Int} {d l : List UInt8} {e : Int} (h : lineL 82 1100 d = (some l, e)) (hf : (first l).2 ≠ 0) : readAt first d = ({}, 0, (first l).2) := by unfold readAt; rw [h]; simp only; rw [if_pos hf]
theorem readAt_part {first : List UInt8 → Hd × Int} {d l : List UInt8} {e e2 : Int} (h : lineL 82 1100 d = (some l, e)) (hf : (first l).2 = 0) (hg : fieldsL 32 (d.drop (l.length + 2)) = (none, e2)) : readAt first d = ({}, 0, e2) := by
  unfold readAt; rw [h]; simp only; rw [if_neg (by rw [hf]; simp), hg]
theorem readAt_whole {first : List UInt8 → Hd × Int} {d l : List UInt8} {e e2 : Int} {fs : List Fd} {n : Nat} (h : lineL 82 1100 d = (some l, e)) (hf : (first l).2 = 0) (hg : fieldsL 32 (d.drop (l.length + 2)) = (some (fs, n), e2)) :
    readAt first d = ({ (first l).1 with fields := fs }, n + (l.length + 2), 0) := by
  unfold readAt; rw [h]; simp only; rw [if_neg (by rw [hf]; simp), hg]
/-- What a head can be. -/
theorem readAt_cases (first : List UInt8 → Hd × Int) (d : List UInt8) :
    (∃ e, lineL 82 1100 d = (none, e) ∧ readAt first d = ({}, 0, e)) ∨
    (∃ l e, lineL 82 1100 d = (some l, e) ∧ (first l).2 ≠ 0 ∧ readAt first d = ({}, 0, (first l).2)) ∨
    (∃ l e e2, lineL 82 1100 d = (some l, e) ∧ (first l).2 = 0 ∧ fieldsL 32 (d.drop (l.length + 2)) = (none, e2) ∧ readAt first d = ({}, 0, e2)) ∨
    (∃ l e e2 fs n, lineL 82 1100 d = (some l, e) ∧ (first l).2 = 0 ∧ fieldsL 32 (d.drop (l.length + 2)) = (some (fs, n), e2) ∧ readAt first d = ({ (first l).1 with fields := fs }, n + (l.length + 2), 0)) := by
  cases h : lineL 82 1100 d with
  | mk o e =>
    cases o with
    | none => exact .inl ⟨e, rfl, readAt_none h⟩
    | some l =>
      by_cases hf : (first l).2 = 0
      · cases hg : fieldsL 32 (d.drop (l.length + 2)) with
        | mk o2 e2 =>
          cases o2 with
          | none => exact .inr (.inr (.inl ⟨l, e, e2, rfl, hf, hg, readAt_part h hf hg⟩))
          | some x =>
            obtain ⟨fs, n⟩ := x
            exact .inr (.inr (.inr ⟨l, e, e2, fs, n, rfl, hf, hg, readAt_whole h hf hg⟩))
      · exact .inr (.inl ⟨l, e, rfl, hf, readAt_bad h hf⟩)
theorem readAt_more {first : List UInt8 → Hd × Int} {d : List UInt8} (t : List UInt8) (h : (readAt first d).2.2 ≠ 0 ∨ 0 < (readAt first d).2.1) : readAt first (d ++ t) = readAt first d ∧ d ≠ [] ∧ d ≠ [13] := by
  have hne : lineL 82 1100 d ≠ (none, 0) := by
    intro h2; rw [readAt_none h2] at h; rcases h with h | h
    · exact h rfl
    · exact absurd h (Nat.lt_irrefl 0)
  have hm := lineL_more t hne
  refine ⟨?_, fun e => hne (by rw [e]; rfl), fun e => hne (by rw [e]; rfl)⟩
  rcases readAt_cases first d with ⟨e, h1, h2⟩ | ⟨l, e, h1, h3, h2⟩ | ⟨l, e, e2, h1, h3, h4, h2⟩ | ⟨l, e, e2, fs, n, h1, h3, h4, h2⟩
  · rw [h1] at hm; rw [h2, readAt_none hm]
  · rw [h1] at hm; rw [h2, readAt_bad hm h3]
  · rw [h1] at hm
    rw [h2] at h
    obtain ⟨r, rfl, _⟩ := lineL_some h1
    rw [drop_line] at h4
    have h5 := fieldsL_more 32 r t (by rw [h4]; intro h6; injection h6 with _ h6; subst h6; simp at h)
    rw [h2, readAt_part hm h3 (e2 := e2) (by rw [List.append_assoc, List.cons_append, List.cons_append, drop_line, h5, h4])]
  · rw [h1] at hm
    obtain ⟨r, rfl, _⟩ := lineL_some h1
    rw [drop_line] at h4
    have h5 := fieldsL_more 32 r t (by rw [h4]; intro h6; injection h6 with h6; cases h6)
    rw [h2, readAt_whole hm h3 (fs := fs) (n := n) (e2 := e2) (by rw [List.append_assoc, List.cons_append, List.cons_append, drop_line, h5, h4])]
theorem readAt_used {first : List UInt8 → Hd × Int} {d : List UInt8} (h : 0 < (readAt first d).2.1) :
    (readAt first d).2.2 = 0 ∧ (readAt first d).2.1 ≤ d.length ∧ (∀ k, k < (readAt first d).2.1 → readAt first (d.take k) = ({}, 0, 0)) ∧ readAt first (d.take (readAt first d).2.1) = readAt first d := by
  rcases readAt_cases first d with ⟨e, h1, h2⟩ | ⟨l, e, h1, h3, h2⟩ | ⟨l, e, e2, h1, h3, h4, h2⟩ | ⟨l, e, e2, fs, n, h1, h3, h4, h2⟩
  · rw [h2] at h; exact absurd h (Nat.lt_irrefl 0)
  · rw [h2] at h; exact absurd h (Nat.lt_irrefl 0)
  · rw [h2] at h; exact absurd h (Nat.lt_irrefl 0)
  · rw [h2]
    simp only
    obtain ⟨r, rfl, ha, hb, _⟩ := lineL_some h1
    rw [drop_line] at h4
    obtain ⟨u1, u2, u3, u4, u5, u6⟩ := fieldsL_used 32 h4
    refine ⟨trivial, by simp; omega, fun k hk => ?_, ?_⟩
    · by_cases hk2 : k < l.length + 2
      · exact readAt_none (lineL_cut ha hb hk2)
      · have et : (l ++ 13 :: 10 :: r).take k = l ++ 13 :: 10 :: r.take (k - (l.length + 2)) := by
          rw [List.take_append, List.take_of_length_le (by omega)]
          obtain ⟨j, hj⟩ : ∃ j, k - l.length = j + 2 := ⟨k - l.length - 2, by omega⟩
          rw [hj, show k - (l.length + 2) = j by omega]; rfl
        rw [et]
        exact readAt_part (lineL_at ha hb) h3 (by rw [drop_line]; exact u5 _ (by omega))
    · have et : (l ++ 13 :: 10 :: r).take (n + (l.length + 2)) = l ++ 13 :: 10 :: r.take n := by
        rw [List.take_append, List.take_of_length_le (by omega), show n + (l.length + 2) - l.length = n + 2 by omega]; rfl
      rw [et]
      exact readAt_whole (e2 := e2) (lineL_at ha hb) h3 (by rw [drop_line]; exact u6)
/-- Where no bytes are used there is no head. -/
theorem readAt_empty {first : List UInt8 → Hd × Int} {d : List UInt8} (h : (readAt first d).2.1 = 0) : (readAt first d).1 = {} := by
  rcases readAt_cases first d with ⟨e, h1, h2⟩ | ⟨l, e, h1, h3, h2⟩ | ⟨l, e, e2, h1, h3, h4, h2⟩ | ⟨l, e, e2, fs, n, h1, h3, h4, h2⟩ <;> rw [h2] at h ⊢
  simp at h
theorem readL_empty {skip : Bool} {first : List UInt8 → Hd × Int} {d : List UInt8} (h : (readL skip first d).2.1 = 0) : (readL skip first d).1 = {} := by
  unfold readL at *
  simp only at h ⊢
  generalize (if skip = true then 2 * ahead d else 0) = k at *
  by_cases hn : (readAt first (d.drop k)).2.1 = 0
  · exact readAt_empty hn
  · rw [if_neg hn] at h; omega
theorem readL_err {skip : Bool} {first : List UInt8 → Hd × Int} {d : List UInt8} (h : (readL skip first d).2.2 ≠ 0) : (readL skip first d).2.1 = 0 := by
  unfold readL at *
  simp only at h ⊢
  generalize hk : (if skip = true then 2 * ahead d else 0) = k at *
  by_cases hn : (readAt first (d.drop k)).2.1 = 0
  · rw [if_pos hn]
  · exact absurd (readAt_used (by omega : 0 < _)).1 h
/-- What has been told of a head stays so. -/
theorem readL_more {skip : Bool} {first : List UInt8 → Hd × Int} {d : List UInt8} (t : List UInt8) (h : (readL skip first d).2.2 ≠ 0 ∨ 0 < (readL skip first d).2.1) : readL skip first (d ++ t) = readL skip first d := by
  cases skip with
  | false => rw [readL_plain] at *; rw [readL_plain]; exact (readAt_more t h).1
  | true =>
    obtain ⟨r, hr, hf⟩ := ahead_split d.length d (Nat.le_refl _)
    generalize ahead d = k at hr
    subst hr
    rw [readL_skip first k r hf] at h ⊢
    simp only at h
    obtain ⟨h1, h2, h3⟩ := readAt_more (first := first) (d := r) t (by
      rcases h with h | h
      · exact .inl h
      · right; split at h <;> omega)
    rw [List.append_assoc, readL_skip first k _ (fresh_more hf h2 h3 t), h1]
theorem readL_len {skip : Bool} {first : List UInt8 → Hd × Int} {d : List UInt8} : (readL skip first d).2.1 ≤ d.length := by
  have key : ∀ d : List UInt8, (readAt first d).2.1 ≤ d.length := fun d => by
    by_cases hn : 0 < (readAt first d).2.1
    · exact (readAt_used hn).2.1
    · omega
  cases skip with
  | false => rw [readL_plain]; exact key d
  | true =>
    have h1 := key (d.drop (2 * ahead d))
    have h2 := ahead_le d
    rw [List.length_drop] at h1
    unfold readL
    simp only [if_true]
    by_cases hn : (readAt first (d.drop (2 * ahead d))).2.1 = 0
    · rw [if_pos hn]; exact Nat.zero_le _
    · rw [if_neg hn]; omega
/-- Cut short it isn't whole, and is no error; what is used makes it. -/
theorem readL_used {first : List UInt8 → Hd × Int} {d : List UInt8} (h : 0 < (readL true first d).2.1) :
    (readL true first d).2.2 = 0 ∧ (∀ k, k < (readL true first d).2.1 → readL true first (d.take k) = ({}, 0, 0)) ∧ readL true first (d.take (readL true first d).2.1) = readL true first d := by
  obtain ⟨r, hr, hf⟩ := ahead_split d.length d (Nat.le_refl _)
  generalize ahead d = a at hr
  subst hr
  rw [readL_skip first a r hf] at h
  simp only [readL_skip first a r hf]
  simp only at h
  have hn : 0 < (readAt first r).2.1 := by split at h <;> omega
  obtain ⟨u1, u2, u3, u4⟩ := readAt_used hn
  rw [if_neg (by omega)]
  refine ⟨u1, fun k hk => ?_, ?_⟩
  · by_cases hk2 : k ≤ 2 * a
    · have hsplit : ∃ j x, (crlfs a ++ r).take k = crlfs j ++ x ∧ (x = [] ∨ x = [13]) := by
        rw [List.take_append_of_le_length (by rw [crlfs_length]; exact hk2)]
        clear hk h hn u1 u2 u3 u4 hf
        induction a generalizing k with
        | zero => exact ⟨0, [], by simp [crlfs], .inl rfl⟩
        | succ a ih =>
          match k with
          | 0 => exact ⟨0, [], by simp [crlfs], .inl rfl⟩
          | 1 => exact ⟨0, [13], rfl, .inr rfl⟩
          | k + 2 =>
            obtain ⟨j, x, h1, h2⟩ := ih k (by omega)
            exact ⟨j + 1, x, by rw [show (crlfs (a + 1)).take (k + 2) = 13 :: 10 :: (crlfs a).take k from rfl, h1]; rfl, h2⟩
      obtain ⟨j, x, e, hx⟩ := hsplit
      have hlx : lineL 82 1100 x = (none, 0) := by rcases hx with rfl | rfl <;> rfl
      have hfx : fresh x := by rcases hx with rfl | rfl <;> rfl
      rw [e, readL_skip first j x hfx, readAt_none hlx]; rfl
    · have et : (crlfs a ++ r).take k = crlfs a ++ r.take (k - 2 * a) := by
        rw [List.take_append, List.take_of_length_le (by rw [crlfs_length]; omega), crlfs_length]
      rw [et, readL_skip first a _ (fresh_take hf _), u3 _ (by omega)]; rfl
  · have et : (crlfs a ++ r).take ((readAt first r).2.1 + 2 * a) = crlfs a ++ r.take (readAt first r).2.1 := by
      rw [List.take_append, List.take_of_length_le (by rw [crlfs_length]; omega), crlfs_length, Nat.add_sub_cancel]
    rw [et, readL_skip first a _ (fresh_take hf _), u4, if_neg (by omega)]
/-- Empty lines ahead are passed over and counted. -/
theorem readL_ahead (first : List UInt8 → Hd × Int) (k : Nat) (d : List UInt8) :
    readL true first (crlfs k ++ d) = ((readL true first d).1, (if (readL true first d).2.1 = 0 then 0 else (readL true first d).2.1 + 2 * k), (readL true first d).2.2) := by
  obtain ⟨r, hr, hf⟩ := ahead_split d.length d (Nat.le_refl _)
  generalize ahead d = a at hr
  subst hr
  have e : crlfs k ++ (crlfs a ++ r) = crlfs (k + a) ++ r := by
    clear hf
    induction k with
    | zero => simp [crlfs]
    | succ k ih => rw [show k + 1 + a = (k + a) + 1 by omega]; show 13 :: 10 :: (crlfs k ++ (crlfs a ++ r)) = 13 :: 10 :: (crlfs (k + a) ++ r); rw [ih]
  rw [e, readL_skip first _ r hf, readL_skip first _ r hf]
  simp only
  by_cases hn : (readAt first r).2.1 = 0
  · rw [if_pos hn, if_pos hn]; rfl
  · rw [if_neg hn, if_neg hn, if_neg (by omega), Nat.mul_add]
    congr 2; omega

/-! ### bare line ends -/
def bare : List UInt8 → Bool
  | 13 :: 10 :: r => bare r
  | [] => true
  | c :: r => lb c && bare r
theorem bare_cons {c : UInt8} {r : List UInt8} (h : lb c = true) : bare (c :: r) = bare r := by
  have hc := h
  simp only [lb, Bool.and_eq_true, decide_eq_true_eq] at hc
  conv => lhs; unfold bare
  split
  · rename_i e; injection e with e _; exact absurd e hc.2
  · rename_i e; cases e
  · rename_i e; injection e with e1 e2; subst e1 e2; rw [h, Bool.true_and]
theorem bare_line {l : List UInt8} (h : l.all lb = true) (r : List UInt8) : bare (l ++ 13 :: 10 :: r) = bare r := by
  induction l with
  | nil => rfl
  | cons c l ih =>
    simp only [List.all_cons, Bool.and_eq_true] at h
    rw [List.cons_append, bare_cons h.1, ih h.2]
theorem bare_fields (room : Nat) : ∀ {d : List UInt8} {fs : List Fd} {n : Nat} {e : Int}, fieldsL room d = (some (fs, n), e) → bare (d.take n) = true := by
  induction room with
  | zero =>
    intro d fs n e h
    cases hl : lineL 83 512 d with
    | mk o e' =>
      cases o with
      | none => rw [fieldsL_none hl] at h; injection h with h; cases h
      | some l =>
        by_cases h0 : l = []
        · subst h0
          rw [fieldsL_end hl] at h
          injection h with h _; injection h with h; injection h with _ h4
          subst h4
          obtain ⟨r, rfl, _⟩ := lineL_some hl
          rfl
        · rw [fieldsL_large hl h0] at h; injection h with h; cases h
  | succ room ih =>
    intro d fs n e h
    cases hl : lineL 83 512 d with
    | mk o e' =>
      cases o with
      | none => rw [fieldsL_none hl] at h; injection h with h; cases h
      | some l =>
        by_cases h0 : l = []
        · subst h0
          rw [fieldsL_end hl] at h
          injection h with h _; injection h with h; injection h with _ h4
          subst h4
          obtain ⟨r, rfl, _⟩ := lineL_some hl
          rfl
        · cases hf : fieldL l with
          | none => rw [fieldsL_bad hl h0 hf] at h; injection h with h; cases h
          | some f =>
            obtain ⟨r, rfl, ha, hb, _⟩ := lineL_some hl
            rw [fieldsL_step hl h0 hf, drop_line] at h
            cases hq : fieldsL room r with
            | mk o2 e2 =>
              rw [hq] at h
              cases o2 with
              | none => injection h with h; cases h
              | some x =>
                obtain ⟨gs, q⟩ := x
                injection h with h h2
                simp only [Option.map_some, Option.some.injEq, Prod.mk.injEq] at h
                obtain ⟨rfl, rfl⟩ := h
                have et : (l ++ 13 :: 10 :: r).take (q + (l.length + 2)) = l ++ 13 :: 10 :: r.take q := by
                  rw [List.take_append, List.take_of_length_le (by omega), show q + (l.length + 2) - l.length = q + 2 by omega]; rfl
                rw [et, bare_line ha]
                exact ih hq
theorem bare_readAt (first : List UInt8 → Hd × Int) (d : List UInt8) : bare (d.take (readAt first d).2.1) = true := by
  rcases readAt_cases first d with ⟨e, h1, h2⟩ | ⟨l, e, h1, h3, h2⟩ | ⟨l, e, e2, h1, h3, h4, h2⟩ | ⟨l, e, e2, fs, n, h1, h3, h4, h2⟩ <;> rw [h2]
  · rfl
  · rfl
  · rfl
  · simp only
    obtain ⟨r, rfl, ha, hb, _⟩ := lineL_some h1
    rw [drop_line] at h4
    have et : (l ++ 13 :: 10 :: r).take (n + (l.length + 2)) = l ++ 13 :: 10 :: r.take n := by
      rw [List.take_append, List.take_of_length_le (by omega), show n + (l.length + 2) - l.length = n + 2 by omega]; rfl
    rw [et, bare_line ha]
    exact bare_fields 32 h4
theorem bare_crlfs (k : Nat) (r : List UInt8) : bare (crlfs k ++ r) = bare r := by
  induction k with
  | zero => rfl
  | succ k ih => exact ih
theorem bare_readL (skip : Bool) (first : List UInt8 → Hd × Int) (d : List UInt8) : bare (d.take (readL skip first d).2.1) = true := by
  cases skip with
  | false => rw [readL_plain]; exact bare_readAt first d
  | true =>
    obtain ⟨r, hr, hf⟩ := ahead_split d.length d (Nat.le_refl _)
    generalize ahead d = a at hr
    subst hr
    rw [readL_skip first a r hf]
    simp only
    split
    · rfl
    · rw [List.take_append, List.take_of_length_le (by rw [crlfs_length]; omega), crlfs_length, Nat.add_sub_cancel, bare_crlfs]
      exact bare_readAt first r
/-- In a bare text each 10 has a 13 ahead and each 13 a 10 behind it. -/
theorem bare_at : ∀ (n : Nat) (l : List UInt8), l.length ≤ n → bare l = true → ∀ i (hi : i < l.length), (l[i] = 10 → ∃ h : 0 < i, l[i - 1] = 13) ∧ (l[i] = 13 → ∃ h : i + 1 < l.length, l[i + 1] = 10)
  | 0, l, hl, _, i, hi => by omega
  | n + 1, l, hl, hb, i, hi => by
    match l, hb, hi with
    | [], _, hi => simp at hi
    | c :: r, hb, hi =>
      by_cases hcr : ∃ t, c = 13 ∧ r = 10 :: t
      · obtain ⟨t, rfl, rfl⟩ := hcr
        have hbt : bare t = true := hb
        match i, hi with
        | 0, _ => exact ⟨fun e => by simp at e, fun _ => ⟨by simp, rfl⟩⟩
        | 1, _ => exact ⟨fun _ => ⟨by omega, rfl⟩, fun e => by simp at e⟩
        | i + 2, hi =>
          have hi' : i < t.length := by simpa using hi
          obtain ⟨h1, h2⟩ := bare_at n t (by simp at hl; omega) hbt i hi'
          refine ⟨fun e => ?_, fun e => ?_⟩
          · obtain ⟨h3, h4⟩ := h1 (by simpa using e)
            obtain ⟨j, rfl⟩ : ∃ j, i = j + 1 := ⟨i - 1, by omega⟩
            exact ⟨by omega, by simpa using h4⟩
          · obtain ⟨h3, h4⟩ := h2 (by simpa using e)
            exact ⟨by simp; omega, by simpa using h4⟩
      · have hc : lb c = true ∧ bare r = true := by
          unfold bare at hb
          split at hb
          · rename_i e; injection e with e1 e2; exact absurd ⟨_, e1, e2⟩ hcr
          · rename_i e; cases e
          · rename_i e; injection e with e1 e2; subst e1 e2; simpa using hb
        have hcc := hc.1
        simp only [lb, Bool.and_eq_true, decide_eq_true_eq] at hcc
        match i, hi with
        | 0, _ => exact ⟨fun e => absurd e hcc.1, fun e => absurd e hcc.2⟩
        | i + 1, hi =>
          have hi' : i < r.length := by simpa using hi
          obtain ⟨h1, h2⟩ := bare_at n r (by simp at hl; omega) hc.2 i hi'
          refine ⟨fun e => ?_, fun e => ?_⟩
          · obtain ⟨h3, h4⟩ := h1 (by simpa using e)
            obtain ⟨j, rfl⟩ : ∃ j, i = j + 1 := ⟨i - 1, by omega⟩
            exact ⟨by omega, by simpa using h4⟩
          · obtain ⟨h3, h4⟩ := h2 (by simpa using e)
            exact ⟨by simp; omega, by simpa using h4⟩
end Go.Proofs.YtgmjkkiahanekaaDoor

