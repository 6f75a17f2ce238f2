/- The texts FldE, FldF, LexJ, FldG, FrmA, OutA, HdE, HdF in one. -/
import Derived.Test.YtgmjkkiahanekaaDoorM10
import Derived.OwnWalk
import Derived.Deep.QuietTactic
import Derived.BigQuiet
import Derived.Test.YtgmjkkiahanekaaDoorM2
import Derived.Test.YtgmjkkiahanekaaDoorM3
import Derived.Test.YtgmjkkiahanekaaDoorM4
import Derived.Test.YtgmjkkiahanekaaDoorM6
import Derived.Laws.OwnMore
import Derived.Maps.AppendAt
/- The contracts of fields.Remove and Set and of the document's alike, Remove and Set, for every list of fields. -/
set_option linter.unusedVariables false
set_option linter.unusedSimpArgs false
namespace Go.Proofs.YtgmjkkiahanekaaDoor
open Go.RowKit Lex

/-- The bounds of a list of fields. -/
structure FB (fs : List Fd) : Prop where
  len : fs.length ≤ 1048600
  nm : ∀ f ∈ fs, f.1.length ≤ 4194304
  vl : ∀ f ∈ fs, f.2.length ≤ 4194304
theorem FB.remove {fs : List Fd} (h : FB fs) (name : List UInt8) : FB (removeF fs name) :=
  ⟨Nat.le_trans (removeF_length fs name) h.len, fun f hf => h.nm f (removeF_mem hf), fun f hf => h.vl f (removeF_mem hf)⟩

theorem info_field : (Tryd.prog.info? 79).map (fun i => (i.zero, i.size, i.bytes)) = some (some (.agg #[.string ByteArray.empty, .string ByteArray.empty]), 2, 32) := by kernel_rfl

theorem ones_field (f : Fd) : ∀ u ∈ [Value.string (bs f.1), Value.string (bs f.2)], u.oneCell' = true := by
  intro u hu
  simp only [List.mem_cons, List.not_mem_nil, or_false] at hu
  rcases hu with rfl | rfl <;> rfl
theorem news2 (w : World) (a b : Value) (e : TypeId) : ∀ j u, [a, b][j]? = some u → (w.alloc (.cells #[a, b] e)).cell? ((⟨w.heap.size, 0, none⟩ : Addr).add j) = some u :=
  fun j u hu => World.news_of_block (cs := #[a, b]) (heap_alloc_new w _) j u hu
theorem fvals_one (f : Fd) : fvals [f] = [.string (bs f.1), .string (bs f.2)] := rfl

end Go.Proofs.YtgmjkkiahanekaaDoor

/- The contracts of fields.Set, and of the document's Remove, Set, Same and Get, for every list of fields. -/
set_option linter.unusedVariables false
set_option linter.unusedSimpArgs false
namespace Go.Proofs.YtgmjkkiahanekaaDoor
open Go.RowKit Lex

end Go.Proofs.YtgmjkkiahanekaaDoor

/- The contract of Same; the walk over LexLists. -/
set_option linter.unusedVariables false
set_option linter.unusedSimpArgs false
namespace Go.Proofs.YtgmjkkiahanekaaDoor
open Go.RowKit Lex

theorem ba_size' (a b : ByteArray) : (a ++ b).size = a.size + b.size := ByteArray.size_append
/-- A slice's texts, read in a world. -/
def Texts (w : World) (A : Option Addr) (l : List (List UInt8)) : Prop := ∀ j (h : j < l.length), ∃ g, A = some ⟨g, 0, none⟩ ∧ w.cell? ⟨g, j, none⟩ = some (.string (bs l[j]))
theorem texts_of {w : World} {base : Nat} {e : TypeId} {A : Option Addr} {c : Nat} {l : List (List UInt8)} (h : w.ownsRow base e 1 (.slice A l.length c) l.length (strs l)) : Texts w A l := by
  intro j hj
  rcases h.2 with ⟨h1, h2⟩ | ⟨g, cap, cur, he, a, b, _⟩
  · omega
  · injection he with e1 e2 e3
    subst e1
    have := World.ownsRow.cells h (g := g) rfl j (.string (bs l[j])) (by simp [strs, hj])
    refine ⟨g, rfl, ?_⟩
    by_cases hj0 : j = 0
    · subst hj0; simpa [Addr.add] using this
    · simpa [Addr.add, hj0] using this
theorem Texts.below {w w' : World} {A : Option Addr} {l : List (List UInt8)} (h : Texts w A l) (hb : Below w.heap.size w w') : Texts w' A l := by
  intro j hj
  obtain ⟨g, e, hc⟩ := h j hj
  exact ⟨g, e, (hb.cell (World.block_lt_of_cell? w _ hc)).trans hc⟩

/-- The text that LexLists builds. -/
def built (l : List (List UInt8)) : List UInt8 := l.flatMap fun x => 32 :: 44 :: (x ++ [9, 44])
theorem built_snoc (l : List (List UInt8)) (k : Nat) (h : k < l.length) : built (l.take (k + 1)) = built (l.take k) ++ (32 :: 44 :: (l[k] ++ [9, 44])) := by
  unfold built
  rw [List.take_succ_eq_append_getElem h, List.flatMap_append]
  simp only [List.flatMap_cons, List.flatMap_nil, List.append_nil]
theorem built_length (l : List (List UInt8)) : (built l).length = (slashed l).length + 3 * l.length := by
  induction l with
  | nil => rfl
  | cons x r ih => 
    have e1 : (built (x :: r)).length = x.length + 4 + (built r).length := by simp [built]; omega
    have e2 : (slashed (x :: r)).length = x.length + 1 + (slashed r).length := by simp [slashed]; omega
    rw [e1, e2, ih, List.length_cons]; omega
theorem slashed_elems (ps : List (List UInt8)) : (slashed (elemsOf ps)).length ≤ (slashed ps).length := by
  induction ps with
  | nil => exact Nat.le_refl _
  | cons x r ih =>
    have e : ∀ (a : List UInt8) (q : List (List UInt8)), (slashed (a :: q)).length = a.length + 1 + (slashed q).length := fun a q => by simp [slashed]; omega
    by_cases h : trim x = []
    · rw [elemsOf_skip h, e]; omega
    · rw [elemsOf_take h, e, e]
      have := trim_length x
      omega
theorem slashed_pieces' (c : UInt8) (t : List UInt8) : (slashed (pieces c t)).length = t.length + 1 := by
  induction t with
  | nil => rfl
  | cons b t ih =>
    have e : ∀ (a : List UInt8) (q : List (List UInt8)), (slashed (a :: q)).length = a.length + 1 + (slashed q).length := fun a q => by simp [slashed]; omega
    simp only [pieces]
    split
    · rw [e, ih]; simp; omega
    · cases hq : pieces c t with
      | nil => exact absurd hq (pieces_ne c t)
      | cons p ps =>
        rw [hq, e] at ih
        simp only [e, List.length_cons]; omega
theorem built_elems (l : List UInt8) : (built (elems l)).length ≤ 4 * (l.length + 1) ∧ (elems l).length ≤ l.length + 1 := by
  have h1 := slashed_elems (pieces 44 l)
  rw [slashed_pieces'] at h1
  have h2 := elemsOf_length (pieces 44 l)
  have h3 := pieces_length 44 l
  have h4 := built_length (elems l)
  unfold elems at *
  omega
theorem elems_built {l : List (List UInt8)} (h : ∀ x ∈ l, x ≠ [] ∧ trim x = x ∧ ∀ c ∈ x, c ≠ (44 : UInt8)) : elems (built l) = l := by
  induction l with
  | nil => decide
  | cons x r ih =>
    obtain ⟨h1, h2, h3⟩ := h x (by simp)
    have e : built (x :: r) = [32] ++ 44 :: ((x ++ [9]) ++ 44 :: built r) := by simp [built]
    obtain ⟨h4, h5⟩ := (trim_self x).1 h2
    have ht : trim (x ++ [9]) = x := by
      have := trim_mid (a := []) (m := x) (b := [9]) rfl (by decide) h4 h5
      simpa using this
    unfold elems
    rw [e, pieces_at _ (by decide), pieces_at _ (by
      intro c hc
      rcases List.mem_append.1 hc with hc | hc
      · exact h3 c hc
      · simp at hc; subst hc; decide)]
    rw [elemsOf_skip (by decide), elemsOf_take (by rw [ht]; exact h1), ht]
    congr 1
    exact ih (fun y hy => h y (by simp [hy]))

end Go.Proofs.YtgmjkkiahanekaaDoor

/- The contracts of fields.Has and of the document's Get, Elements, Has, One and Strip, for every list of fields. -/
set_option linter.unusedVariables false
set_option linter.unusedSimpArgs false
namespace Go.Proofs.YtgmjkkiahanekaaDoor
open Go.RowKit Lex

theorem valuesF_cons (f : Fd) (l : List Fd) (name : List UInt8) : valuesF (f :: l) name = (if alike f.1 name then [f.2] else []) ++ valuesF l name := by
  unfold valuesF
  by_cases hh : alike f.1 name = true
  · simp [hh]
  · simp [hh]
theorem valuesF_drop (fs : List Fd) (k : Nat) (h : k < fs.length) (name : List UInt8) : valuesF (fs.drop k) name = (if alike fs[k].1 name then [fs[k].2] else []) ++ valuesF (fs.drop (k + 1)) name := by
  rw [List.drop_eq_getElem_cons h, valuesF_cons]
theorem elementsF_take (fs : List Fd) (k : Nat) (h : k < fs.length) (name : List UInt8) : elementsF (fs.take (k + 1)) name = elementsF (fs.take k) name ++ (if alike fs[k].1 name then elems fs[k].2 else []) := by
  unfold elementsF
  rw [valuesF_take fs k h, List.flatMap_append]
  congr 1
  split <;> simp
theorem elementsF_length {fs : List Fd} (hB : FB fs) (k : Nat) (name : List UInt8) : (elementsF (fs.take k) name).length ≤ 4398148223000 := by
  have key : ∀ l : List (List UInt8), (∀ v ∈ l, v.length ≤ 4194304) → (l.flatMap elems).length ≤ l.length * 4194305 := by
    intro l
    induction l with
    | nil => intro _; simp
    | cons v l ih =>
      intro hv
      have h1 := ih (fun u hu => hv u (List.mem_cons_of_mem _ hu))
      have h2 := elems_length v
      have h3 := hv v List.mem_cons_self
      rw [List.flatMap_cons, List.length_append, List.length_cons, Nat.add_mul]; omega
  have h1 := key (valuesF (fs.take k) name) (fun v hv => by
    obtain ⟨f, hf, rfl⟩ := valuesF_mem hv
    exact hB.vl f (List.mem_of_mem_take hf))
  have h2 := valuesF_length (fs.take k) name
  rw [List.length_take] at h2
  have h3 : (valuesF (fs.take k) name).length ≤ 1048600 := by have := hB.len; omega
  have h4 := Nat.mul_le_mul_right 4194305 h3
  unfold elementsF
  omega
theorem elementsF_mem {fs : List Fd} (hB : FB fs) {name x : List UInt8} (h : x ∈ elementsF fs name) : x.length ≤ 4194304 := by
  unfold elementsF at h
  obtain ⟨v, hv, hx⟩ := List.mem_flatMap.1 h
  obtain ⟨f, hf, rfl⟩ := valuesF_mem hv
  exact Nat.le_trans (elems_mem x hx).2.2.2 (hB.vl f hf)

theorem any_take_false {α : Type} {p : α → Bool} {l : List α} {k : Nat} (h : k < l.length) (ha : (l.take k).any p = false) (hp : p l[k] = false) : (l.take (k + 1)).any p = false := by
  rw [List.take_succ_eq_append_getElem h, List.any_append, ha]; simp [hp]
theorem any_at {α : Type} {p : α → Bool} {l : List α} {k : Nat} (h : k < l.length) (hp : p l[k] = true) : l.any p = true := List.any_eq_true.2 ⟨_, List.getElem_mem h, hp⟩

end Go.Proofs.YtgmjkkiahanekaaDoor

/- Plain words of layer 9 over lists of fields: lengths, codings, framings; no program in sight. -/
set_option linter.unusedVariables false
set_option linter.unusedSimpArgs false
namespace Go.Proofs.YtgmjkkiahanekaaDoor
open Go.RowKit Lex

def clenU : List UInt8 := [67, 111, 110, 116, 101, 110, 116, 45, 76, 101, 110, 103, 116, 104]
def clenL : List UInt8 := [99, 111, 110, 116, 101, 110, 116, 45, 108, 101, 110, 103, 116, 104]
def tencU : List UInt8 := [84, 114, 97, 110, 115, 102, 101, 114, 45, 69, 110, 99, 111, 100, 105, 110, 103]
def tencL : List UInt8 := [116, 114, 97, 110, 115, 102, 101, 114, 45, 101, 110, 99, 111, 100, 105, 110, 103]
def chunkedL : List UInt8 := [99, 104, 117, 110, 107, 101, 100]
def closeL : List UInt8 := [99, 108, 111, 115, 101]
def keepL : List UInt8 := [107, 101, 101, 112, 45, 97, 108, 105, 118, 101]
def connectM : List UInt8 := [67, 79, 78, 78, 69, 67, 84]
def headM : List UInt8 := [72, 69, 65, 68]
theorem clen_low : lower clenU = lower clenL := by decide +kernel
theorem tenc_low : lower tencU = lower tencL := by decide +kernel

/-- One part of a length: the number, or none. -/
def partN (p : List UInt8) : Option Int := if (decimal (trim p) 15).2 = true then some (decimal (trim p) 15).1 else none
/-- The lengths, read one by one: nothing yet, or one number. -/
def lenGo : Option Int → List (List UInt8) → Option (Option Int)
  | st, [] => some st
  | st, p :: r => match partN p with
    | none => none
    | some n => if st = none ∨ st = some n then lenGo (some n) r else none
def partsF (fs : List Fd) : List (List UInt8) := (valuesF fs clenL).flatMap (pieces 44)
def lengthF (fs : List Fd) : Option (Option Int) := lenGo none (partsF fs)
def sizedF (fs : List Fd) : Bool := decide (0 < (getF fs clenL).2)
def codedF (fs : List Fd) : Bool := decide (0 < (getF fs tencL).2)
def chk (x : List UInt8) : Bool := alike x chunkedL
/-- 1: chunked alone; 2: chunked once, at the end; 3: anything else. -/
def codeL (l : List (List UInt8)) : Int := if l = [] ∨ (l.getLast?.map chk).getD false = false ∨ l.dropLast.any chk = true then 3 else if l.length = 1 then 1 else 2
def codeF (fs : List Fd) : Int := codeL (elementsF fs tencL)
def reqF (minor : Int) (fs : List Fd) (most : Int) : Int × Int × Int :=
  if codedF fs = true then (if minor = 0 ∨ sizedF fs = true ∨ codeF fs = 3 then (0, 0, 90) else if codeF fs = 1 then (3, 0, 0) else (0, 0, 91))
  else if sizedF fs = false then (1, 0, 0)
  else match lengthF fs with
    | some (some n) => if most < n then (0, 0, 101) else (2, n, 0)
    | _ => (0, 0, 90)
def noBody (s : Int) : Bool := (decide (100 ≤ s) && decide (s ≤ 199)) || decide (s = 204) || decide (s = 304)
def respF (method : List UInt8) (s minor : Int) (fs : List Fd) : Int × Int × Int :=
  if s = 101 then (5, 0, 0)
  else if noBody s = true then (1, 0, 0)
  else if method = connectM ∧ 200 ≤ s ∧ s ≤ 299 then (5, 0, 0)
  else if method = headM then (1, 0, 0)
  else if codedF fs = true then (if minor = 0 ∨ sizedF fs = true then (0, 0, 90) else if codeF fs = 1 then (3, 0, 0) else (0, 0, 91))
  else if sizedF fs = false then (4, 0, 0)
  else match lengthF fs with
    | some (some n) => (2, n, 0)
    | _ => (0, 0, 90)
def keepF (minor : Int) (fs : List Fd) : Bool := !hasF fs conn closeL && (decide (minor ≠ 0) || hasF fs conn keepL)

theorem lenGo_cons_bad {st : Option Int} {p : List UInt8} {r : List (List UInt8)} (h : partN p = none) : lenGo st (p :: r) = none := by simp only [lenGo, h]
theorem lenGo_cons_ok {st : Option Int} {p : List UInt8} {r : List (List UInt8)} {n : Int} (h : partN p = some n) (hs : st = none ∨ st = some n) : lenGo st (p :: r) = lenGo (some n) r := by simp only [lenGo, h]; rw [if_pos hs]
theorem lenGo_cons_ne {st : Option Int} {p : List UInt8} {r : List (List UInt8)} {n : Int} (h : partN p = some n) (hs : ¬ (st = none ∨ st = some n)) : lenGo st (p :: r) = none := by simp only [lenGo, h]; rw [if_neg hs]
theorem lenGo_some (n : Int) (l : List (List UInt8)) : lenGo (some n) l ≠ some none := by
  induction l generalizing n with
  | nil => simp [lenGo]
  | cons p r ih =>
    cases h : partN p with
    | none => rw [lenGo_cons_bad h]; simp
    | some k =>
      by_cases hs : (some n : Option Int) = none ∨ some n = some k
      · rw [lenGo_cons_ok h hs]; exact ih k
      · rw [lenGo_cons_ne h hs]; simp
theorem lenGo_cons (st : Option Int) (p : List UInt8) (r : List (List UInt8)) : lenGo st (p :: r) ≠ some none := by
  cases h : partN p with
  | none => rw [lenGo_cons_bad h]; simp
  | some k =>
    by_cases hs : st = none ∨ st = some k
    · rw [lenGo_cons_ok h hs]; exact lenGo_some _ _
    · rw [lenGo_cons_ne h hs]; simp
theorem partN_bound {p : List UInt8} {n : Int} (h : partN p = some n) : 0 ≤ n ∧ n < 1000000000000000 := by
  unfold partN at h
  split at h
  · injection h with h
    subst h
    rename_i h2
    generalize trim p = t at *
    unfold decimal at *
    rw [show (if (18 : Int) < 15 then (18 : Int) else 15) = 15 from by decide] at *
    unfold number at *
    split at h2
    · cases h2
    · rename_i h3
      rw [if_neg h3]
      simp only [not_or] at h3
      obtain ⟨a, b, c⟩ := h3
      have hb := num_bound 10 (by omega) t (by simpa using c)
      have hl : t.length ≤ 15 := by omega
      have : (10 : Int) ^ t.length ≤ 10 ^ 15 := by
        have := Nat.pow_le_pow_right (n := 10) (by decide) hl
        exact_mod_cast this
      have h4 : (10 : Int) ^ 15 = 1000000000000000 := by decide
      simp only
      omega
  · cases h
theorem lenGo_bound {st : Option Int} {l : List (List UInt8)} {n : Int} (hs : ∀ m, st = some m → 0 ≤ m ∧ m < 1000000000000000) (h : lenGo st l = some (some n)) : 0 ≤ n ∧ n < 1000000000000000 := by
  induction l generalizing st with
  | nil => simp only [lenGo] at h; injection h with h; exact hs n h
  | cons p r ih =>
    cases hp : partN p with
    | none => rw [lenGo_cons_bad hp] at h; cases h
    | some k =>
      by_cases hq : st = none ∨ st = some k
      · rw [lenGo_cons_ok hp hq] at h
        exact ih (fun m hm => by injection hm with hm; subst hm; exact partN_bound hp) h
      · rw [lenGo_cons_ne hp hq] at h; cases h
theorem length_bound {fs : List Fd} {n : Int} (h : lengthF fs = some (some n)) : 0 ≤ n ∧ n < 1000000000000000 := lenGo_bound (fun _ e => by cases e) h
theorem sized_parts {fs : List Fd} (h : sizedF fs = true) : ∃ p r, partsF fs = p :: r := by
  unfold sizedF getF at h
  simp only [decide_eq_true_eq] at h
  unfold partsF
  cases hv : valuesF fs clenL with
  | nil => rw [hv] at h; simp at h
  | cons v vs =>
    cases hp : pieces 44 v with
    | nil => exact absurd hp (pieces_ne 44 v)
    | cons p ps => exact ⟨p, ps ++ vs.flatMap (pieces 44), by rw [List.flatMap_cons, hp]; rfl⟩
theorem length_sized {fs : List Fd} (h : sizedF fs = true) : lengthF fs ≠ some none := by
  obtain ⟨p, r, e⟩ := sized_parts h
  unfold lengthF; rw [e]; exact lenGo_cons _ _ _
theorem partsF_drop (fs : List Fd) (k : Nat) (h : k < fs.length) : partsF (fs.drop k) = (if alike fs[k].1 clenL then pieces 44 fs[k].2 else []) ++ partsF (fs.drop (k + 1)) := by
  unfold partsF
  rw [valuesF_drop fs k h, List.flatMap_append]
  congr 1
  split <;> simp
theorem partsF_nil : partsF [] = [] := rfl
theorem codeL_nil : codeL [] = 3 := rfl
theorem codeL_cases (l : List (List UInt8)) : codeL l = 1 ∨ codeL l = 2 ∨ codeL l = 3 := by
  unfold codeL; split
  · exact .inr (.inr rfl)
  · split
    · exact .inl rfl
    · exact .inr (.inl rfl)
/-- How often chunked is there. -/
def countC (l : List (List UInt8)) : Nat := (l.filter chk).length
theorem countC_snoc (l : List (List UInt8)) (k : Nat) (h : k < l.length) : countC (l.take (k + 1)) = countC (l.take k) + (if chk l[k] then 1 else 0) := by
  unfold countC
  rw [List.take_succ_eq_append_getElem h, List.filter_append, List.length_append]
  congr 1
  by_cases hc : chk l[k] = true
  · rw [if_pos hc]; simp [hc]
  · rw [if_neg hc]; simp [hc]
theorem countC_any {l : List (List UInt8)} : countC l = 0 ↔ l.any chk = false := by
  unfold countC
  rw [List.length_eq_zero_iff, List.filter_eq_nil_iff, List.any_eq_false]
theorem code_last {l : List (List UInt8)} (hl : l ≠ []) : (codeL l ≠ 3) ↔ (countC l = 1 ∧ chk (l.getLast hl) = true) := by
  have e := List.dropLast_concat_getLast hl
  have hc : countC l = countC l.dropLast + (if chk (l.getLast hl) then 1 else 0) := by
    conv => lhs; rw [← e]
    unfold countC
    rw [List.filter_append, List.length_append]
    congr 1
    by_cases hc : chk (l.getLast hl) = true
    · rw [if_pos hc]; simp [hc]
    · rw [if_neg hc]; simp [hc]
  have hg : (l.getLast?.map chk).getD false = chk (l.getLast hl) := by rw [List.getLast?_eq_some_getLast hl]; rfl
  unfold codeL
  rw [hg]
  cases hk : chk (l.getLast hl) with
  | false => simp
  | true =>
    rw [hk, if_pos rfl] at hc
    have h0 := countC_any (l := l.dropLast)
    by_cases h1 : l.dropLast.any chk = true
    · rw [if_pos (.inr (.inr h1))]
      constructor
      · intro h; exact absurd rfl h
      · rintro ⟨h, _⟩
        have : countC l.dropLast = 0 := by omega
        rw [h0.1 this] at h1; cases h1
    · have h2 : l.dropLast.any chk = false := by simpa using h1
      rw [if_neg (by rintro (h | h | h) <;> simp_all)]
      have h3 := h0.2 h2
      constructor
      · intro _; exact ⟨by omega, rfl⟩
      · intro _; split <;> decide
theorem code_alone {l : List (List UInt8)} (h : codeL l ≠ 3) : codeL l = 1 ↔ l.length = 1 := by
  unfold codeL at *
  split at h
  · exact absurd rfl h
  · rename_i h1
    rw [if_neg h1]
    split
    · rename_i h2; simp [h2]
    · rename_i h2; simp [h2]
end Go.Proofs.YtgmjkkiahanekaaDoor

/- Plain words of layer 12: the reader of a response as a machine over lists of bytes; no program in sight. -/
set_option linter.unusedVariables false
set_option linter.unusedSimpArgs false
namespace Go.Proofs.YtgmjkkiahanekaaDoor
open Lex

structure Rd where
  method : List UInt8
  buf : List UInt8 := []
  closed : Bool := false
  mode : Nat := 0
  head : Bool := false
  keep : Bool := false
  kind : Int := 0
  len : Int := 0
  left : Int := 0
  dec : Dec := { most := 1099511627776 }
  over : Bool := false
  ended : Bool := false
  err : Int := 0
structure Pc where
  kind : Int := 0
  head : Hd := {}
  data : List UInt8 := []

/-- The response's head, how its body is framed; the error; the bytes behind what was used. -/
def headsR (me : List UInt8) : Nat → List UInt8 → Option (Hd × Int × Int) × Int × List UInt8
  | 0, b => (none, 0, b)
  | k + 1, b =>
    if (readAt statusL b).2.2 ≠ 0 ∨ (readAt statusL b).2.1 = 0 then (none, (readAt statusL b).2.2, b)
    else if (respF me (readAt statusL b).1.status (readAt statusL b).1.minor (readAt statusL b).1.fields).2.2 ≠ 0 then (none, (respF me (readAt statusL b).1.status (readAt statusL b).1.minor (readAt statusL b).1.fields).2.2, b)
    else if (readAt statusL b).1.status < 200 ∧ (readAt statusL b).1.status ≠ 101 then headsR me k (b.drop (readAt statusL b).2.1)
    else (some ((readAt statusL b).1, (respF me (readAt statusL b).1.status (readAt statusL b).1.minor (readAt statusL b).1.fields).1, (respF me (readAt statusL b).1.status (readAt statusL b).1.minor (readAt statusL b).1.fields).2.1), 0, b.drop (readAt statusL b).2.1)
/-- The reader behind its head. -/
def headed (r : Rd) (h : Hd) (k l : Int) (b : List UInt8) : Rd :=
  { r with buf := b, head := true, kind := k, len := l, keep := keepF h.minor h.fields, mode := if k = 2 then 1 else if k = 3 then 2 else if k = 4 then 3 else 4, left := if k = 2 then l else r.left, dec := if k = 3 then { most := 1099511627776 } else r.dec }
def finishR (r : Rd) : Pc × Bool × Int × Rd := ({ kind := 3 }, true, 0, { r with ended := true })
def startR (r : Rd) : Pc × Bool × Int × Rd :=
  match headsR r.method (r.buf.length + 1) r.buf with
  | (none, e, b) => ({}, false, e, { r with buf := b })
  | (some (h, k, l), _, b) => ({ kind := 1, head := h }, true, 0, headed r h k l b)
def takeR (r : Rd) (n : Nat) : Pc × Bool × Int × Rd := ({ kind := 2, data := r.buf.take n }, true, 0, { r with buf := r.buf.drop n })
def sizedR (r : Rd) : Pc × Bool × Int × Rd :=
  if 0 < min r.left r.buf.length then takeR { r with left := r.left - min r.left r.buf.length } (min r.left r.buf.length).toNat
  else if r.left = 0 then finishR r
  else ({}, false, 0, r)
def chunkedR (r : Rd) : Pc × Bool × Int × Rd :=
  if r.over = true then finishR r
  else if (runD r.dec r.buf).2.2.err ≠ 0 then ({}, false, (runD r.dec r.buf).2.2.err, { r with dec := (runD r.dec r.buf).2.2 })
  else if (runD r.dec r.buf).1 ≠ [] then ({ kind := 2, data := (runD r.dec r.buf).1 }, true, 0, { r with buf := r.buf.drop (runD r.dec r.buf).2.1, dec := (runD r.dec r.buf).2.2, over := decide ((runD r.dec r.buf).2.2.st = 4) })
  else if (runD r.dec r.buf).2.2.st = 4 then finishR { r with buf := r.buf.drop (runD r.dec r.buf).2.1, dec := (runD r.dec r.buf).2.2, over := true }
  else ({}, false, 0, { r with buf := r.buf.drop (runD r.dec r.buf).2.1, dec := (runD r.dec r.buf).2.2, over := false })
def restR (r : Rd) : Pc × Bool × Int × Rd :=
  if r.buf ≠ [] then takeR r r.buf.length
  else if r.closed = true then finishR r
  else ({}, false, 0, r)
def bodyR (r : Rd) : Pc × Bool × Int × Rd :=
  if r.mode = 0 then startR r else if r.mode = 1 then sizedR r else if r.mode = 2 then chunkedR r else if r.mode = 3 then restR r else finishR r
/-- The error that Next tells. -/
def shortE (r : Rd) (ok : Bool) (e : Int) : Int := if e = 0 ∧ ok = false ∧ r.closed = true then 121 else e
def nextR (r : Rd) : Pc × Bool × Int × Rd :=
  if r.ended = true ∨ r.err ≠ 0 then ({}, false, r.err, r)
  else ((bodyR r).1, (bodyR r).2.1, shortE r (bodyR r).2.1 (bodyR r).2.2.1, { (bodyR r).2.2.2 with err := shortE r (bodyR r).2.1 (bodyR r).2.2.1 })
def feedR (r : Rd) (s : List UInt8) : Rd := if r.closed = true then r else { r with buf := r.buf ++ s }

/-- What every reader keeps that began at New; N: no more bytes. -/
structure Rd.Ok (r : Rd) : Prop where
  dec : r.dec.Ok
  most : r.dec.most = 1099511627776
  live : r.err = 0 → r.dec.err = 0
  left : 0 ≤ r.left ∧ r.left < 1000000000000000
  mode : r.mode ≤ 4
  len : 0 ≤ r.len ∧ r.len < 1000000000000000
end Go.Proofs.YtgmjkkiahanekaaDoor

/- The contract of head.start. -/
set_option linter.unusedVariables false
set_option linter.unusedSimpArgs false
namespace Go.Proofs.YtgmjkkiahanekaaDoor
open Go.RowKit Lex

def hd0 (h : Hd) : Value := .agg #[.string (bs h.method), .string (bs h.target), .int .i64 h.status, .string (bs h.reason), .int .i64 h.minor, .slice none 0 0]
def FirstPost (x : Hd × Int) (w : World) (e : Ending) (w' : World) : Prop := ∃ h : Hd, e = .returned (.tuple #[hd0 h, .int .i64 x.2]) ∧ (x.2 = 0 → h = x.1) ∧ Below w.heap.size w w'
theorem start_not3 {l : List UInt8} (h : (pieces 32 l).length ≠ 3) : startL l = ({}, 80) := by
  unfold startL
  split
  · rename_i e; rw [e] at h; exact absurd rfl h
  · rfl
theorem below_set6 {W w : World} {B : Nat} (h : Below W.heap.size W w) (hB : W.heap.size ≤ B) (u0 u1 u2 u3 u4 u5 : Value) : Below W.heap.size W ((((((w.setCell ⟨B, 0, none⟩ u0).setCell ⟨B, 1, none⟩ u1).setCell ⟨B, 2, none⟩ u2).setCell ⟨B, 3, none⟩ u3).setCell ⟨B, 4, none⟩ u4).setCell ⟨B, 5, none⟩ u5) :=
  (((((h.setCell hB _).setCell hB _).setCell hB _).setCell hB _).setCell hB _).setCell hB _
theorem tchar_no {c : UInt8} (h : ¬ (33 ≤ (c.toNat : Int) ∧ (c.toNat : Int) ≤ 126)) : tchar c = false := by unfold tchar; simp only [Bool.and_eq_false_iff, decide_eq_false_iff_not]; omega
theorem tchar_yes {c : UInt8} (h1 : 33 ≤ (c.toNat : Int)) (h2 : (c.toNat : Int) ≤ 126) : tchar c = true := by simp [tchar, h1, h2]
end Go.Proofs.YtgmjkkiahanekaaDoor

/- The contract of head.read with head.start. -/
set_option linter.unusedVariables false
set_option linter.unusedSimpArgs false
namespace Go.Proofs.YtgmjkkiahanekaaDoor
open Go.RowKit Lex

theorem info_fieldH : (Tryd.prog.info? 79).map (fun i => (i.zero, i.size, i.bytes)) = some (some (.agg #[.string ByteArray.empty, .string ByteArray.empty]), 2, 32) := by kernel_rfl
theorem ones_fieldH (f : Fd) : ∀ u ∈ [Value.string (bs f.1), Value.string (bs f.2)], u.oneCell' = true := by
  intro u hu
  simp only [List.mem_cons, List.not_mem_nil, or_false] at hu
  rcases hu with rfl | rfl <;> rfl
theorem news2H (w : World) (a b : Value) (e : TypeId) : ∀ j u, [a, b][j]? = some u → (w.alloc (.cells #[a, b] e)).cell? ((⟨w.heap.size, 0, none⟩ : Addr).add j) = some u :=
  fun j u hu => World.news_of_block (cs := #[a, b]) (heap_alloc_new w _) j u hu
theorem own_flds_h {w : World} {base : Nat} {e : TypeId} {v : Value} {l : List Fd} (h : w.ownsRow base e 2 v l.length (fvals l)) : ∃ a c, v = .slice a l.length c ∧ (a = none → c = 0) ∧ Flds w a l := by
  rcases h.2 with ⟨rfl, h0⟩ | ⟨g, cap, cur, rfl, _⟩
  · exact ⟨none, 0, by rw [h0], fun _ => rfl, fun j hj => absurd hj (by omega)⟩
  · exact ⟨some ⟨g, 0, none⟩, cap, rfl, (fun e => by cases e), flds_own h⟩
theorem ret_read {w : World} {B : Nat} {v0 v1 v2 v3 v4 v5 n e : Value} (h : Box6 w B v0 v1 v2 v3 v4 v5) {tmps : Array Value} (h4 : tmps[6]?.getD undef = .pointer (some ⟨B, 0, none⟩)) (h5 : tmps[7]?.getD undef = n) (h6 : tmps[8]?.getD undef = e) :
    (results Tryd.f30 tmps).run Tryd.prog w = .ok (.tuple #[.agg #[v0, v1, v2, v3, v4, v5], n, e]) w := by
  simp [results, Tryd.results30, go_sem, h4, h5, h6, h.c0, h.c1, h.c2, h.c3, h.c4, h.c5]
def hdv (h : Hd) (A : Option Addr) (c : Nat) : Value := .agg #[.string (bs h.method), .string (bs h.target), .int .i64 h.status, .string (bs h.reason), .int .i64 h.minor, .slice A h.fields.length c]
def ReadPost (x : Hd × Nat × Int) (w : World) (e : Ending) (w' : World) : Prop := ∃ A c, e = .returned (.tuple #[hdv x.1 A c, .int .i64 (x.2.1 : Int), .int .i64 x.2.2]) ∧ (A = none → c = 0) ∧ w'.ownsRow w.heap.size 79 2 (.slice A x.1.fields.length c) x.1.fields.length (fvals x.1.fields) ∧ Below w.heap.size w w'

/-! ### plain steps -/
theorem readL_at {skip : Bool} {first : List UInt8 → Hd × Int} {D : List UInt8} {k : Nat} (hk : (if skip then 2 * ahead D else 0) = k) :
    readL skip first D = ((readAt first (D.drop k)).1, (if (readAt first (D.drop k)).2.1 = 0 then 0 else (readAt first (D.drop k)).2.1 + k), (readAt first (D.drop k)).2.2) := by subst hk; rfl
theorem readL_n {skip : Bool} {first : List UInt8 → Hd × Int} {D : List UInt8} {k : Nat} {e : Int} (hk : (if skip then 2 * ahead D else 0) = k) (h : lineL 82 1100 (D.drop k) = (none, e)) : readL skip first D = ({}, 0, e) := by
  rw [readL_at hk, readAt_none h]; rfl
theorem readL_b {skip : Bool} {first : List UInt8 → Hd × Int} {D l : List UInt8} {k : Nat} {e : Int} (hk : (if skip then 2 * ahead D else 0) = k) (h : lineL 82 1100 (D.drop k) = (some l, e)) (hf : (first l).2 ≠ 0) : readL skip first D = ({}, 0, (first l).2) := by
  rw [readL_at hk, readAt_bad h hf]; rfl
theorem readL_p {skip : Bool} {first : List UInt8 → Hd × Int} {D l : List UInt8} {k : Nat} {e e2 : Int} (hk : (if skip then 2 * ahead D else 0) = k) (h : lineL 82 1100 (D.drop k) = (some l, e)) (hf : (first l).2 = 0) (hg : fieldsL 32 (D.drop (k + (l.length + 2))) = (none, e2)) : readL skip first D = ({}, 0, e2) := by
  rw [readL_at hk, readAt_part h hf (e2 := e2) (by rw [List.drop_drop]; exact hg)]; rfl
theorem readL_w {skip : Bool} {first : List UInt8 → Hd × Int} {D l : List UInt8} {k : Nat} {e e2 : Int} {fs : List Fd} {n : Nat} (hk : (if skip then 2 * ahead D else 0) = k) (h : lineL 82 1100 (D.drop k) = (some l, e)) (hf : (first l).2 = 0) (hg : fieldsL 32 (D.drop (k + (l.length + 2))) = (some (fs, n), e2)) :
    readL skip first D = ({ (first l).1 with fields := fs }, n + (l.length + 2) + k, 0) := by
  rw [readL_at hk, readAt_whole h hf (by rw [List.drop_drop]; exact hg)]
  simp
def SkipAt (skip : Bool) (D : List UInt8) (k : Nat) : Prop := (if skip then 2 * ahead D else 0) = k
theorem wpList_at {P : Program} {ops : Array Oper} {Q : Exit → Act → World → Prop} {o : Oper} {a : Act} {w w' : World} (e : w = w') (h : wpList P ops Q [o] a w') : wpList P ops Q [o] a w := by subst e; exact h
/-- The fields so far. -/
def SoFar (D : List UInt8) (a0 a : Nat) (fs : List Fd) : Prop := fieldsL 32 (D.drop a0) = ((fieldsL (32 - fs.length) (D.drop a)).1.map (fun x => (fs ++ x.1, x.2 + (a - a0))), (fieldsL (32 - fs.length) (D.drop a)).2) ∧ a0 ≤ a ∧ fs.length ≤ 32
theorem sofar_start (D : List UInt8) (a0 : Nat) : SoFar D a0 a0 [] := by
  refine ⟨?_, Nat.le_refl _, by decide⟩
  simp only [List.length_nil, Nat.sub_zero, Nat.sub_self, List.nil_append, Nat.add_zero]
  cases fieldsL 32 (D.drop a0) with | mk o e => cases o <;> rfl
theorem sofar_none {D : List UInt8} {a0 a : Nat} {fs : List Fd} {e : Int} (h : SoFar D a0 a fs) (hl : lineL 83 512 (D.drop a) = (none, e)) : fieldsL 32 (D.drop a0) = (none, e) := by
  rw [h.1, fieldsL_none hl]; rfl
theorem sofar_end {D : List UInt8} {a0 a : Nat} {fs : List Fd} {e : Int} (h : SoFar D a0 a fs) (hl : lineL 83 512 (D.drop a) = (some [], e)) : fieldsL 32 (D.drop a0) = (some (fs, 2 + (a - a0)), 0) := by
  rw [h.1, fieldsL_end hl]; simp
theorem sofar_large {D l : List UInt8} {a0 a : Nat} {fs : List Fd} {e : Int} (h : SoFar D a0 a fs) (hl : lineL 83 512 (D.drop a) = (some l, e)) (h0 : l ≠ []) (h32 : 32 ≤ fs.length) : fieldsL 32 (D.drop a0) = (none, 83) := by
  rw [h.1, show 32 - fs.length = 0 by omega, fieldsL_large hl h0]; rfl
theorem sofar_bad {D l : List UInt8} {a0 a : Nat} {fs : List Fd} {e : Int} (h : SoFar D a0 a fs) (hl : lineL 83 512 (D.drop a) = (some l, e)) (h0 : l ≠ []) (h32 : fs.length < 32) (hf : fieldL l = none) : fieldsL 32 (D.drop a0) = (none, 70) := by
  rw [h.1, show 32 - fs.length = (31 - fs.length) + 1 by omega, fieldsL_bad hl h0 hf]; rfl
theorem sofar_step {D l : List UInt8} {a0 a : Nat} {fs : List Fd} {e : Int} {f : Fd} (h : SoFar D a0 a fs) (hl : lineL 83 512 (D.drop a) = (some l, e)) (h0 : l ≠ []) (h32 : fs.length < 32) (hf : fieldL l = some f) : SoFar D a0 (a + (l.length + 2)) (fs ++ [f]) := by
  have ha := h.2.1
  refine ⟨?_, by omega, by rw [List.length_append, List.length_singleton]; omega⟩
  rw [h.1, show 32 - fs.length = (31 - fs.length) + 1 by omega, fieldsL_step hl h0 hf, List.drop_drop, List.length_append, List.length_singleton, show 32 - (fs.length + 1) = 31 - fs.length by omega]
  cases fieldsL (31 - fs.length) (D.drop (a + (l.length + 2))) with
  | mk o e =>
    cases o with
    | none => rfl
    | some x =>
      simp only [Option.map_some, List.append_assoc, List.singleton_append]
      congr 3
      omega
theorem line_end {over : Int} {room : Nat} {D l : List UInt8} {a : Nat} {e : Int} (h : lineL over room (D.drop a) = (some l, e)) : a + (l.length + 2) ≤ D.length ∧ l.length ≤ room ∧ e = 0 := by
  obtain ⟨r, hr, _, hl, he⟩ := lineL_some h
  have := congrArg List.length hr
  rw [List.length_drop, List.length_append, List.length_cons, List.length_cons] at this
  exact ⟨by omega, hl, he⟩
end Go.Proofs.YtgmjkkiahanekaaDoor

