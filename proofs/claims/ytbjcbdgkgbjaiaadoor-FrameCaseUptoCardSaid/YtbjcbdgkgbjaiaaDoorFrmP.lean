/- Plain laws of layer 9 over lists of fields; no program in sight. -/
import Derived.Test.YtbjcbdgkgbjaiaaDoorFrmA
set_option linter.unusedVariables false
set_option linter.unusedSimpArgs false
namespace Go.Proofs.YtbjcbdgkgbjaiaaDoor
open Go.RowKit Lex

theorem lenGo_all {st : Option Int} {l : List (List UInt8)} {n : Int} (h : lenGo st l = some (some n)) : (∀ p ∈ l, partN p = some n) ∧ (l = [] → st = some n) ∧ (st = none ∨ st = some n) := by
  induction l generalizing st with
  | nil => simp only [lenGo] at h; injection h with h; exact ⟨by simp, fun _ => h, .inr h⟩
  | cons p r ih =>
    cases hp : partN p with
    | none => rw [lenGo_cons_bad hp] at h; cases h
    | some k =>
      by_cases hq : st = none ∨ st = some k
      · rw [lenGo_cons_ok hp hq] at h
        obtain ⟨h1, _, h3⟩ := ih h
        have hk : k = n := by
          rcases h3 with h3 | h3
          · cases h3
          · injection h3
        subst hk
        refine ⟨fun x hx => ?_, (fun e => by cases e), hq⟩
        rcases List.mem_cons.1 hx with rfl | hx
        · exact hp
        · exact h1 x hx
      · rw [lenGo_cons_ne hp hq] at h; cases h
theorem sized_values {fs : List Fd} : sizedF fs = false ↔ valuesF fs clenL = [] := by
  unfold sizedF getF
  rw [decide_eq_false_iff_not]
  cases valuesF fs clenL <;> simp
theorem coded_values {fs : List Fd} : codedF fs = false ↔ valuesF fs tencL = [] := by
  unfold codedF getF
  rw [decide_eq_false_iff_not]
  cases valuesF fs tencL <;> simp
theorem chunked_low : lower chunkedL = chunkedL := by decide +kernel
theorem code_one {l : List (List UInt8)} (h : codeL l = 1) : ∃ x, l = [x] ∧ lower x = chunkedL := by
  have h3 : codeL l ≠ 3 := by rw [h]; decide
  have hl := (code_alone h3).1 h
  cases l with
  | nil => cases hl
  | cons x r =>
    cases r with
    | cons => simp at hl
    | nil =>
      have := ((code_last (l := [x]) (by simp)).1 h3).2
      simp only [List.getLast_singleton, chk, alike, beq_iff_eq, chunked_low] at this
      exact ⟨x, rfl, this⟩
theorem part_elems {fs : List Fd} {n : Int} (h : lengthF fs = some (some n)) : ∀ v ∈ valuesF fs clenL, ∀ p ∈ elems v, decimal p 15 = (n, true) := by
  intro v hv p hp
  have h1 := (lenGo_all h).1
  unfold elems elemsOf at hp
  rw [List.mem_filter] at hp
  obtain ⟨q, hq, rfl⟩ := List.mem_map.1 hp.1
  have h2 := h1 q (by unfold partsF; exact List.mem_flatMap.2 ⟨v, hv, hq⟩)
  unfold partN at h2
  split at h2
  · rename_i h3
    injection h2 with h2
    exact Prod.ext h2 h3
  · cases h2

/-- What a request's framing can be. -/
theorem req_cases (minor : Int) (fs : List Fd) (most : Int) :
    (∃ e : Int, reqF minor fs most = (0, 0, e) ∧ (e = 90 ∨ e = 91 ∨ e = 101)) ∨
    (reqF minor fs most = (1, 0, 0) ∧ valuesF fs clenL = [] ∧ valuesF fs tencL = []) ∨
    (∃ n : Int, reqF minor fs most = (2, n, 0) ∧ valuesF fs tencL = [] ∧ valuesF fs clenL ≠ [] ∧ 0 ≤ n ∧ n ≤ most ∧ ∀ v ∈ valuesF fs clenL, ∀ p ∈ elems v, decimal p 15 = (n, true)) ∨
    (reqF minor fs most = (3, 0, 0) ∧ valuesF fs clenL = [] ∧ minor ≠ 0 ∧ ∃ x, elementsF fs tencL = [x] ∧ lower x = chunkedL) := by
  unfold reqF
  cases hc : codedF fs with
  | true =>
    rw [if_pos rfl]
    by_cases h1 : minor = 0 ∨ sizedF fs = true ∨ codeF fs = 3
    · rw [if_pos h1]; exact .inl ⟨90, rfl, .inl rfl⟩
    · rw [if_neg h1]
      simp only [not_or] at h1
      by_cases h2 : codeF fs = 1
      · rw [if_pos h2]
        exact .inr (.inr (.inr ⟨rfl, sized_values.1 (by simpa using h1.2.1), h1.1, code_one h2⟩))
      · rw [if_neg h2]; exact .inl ⟨91, rfl, .inr (.inl rfl)⟩
  | false =>
    rw [if_neg (by simp)]
    cases hs : sizedF fs with
    | false =>
      rw [if_pos rfl]
      exact .inr (.inl ⟨rfl, sized_values.1 hs, coded_values.1 hc⟩)
    | true =>
      rw [if_neg (by simp)]
      cases hl : lengthF fs with
      | none => exact .inl ⟨90, rfl, .inl rfl⟩
      | some x =>
        cases x with
        | none => exact .inl ⟨90, rfl, .inl rfl⟩
        | some n =>
          by_cases hm : most < n
          · simp only [if_pos hm]; exact .inl ⟨101, rfl, .inr (.inr rfl)⟩
          · simp only [if_neg hm]
            refine .inr (.inr (.inl ⟨n, rfl, coded_values.1 hc, fun e => ?_, (length_bound hl).1, by omega, part_elems hl⟩))
            rw [← sized_values, hs] at e; cases e

theorem resp_head (s minor : Int) (fs : List Fd) : respF headM s minor fs = (1, 0, 0) ∨ (s = 101 ∧ respF headM s minor fs = (5, 0, 0)) := by
  unfold respF
  by_cases h1 : s = 101
  · rw [if_pos h1]; exact .inr ⟨h1, rfl⟩
  · rw [if_neg h1]
    by_cases h2 : noBody s = true
    · rw [if_pos h2]; exact .inl rfl
    · rw [if_neg h2, if_neg (by rintro ⟨h, _⟩; revert h; decide), if_pos rfl]; exact .inl rfl
theorem resp_nobody {s : Int} (h : noBody s = true) (method : List UInt8) (minor : Int) (fs : List Fd) : (s ≠ 101 ∧ respF method s minor fs = (1, 0, 0)) ∨ (s = 101 ∧ respF method s minor fs = (5, 0, 0)) := by
  unfold respF
  by_cases h1 : s = 101
  · rw [if_pos h1]; exact .inr ⟨h1, rfl⟩
  · rw [if_neg h1, if_pos h]; exact .inl ⟨h1, rfl⟩
def getM : List UInt8 := [71, 69, 84]
theorem resp_200 (minor : Int) (fs : List Fd) : respF getM 200 minor fs = (if codedF fs = true then (if minor = 0 ∨ sizedF fs = true then ((0, 0, 90) : Int × Int × Int) else if codeF fs = 1 then (3, 0, 0) else (0, 0, 91))
  else if sizedF fs = false then (4, 0, 0)
  else match lengthF fs with
    | some (some n) => (2, n, 0)
    | _ => (0, 0, 90)) := by
  unfold respF
  rw [if_neg (by decide), if_neg (by decide), if_neg (by rintro ⟨h, _⟩; revert h; decide), if_neg (by decide)]
  rfl
/-- What a request's reader and a response's reader see. -/
theorem agrees (minor : Int) (fs : List Fd) (most : Int) :
    (∃ n : Int, reqF minor fs most = (0, 0, 101) ∧ respF getM 200 minor fs = (2, n, 0) ∧ most < n) ∨
    (∃ e e' : Int, reqF minor fs most = (0, 0, e) ∧ (e = 90 ∨ e = 91) ∧ respF getM 200 minor fs = (0, 0, e') ∧ (e' = 90 ∨ e' = 91)) ∨
    (reqF minor fs most = (1, 0, 0) ∧ respF getM 200 minor fs = (4, 0, 0)) ∨
    (∃ k n : Int, (k = 2 ∨ k = 3) ∧ reqF minor fs most = (k, n, 0) ∧ respF getM 200 minor fs = (k, n, 0)) := by
  rw [resp_200]
  unfold reqF
  cases hc : codedF fs with
  | true =>
    rw [if_pos rfl, if_pos rfl]
    by_cases h0 : minor = 0 ∨ sizedF fs = true
    · rw [if_pos (by rcases h0 with h | h <;> simp [h]), if_pos h0]
      exact .inr (.inl ⟨90, 90, rfl, .inl rfl, rfl, .inl rfl⟩)
    · rw [if_neg h0]
      simp only [not_or] at h0
      by_cases h3 : codeF fs = 3
      · rw [if_pos (.inr (.inr h3)), if_neg (by rw [h3]; decide)]
        exact .inr (.inl ⟨90, 91, rfl, .inl rfl, rfl, .inr rfl⟩)
      · rw [if_neg (by simp only [not_or]; exact ⟨h0.1, h0.2, h3⟩)]
        by_cases h1 : codeF fs = 1
        · rw [if_pos h1]; exact .inr (.inr (.inr ⟨3, 0, .inr rfl, rfl, rfl⟩))
        · rw [if_neg h1]; exact .inr (.inl ⟨91, 91, rfl, .inr rfl, rfl, .inr rfl⟩)
  | false =>
    simp only [Bool.false_eq_true, if_false]
    cases hs : sizedF fs with
    | false => simp only [if_true]; exact .inr (.inr (.inl ⟨trivial, trivial⟩))
    | true =>
      simp only [Bool.true_eq_false, if_false]
      cases hl : lengthF fs with
      | none => exact .inr (.inl ⟨90, 90, rfl, .inl rfl, rfl, .inl rfl⟩)
      | some x =>
        cases x with
        | none => exact .inr (.inl ⟨90, 90, rfl, .inl rfl, rfl, .inl rfl⟩)
        | some n =>
          by_cases hm : most < n
          · refine .inl ⟨n, ?_, ?_, hm⟩ <;> simp [hm]
          · refine .inr (.inr (.inr ⟨2, n, .inl rfl, ?_, ?_⟩)) <;> simp [hm]

/-! ### the case of names and codings -/
def lowFs (fs : List Fd) : List Fd := fs.map fun f => (lower f.1, lower f.2)
theorem alike_lowL (a b : List UInt8) : alike (lower a) b = alike a b := by unfold alike; rw [lower_lower]
theorem values_low (fs : List Fd) (name : List UInt8) : valuesF (lowFs fs) name = (valuesF fs name).map lower := by
  induction fs with
  | nil => rfl
  | cons f fs ih =>
    have e : lowFs (f :: fs) = (lower f.1, lower f.2) :: lowFs fs := rfl
    rw [e, valuesF_cons, valuesF_cons, ih, List.map_append]
    simp only [alike_lowL]
    congr 1
    split <;> rfl
theorem lowB_ne44 (c : UInt8) : lowB c = 44 ↔ c = 44 := by
  have key : ∀ c : Fin 256, (lowB (UInt8.ofNat c.val) = 44 ↔ UInt8.ofNat c.val = 44) := by decide +kernel
  have := key ⟨c.toNat, c.toNat_lt⟩
  simpa using this
theorem pieces_low (l : List UInt8) : pieces 44 (lower l) = (pieces 44 l).map lower := by
  induction l with
  | nil => rfl
  | cons b l ih =>
    have e : lower (b :: l) = lowB b :: lower l := rfl
    rw [e]
    unfold pieces
    rw [ih]
    by_cases hb : b = 44
    · rw [if_pos hb, if_pos ((lowB_ne44 b).2 hb)]; rfl
    · rw [if_neg hb, if_neg (fun h => hb ((lowB_ne44 b).1 h))]
      cases pieces 44 l with
      | nil => rfl
      | cons p ps => rfl
theorem trim_low (l : List UInt8) : trim (lower l) = lower (trim l) := by
  obtain ⟨a, m, b, rfl, ha, hb, h1, h2⟩ := trim_parts l
  rw [trim_mid ha hb h1 h2]
  have e : lower (a ++ m ++ b) = lower a ++ lower m ++ lower b := by unfold lower; rw [List.map_append, List.map_append]
  have hbl : ∀ a : List UInt8, a.all blankB = true → (lower a).all blankB = true := by
    intro a ha
    unfold lower
    rw [List.all_map, show (blankB ∘ lowB) = blankB from funext blank_low]; exact ha
  rw [e]
  refine trim_mid (hbl a ha) (hbl b hb) (fun x hx => ?_) (fun x hx => ?_)
  · unfold lower at hx
    rw [List.head?_map] at hx
    cases hm : m.head? with
    | none => rw [hm] at hx; cases hx
    | some y => rw [hm] at hx; simp at hx; subst hx; rw [blank_low]; exact h1 y hm
  · unfold lower at hx
    rw [List.getLast?_map] at hx
    cases hm : m.getLast? with
    | none => rw [hm] at hx; cases hx
    | some y => rw [hm] at hx; simp at hx; subst hx; rw [blank_low]; exact h2 y hm
theorem worth_lowF (c : UInt8) : (worth (lowB c) < 10 ↔ worth c < 10) ∧ (worth c < 10 → worth (lowB c) = worth c) := by
  have key : ∀ c : Fin 256, (worth (lowB (UInt8.ofNat c.val)) < 10 ↔ worth (UInt8.ofNat c.val) < 10) ∧ (worth (UInt8.ofNat c.val) < 10 → worth (lowB (UInt8.ofNat c.val)) = worth (UInt8.ofNat c.val)) := by decide +kernel
  have := key ⟨c.toNat, c.toNat_lt⟩
  simpa using this
theorem num_lowF {l : List UInt8} (h : (l.all fun c => decide (worth c < 10)) = true) : num 10 (lower l) = num 10 l := by
  unfold num lower
  rw [List.foldl_map]
  have key : ∀ (l : List UInt8) (n : Int), (l.all fun c => decide (worth c < 10)) = true → l.foldl (fun n c => n * 10 + worth (lowB c)) n = l.foldl (fun n c => n * 10 + worth c) n := by
    intro l
    induction l with
    | nil => intros; rfl
    | cons a l ih =>
      intro n h
      simp only [List.all_cons, Bool.and_eq_true, decide_eq_true_eq] at h
      simp only [List.foldl_cons]
      rw [(worth_lowF a).2 h.1, ih _ h.2]
  exact key l 0 h
theorem decimal_lowF (l : List UInt8) (d : Int) : decimal (lower l) d = decimal l d := by
  unfold decimal number
  have ha : ((lower l).all fun c => decide (worth c < 10)) = (l.all fun c => decide (worth c < 10)) := by
    unfold lower
    rw [List.all_map]
    congr 1
    funext c
    show decide (worth (lowB c) < 10) = _
    rw [Bool.eq_iff_iff, decide_eq_true_eq, decide_eq_true_eq]; exact (worth_lowF c).1
  have hn : lower l = [] ↔ l = [] := by cases l <;> simp [lower]
  rw [lower_length, ha]
  by_cases hall : (l.all fun c => decide (worth c < 10)) = true
  · rw [num_lowF hall]
    simp only [hn]
  · rw [if_pos (.inr (.inr (Bool.eq_false_iff.2 hall))), if_pos (.inr (.inr (Bool.eq_false_iff.2 hall)))]
theorem partN_low (p : List UInt8) : partN (lower p) = partN p := by
  unfold partN
  rw [trim_low, decimal_lowF]
theorem parts_low (fs : List Fd) : partsF (lowFs fs) = (partsF fs).map lower := by
  unfold partsF
  rw [values_low]
  induction valuesF fs clenL with
  | nil => rfl
  | cons v vs ih => rw [List.map_cons, List.flatMap_cons, List.flatMap_cons, List.map_append, ih, pieces_low]
theorem lenGo_low (st : Option Int) (l : List (List UInt8)) : lenGo st (l.map lower) = lenGo st l := by
  induction l generalizing st with
  | nil => rfl
  | cons p r ih =>
    rw [List.map_cons]
    unfold lenGo
    rw [partN_low]
    cases partN p with
    | none => rfl
    | some n => simp only [ih]
theorem lower_nil {x : List UInt8} : (lower x).isEmpty = x.isEmpty := by cases x <;> rfl
theorem elems_low (v : List UInt8) : elems (lower v) = (elems v).map lower := by
  unfold elems elemsOf
  rw [pieces_low]
  induction pieces 44 v with
  | nil => rfl
  | cons p r ih =>
    rw [List.map_cons, List.map_cons, List.map_cons, List.filter_cons, List.filter_cons, trim_low, lower_nil]
    split
    · rw [List.map_cons, ih]
    · exact ih
theorem elements_low (fs : List Fd) (name : List UInt8) : elementsF (lowFs fs) name = (elementsF fs name).map lower := by
  unfold elementsF
  rw [values_low]
  induction valuesF fs name with
  | nil => rfl
  | cons v vs ih => rw [List.map_cons, List.flatMap_cons, List.flatMap_cons, List.map_append, ih, elems_low]
theorem chk_low (x : List UInt8) : chk (lower x) = chk x := alike_lowL x _
theorem code_low (l : List (List UInt8)) : codeL (l.map lower) = codeL l := by
  unfold codeL
  have h1 : l.map lower = [] ↔ l = [] := by cases l <;> simp
  have h2 : ((l.map lower).getLast?.map chk).getD false = (l.getLast?.map chk).getD false := by
    rw [List.getLast?_map]
    cases l.getLast? with
    | none => rfl
    | some x => simp [chk_low]
  have h3 : (l.map lower).dropLast.any chk = l.dropLast.any chk := by
    rw [← List.map_dropLast, List.any_map]
    congr 1
    funext x; exact chk_low x
  rw [h2, h3, List.length_map]
  simp only [h1]
theorem sized_low (fs : List Fd) : sizedF (lowFs fs) = sizedF fs := by unfold sizedF getF; rw [values_low]; simp
theorem coded_low (fs : List Fd) : codedF (lowFs fs) = codedF fs := by unfold codedF getF; rw [values_low]; simp
theorem has_low (fs : List Fd) (name e : List UInt8) : hasF (lowFs fs) name e = hasF fs name e := by
  unfold hasF
  rw [elements_low, List.any_map]
  congr 1
  funext x; exact alike_lowL x e
theorem req_low (minor : Int) (fs : List Fd) (most : Int) : reqF minor (lowFs fs) most = reqF minor fs most := by
  unfold reqF codeF lengthF
  rw [coded_low, sized_low, elements_low, code_low, parts_low, lenGo_low]
theorem resp_low (method : List UInt8) (s minor : Int) (fs : List Fd) : respF method s minor (lowFs fs) = respF method s minor fs := by
  unfold respF codeF lengthF
  rw [coded_low, sized_low, elements_low, code_low, parts_low, lenGo_low]
theorem keep_low (minor : Int) (fs : List Fd) : keepF minor (lowFs fs) = keepF minor fs := by
  unfold keepF
  rw [has_low, has_low]
theorem lowFs_length (fs : List Fd) : (lowFs fs).length = fs.length := by unfold lowFs; rw [List.length_map]
end Go.Proofs.YtbjcbdgkgbjaiaaDoor
