/- The texts FrmP, InB in one. -/
import Derived.Test.YtgmjkkiahanekaaGreatDoorM14
import Derived.Test.YtgmjkkiahanekaaGreatDoorM8
/- Plain laws of layer 9 over lists of fields; no program in sight. -/
set_option linter.unusedVariables false
set_option linter.unusedSimpArgs false
namespace Go.Proofs.YtgmjkkiahanekaaGreatDoor
open Go.RowKit Lex

theorem lenGo_all {st : Option Int} {l : List (List UInt8)} {n : Int} (h : lenGo st l = some (some n)) : (∀ p ∈ l, partN p = some n) ∧ (l = [] → st = some n) ∧ (st = none ∨ st = some n) := by
  induction l generalizing st with
  | nil => simp only [lenGo] at h; injection h with h; exact ⟨by simp, fun _ => h, .inr h⟩
  | cons p r ih =>
    cases hp : partN p with
    | none => rw [lenGo_cons_bad hp] at h; cases h
    | some k =>
      by_cases hq : st = none ∨ st = some k
      · rw [lenGo_cons_ok hp hq] at h
        obtain ⟨h1, _, h3⟩ := ih h
        have hk : k = n := by
          rcases h3 with h3 | h3
          · cases h3
          · injection h3
        subst hk
        refine ⟨fun x hx => ?_, (fun e => by cases e), hq⟩
        rcases List.mem_cons.1 hx with rfl | hx
        · exact hp
        · exact h1 x hx
      · rw [lenGo_cons_ne hp hq] at h; cases h
theorem sized_values {fs : List Fd} : sizedF fs = false ↔ valuesF fs clenL = [] := by
  unfold sizedF getF
  rw [decide_eq_false_iff_not]
  cases valuesF fs clenL <;> simp
theorem coded_values {fs : List Fd} : codedF fs = false ↔ valuesF fs tencL = [] := by
  unfold codedF getF
  rw [decide_eq_false_iff_not]
  cases valuesF fs tencL <;> simp
theorem chunked_low : lower chunkedL = chunkedL := by decide +kernel
theorem code_one {l : List (List UInt8)} (h : codeL l = 1) : ∃ x, l = [x] ∧ lower x = chunkedL := by
  have h3 : codeL l ≠ 3 := by rw [h]; decide
  have hl := (code_alone h3).1 h
  cases l with
  | nil => cases hl
  | cons x r =>
    cases r with
    | cons => simp at hl
    | nil =>
      have := ((code_last (l := [x]) (by simp)).1 h3).2
      simp only [List.getLast_singleton, chk, alike, beq_iff_eq, chunked_low] at this
      exact ⟨x, rfl, this⟩
theorem part_elems {fs : List Fd} {n : Int} (h : lengthF fs = some (some n)) : ∀ v ∈ valuesF fs clenL, ∀ p ∈ elems v, decimal p 15 = (n, true) := by
  intro v hv p hp
  have h1 := (lenGo_all h).1
  unfold elems elemsOf at hp
  rw [List.mem_filter] at hp
  obtain ⟨q, hq, rfl⟩ := List.mem_map.1 hp.1
  have h2 := h1 q (by unfold partsF; exact List.mem_flatMap.2 ⟨v, hv, hq⟩)
  unfold partN at h2
  split at h2
  · rename_i h3
    injection h2 with h2
    exact Prod.ext h2 h3
  · cases h2

/-- What a request's framing can be. -/
theorem req_cases (minor : Int) (fs : List Fd) (most : Int) :
    (∃ e : Int, reqF minor fs most = (0, 0, e) ∧ (e = 90 ∨ e = 91 ∨ e = 101)) ∨
    (reqF minor fs most = (1, 0, 0) ∧ valuesF fs clenL = [] ∧ valuesF fs tencL = []) ∨
    (∃ n : Int, reqF minor fs most = (2, n, 0) ∧ valuesF fs tencL = [] ∧ valuesF fs clenL ≠ [] ∧ 0 ≤ n ∧ n ≤ most ∧ ∀ v ∈ valuesF fs clenL, ∀ p ∈ elems v, decimal p 15 = (n, true)) ∨
    (reqF minor fs most = (3, 0, 0) ∧ valuesF fs clenL = [] ∧ minor ≠ 0 ∧ ∃ x, elementsF fs tencL = [x] ∧ lower x = chunkedL) := by
  unfold reqF
  cases hc : codedF fs with
  | true =>
    rw [if_pos rfl]
    by_cases h1 : minor = 0 ∨ sizedF fs = true ∨ codeF fs = 3
    · rw [if_pos h1]; exact .inl ⟨90, rfl, .inl rfl⟩
    · rw [if_neg h1]
      simp only [not_or] at h1
      by_cases h2 : codeF fs = 1
      · rw [if_pos h2]
        exact .inr (.inr (.inr ⟨rfl, sized_values.1 (by simpa using h1.2.1), h1.1, code_one h2⟩))
      · rw [if_neg h2]; exact .inl ⟨91, rfl, .inr (.inl rfl)⟩
  | false =>
    rw [if_neg (by simp)]
    cases hs : sizedF fs with
    | false =>
      rw [if_pos rfl]
      exact .inr (.inl ⟨rfl, sized_values.1 hs, coded_values.1 hc⟩)
    | true =>
      rw [if_neg (by simp)]
      cases hl : lengthF fs with
      | none => exact .inl ⟨90, rfl, .inl rfl⟩
      | some x =>
        cases x with
        | none => exact .inl ⟨90, rfl, .inl rfl⟩
        | some n =>
          by_cases hm : most < n
          · simp only [if_pos hm]; exact .inl ⟨101, rfl, .inr (.inr rfl)⟩
          · simp only [if_neg hm]
            refine .inr (.inr (.inl ⟨n, rfl, coded_values.1 hc, fun e => ?_, (length_bound hl).1, by omega, part_elems hl⟩))
            rw [← sized_values, hs] at e; cases e

theorem resp_head (s minor : Int) (fs : List Fd) : respF headM s minor fs = (1, 0, 0) ∨ (s = 101 ∧ respF headM s minor fs = (5, 0, 0)) := by
  unfold respF
  by_cases h1 : s = 101
  · rw [if_pos h1]; exact .inr ⟨h1, rfl⟩
  · rw [if_neg h1]
    by_cases h2 : noBody s = true
    · rw [if_pos h2]; exact .inl rfl
    · rw [if_neg h2, if_neg (by rintro ⟨h, _⟩; revert h; decide), if_pos rfl]; exact .inl rfl
theorem resp_nobody {s : Int} (h : noBody s = true) (method : List UInt8) (minor : Int) (fs : List Fd) : (s ≠ 101 ∧ respF method s minor fs = (1, 0, 0)) ∨ (s = 101 ∧ respF method s minor fs = (5, 0, 0)) := by
  unfold respF
  by_cases h1 : s = 101
  · rw [if_pos h1]; exact .inr ⟨h1, rfl⟩
  · rw [if_neg h1, if_pos h]; exact .inl ⟨h1, rfl⟩
def getM : List UInt8 := [71, 69, 84]
theorem resp_200 (minor : Int) (fs : List Fd) : respF getM 200 minor fs = (if codedF fs = true then (if minor = 0 ∨ sizedF fs = true then ((0, 0, 90) : Int × Int × Int) else if codeF fs = 1 then (3, 0, 0) else (0, 0, 91))
  else if sizedF fs = false then (4, 0, 0)
  else match lengthF fs with
    | some (some n) => (2, n, 0)
    | _ => (0, 0, 90)) := by
  unfold respF
  rw [if_neg (by decide), if_neg (by decide), if_neg (by rintro ⟨h, _⟩; revert h; decide), if_neg (by decide)]
  rfl
/-- What a request's reader and a response's reader see. -/
theorem agrees (minor : Int) (fs : List Fd) (most : Int) :
    (∃ n : Int, reqF minor fs most = (0, 0, 101) ∧ respF getM 200 minor fs = (2, n, 0) ∧ most < n) ∨
    (∃ e e' : Int, reqF minor fs most = (0, 0, e) ∧ (e = 90 ∨ e = 91) ∧ respF getM 200 minor fs = (0, 0, e') ∧ (e' = 90 ∨ e' = 91)) ∨
    (reqF minor fs most = (1, 0, 0) ∧ respF getM 200 minor fs = (4, 0, 0)) ∨
    (∃ k n : Int, (k = 2 ∨ k = 3) ∧ reqF minor fs most = (k, n, 0) ∧ respF getM 200 minor fs = (k, n, 0)) := by
  rw [resp_200]
  unfold reqF
  cases hc : codedF fs with
  | true =>
    rw [if_pos rfl, if_pos rfl]
    by_cases h0 : minor = 0 ∨ sizedF fs = true
    · rw [if_pos (by rcases h0 with h | h <;> simp [h]), if_pos h0]
      exact .inr (.inl ⟨90, 90, rfl, .inl rfl, rfl, .inl rfl⟩)
    · rw [if_neg h0]
      simp only [not_or] at h0
      by_cases h3 : codeF fs = 3
      · rw [if_pos (.inr (.inr h3)), if_neg (by rw [h3]; decide)]
        exact .inr (.inl ⟨90, 91, rfl, .inl rfl, rfl, .inr rfl⟩)
      · rw [if_neg (by simp only [not_or]; exact ⟨h0.1, h0.2, h3⟩)]
        by_cases h1 : codeF fs = 1
        · rw [if_pos h1]; exact .inr (.inr (.inr ⟨3, 0, .inr rfl, rfl, rfl⟩))
        · rw [if_neg h1]; exact .inr (.inl ⟨91, 91, rfl, .inr rfl, rfl, .inr rfl⟩)
  | false =>
    simp only [Bool.false_eq_true, if_false]
    cases hs : sizedF fs with
    | false => simp only [if_true]; exact .inr (.inr (.inl ⟨trivial, trivial⟩))
    | true =>
      simp only [Bool.true_eq_false, if_false]
      cases hl : lengthF fs with
      | none => exact .inr (.inl ⟨90, 90, rfl, .inl rfl, rfl, .inl rfl⟩)
      | some x =>
        cases x with
        | none => exact .inr (.inl ⟨90, 90, rfl, .inl rfl, rfl, .inl rfl⟩)
        | some n =>
          by_cases hm : most < n
          · refine .inl ⟨n, ?_, ?_, hm⟩ <;> simp [hm]
          · refine .inr (.inr (.inr ⟨2, n, .inl rfl, ?_, ?_⟩)) <;> simp [hm]

/-! ### the case of names and codings -/
def lowFs (fs : List Fd) : List Fd := fs.map fun f => (lower f.1, lower f.2)
theorem alike_lowL (a b : List UInt8) : alike (lower a) b = alike a b := by unfold alike; rw [lower_lower]
theorem values_low (fs : List Fd) (name : List UInt8) : valuesF (lowFs fs) name = (valuesF fs name).map lower := by
  induction fs with
  | nil => rfl
  | cons f fs ih =>
    have e : lowFs (f :: fs) = (lower f.1, lower f.2) :: lowFs fs := rfl
    rw [e, valuesF_cons, valuesF_cons, ih, List.map_append]
    simp only [alike_lowL]
    congr 1
    split <;> rfl
theorem lowB_ne44 (c : UInt8) : lowB c = 44 ↔ c = 44 := by
  have key : ∀ c : Fin 256, (lowB (UInt8.ofNat c.val) = 44 ↔ UInt8.ofNat c.val = 44) := by decide +kernel
  have := key ⟨c.toNat, c.toNat_lt⟩
  simpa using this
theorem pieces_low (l : List UInt8) : pieces 44 (lower l) = (pieces 44 l).map lower := by
  induction l with
  | nil => rfl
  | cons b l ih =>
    have e : lower (b :: l) = lowB b :: lower l := rfl
    rw [e]
    unfold pieces
    rw [ih]
    by_cases hb : b = 44
    · rw [if_pos hb, if_pos ((lowB_ne44 b).2 hb)]; rfl
    · rw [if_neg hb, if_neg (fun h => hb ((lowB_ne44 b).1 h))]
      cases pieces 44 l with
      | nil => rfl
      | cons p ps => rfl
theorem trim_low (l : List UInt8) : trim (lower l) = lower (trim l) := by
  obtain ⟨a, m, b, rfl, ha, hb, h1, h2⟩ := trim_parts l
  rw [trim_mid ha hb h1 h2]
  have e : lower (a ++ m ++ b) = lower a ++ lower m ++ lower b := by unfold lower; rw [List.map_append, List.map_append]
  have hbl : ∀ a : List UInt8, a.all blankB = true → (lower a).all blankB = true := by
    intro a ha
    unfold lower
    rw [List.all_map, show (blankB ∘ lowB) = blankB from funext blank_low]; exact ha
  rw [e]
  refine trim_mid (hbl a ha) (hbl b hb) (fun x hx => ?_) (fun x hx => ?_)
  · unfold lower at hx
    rw [List.head?_map] at hx
    cases hm : m.head? with
    | none => rw [hm] at hx; cases hx
    | some y => rw [hm] at hx; simp at hx; subst hx; rw [blank_low]; exact h1 y hm
  · unfold lower at hx
    rw [List.getLast?_map] at hx
    cases hm : m.getLast? with
    | none => rw [hm] at hx; cases hx
    | some y => rw [hm] at hx; simp at hx; subst hx; rw [blank_low]; exact h2 y hm
theorem worth_lowF (c : UInt8) : (worth (lowB c) < 10 ↔ worth c < 10) ∧ (worth c < 10 → worth (lowB c) = worth c) := by
  have key : ∀ c : Fin 256, (worth (lowB (UInt8.ofNat c.val)) < 10 ↔ worth (UInt8.ofNat c.val) < 10) ∧ (worth (UInt8.ofNat c.val) < 10 → worth (lowB (UInt8.ofNat c.val)) = worth (UInt8.ofNat c.val)) := by decide +kernel
  have := key ⟨c.toNat, c.toNat_lt⟩
  simpa using this
theorem num_lowF {l : List UInt8} (h : (l.all fun c => decide (worth c < 10)) = true) : num 10 (lower l) = num 10 l := by
  unfold num lower
  rw [List.foldl_map]
  have key : ∀ (l : List UInt8) (n : Int), (l.all fun c => decide (worth c < 10)) = true → l.foldl (fun n c => n * 10 + worth (lowB c)) n = l.foldl (fun n c => n * 10 + worth c) n := by
    intro l
    induction l with
    | nil => intros; rfl
    | cons a l ih =>
      intro n h
      simp only [List.all_cons, Bool.and_eq_true, decide_eq_true_eq] at h
      simp only [List.foldl_cons]
      rw [(worth_lowF a).2 h.1, ih _ h.2]
  exact key l 0 h
theorem decimal_lowF (l : List UInt8) (d : Int) : decimal (lower l) d = decimal l d := by
  unfold decimal number
  have ha : ((lower l).all fun c => decide (worth c < 10)) = (l.all fun c => decide (worth c < 10)) := by
    unfold lower
    rw [List.all_map]
    congr 1
    funext c
    show decide (worth (lowB c) < 10) = _
    rw [Bool.eq_iff_iff, decide_eq_true_eq, decide_eq_true_eq]; exact (worth_lowF c).1
  have hn : lower l = [] ↔ l = [] := by cases l <;> simp [lower]
  rw [lower_length, ha]
  by_cases hall : (l.all fun c => decide (worth c < 10)) = true
  · rw [num_lowF hall]
    simp only [hn]
  · rw [if_pos (.inr (.inr (Bool.eq_false_iff.2 hall))), if_pos (.inr (.inr (Bool.eq_false_iff.2 hall)))]
theorem partN_low (p : List UInt8) : partN (lower p) = partN p := by
  unfold partN
  rw [trim_low, decimal_lowF]
theorem parts_low (fs : List Fd) : partsF (lowFs fs) = (partsF fs).map lower := by
  unfold partsF
  rw [values_low]
  induction valuesF fs clenL with
  | nil => rfl
  | cons v vs ih => rw [List.map_cons, List.flatMap_cons, List.flatMap_cons, List.map_append, ih, pieces_low]
theorem lenGo_low (st : Option Int) (l : List (List UInt8)) : lenGo st (l.map lower) = lenGo st l := by
  induction l generalizing st with
  | nil => rfl
  | cons p r ih =>
    rw [List.map_cons]
    unfold lenGo
    rw [partN_low]
    cases partN p with
    | none => rfl
    | some n => simp only [ih]
theorem lower_nil {x : List UInt8} : (lower x).isEmpty = x.isEmpty := by cases x <;> rfl
theorem elems_low (v : List UInt8) : elems (lower v) = (elems v).map lower := by
  unfold elems elemsOf
  rw [pieces_low]
  induction pieces 44 v with
  | nil => rfl
  | cons p r ih =>
    rw [List.map_cons, List.map_cons, List.map_cons, List.filter_cons, List.filter_cons, trim_low, lower_nil]
    split
    · rw [List.map_cons, ih]
    · exact ih
theorem elements_low (fs : List Fd) (name : List UInt8) : elementsF (lowFs fs) name = (elementsF fs name).map lower := by
  unfold elementsF
  rw [values_low]
  induction valuesF fs name with
  | nil => rfl
  | cons v vs ih => rw [List.map_cons, List.flatMap_cons, List.flatMap_cons, List.map_append, ih, elems_low]
theorem chk_low (x : List UInt8) : chk (lower x) = chk x := alike_lowL x _
theorem code_low (l : List (List UInt8)) : codeL (l.map lower) = codeL l := by
  unfold codeL
  have h1 : l.map lower = [] ↔ l = [] := by cases l <;> simp
  have h2 : ((l.map lower).getLast?.map chk).getD false = (l.getLast?.map chk).getD false := by
    rw [List.getLast?_map]
    cases l.getLast? with
    | none => rfl
    | some x => simp [chk_low]
  have h3 : (l.map lower).dropLast.any chk = l.dropLast.any chk := by
    rw [← List.map_dropLast, List.any_map]
    congr 1
    funext x; exact chk_low x
  rw [h2, h3, List.length_map]
  simp only [h1]
theorem sized_low (fs : List Fd) : sizedF (lowFs fs) = sizedF fs := by unfold sizedF getF; rw [values_low]; simp
theorem coded_low (fs : List Fd) : codedF (lowFs fs) = codedF fs := by unfold codedF getF; rw [values_low]; simp
theorem has_low (fs : List Fd) (name e : List UInt8) : hasF (lowFs fs) name e = hasF fs name e := by
  unfold hasF
  rw [elements_low, List.any_map]
  congr 1
  funext x; exact alike_lowL x e
theorem req_low (minor : Int) (fs : List Fd) (most : Int) : reqF minor (lowFs fs) most = reqF minor fs most := by
  unfold reqF codeF lengthF
  rw [coded_low, sized_low, elements_low, code_low, parts_low, lenGo_low]
theorem resp_low (method : List UInt8) (s minor : Int) (fs : List Fd) : respF method s minor (lowFs fs) = respF method s minor fs := by
  unfold respF codeF lengthF
  rw [coded_low, sized_low, elements_low, code_low, parts_low, lenGo_low]
theorem keep_low (minor : Int) (fs : List Fd) : keepF minor (lowFs fs) = keepF minor fs := by
  unfold keepF
  rw [has_low, has_low]
theorem lowFs_length (fs : List Fd) : (lowFs fs).length = fs.length := by unfold lowFs; rw [List.length_map]
end Go.Proofs.YtgmjkkiahanekaaGreatDoor

/- The plain law of layer 11: the reader that keeps what it has read answers as the document that reads all unused bytes anew. -/
set_option linter.unusedVariables false
set_option linter.unusedSimpArgs false
namespace Go.Proofs.YtgmjkkiahanekaaGreatDoor
open Lex

def beginI (r : In) : In :=
  match beginL r.most r.buf with
  | (none, e) => { r with now := none, kind := 0, len := 0, used := 0, status := e }
  | (some (q, k, l, n), _) => { r with now := some (q, n), kind := k, len := l, used := n, dec := some { most := r.most }, body := [] }
def startI (r : In) : In := match r.now with
  | none => beginI r
  | some _ => r
/-- The body: whether it is whole. -/
def finishI (r : In) (q : Rq) : Bool × Rq × In :=
  if r.kind = 2 then (if (r.buf.length : Int) - (r.used : Int) < r.len then (false, q, r) else (true, { q with body := (r.buf.drop r.used).take r.len.toNat }, { r with used := r.used + r.len.toNat }))
  else if r.kind = 3 then
    (if (runD (r.dec.getD d00) (r.buf.drop r.used)).2.2.err ≠ 0 then (false, q, { r with dec := some (runD (r.dec.getD d00) (r.buf.drop r.used)).2.2, status := statusE (runD (r.dec.getD d00) (r.buf.drop r.used)).2.2.err })
    else (decide ((runD (r.dec.getD d00) (r.buf.drop r.used)).2.2.st = 4), (if (runD (r.dec.getD d00) (r.buf.drop r.used)).2.2.st = 4 then { q with body := r.body ++ (runD (r.dec.getD d00) (r.buf.drop r.used)).1 } else q),
      { r with dec := some (runD (r.dec.getD d00) (r.buf.drop r.used)).2.2, body := r.body ++ (runD (r.dec.getD d00) (r.buf.drop r.used)).1, used := r.used + (runD (r.dec.getD d00) (r.buf.drop r.used)).2.1 }))
  else (true, q, r)
where d00 : Dec := { most := 0 }
def nextI (r : In) : Rq × Bool × Int × In :=
  if r.status ≠ 0 then ({}, false, r.status, r) else
  match (startI r).now with
  | none => ({}, false, (startI r).status, startI r)
  | some (q, _) => if (finishI (startI r) q).1 = true then ((finishI (startI r) q).2.1, true, 0, { (finishI (startI r) q).2.2 with buf := (finishI (startI r) q).2.2.buf.drop (finishI (startI r) q).2.2.used, now := none, used := 0 })
    else ({}, false, (finishI (startI r) q).2.2.status, (finishI (startI r) q).2.2)

/-! A head that was read stays so. -/
theorem begin_pos {most : Int} {b : List UInt8} {x : Rq × Int × Int × Nat} {e : Int} (h : beginL most b = (some x, e)) :
    (readL true startL b).2.2 = 0 ∧ (readL true startL b).2.1 ≠ 0 ∧ x.2.2.2 = (readL true startL b).2.1 ∧ e = 0 ∧ reqF (readL true startL b).1.minor (readL true startL b).1.fields most = (x.2.1, x.2.2.1, 0) ∧ x.1.body = [] ∧ x.1.head = (readL true startL b).1 := by
  unfold beginL at h
  split at h
  · cases h
  rename_i h1
  split at h
  · cases h
  rename_i h2
  split at h
  · cases h
  split at h
  · cases h
  split at h
  · cases h
  split at h
  · cases h
  rename_i h3
  split at h
  · cases h
  injection h with h4 h5
  injection h4 with h4
  subst h4 h5
  refine ⟨Decidable.byContradiction h1, h2, rfl, rfl, ?_, rfl, rfl⟩
  have h3 := Decidable.byContradiction h3
  rw [← h3]
theorem begin_status {most : Int} {b : List UInt8} {e : Int} (h : beginL most b = (none, e)) : 0 ≤ e ∧ e ≤ 999 := by
  have hp := status_pos (readL true startL b).2.2
  have hq := status_pos (reqF (readL true startL b).1.minor (readL true startL b).1.fields most).2.2
  unfold beginL at h
  split at h
  · injection h with _ h; omega
  split at h
  · injection h with _ h; omega
  split at h
  · injection h with _ h; omega
  split at h
  · injection h with _ h; omega
  split at h
  · injection h with _ h; omega
  split at h
  · injection h with _ h; omega
  split at h
  · injection h with _ h; omega
  cases h
theorem begin_more {most : Int} {b : List UInt8} (t : List UInt8) (h : (readL true startL b).2.2 ≠ 0 ∨ (readL true startL b).2.1 ≠ 0) : beginL most (b ++ t) = beginL most b := by
  have hm := readL_more (skip := true) (first := startL) t (h.imp id (fun h => by omega))
  unfold beginL
  rw [hm]
theorem begin_len {most : Int} {b : List UInt8} {x : Rq × Int × Int × Nat} {e : Int} (h : beginL most b = (some x, e)) : x.2.2.2 ≤ b.length ∧ 0 < x.2.2.2 := by
  obtain ⟨h1, h2, h3, -⟩ := begin_pos h
  have := readL_len (skip := true) (first := startL) (d := b)
  omega
theorem begin_kind {most : Int} {b : List UInt8} {x : Rq × Int × Int × Nat} {e : Int} (h : beginL most b = (some x, e)) :
    (x.2.1 = 1 ∨ x.2.1 = 2 ∨ x.2.1 = 3) ∧ (x.2.1 = 2 → 0 ≤ x.2.2.1 ∧ x.2.2.1 ≤ most) ∧ 0 ≤ x.2.2.1 ∧ x.2.2.1 < 1000000000000000 := by
  obtain ⟨h1, h2, h3, h4, h5, -⟩ := begin_pos h
  have hz : 0 ≤ (reqF (readL true startL b).1.minor (readL true startL b).1.fields most).2.1 ∧ (reqF (readL true startL b).1.minor (readL true startL b).1.fields most).2.1 < 1000000000000000 := by
    unfold reqF
    split
    · repeat' (first | decide | split)
    · split
      · decide
      · split
        · rename_i n hn
          have hb := length_bound hn
          split
          · decide
          · exact hb
        · decide
  rcases req_cases (readL true startL b).1.minor (readL true startL b).1.fields most with ⟨e', g, he⟩ | ⟨g, _⟩ | ⟨n, g, _, _, g0, g1, _⟩ | ⟨g, _⟩
  · rw [g] at h5; injection h5 with _ h5; injection h5 with _ h5; omega
  all_goals
    rw [h5] at hz g
    injection g with g2 g
    injection g with g3 g
    simp only at hz
    refine ⟨by omega, fun e => by omega, hz.1, hz.2⟩
theorem ok_none {r : In} (h : -9223372036854775808 ≤ r.most ∧ r.most ≤ 9223372036854775807) (hs : 0 ≤ r.status ∧ r.status ≤ 999) (hn : r.now = none) : r.Ok :=
  ⟨h, hs, (fun q n e => by rw [hn] at e; cases e), (fun q n e => by rw [hn] at e; cases e), (fun q n e => by rw [hn] at e; cases e)⟩
theorem In.Ok.new {m : Int} (h : -9223372036854775808 ≤ m ∧ m ≤ 9223372036854775807) : In.Ok { most := m } := ok_none h ⟨Int.le_refl _, (by decide : (0 : Int) ≤ 999)⟩ rfl
theorem In.Ok.feed {r : In} (h : r.Ok) (t : List UInt8) : (feedI r t).Ok := by
  refine ⟨h.most, h.st, fun q n hn hs => ?_, fun q n hn hs hk => h.plain q n hn hs hk, fun q n hn hs hk => ?_⟩
  · have h1 := h.head q n hn hs
    have h2 := begin_pos h1
    exact (begin_more t (.inr h2.2.1)).trans h1
  · obtain ⟨a1, a2, d, a3, a4, a5, a6⟩ := h.chunk q n hn hs hk
    refine ⟨a1, by show r.used ≤ (r.buf ++ t).length; rw [List.length_append]; omega, d, a3, ?_, a5, a6⟩
    show runD { most := r.most } (((r.buf ++ t).drop n).take (r.used - n)) = _
    rw [List.drop_append_of_le_length (by omega), List.take_append_of_le_length (by rw [List.length_drop]; omega)]
    exact a4
theorem In.Ok.rest {r : In} (h : r.Ok) : (restI r).Ok := ok_none h.most h.st rfl
theorem start_some {r : In} {q : Rq} {n : Nat} (h : r.now = some (q, n)) : startI r = r := by unfold startI; rw [h]
theorem start_none {r : In} (h : r.now = none) : startI r = beginI r := by unfold startI; rw [h]
theorem start_ok {r : In} (h : r.Ok) (hs : r.status = 0) : (startI r).Ok ∧ (startI r).most = r.most ∧ (startI r).buf = r.buf ∧
    ((startI r).now = none → beginL r.most r.buf = (none, (startI r).status)) ∧ (∀ x, (startI r).now = some x → (startI r).status = 0) := by
  cases hn : r.now with
  | some x =>
    rw [start_some (q := x.1) (n := x.2) hn]
    exact ⟨h, rfl, rfl, (fun h => by rw [hn] at h; cases h), fun _ _ => hs⟩
  | none =>
    rw [start_none hn]
    obtain ⟨y, hy⟩ : ∃ y, beginL r.most r.buf = y := ⟨_, rfl⟩
    obtain ⟨_ | ⟨q, k, l, n⟩, e⟩ := y
    · have hb : beginI r = { r with now := none, kind := 0, len := 0, used := 0, status := e } := by unfold beginI; rw [hy]
      have he : 0 ≤ e ∧ e ≤ 999 := begin_status hy
      rw [hb]
      exact ⟨ok_none h.most he rfl, rfl, rfl, fun _ => hy, (fun _ h => by cases h)⟩
    · have hl := begin_len hy
      have h0 := (begin_pos hy).2.2.2.1
      subst h0
      have hb : beginI r = { r with now := some (q, n), kind := k, len := l, used := n, dec := some { most := r.most }, body := [] } := by unfold beginI; rw [hy]
      rw [hb]
      refine ⟨⟨h.most, h.st, fun q' n' h' _ => ?_, fun q' n' h' _ _ => ?_, fun q' n' h' _ _ => ?_⟩, rfl, rfl, (fun h => by cases h), fun _ _ => hs⟩
      · injection h' with h'; injection h' with h1 h2; subst h1 h2; exact hy
      · injection h' with h'; injection h' with h1 h2
      · injection h' with h'; injection h' with h1 h2
        subst h1 h2
        refine ⟨Nat.le_refl _, hl.1, { most := r.most }, rfl, ?_, (by decide : ((0 : Int)) ≠ 4), rfl⟩
        show runD { most := r.most } ((r.buf.drop n).take (n - n)) = ([], n - n, { most := r.most })
        rw [Nat.sub_self, List.take_zero]; rfl
theorem fin_1 {r : In} {q : Rq} (h : r.kind = 1) : finishI r q = (true, q, r) := by unfold finishI; rw [if_neg (by rw [h]; decide), if_neg (by rw [h]; decide)]
theorem fin_2s {r : In} {q : Rq} (h : r.kind = 2) (hs : (r.buf.length : Int) - (r.used : Int) < r.len) : finishI r q = (false, q, r) := by unfold finishI; rw [if_pos h, if_pos hs]
theorem fin_2 {r : In} {q : Rq} (h : r.kind = 2) (hs : ¬ (r.buf.length : Int) - (r.used : Int) < r.len) : finishI r q = (true, { q with body := (r.buf.drop r.used).take r.len.toNat }, { r with used := r.used + r.len.toNat }) := by unfold finishI; rw [if_pos h, if_neg hs]
theorem fin_3b {r : In} {q : Rq} (h : r.kind = 3) {d : Dec} (hd : r.dec = some d) {y : List UInt8 × Nat × Dec} (hy : runD d (r.buf.drop r.used) = y) (he : y.2.2.err ≠ 0) : finishI r q = (false, q, { r with dec := some y.2.2, status := statusE y.2.2.err }) := by
  unfold finishI; rw [if_neg (by rw [h]; decide), if_pos h, hd, Option.getD_some, hy, if_pos he]
theorem fin_3 {r : In} {q : Rq} (h : r.kind = 3) {d : Dec} (hd : r.dec = some d) {y : List UInt8 × Nat × Dec} (hy : runD d (r.buf.drop r.used) = y) (he : y.2.2.err = 0) (h4 : y.2.2.st = 4) :
    finishI r q = (true, { q with body := r.body ++ y.1 }, { r with dec := some y.2.2, body := r.body ++ y.1, used := r.used + y.2.1 }) := by
  unfold finishI; rw [if_neg (by rw [h]; decide), if_pos h, hd, Option.getD_some, hy, if_neg (fun e => e he), if_pos h4, decide_eq_true h4]
theorem fin_3n {r : In} {q : Rq} (h : r.kind = 3) {d : Dec} (hd : r.dec = some d) {y : List UInt8 × Nat × Dec} (hy : runD d (r.buf.drop r.used) = y) (he : y.2.2.err = 0) (h4 : y.2.2.st ≠ 4) :
    finishI r q = (false, q, { r with dec := some y.2.2, body := r.body ++ y.1, used := r.used + y.2.1 }) := by
  unfold finishI; rw [if_neg (by rw [h]; decide), if_pos h, hd, Option.getD_some, hy, if_neg (fun e => e he), if_neg h4, decide_eq_false h4]
theorem next_stop {r : In} (h : r.status ≠ 0) : nextI r = ({}, false, r.status, r) := by unfold nextI; rw [if_pos h]
theorem next_none {r r1 : In} (hs : r.status = 0) (h1 : startI r = r1) (hn : r1.now = none) : nextI r = ({}, false, r1.status, r1) := by unfold nextI; rw [if_neg (fun e => e hs), h1, hn]
theorem next_yes {r r1 r2 : In} {q q' : Rq} {n : Nat} (hs : r.status = 0) (h1 : startI r = r1) (hn : r1.now = some (q, n)) (hf : finishI r1 q = (true, q', r2)) : nextI r = (q', true, 0, { r2 with buf := r2.buf.drop r2.used, now := none, used := 0 }) := by
  unfold nextI; rw [if_neg (fun e => e hs), h1, hn]; simp only; rw [hf]; simp
theorem next_no {r r1 r2 : In} {q q' : Rq} {n : Nat} (hs : r.status = 0) (h1 : startI r = r1) (hn : r1.now = some (q, n)) (hf : finishI r1 q = (false, q', r2)) : nextI r = ({}, false, r2.status, r2) := by
  unfold nextI; rw [if_neg (fun e => e hs), h1, hn]; simp only; rw [hf]; simp
/-- What the document reads, and what the reader then is. -/
def Told (r : In) (z : Rq × Bool × Int × In) : Option (Rq × Nat) × Int → Prop
  | (some (q, n), _) => z.1 = q ∧ z.2.1 = true ∧ z.2.2.1 = 0 ∧ z.2.2.2.buf = r.buf.drop n ∧ z.2.2.2.status = 0 ∧ z.2.2.2.now = none
  | (none, e) => z.1 = {} ∧ z.2.1 = false ∧ z.2.2.1 = e ∧ z.2.2.2.buf = r.buf ∧ z.2.2.2.status = e
structure Nexts (r : In) (z : Rq × Bool × Int × In) (x : Option (Rq × Nat) × Int) : Prop where
  ok : z.2.2.2.Ok
  most : z.2.2.2.most = r.most
  told : Told r z x
theorem next_doc {r : In} (h : r.Ok) (hs : r.status = 0) : Nexts r (nextI r) (docR r.most r.buf) := by
  obtain ⟨a1, a2, a3, a4, a5⟩ := start_ok h hs
  obtain ⟨r1, h1⟩ : ∃ r1, startI r = r1 := ⟨_, rfl⟩
  rw [h1] at a1 a2 a3 a4 a5
  cases hn : r1.now with
  | none =>
    have hd : docR r.most r.buf = (none, r1.status) := by unfold docR; rw [a4 hn]
    rw [hd, next_none hs h1 hn]
    exact ⟨a1, a2, rfl, rfl, rfl, a3, rfl⟩
  | some x =>
    obtain ⟨q, n⟩ := x
    have hz := a5 _ hn
    have hb := a1.head q n hn hz
    rw [a2, a3] at hb
    have hk := begin_kind hb
    have hl := begin_len hb
    simp only at hk hl
    by_cases k1 : r1.kind = 1
    · have hd : docR r.most r.buf = (some (q, n), 0) := by unfold docR; rw [hb]; simp only; rw [if_pos k1]
      have hu := a1.plain q n hn hz (by rw [k1]; decide)
      rw [hd, next_yes hs h1 hn (fin_1 k1)]
      exact ⟨ok_none a1.most a1.st rfl, a2, rfl, rfl, rfl, by show r1.buf.drop r1.used = _; rw [hu, a3], hz, rfl⟩
    · by_cases k2 : r1.kind = 2
      · have hu := a1.plain q n hn hz (by rw [k2]; decide)
        by_cases hsh : (r.buf.length : Int) - (n : Int) < r1.len
        · have hd : docR r.most r.buf = (none, 0) := by unfold docR; rw [hb]; simp only; rw [if_neg k1, if_pos k2, if_pos hsh]
          rw [hd, next_no hs h1 hn (fin_2s k2 (by rw [hu, a3]; exact hsh))]
          exact ⟨a1, a2, rfl, rfl, hz, a3, hz⟩
        · have hd : docR r.most r.buf = (some ({ q with body := (r.buf.drop n).take r1.len.toNat }, n + r1.len.toNat), 0) := by unfold docR; rw [hb]; simp only; rw [if_neg k1, if_pos k2, if_neg hsh]
          rw [hd, next_yes hs h1 hn (fin_2 k2 (by rw [hu, a3]; exact hsh))]
          exact ⟨ok_none a1.most a1.st rfl, a2, by rw [hu, a3], rfl, rfl, by show r1.buf.drop (r1.used + r1.len.toNat) = _; rw [hu, a3], hz, rfl⟩
      · have k3 : r1.kind = 3 := by omega
        obtain ⟨b1, b2, d, b3, b4, b5, b6⟩ := a1.chunk q n hn hz k3
        rw [a2, a3] at b4
        rw [a3] at b2
        have hrun := runD_prefix (d := { most := r.most }) (s := r.buf.drop n) (r1.used - n) (by rw [List.length_drop]; omega) (by rw [b4]; exact not_or.2 ⟨b5, fun e => e b6⟩)
        rw [b4, List.drop_drop, show n + (r1.used - n) = r1.used by omega] at hrun
        have hxl := runD_len d (r.buf.drop r1.used)
        obtain ⟨y, hy⟩ : ∃ y, runD d (r.buf.drop r1.used) = y := ⟨_, rfl⟩
        rw [hy] at hrun hxl
        rw [List.length_drop] at hxl
        have hy' : runD d (r1.buf.drop r1.used) = y := by rw [a3]; exact hy
        by_cases he : y.2.2.err = 0
        · by_cases h4 : y.2.2.st = 4
          · have hd : docR r.most r.buf = (some ({ q with body := r1.body ++ y.1 }, n + (r1.used - n + y.2.1)), 0) := by
              unfold docR; rw [hb]; simp only; rw [if_neg k1, if_neg k2, hrun, if_neg (fun e => e he), if_pos h4]
            rw [hd, next_yes hs h1 hn (fin_3 k3 b3 hy' he h4)]
            refine ⟨ok_none a1.most a1.st rfl, a2, rfl, rfl, rfl, ?_, hz, rfl⟩
            show r1.buf.drop (r1.used + y.2.1) = r.buf.drop (n + (r1.used - n + y.2.1))
            rw [a3]; congr 1; omega
          · have hd : docR r.most r.buf = (none, 0) := by
              unfold docR; rw [hb]; simp only; rw [if_neg k1, if_neg k2, hrun, if_neg (fun e => e he), if_neg h4]
            rw [hd, next_no hs h1 hn (fin_3n k3 b3 hy' he h4)]
            refine ⟨⟨a1.most, a1.st, fun q' n' hn' hs' => a1.head q' n' hn' hs', fun q' n' hn' hs' hk' => absurd k3 hk', fun q' n' hn' hs' hk' => ?_⟩, a2, rfl, rfl, hz, a3, hz⟩
            have hqn := hn.symm.trans hn'
            injection hqn with hqn
            injection hqn with _ hqn
            subst hqn
            have hall := runD_all (d := d) (s := r.buf.drop r1.used) (by rw [hy]; exact not_or.2 ⟨h4, fun e => e he⟩)
            rw [hy, List.length_drop] at hall
            refine ⟨by show n ≤ r1.used + y.2.1; omega, by show r1.used + y.2.1 ≤ r1.buf.length; rw [a3]; omega, y.2.2, rfl, ?_, h4, he⟩
            show runD { most := r1.most } ((r1.buf.drop n).take (r1.used + y.2.1 - n)) = (r1.body ++ y.1, r1.used + y.2.1 - n, y.2.2)
            rw [a2, a3, List.take_of_length_le (by rw [List.length_drop]; omega), hrun]
            congr 2
            omega
        · have hd : docR r.most r.buf = (none, statusE y.2.2.err) := by
            unfold docR; rw [hb]; simp only; rw [if_neg k1, if_neg k2, hrun, if_pos he]
          have hp := status_pos y.2.2.err
          rw [hd, next_no hs h1 hn (fin_3b k3 b3 hy' he)]
          have hne : ∀ h : statusE y.2.2.err = 0, False := fun h => by omega
          exact ⟨⟨a1.most, ⟨Int.le_trans (by decide) hp.1, Int.le_trans hp.2 (by decide)⟩, fun q n _ hs => (hne hs).elim, fun q n _ hs => (hne hs).elim, fun q n _ hs => (hne hs).elim⟩, a2, rfl, rfl, rfl, a3, rfl⟩
end Go.Proofs.YtgmjkkiahanekaaGreatDoor

