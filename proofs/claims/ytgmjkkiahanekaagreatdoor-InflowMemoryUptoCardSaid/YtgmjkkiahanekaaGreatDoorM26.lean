/- The texts TgtQ in one. -/
import Derived.Test.YtgmjkkiahanekaaGreatDoorM25
import Derived.Test.YtgmjkkiahanekaaGreatDoorM24
import Derived.Test.YtgmjkkiahanekaaGreatDoorM9
/- Plain laws of targets: what goes to a server means the same there; an absolute target means what its path means. -/
set_option linter.unusedVariables false
set_option linter.unusedSimpArgs false
namespace Go.Proofs.YtgmjkkiahanekaaGreatDoor
open Go.RowKit Lex

theorem fix_no63 {l : List UInt8} (h : Fix l) : ∀ c ∈ l, c ≠ 63 := by
  refine Fix.ind (P := fun l => ∀ c ∈ l, c ≠ 63) (by simp) ?_ ?_ l h
  · intro c r _ ih hb _ x hx
    rcases List.mem_cons.1 hx with rfl | hx
    · rintro rfl; revert hb; decide
    · exact ih x hx
  · intro a b n r _ ih hp _ _ x hx
    have hab : a ≠ 63 ∧ b ≠ 63 := by
      unfold pair at hp
      split at hp
      · rename_i hw
        obtain ⟨h1, h2⟩ := hw
        exact ⟨by rintro rfl; revert h1; decide, by rintro rfl; revert h2; decide⟩
      · cases hp
    simp only [List.mem_cons] at hx
    rcases hx with rfl | rfl | rfl | hx
    · decide
    · exact hab.1
    · exact hab.2
    · exact ih x hx
theorem normal_facts {l p : List UInt8} (h : normal l = some p) : p.head? = some 47 ∧ (∀ c ∈ p, c ≠ 63) ∧ p.length ≤ l.length + 1 := by
  obtain ⟨kept, op, rfl, hk, hl⟩ := normal_form h
  obtain ⟨tl, e1, e2, _⟩ := nf_parts op hk
  refine ⟨by rw [e1]; rfl, ?_, ?_⟩
  · rw [e1]
    intro c hc
    rcases List.mem_cons.1 hc with rfl | hc
    · decide
    · exact fix_no63 e2 c hc
  · rw [build_eq]
    split
    · simp
    · rw [List.length_append]
      split <;> simp <;> omega
theorem cutB_parts (s : List UInt8) (c : UInt8) : (cutB s c).1.length ≤ s.length ∧ (cutB s c).2.1.length ≤ s.length := ⟨(cutB_len s c).1, (cutB_len s c).2.1⟩
/-- What a local target is. -/
theorem localT_cases (t : Tg) (s : List UInt8) :
    (∃ e : Int, (e = 50 ∨ e = 60) ∧ localT t s = ({}, e)) ∨
    (∃ p q has, localT t s = ({ t with path := p, query := q, has := has }, 0) ∧ p.head? = some 47 ∧ (∀ c ∈ p, c ≠ 63) ∧ normal p = some p ∧ q.any badQ = false ∧ (has = false → q = []) ∧ p.length ≤ s.length + 1 ∧ q.length ≤ s.length) := by
  unfold localT
  obtain ⟨c1, c2, c3⟩ := cutB_len s 63
  cases hn : normal (cutB s 63).1 with
  | none => exact .inl ⟨50, .inl rfl, rfl⟩
  | some p =>
    simp only
    cases hq : (cutB s 63).2.1.any badQ with
    | true => exact .inl ⟨60, .inr rfl, by simp⟩
    | false =>
      obtain ⟨f1, f2, f3⟩ := normal_facts hn
      exact .inr ⟨p, (cutB s 63).2.1, (cutB s 63).2.2, by simp, f1, f2, normal_fixed hn, hq, c3, by omega, c2⟩
/-- A local target is read again as the same. -/
theorem localT_again {p q : List UInt8} {has : Bool} (f1 : p.head? = some 47) (f2 : ∀ c ∈ p, c ≠ 63) (f3 : normal p = some p) (f4 : q.any badQ = false) (f5 : has = false → q = []) :
    parseT [71, 69, 84] (if has = true then p ++ 63 :: q else p) = ({ form := 1, path := p, query := q, has := has }, 0) := by
  have hh : (if has = true then p ++ 63 :: q else p).head? = some 47 := by
    cases p with
    | nil => cases f1
    | cons a p => split <;> exact f1
  have hc : cutB (if has = true then p ++ 63 :: q else p) 63 = (p, q, has) := by
    cases has with
    | true => rw [if_pos rfl]; exact cutB_at f2
    | false => rw [if_neg (by simp), f5 rfl]; exact cutB_no f2
  have hne : (if has = true then p ++ 63 :: q else p) ≠ [42] := by intro e; rw [e] at hh; revert hh; decide
  unfold parseT
  rw [if_neg (by decide), if_neg (fun h => hne h.1), if_pos hh]
  unfold localT
  rw [hc]
  simp only [f3, f4]
  rfl
theorem authB_bound {l h : List UInt8} {p : Int} (hh : authB l = some (h, p)) : h.length ≤ 64 := (hostB_parts (authB_host hh).1).2
/-- What a target is. -/
theorem parseT_cases (M s : List UInt8) :
    (∃ e : Int, e ≠ 0 ∧ parseT M s = ({}, e)) ∨
    (∃ t : Tg, parseT M s = (t, 0) ∧ t.form ≠ 1 ∧ t.form ≠ 2 ∧ t.path = [] ∧ t.has = false ∧ t.query = []) ∨
    (∃ t : Tg, parseT M s = (t, 0) ∧ (t.form = 1 ∨ t.form = 2) ∧ parseT [71, 69, 84] (originT t) = ({ form := 1, path := t.path, query := t.query, has := t.has }, 0) ∧ t.path.length ≤ s.length + 2 ∧ t.query.length ≤ s.length + 1) := by
  have loc : ∀ (t : Tg) (r : List UInt8), (t.form = 1 ∨ t.form = 2) → r.length ≤ s.length + 1 → parseT M s = localT t r →
      (∃ e : Int, e ≠ 0 ∧ parseT M s = ({}, e)) ∨
      (∃ t : Tg, parseT M s = (t, 0) ∧ t.form ≠ 1 ∧ t.form ≠ 2 ∧ t.path = [] ∧ t.has = false ∧ t.query = []) ∨
      (∃ t : Tg, parseT M s = (t, 0) ∧ (t.form = 1 ∨ t.form = 2) ∧ parseT [71, 69, 84] (originT t) = ({ form := 1, path := t.path, query := t.query, has := t.has }, 0) ∧ t.path.length ≤ s.length + 2 ∧ t.query.length ≤ s.length + 1) := by
    intro t r hf hr he
    rw [he]
    rcases localT_cases t r with ⟨e, h1, h2⟩ | ⟨p, q, has, h1, f1, f2, f3, f4, f5, f6, f7⟩
    · exact .inl ⟨e, by rcases h1 with rfl | rfl <;> decide, h2⟩
    · refine .inr (.inr ⟨_, h1, hf, ?_, by simp only; omega, by simp only; omega⟩)
      have ho : originT { t with path := p, query := q, has := has } = if has = true then p ++ 63 :: q else p := by
        unfold originT
        simp only
        rw [if_neg (by omega), if_neg (by omega)]
      rw [ho]
      exact localT_again f1 f2 f3 f4 f5
  by_cases hM : M = connectL
  · have : parseT M s = (match authB s with
      | none => ({}, 60)
      | some (h, p) => if p = 0 then ({}, 60) else ({ form := 3, host := h, port := p }, 0)) := by unfold parseT; rw [if_pos hM]; rfl
    rw [this]
    cases ha : authB s with
    | none => exact .inl ⟨60, by decide, rfl⟩
    | some x =>
      obtain ⟨h, p⟩ := x
      simp only
      by_cases hp : p = 0
      · rw [if_pos hp]; exact .inl ⟨60, by decide, rfl⟩
      · rw [if_neg hp]; exact .inr (.inl ⟨_, rfl, by show (3 : Int) ≠ 1; decide, by show (3 : Int) ≠ 2; decide, rfl, rfl, rfl⟩)
  · by_cases hs : s = [42] ∧ M = optionsL
    · have : parseT M s = ({ form := 4 }, 0) := by unfold parseT; rw [if_neg hM, if_pos hs]
      rw [this]; exact .inr (.inl ⟨_, rfl, by decide, by decide, rfl, rfl, rfl⟩)
    · by_cases h47 : s.head? = some 47
      · exact loc { form := 1 } s (.inl rfl) (by omega) (by unfold parseT; rw [if_neg hM, if_neg hs, if_pos h47])
      · by_cases hh : 7 ≤ s.length ∧ alike (s.take 7) httpL = true
        · have e : parseT M s = absT (s.drop 7) := by unfold parseT; rw [if_neg hM, if_neg hs, if_neg h47, if_pos hh]
          cases ha : authB ((s.drop 7).take (endT (s.drop 7))) with
          | none => exact .inl ⟨61, by decide, by rw [e]; unfold absT; rw [ha]⟩
          | some x =>
            obtain ⟨h, p⟩ := x
            refine loc { form := 2, host := h, port := p } _ (.inr rfl) ?_ (by rw [e]; unfold absT; rw [ha])
            split
            · rw [List.length_drop, List.length_drop]; omega
            · rw [List.length_cons, List.length_drop, List.length_drop]; omega
        · have e : parseT M s = ({}, 60) := by unfold parseT; rw [if_neg hM, if_neg hs, if_neg h47, if_neg hh]
          rw [e]; exact .inl ⟨60, by decide, rfl⟩
theorem http_low : lower httpL = httpL := by decide +kernel
theorem localT_form (t : Tg) (s : List UInt8) : localT t s = (if (localT { form := 1 } s).2 = 0 then { (localT { form := 1 } s).1 with form := t.form, host := t.host, port := t.port } else {}, (localT { form := 1 } s).2) := by
  unfold localT
  cases normal (cutB s 63).1 with
  | none => rfl
  | some p =>
    simp only
    cases (cutB s 63).2.1.any badQ <;> rfl
/-- An absolute target means what its path means as an origin, with the host that it names. -/
theorem parseT_absolute {host : List UInt8} (s : List UInt8) (hh : ∀ c ∈ host, c ≠ 47 ∧ c ≠ 63) :
    parseT [71, 69, 84] (httpL ++ host ++ 47 :: s) = match authB host with
      | none => ({}, 61)
      | some (h, p) => (if (parseT [71, 69, 84] (47 :: s)).2 = 0 then { (parseT [71, 69, 84] (47 :: s)).1 with form := 2, host := h, port := p } else {}, (parseT [71, 69, 84] (47 :: s)).2) := by
  have e1 : parseT [71, 69, 84] (47 :: s) = localT { form := 1 } (47 :: s) := by
    unfold parseT
    rw [if_neg (by decide), if_neg (fun h => by injection h.1 with h _; revert h; decide), if_pos (by rfl)]
  have hd : (httpL ++ host ++ 47 :: s).drop 7 = host ++ 47 :: s := by rw [List.append_assoc]; rfl
  have ht : (httpL ++ host ++ 47 :: s).take 7 = httpL := by rw [List.append_assoc]; rfl
  have hn : (httpL ++ host ++ 47 :: s).head? = some 104 := by rw [List.append_assoc]; rfl
  have e2 : parseT [71, 69, 84] (httpL ++ host ++ 47 :: s) = absT (host ++ 47 :: s) := by
    unfold parseT
    rw [if_neg (by decide), if_neg (fun h => by rw [h.1] at hn; revert hn; decide), if_neg (by rw [hn]; decide), if_pos ⟨by simp [httpL], by rw [ht]; decide +kernel⟩, hd]
  have hj : endT (host ++ 47 :: s) = host.length := endT_at (by rw [List.take_left]; exact hh) (.inr ⟨by simp, .inl (by simp)⟩)
  rw [e1, e2, absT_at hj, List.take_left, List.drop_left]
  cases authB host with
  | none => rfl
  | some x =>
    obtain ⟨h, p⟩ := x
    simp only [List.head?_cons, if_true]
    exact localT_form _ _

theorem lower_alike (a : List UInt8) : (alike a httpL = true ↔ lower a = httpL) := by unfold alike; rw [http_low, beq_iff_eq]
/-- The contracts, whole. -/
theorem parse_c (M s : ByteArray) (m : Int) (w : World) (hs : s.size ≤ 4194000) (hm : w.cell? ⟨0, 0, none⟩ = some (.int .i64 m)) :
    Calls Tryz.prog 82 #[.string M, .string s] w fun e w' => e = .returned (tgOut (parseT M.data.toList s.data.toList)) ∧ Below w.heap.size w w' := by
  by_cases hM : M.data.toList = connectL
  · obtain rfl : M = bs connectL := bytes_ext hM
    have := parse_connect s.data.toList m w (by rw [size_list]; omega) hm
    rw [list_bs] at this; exact this
  · have hsl := size_list s
    by_cases h2 : s.data.toList = [42] ∧ M.data.toList = optionsL
    · obtain rfl : M = bs optionsL := bytes_ext h2.2
      obtain rfl : s = bs [42] := bytes_ext h2.1
      exact parse_star w
    · by_cases h3 : s.data.toList.head? = some 47
      · have e : parseT M.data.toList s.data.toList = localT { form := 1 } s.data.toList := by unfold parseT; rw [if_neg hM, if_neg h2, if_pos h3]
        rw [e]; exact parse_origin M s m w hM (by omega) h3 hm
      · by_cases h4 : 7 ≤ s.data.toList.length ∧ alike (s.data.toList.take 7) httpL = true
        · have e : parseT M.data.toList s.data.toList = absT (s.data.toList.drop 7) := by unfold parseT; rw [if_neg hM, if_neg h2, if_neg h3, if_pos h4]
          rw [e]; exact parse_abs M s m w hM hs (by omega) h3 h4.2 hm
        · have e : parseT M.data.toList s.data.toList = ({}, 60) := by unfold parseT; rw [if_neg hM, if_neg h2, if_neg h3, if_neg h4]
          rw [e]
          by_cases h7 : 7 ≤ s.size
          · exact parse_other M s w hM (by omega) h7 h3 (by
              cases hq : alike (s.data.toList.take 7) httpL with
              | false => rfl
              | true => exact absurd ⟨by omega, hq⟩ h4)
          · exact parse_short M s w hM (fun a b => h2 ⟨a, b⟩) (by omega) h3
theorem head_get (s : ByteArray) (h : 0 < s.size) : s.data.toList.head? = some s[0] := by
  rw [List.head?_eq_getElem?]; exact get_at' s 0 h
theorem rparse_c (M s : ByteArray) (w : World) (hs : s.size ≤ 4194000) :
    Calls Tryz.prog 92 #[.string M, .string s] w fun e w' => e = .returned (tgOut (parseT M.data.toList s.data.toList)) ∧ Below w.heap.size w w' := by
  by_cases hM : M.data.toList = connectL
  · obtain rfl : M = bs connectL := bytes_ext hM
    have := rparse_connect s.data.toList w (by rw [size_list]; omega)
    rw [list_bs] at this; exact this
  · have hsl := size_list s
    by_cases h2 : s.data.toList = [42] ∧ M.data.toList = optionsL
    · obtain rfl : M = bs optionsL := bytes_ext h2.2
      obtain rfl : s = bs [42] := bytes_ext h2.1
      exact rparse_star w
    · by_cases h3 : s.data.toList.head? = some 47
      · have e : parseT M.data.toList s.data.toList = localT { form := 1 } s.data.toList := by unfold parseT; rw [if_neg hM, if_neg h2, if_pos h3]
        rw [e]
        have hl : 0 < s.data.toList.length := by
          cases hq : s.data.toList with
          | nil => rw [hq] at h3; cases h3
          | cons a l => simp
        have h47 : s.data.toList[0] = 47 := by
          rw [List.head?_eq_getElem?, List.getElem?_eq_getElem hl] at h3; injection h3
        have := rparse_origin M.data.toList s.data.toList w hM (by omega) hl h47
        rw [list_bs, list_bs] at this; exact this
      · have h0 : ∀ h : 0 < s.size, s[0] ≠ 47 := fun h e => h3 (by rw [head_get s h, e])
        by_cases h4 : 7 ≤ s.data.toList.length ∧ alike (s.data.toList.take 7) httpL = true
        · have e : parseT M.data.toList s.data.toList = absT (s.data.toList.drop 7) := by unfold parseT; rw [if_neg hM, if_neg h2, if_neg h3, if_pos h4]
          rw [e]; exact rparse_abs M s w hM hs (by omega) (h0 (by omega)) ((lower_alike _).1 h4.2)
        · have e : parseT M.data.toList s.data.toList = ({}, 60) := by unfold parseT; rw [if_neg hM, if_neg h2, if_neg h3, if_neg h4]
          rw [e]
          by_cases h7 : 7 ≤ s.size
          · exact rparse_other M s w hM (by omega) h7 (h0 (by omega)) (fun hq => h4 ⟨by omega, (lower_alike _).2 hq⟩)
          · exact rparse_short M s w hM (fun a b => h2 ⟨a, b⟩) (by omega) h0
end Go.Proofs.YtgmjkkiahanekaaGreatDoor

