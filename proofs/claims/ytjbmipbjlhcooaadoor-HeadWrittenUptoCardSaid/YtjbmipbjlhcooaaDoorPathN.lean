/- Plain words: a normal form is its own normal form; what it holds; steps behind it. No program in sight. -/
import Derived.Test.YtjbmipbjlhcooaaDoorPathM
set_option linter.unusedVariables false
set_option linter.unusedSimpArgs false
namespace Go.Proofs.YtjbmipbjlhcooaaDoor
open Go.RowKit Lex

def Fix (l : List UInt8) : Prop := unesc l = some l
theorem Fix.nil : Fix [] := rfl
theorem Fix.append {a b : List UInt8} (ha : Fix a) (hb : Fix b) : Fix (a ++ b) := unesc_append ha hb
theorem Fix.one {c : UInt8} (h : badU c = false) (h' : c ≠ 37) : Fix [c] := unesc_single h h'
theorem Fix.cons {c : UInt8} {l : List UInt8} (h : badU c = false) (h' : c ≠ 37) (hl : Fix l) : Fix (c :: l) := (Fix.one h h').append hl
theorem Fix.enc (n : UInt8) : Fix (encU n) := encU_fixed n

/-- A fixed text, taken apart. -/
theorem Fix.plain {c : UInt8} {r : List UInt8} (h : Fix (c :: r)) (hc : c ≠ 37) : badU c = false ∧ Fix r := by
  unfold Fix unesc at h
  cases hb : badU c with
  | true => rw [walkE_bad hb] at h; cases h
  | false =>
    rw [walkE_plain hb hc] at h
    cases hr : walkE badU encU r with
    | none => rw [hr] at h; cases h
    | some q => rw [hr] at h; simp at h; subst h; exact ⟨rfl, hr⟩
theorem pair_hex {a b n : UInt8} (h : pair a b = some n) : a ≠ 47 ∧ b ≠ 47 ∧ a ≠ 37 ∧ b ≠ 37 := by
  unfold pair at h
  split at h
  · rename_i hw
    obtain ⟨h1, h2⟩ := hw
    exact ⟨by rintro rfl; revert h1; decide, by rintro rfl; revert h2; decide, by rintro rfl; revert h1; decide, by rintro rfl; revert h2; decide⟩
  · cases h
theorem Fix.esc {a b : UInt8} {r : List UInt8} (h : Fix (37 :: a :: b :: r)) : ∃ n, pair a b = some n ∧ plainB n = false ∧ encU n = [37, a, b] ∧ Fix r := by
  unfold Fix unesc at h
  cases hp : pair a b with
  | none => rw [walkE_none hp] at h; cases h
  | some n =>
    rw [walkE_some (by decide) hp] at h
    cases hr : walkE badU encU r with
    | none => rw [hr] at h; cases h
    | some q =>
      rw [hr] at h; simp at h
      cases hn : plainB n with
      | true =>
        rw [show encU n = [n] from by unfold encU; rw [hn]; rfl] at h
        simp at h
        rw [h.1] at hn
        exact absurd hn (by decide)
      | false =>
        have he : encU n = [37, large (n.toNat / 16), large (n.toNat % 16)] := by unfold encU; rw [hn]; rfl
        rw [he] at h
        simp at h
        obtain ⟨h1, h2, rfl⟩ := h
        exact ⟨n, rfl, hn, by rw [he, h1, h2], hr⟩
theorem Fix.short {r : List UInt8} (h : Fix (37 :: r)) : 2 ≤ r.length := by
  by_cases hl : r.length < 2
  · unfold Fix unesc at h; rw [walkE_short hl] at h; cases h
  · omega

/-- Induction over a fixed text. -/
theorem Fix.ind {P : List UInt8 → Prop} (h0 : P []) (h1 : ∀ c r, Fix r → P r → badU c = false → c ≠ 37 → P (c :: r))
    (h2 : ∀ a b n r, Fix r → P r → pair a b = some n → plainB n = false → encU n = [37, a, b] → P (37 :: a :: b :: r)) : ∀ l, Fix l → P l := by
  intro l
  induction l using walkE_ind with
  | h0 => intro _; exact h0
  | h1 c r ih hc => intro h; obtain ⟨hb, hr⟩ := h.plain hc; exact h1 c r hr (ih hr) hb hc
  | h2 a b r ih => intro h; obtain ⟨n, e1, e2, e3, e4⟩ := h.esc; exact h2 a b n r e4 (ih e4) e1 e2 e3
  | h3 r hr => intro h; have := h.short; omega

theorem pieces_cons_ne {c b : UInt8} {l : List UInt8} (h : b ≠ c) : ∃ p ps, pieces c l = p :: ps ∧ pieces c (b :: l) = (b :: p) :: ps := by
  cases hq : pieces c l with
  | nil => exact absurd hq (pieces_ne c l)
  | cons p ps => exact ⟨p, ps, rfl, by simp only [pieces]; rw [if_neg h, hq]⟩
theorem Fix.parts {l : List UInt8} (h : Fix l) : ∀ x ∈ pieces 47 l, Fix x := by
  revert h
  apply Fix.ind (P := fun l => ∀ x ∈ pieces 47 l, Fix x)
  · intro x hx; simp [pieces] at hx; subst hx; exact Fix.nil
  · intro c r hr ih hb hc x hx
    by_cases h47 : c = 47
    · subst h47
      simp [pieces] at hx
      rcases hx with rfl | hx
      · exact Fix.nil
      · exact ih x hx
    · obtain ⟨p, ps, e1, e2⟩ := pieces_cons_ne (l := r) h47
      rw [e2] at hx
      rw [e1] at ih
      rcases List.mem_cons.1 hx with rfl | hx
      · exact Fix.cons hb hc (ih p (by simp))
      · exact ih x (by simp [hx])
  · intro a b n r hr ih hp hn he x hx
    obtain ⟨ha, hb, _, _⟩ := pair_hex hp
    obtain ⟨p1, ps1, e1, e2⟩ := pieces_cons_ne (l := r) hb
    obtain ⟨p2, ps2, e3, e4⟩ := pieces_cons_ne (l := b :: r) ha
    obtain ⟨p3, ps3, e5, e6⟩ := pieces_cons_ne (l := a :: b :: r) (show (37 : UInt8) ≠ 47 by decide)
    rw [e6] at hx
    rw [e4] at e5
    rw [e2] at e3
    injection e5 with e5 e5'; injection e3 with e3 e3'
    subst e5; subst e5'; subst e3; subst e3'
    rw [e1] at ih
    rcases List.mem_cons.1 hx with rfl | hx
    · have := (Fix.enc n).append (ih p1 (by simp)); rw [he] at this; exact this
    · exact ih x (by simp [hx])
theorem Fix.join {kept : List (List UInt8)} (h : ∀ x ∈ kept, Fix x) : Fix (slashed kept) := by
  induction kept with
  | nil => exact Fix.nil
  | cons x r ih =>
    have h1 := ih (fun y hy => h y (by simp [hy]))
    have : slashed (x :: r) = 47 :: (x ++ slashed r) := by simp [slashed]
    rw [this]
    exact Fix.cons (by decide) (by decide) ((h x (by simp)).append h1)

/-! ### pieces of what is joined -/
theorem pieces_slash (a b : List UInt8) : pieces 47 (a ++ 47 :: b) = pieces 47 a ++ pieces 47 b := by
  induction a with
  | nil => simp [pieces]
  | cons c a ih =>
    by_cases h : c = 47
    · subst h; rw [List.cons_append]; simp only [pieces, if_true]; rw [ih]; rfl
    · obtain ⟨p, ps, e1, e2⟩ := pieces_cons_ne (l := a) h
      rw [List.cons_append, e2]
      simp only [pieces]
      rw [if_neg h, ih, e1]
      rfl
/-- The pieces of each piece behind a slash. -/
theorem pieces_slashed {kept : List (List UInt8)} (h : ∀ x ∈ kept, ∀ c ∈ x, c ≠ (47 : UInt8)) : pieces 47 (slashed kept) = [] :: kept := by
  induction kept with
  | nil => rfl
  | cons x r ih =>
    have h1 := ih (fun y hy => h y (by simp [hy]))
    have e : slashed (x :: r) = [] ++ 47 :: (x ++ slashed r) := by simp [slashed]
    rw [e, pieces_slash]
    have hx : ∀ c ∈ x, c ≠ 47 := h x (by simp)
    cases hr : r with
    | nil => simp [slashed, pieces, pieces_no hx]
    | cons y r' =>
      subst hr
      have e2 : x ++ slashed (y :: r') = x ++ 47 :: (y ++ slashed r') := by simp [slashed]
      have e3 : slashed (y :: r') = [] ++ 47 :: (y ++ slashed r') := by simp [slashed]
      rw [e3, pieces_slash] at h1
      rw [e2, pieces_at _ hx]
      simp [pieces] at h1 ⊢
      exact h1

theorem normK_append {kept ps kept' : List (List UInt8)} (R : List (List UInt8)) (h : normK kept ps = some kept') : normK kept (ps ++ R) = normK kept' R := by
  induction ps generalizing kept with
  | nil => simp only [normK] at h; injection h with h; subst h; rfl
  | cons x r ih =>
    rw [List.cons_append]
    simp only [normK] at h ⊢
    split at h
    · rename_i hx; rw [if_pos hx]
      split at h
      · cases h
      · rename_i hk; rw [if_neg hk]; exact ih h
    · rename_i hx; rw [if_neg hx]
      split at h
      · rename_i hd; rw [if_pos hd]; exact ih h
      · rename_i hd; rw [if_neg hd]; exact ih h
theorem normK_mem {kept ps kept' : List (List UInt8)} (h : normK kept ps = some kept') : ∀ x ∈ kept', x ∈ kept ∨ (x ∈ ps ∧ dots x = false) := by
  induction ps generalizing kept with
  | nil => simp only [normK] at h; injection h with h; subst h; intro x hx; exact .inl hx
  | cons y r ih =>
    intro x hx
    simp only [normK] at h
    split at h
    · split at h
      · cases h
      · rcases ih h x hx with h1 | ⟨h1, h2⟩
        · exact .inl (List.dropLast_subset _ h1)
        · exact .inr ⟨by simp [h1], h2⟩
    · split at h
      · rcases ih h x hx with h1 | ⟨h1, h2⟩
        · exact .inl h1
        · exact .inr ⟨by simp [h1], h2⟩
      · rename_i hd
        rcases ih h x hx with h1 | ⟨h1, h2⟩
        · rcases List.mem_append.1 h1 with h1 | h1
          · exact .inl h1
          · simp at h1; subst h1; exact .inr ⟨by simp, by simpa using hd⟩
        · exact .inr ⟨by simp [h1], h2⟩
theorem normK_length {kept ps kept' : List (List UInt8)} (h : normK kept ps = some kept') : (slashed kept').length ≤ (slashed kept).length + (slashed ps).length := by
  induction ps generalizing kept with
  | nil => simp only [normK] at h; injection h with h; subst h; simp
  | cons y r ih =>
    have e : (slashed (y :: r)).length = y.length + 1 + (slashed r).length := by simp [slashed]; omega
    have ea : (slashed (kept ++ [y])).length = (slashed kept).length + (y.length + 1) := by unfold slashed; rw [List.flatMap_append]; simp
    have ed : (slashed kept.dropLast).length ≤ (slashed kept).length := by
      cases hk : kept with
      | nil => simp
      | cons a b =>
        have : kept = kept.dropLast ++ [kept.getLast (by rw [hk]; simp)] := (List.dropLast_concat_getLast _).symm
        rw [← hk]
        conv => rhs; rw [this]
        unfold slashed; rw [List.flatMap_append, List.length_append]; omega
    simp only [normK] at h
    split at h
    · split at h
      · cases h
      · have := ih h; omega
    · split at h
      · have := ih h; omega
      · have := ih h; omega
/-- Pieces without dots are kept. -/
theorem normK_keep {kept ps : List (List UInt8)} (h : ∀ x ∈ ps, dots x = false) : normK kept ps = some (kept ++ ps) := by
  induction ps generalizing kept with
  | nil => simp [normK]
  | cons x r ih =>
    have hx := h x (by simp)
    simp only [normK]
    rw [if_neg (by intro e; rw [e] at hx; revert hx; decide), if_neg (by rw [hx]; simp), ih (fun y hy => h y (by simp [hy]))]
    simp
theorem slashed_pieces (t : List UInt8) : (slashed (pieces 47 t)).length = t.length + 1 := by
  induction t with
  | nil => rfl
  | cons c t ih =>
    by_cases h : c = 47
    · subst h
      have : pieces 47 (47 :: t) = [] :: pieces 47 t := by simp [pieces]
      rw [this]
      have e : slashed ([] :: pieces 47 t) = 47 :: slashed (pieces 47 t) := by simp [slashed]
      rw [e, List.length_cons, ih]; rfl
    · obtain ⟨p, ps, e1, e2⟩ := pieces_cons_ne (l := t) h
      rw [e2]
      rw [e1] at ih
      have e : slashed ((c :: p) :: ps) = 47 :: c :: p ++ slashed ps := by simp [slashed]
      have e' : slashed (p :: ps) = 47 :: p ++ slashed ps := by simp [slashed]
      rw [e]; rw [e'] at ih
      simp at ih ⊢; omega

/-! ### normal forms -/
/-- Pieces that a normal form may hold, but for its last. -/
structure Clean (kept : List (List UInt8)) : Prop where
  fix : ∀ x ∈ kept, Fix x
  dots : ∀ x ∈ kept, dots x = false
  no : ∀ x ∈ kept, ∀ c ∈ x, c ≠ (47 : UInt8)
theorem normal_form {l p : List UInt8} (h : normal l = some p) : ∃ kept op, p = build kept op ∧ Clean kept ∧ (slashed kept).length ≤ l.length := by
  unfold normal at h
  cases hu : unesc l with
  | none => rw [hu] at h; cases h
  | some q =>
    rw [hu] at h
    simp only at h
    by_cases h47 : q.head? = some 47
    · rw [if_pos h47] at h
      have hq := unesc_fixed hu
      have hl := unesc_length hu
      cases q with
      | nil => cases h47
      | cons a t =>
        simp at h47; subst h47
        have hf : Fix t := (Fix.plain (c := 47) hq (by decide)).2
        simp only [List.tail_cons] at h
        cases hk : normK [] (pieces 47 t) with
        | none => rw [hk] at h; cases h
        | some kept =>
          rw [hk] at h
          simp only [Option.map_some, Option.some.injEq] at h
          have hm := normK_mem hk
          have hm' : ∀ x ∈ kept, x ∈ pieces 47 t ∧ dots x = false := fun x hx => by
            rcases hm x hx with h1 | h1
            · cases h1
            · exact h1
          refine ⟨kept, _, h.symm, ⟨fun x hx => hf.parts x (hm' x hx).1, fun x hx => (hm' x hx).2, fun x hx => (pieces_mem 47 t x (hm' x hx).1).2⟩, ?_⟩
          have := normK_length hk
          rw [slashed_pieces] at this
          simp [slashed] at this hl ⊢
          omega
    · rw [if_neg h47] at h; cases h

theorem build_eq (kept : List (List UInt8)) (op : Bool) : build kept op = if kept = [] then [47] else slashed kept ++ (if op = true then [47] else []) := by
  unfold build
  by_cases h : kept = []
  · subst h; simp [Lib.join]
  · rw [if_neg h, slashed_join h]
    cases op <;> simp [h]
theorem build_open (kept : List (List UInt8)) (op : Bool) : build kept (op || kept.isEmpty) = build kept op := by
  rw [build_eq, build_eq]
  by_cases h : kept = []
  · rw [if_pos h, if_pos h]
  · have : kept.isEmpty = false := by cases kept with
      | nil => exact absurd rfl h
      | cons a b => rfl
    rw [this, Bool.or_false]

/-- The pieces of a normal form. -/
def good : List (List UInt8) → Prop
  | [] => True
  | [x] => x ≠ [46] ∧ x ≠ [46, 46]
  | x :: y :: r => dots x = false ∧ good (y :: r)
theorem good_one {x : List UInt8} (h : dots x = false) : x ≠ [46] ∧ x ≠ [46, 46] := ⟨by rintro rfl; revert h; decide, by rintro rfl; revert h; decide⟩
theorem good_keep {kept : List (List UInt8)} (h : ∀ x ∈ kept, dots x = false) : good kept ∧ good (kept ++ [[]]) := by
  induction kept with
  | nil => exact ⟨trivial, by decide, by decide⟩
  | cons x r ih =>
    obtain ⟨h1, h2⟩ := ih (fun y hy => h y (by simp [hy]))
    have hx := h x (by simp)
    cases r with
    | nil => exact ⟨good_one hx, hx, h2⟩
    | cons y r => exact ⟨⟨hx, h1⟩, hx, h2⟩

theorem nf_parts {kept : List (List UInt8)} (op : Bool) (hk : Clean kept) : ∃ tl, build kept op = 47 :: tl ∧ Fix tl ∧ normK [] (pieces 47 tl) = some kept ∧
    ((pieces 47 tl).getLast?.map dots).getD false = (op || kept.isEmpty) ∧ good (pieces 47 tl) := by
  rw [build_eq]
  by_cases h : kept = []
  · subst h
    refine ⟨[], by simp, Fix.nil, by decide, by simp [pieces, dots], by simp [pieces, good]⟩
  · rw [if_neg h, slashed_join h]
    have hp := pieces_slashed hk.no
    rw [slashed_join h] at hp
    have hp' : pieces 47 (Lib.join kept [47]) = kept := by
      simp only [pieces, if_true] at hp
      injection hp
    have hf : Fix (Lib.join kept [47]) := by
      have := Fix.join hk.fix
      rw [slashed_join h] at this
      exact (this.plain (by decide)).2
    have hi : kept.isEmpty = false := by cases kept with
      | nil => exact absurd rfl h
      | cons a b => rfl
    rw [hi, Bool.or_false]
    obtain ⟨g1, g2⟩ := good_keep hk.dots
    cases op with
    | false =>
      refine ⟨Lib.join kept [47], by simp, hf, by rw [hp', normK_keep hk.dots]; rfl, ?_, by rw [hp']; exact g1⟩
      rw [hp']
      cases hl : kept.getLast? with
      | none => rfl
      | some x => exact hk.dots x (List.mem_of_getLast? hl)
    | true =>
      have hp2 : pieces 47 (Lib.join kept [47] ++ [47]) = kept ++ [[]] := by rw [pieces_slash, hp']; rfl
      refine ⟨Lib.join kept [47] ++ [47], by simp, hf.append (Fix.one (by decide) (by decide)), ?_, ?_, by rw [hp2]; exact g2⟩
      · rw [hp2, normK_append [[]] (normK_keep (kept := []) hk.dots)]
        simp [normK, dots]
      · rw [hp2]; simp [dots]

theorem normal_fixed {l p : List UInt8} (h : normal l = some p) : normal p = some p := by
  obtain ⟨kept, op, rfl, hk, _⟩ := normal_form h
  obtain ⟨tl, e1, e2, e3, e4, _⟩ := nf_parts op hk
  have hf : Fix (build kept op) := by rw [e1]; exact Fix.cons (by decide) (by decide) e2
  have e : unesc (build kept op) = some (47 :: tl) := by rw [← e1]; exact hf
  conv => lhs; unfold normal
  rw [e]
  simp only [List.head?_cons, if_true, List.tail_cons, e3, e4, Option.map_some]
  rw [build_open]

/-- A step behind a normal form. -/
theorem normal_step {kept kept2 : List (List UInt8)} {op : Bool} {y y' : List UInt8} (hk : Clean kept) (hy : unesc y = some y') (hn : normK kept (pieces 47 y') = some kept2) :
    normal (build kept op ++ 47 :: y) = some (build kept2 (((pieces 47 y').getLast?.map dots).getD false)) := by
  obtain ⟨tl, e1, e2, e3, e4, _⟩ := nf_parts op hk
  rw [e1]
  have e : unesc (47 :: tl ++ 47 :: y) = some (47 :: (tl ++ 47 :: y')) := by
    have h1 : Fix (47 :: tl) := Fix.cons (by decide) (by decide) e2
    have h2 : unesc (47 :: y) = some (47 :: y') := unesc_append (a := [47]) (Fix.one (by decide) (by decide)) hy
    exact unesc_append h1 h2
  conv => lhs; unfold normal
  rw [e]
  simp only [List.head?_cons, if_true, List.tail_cons]
  rw [pieces_slash, normK_append _ e3, hn]
  have hl : (pieces 47 tl ++ pieces 47 y').getLast? = (pieces 47 y').getLast? := by
    rw [List.getLast?_append]
    cases hq : (pieces 47 y').getLast? with
    | none => exact absurd (List.getLast?_eq_none_iff.1 hq) (pieces_ne 47 y')
    | some x => rfl
  rw [hl]; rfl

/-- What the last byte of a normal form tells. -/
theorem build_last {kept : List (List UInt8)} (op : Bool) (hk : Clean kept) :
    ((build kept op).getLast? = some 47 ∧ build kept true = build kept op) ∨ ((build kept op).getLast? ≠ some 47 ∧ build kept true = build kept op ++ [47]) := by
  rw [build_eq, build_eq]
  by_cases h : kept = []
  · left; rw [if_pos h, if_pos h]; exact ⟨rfl, rfl⟩
  · rw [if_neg h, if_neg h]
    cases op with
    | true => left; exact ⟨by simp, rfl⟩
    | false =>
      right
      refine ⟨?_, by simp⟩
      obtain ⟨r, x, rfl⟩ : ∃ r x, kept = r ++ [x] := ⟨_, _, (List.dropLast_concat_getLast h).symm⟩
      have hx : x ≠ [] := by intro e; have := hk.dots x (by simp); rw [e] at this; revert this; decide
      have hn := hk.no x (by simp)
      have e : slashed (r ++ [x]) = slashed r ++ 47 :: x := by unfold slashed; rw [List.flatMap_append]; simp
      rw [e]
      simp only [Bool.false_eq_true, if_false, List.append_nil]
      obtain ⟨q, c, rfl⟩ : ∃ q c, x = q ++ [c] := ⟨_, _, (List.dropLast_concat_getLast hx).symm⟩
      have := hn c (by simp)
      rw [show slashed r ++ 47 :: (q ++ [c]) = (slashed r ++ 47 :: q) ++ [c] by simp, List.getLast?_append]
      simpa using this
theorem build_more {kept : List (List UInt8)} {x : List UInt8} : build (kept ++ [x]) false = build kept true ++ x := by
  rw [build_eq, build_eq]
  rw [if_neg (by simp)]
  have e : slashed (kept ++ [x]) = slashed kept ++ 47 :: x := by unfold slashed; rw [List.flatMap_append]; simp
  rw [e]
  by_cases h : kept = []
  · subst h; simp [slashed]
  · rw [if_neg h]; simp

theorem fix_lower {l : List UInt8} (h : ∀ c ∈ l, 97 ≤ (c.toNat : Int) ∧ (c.toNat : Int) ≤ 122) : Fix l ∧ ∀ c ∈ l, c ≠ 47 := by
  induction l with
  | nil => exact ⟨Fix.nil, by simp⟩
  | cons c r ih =>
    obtain ⟨h1, h2⟩ := ih (fun x hx => h x (by simp [hx]))
    have hc := h c (by simp)
    have c47 : c ≠ 47 := by rintro rfl; revert hc; decide
    have c37 : c ≠ 37 := by rintro rfl; revert hc; decide
    have hb : badU c = false := by simp [badU]; omega
    refine ⟨Fix.cons hb c37 h1, fun x hx => ?_⟩
    rcases List.mem_cons.1 hx with rfl | hx
    · exact c47
    · exact h2 x hx

/-- The three steps of PathSteps. -/
theorem steps {l p x : List UInt8} (h : normal l = some p) (hx : ∀ c ∈ x, 97 ≤ (c.toNat : Int) ∧ (c.toNat : Int) ≤ 122) :
    ∃ want, ((p.getLast? = some 47 ∧ want = p) ∨ (p.getLast? ≠ some 47 ∧ want = p ++ [47])) ∧ p.length ≤ l.length + 1 ∧ 0 < p.length ∧
      normal (p ++ ([47, 120] ++ x ++ [47, 46, 46])) = some want ∧ normal (p ++ [47, 46]) = some want ∧ normal (p ++ ([47, 47, 37, 50, 101, 47, 120] ++ x)) = some (want ++ 120 :: x) := by
  obtain ⟨kept, op, rfl, hk, hl⟩ := normal_form h
  obtain ⟨fx, nx⟩ := fix_lower hx
  have fxx : Fix (120 :: x) := Fix.cons (by decide) (by decide) fx
  have nxx : ∀ c ∈ 120 :: x, c ≠ (47 : UInt8) := fun c hc => by
    rcases List.mem_cons.1 hc with rfl | hc
    · decide
    · exact nx c hc
  have dxx : dots (120 :: x) = false := by
    simp [dots]
  refine ⟨build kept true, ?_, ?_, ?_, ?_, ?_, ?_⟩
  · rcases build_last op hk with ⟨h1, h2⟩ | ⟨h1, h2⟩
    · exact .inl ⟨h1, h2⟩
    · exact .inr ⟨h1, h2⟩
  · rw [build_eq]
    split
    · simp
    · rw [List.length_append]; split <;> simp <;> omega
  · obtain ⟨tl, e, _⟩ := nf_parts op hk
    rw [e]; simp
  · have e : build kept op ++ ([47, 120] ++ x ++ [47, 46, 46]) = build kept op ++ 47 :: (120 :: x ++ 47 :: [46, 46]) := by simp
    have hp : pieces 47 (120 :: x ++ 47 :: [46, 46]) = [120 :: x, [46, 46]] := by rw [pieces_at _ nxx]; rfl
    rw [e, normal_step (y' := 120 :: x ++ 47 :: [46, 46]) hk (fxx.append (show Fix (47 :: [46, 46]) by unfold Fix; decide +kernel)) (kept2 := kept)]
    · rw [hp]; rfl
    · rw [hp]
      simp only [normK]
      rw [if_neg (by simp), if_neg (by rw [dxx]; simp), if_pos trivial, if_neg (by simp)]
      simp
  · rw [normal_step (y := [46]) (y' := [46]) hk (by decide +kernel) (kept2 := kept)]
    · rfl
    · simp [pieces, normK, dots]
  · have e : build kept op ++ ([47, 47, 37, 50, 101, 47, 120] ++ x) = build kept op ++ 47 :: ([47, 37, 50, 101, 47] ++ 120 :: x) := by simp
    have hp : pieces 47 ([47, 46, 47] ++ 120 :: x) = [[], [46], 120 :: x] := by
      rw [show [47, 46, 47] ++ 120 :: x = [] ++ 47 :: ([46] ++ 47 :: (120 :: x)) from rfl, pieces_slash, pieces_slash, pieces_no nxx]; rfl
    rw [e, normal_step (y' := [47, 46, 47] ++ 120 :: x) hk (unesc_append (show unesc [47, 37, 50, 101, 47] = some [47, 46, 47] by decide +kernel) fxx) (kept2 := kept ++ [120 :: x])]
    · rw [hp]
      have : (([[], [46], 120 :: x] : List (List UInt8)).getLast?.map dots).getD false = false := by simpa using dxx
      rw [this, build_more]
    · rw [hp]
      simp only [normK]
      rw [if_neg (by decide), if_pos (by decide), if_neg (by decide), if_pos (by decide), if_neg (by simp), if_neg (by rw [dxx]; simp)]

/-- Every escape in a fixed text is of a byte that is not plain. -/
theorem Fix.at_escape {l : List UInt8} (h : Fix l) : ∀ k (hk : k < l.length), l[k] = 37 → ∃ n, escB (l.drop k) = (n, true) ∧ plainB n = false := by
  revert h
  apply Fix.ind (P := fun l => ∀ k (hk : k < l.length), l[k] = 37 → ∃ n, escB (l.drop k) = (n, true) ∧ plainB n = false)
  · intro k hk; simp at hk
  · intro c r hr ih hb hc k hk h37
    cases k with
    | zero => exact absurd h37 hc
    | succ k => exact ih k (by simpa using hk) (by simpa using h37)
  · intro a b n r hr ih hp hn he k hk h37
    obtain ⟨_, _, ha, hb⟩ := pair_hex hp
    match k with
    | 0 => exact ⟨n, by simp [escB, hp], hn⟩
    | 1 => exact absurd h37 ha
    | 2 => exact absurd h37 hb
    | k + 3 => exact ih k (by simpa using hk) (by simpa using h37)
end Go.Proofs.YtjbmipbjlhcooaaDoor
