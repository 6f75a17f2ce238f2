/- The texts PathN, TgtA in one. -/
import Derived.Test.YtgmjkkiahanekaaGreatDoorM8
import Derived.Test.YtgmjkkiahanekaaGreatDoorM3
import Derived.Lib.IndexMore
import Derived.Lib.IndexAny
/- Plain words: a normal form is its own normal form; what it holds; steps behind it. No program in sight. -/
set_option linter.unusedVariables false
set_option linter.unusedSimpArgs false
namespace Go.Proofs.YtgmjkkiahanekaaGreatDoor
open Go.RowKit Lex

def Fix (l : List UInt8) : Prop := unesc l = some l
theorem Fix.nil : Fix [] := rfl
theorem Fix.append {a b : List UInt8} (ha : Fix a) (hb : Fix b) : Fix (a ++ b) := unesc_append ha hb
theorem Fix.one {c : UInt8} (h : badU c = false) (h' : c ≠ 37) : Fix [c] := unesc_single h h'
theorem Fix.cons {c : UInt8} {l : List UInt8} (h : badU c = false) (h' : c ≠ 37) (hl : Fix l) : Fix (c :: l) := (Fix.one h h').append hl
theorem Fix.enc (n : UInt8) : Fix (encU n) := encU_fixed n

/-- A fixed text, taken apart. -/
theorem Fix.plain {c : UInt8} {r : List UInt8} (h : Fix (c :: r)) (hc : c ≠ 37) : badU c = false ∧ Fix r := by
  unfold Fix unesc at h
  cases hb : badU c with
  | true => rw [walkE_bad hb] at h; cases h
  | false =>
    rw [walkE_plain hb hc] at h
    cases hr : walkE badU encU r with
    | none => rw [hr] at h; cases h
    | some q => rw [hr] at h; simp at h; subst h; exact ⟨rfl, hr⟩
theorem pair_hex {a b n : UInt8} (h : pair a b = some n) : a ≠ 47 ∧ b ≠ 47 ∧ a ≠ 37 ∧ b ≠ 37 := by
  unfold pair at h
  split at h
  · rename_i hw
    obtain ⟨h1, h2⟩ := hw
    exact ⟨by rintro rfl; revert h1; decide, by rintro rfl; revert h2; decide, by rintro rfl; revert h1; decide, by rintro rfl; revert h2; decide⟩
  · cases h
theorem Fix.esc {a b : UInt8} {r : List UInt8} (h : Fix (37 :: a :: b :: r)) : ∃ n, pair a b = some n ∧ plainB n = false ∧ encU n = [37, a, b] ∧ Fix r := by
  unfold Fix unesc at h
  cases hp : pair a b with
  | none => rw [walkE_none hp] at h; cases h
  | some n =>
    rw [walkE_some (by decide) hp] at h
    cases hr : walkE badU encU r with
    | none => rw [hr] at h; cases h
    | some q =>
      rw [hr] at h; simp at h
      cases hn : plainB n with
      | true =>
        rw [show encU n = [n] from by unfold encU; rw [hn]; rfl] at h
        simp at h
        rw [h.1] at hn
        exact absurd hn (by decide)
      | false =>
        have he : encU n = [37, large (n.toNat / 16), large (n.toNat % 16)] := by unfold encU; rw [hn]; rfl
        rw [he] at h
        simp at h
        obtain ⟨h1, h2, rfl⟩ := h
        exact ⟨n, rfl, hn, by rw [he, h1, h2], hr⟩
theorem Fix.short {r : List UInt8} (h : Fix (37 :: r)) : 2 ≤ r.length := by
  by_cases hl : r.length < 2
  · unfold Fix unesc at h; rw [walkE_short hl] at h; cases h
  · omega

/-- Induction over a fixed text. -/
theorem Fix.ind {P : List UInt8 → Prop} (h0 : P []) (h1 : ∀ c r, Fix r → P r → badU c = false → c ≠ 37 → P (c :: r))
    (h2 : ∀ a b n r, Fix r → P r → pair a b = some n → plainB n = false → encU n = [37, a, b] → P (37 :: a :: b :: r)) : ∀ l, Fix l → P l := by
  intro l
  induction l using walkE_ind with
  | h0 => intro _; exact h0
  | h1 c r ih hc => intro h; obtain ⟨hb, hr⟩ := h.plain hc; exact h1 c r hr (ih hr) hb hc
  | h2 a b r ih => intro h; obtain ⟨n, e1, e2, e3, e4⟩ := h.esc; exact h2 a b n r e4 (ih e4) e1 e2 e3
  | h3 r hr => intro h; have := h.short; omega

theorem pieces_cons_ne {c b : UInt8} {l : List UInt8} (h : b ≠ c) : ∃ p ps, pieces c l = p :: ps ∧ pieces c (b :: l) = (b :: p) :: ps := by
  cases hq : pieces c l with
  | nil => exact absurd hq (pieces_ne c l)
  | cons p ps => exact ⟨p, ps, rfl, by simp only [pieces]; rw [if_neg h, hq]⟩
theorem Fix.parts {l : List UInt8} (h : Fix l) : ∀ x ∈ pieces 47 l, Fix x := by
  revert h
  apply Fix.ind (P := fun l => ∀ x ∈ pieces 47 l, Fix x)
  · intro x hx; simp [pieces] at hx; subst hx; exact Fix.nil
  · intro c r hr ih hb hc x hx
    by_cases h47 : c = 47
    · subst h47
      simp [pieces] at hx
      rcases hx with rfl | hx
      · exact Fix.nil
      · exact ih x hx
    · obtain ⟨p, ps, e1, e2⟩ := pieces_cons_ne (l := r) h47
      rw [e2] at hx
      rw [e1] at ih
      rcases List.mem_cons.1 hx with rfl | hx
      · exact Fix.cons hb hc (ih p (by simp))
      · exact ih x (by simp [hx])
  · intro a b n r hr ih hp hn he x hx
    obtain ⟨ha, hb, _, _⟩ := pair_hex hp
    obtain ⟨p1, ps1, e1, e2⟩ := pieces_cons_ne (l := r) hb
    obtain ⟨p2, ps2, e3, e4⟩ := pieces_cons_ne (l := b :: r) ha
    obtain ⟨p3, ps3, e5, e6⟩ := pieces_cons_ne (l := a :: b :: r) (show (37 : UInt8) ≠ 47 by decide)
    rw [e6] at hx
    rw [e4] at e5
    rw [e2] at e3
    injection e5 with e5 e5'; injection e3 with e3 e3'
    subst e5; subst e5'; subst e3; subst e3'
    rw [e1] at ih
    rcases List.mem_cons.1 hx with rfl | hx
    · have := (Fix.enc n).append (ih p1 (by simp)); rw [he] at this; exact this
    · exact ih x (by simp [hx])
theorem Fix.join {kept : List (List UInt8)} (h : ∀ x ∈ kept, Fix x) : Fix (slashed kept) := by
  induction kept with
  | nil => exact Fix.nil
  | cons x r ih =>
    have h1 := ih (fun y hy => h y (by simp [hy]))
    have : slashed (x :: r) = 47 :: (x ++ slashed r) := by simp [slashed]
    rw [this]
    exact Fix.cons (by decide) (by decide) ((h x (by simp)).append h1)

/-! ### pieces of what is joined -/
theorem pieces_slash (a b : List UInt8) : pieces 47 (a ++ 47 :: b) = pieces 47 a ++ pieces 47 b := by
  induction a with
  | nil => simp [pieces]
  | cons c a ih =>
    by_cases h : c = 47
    · subst h; rw [List.cons_append]; simp only [pieces, if_true]; rw [ih]; rfl
    · obtain ⟨p, ps, e1, e2⟩ := pieces_cons_ne (l := a) h
      rw [List.cons_append, e2]
      simp only [pieces]
      rw [if_neg h, ih, e1]
      rfl
/-- The pieces of each piece behind a slash. -/
theorem pieces_slashed {kept : List (List UInt8)} (h : ∀ x ∈ kept, ∀ c ∈ x, c ≠ (47 : UInt8)) : pieces 47 (slashed kept) = [] :: kept := by
  induction kept with
  | nil => rfl
  | cons x r ih =>
    have h1 := ih (fun y hy => h y (by simp [hy]))
    have e : slashed (x :: r) = [] ++ 47 :: (x ++ slashed r) := by simp [slashed]
    rw [e, pieces_slash]
    have hx : ∀ c ∈ x, c ≠ 47 := h x (by simp)
    cases hr : r with
    | nil => simp [slashed, pieces, pieces_no hx]
    | cons y r' =>
      subst hr
      have e2 : x ++ slashed (y :: r') = x ++ 47 :: (y ++ slashed r') := by simp [slashed]
      have e3 : slashed (y :: r') = [] ++ 47 :: (y ++ slashed r') := by simp [slashed]
      rw [e3, pieces_slash] at h1
      rw [e2, pieces_at _ hx]
      simp [pieces] at h1 ⊢
      exact h1

theorem normK_append {kept ps kept' : List (List UInt8)} (R : List (List UInt8)) (h : normK kept ps = some kept') : normK kept (ps ++ R) = normK kept' R := by
  induction ps generalizing kept with
  | nil => simp only [normK] at h; injection h with h; subst h; rfl
  | cons x r ih =>
    rw [List.cons_append]
    simp only [normK] at h ⊢
    split at h
    · rename_i hx; rw [if_pos hx]
      split at h
      · cases h
      · rename_i hk; rw [if_neg hk]; exact ih h
    · rename_i hx; rw [if_neg hx]
      split at h
      · rename_i hd; rw [if_pos hd]; exact ih h
      · rename_i hd; rw [if_neg hd]; exact ih h
theorem normK_mem {kept ps kept' : List (List UInt8)} (h : normK kept ps = some kept') : ∀ x ∈ kept', x ∈ kept ∨ (x ∈ ps ∧ dots x = false) := by
  induction ps generalizing kept with
  | nil => simp only [normK] at h; injection h with h; subst h; intro x hx; exact .inl hx
  | cons y r ih =>
    intro x hx
    simp only [normK] at h
    split at h
    · split at h
      · cases h
      · rcases ih h x hx with h1 | ⟨h1, h2⟩
        · exact .inl (List.dropLast_subset _ h1)
        · exact .inr ⟨by simp [h1], h2⟩
    · split at h
      · rcases ih h x hx with h1 | ⟨h1, h2⟩
        · exact .inl h1
        · exact .inr ⟨by simp [h1], h2⟩
      · rename_i hd
        rcases ih h x hx with h1 | ⟨h1, h2⟩
        · rcases List.mem_append.1 h1 with h1 | h1
          · exact .inl h1
          · simp at h1; subst h1; exact .inr ⟨by simp, by simpa using hd⟩
        · exact .inr ⟨by simp [h1], h2⟩
theorem normK_length {kept ps kept' : List (List UInt8)} (h : normK kept ps = some kept') : (slashed kept').length ≤ (slashed kept).length + (slashed ps).length := by
  induction ps generalizing kept with
  | nil => simp only [normK] at h; injection h with h; subst h; simp
  | cons y r ih =>
    have e : (slashed (y :: r)).length = y.length + 1 + (slashed r).length := by simp [slashed]; omega
    have ea : (slashed (kept ++ [y])).length = (slashed kept).length + (y.length + 1) := by unfold slashed; rw [List.flatMap_append]; simp
    have ed : (slashed kept.dropLast).length ≤ (slashed kept).length := by
      cases hk : kept with
      | nil => simp
      | cons a b =>
        have : kept = kept.dropLast ++ [kept.getLast (by rw [hk]; simp)] := (List.dropLast_concat_getLast _).symm
        rw [← hk]
        conv => rhs; rw [this]
        unfold slashed; rw [List.flatMap_append, List.length_append]; omega
    simp only [normK] at h
    split at h
    · split at h
      · cases h
      · have := ih h; omega
    · split at h
      · have := ih h; omega
      · have := ih h; omega
/-- Pieces without dots are kept. -/
theorem normK_keep {kept ps : List (List UInt8)} (h : ∀ x ∈ ps, dots x = false) : normK kept ps = some (kept ++ ps) := by
  induction ps generalizing kept with
  | nil => simp [normK]
  | cons x r ih =>
    have hx := h x (by simp)
    simp only [normK]
    rw [if_neg (by intro e; rw [e] at hx; revert hx; decide), if_neg (by rw [hx]; simp), ih (fun y hy => h y (by simp [hy]))]
    simp
theorem slashed_pieces (t : List UInt8) : (slashed (pieces 47 t)).length = t.length + 1 := by
  induction t with
  | nil => rfl
  | cons c t ih =>
    by_cases h : c = 47
    · subst h
      have : pieces 47 (47 :: t) = [] :: pieces 47 t := by simp [pieces]
      rw [this]
      have e : slashed ([] :: pieces 47 t) = 47 :: slashed (pieces 47 t) := by simp [slashed]
      rw [e, List.length_cons, ih]; rfl
    · obtain ⟨p, ps, e1, e2⟩ := pieces_cons_ne (l := t) h
      rw [e2]
      rw [e1] at ih
      have e : slashed ((c :: p) :: ps) = 47 :: c :: p ++ slashed ps := by simp [slashed]
      have e' : slashed (p :: ps) = 47 :: p ++ slashed ps := by simp [slashed]
      rw [e]; rw [e'] at ih
      simp at ih ⊢; omega

/-! ### normal forms -/
/-- Pieces that a normal form may hold, but for its last. -/
structure Clean (kept : List (List UInt8)) : Prop where
  fix : ∀ x ∈ kept, Fix x
  dots : ∀ x ∈ kept, dots x = false
  no : ∀ x ∈ kept, ∀ c ∈ x, c ≠ (47 : UInt8)
theorem normal_form {l p : List UInt8} (h : normal l = some p) : ∃ kept op, p = build kept op ∧ Clean kept ∧ (slashed kept).length ≤ l.length := by
  unfold normal at h
  cases hu : unesc l with
  | none => rw [hu] at h; cases h
  | some q =>
    rw [hu] at h
    simp only at h
    by_cases h47 : q.head? = some 47
    · rw [if_pos h47] at h
      have hq := unesc_fixed hu
      have hl := unesc_length hu
      cases q with
      | nil => cases h47
      | cons a t =>
        simp at h47; subst h47
        have hf : Fix t := (Fix.plain (c := 47) hq (by decide)).2
        simp only [List.tail_cons] at h
        cases hk : normK [] (pieces 47 t) with
        | none => rw [hk] at h; cases h
        | some kept =>
          rw [hk] at h
          simp only [Option.map_some, Option.some.injEq] at h
          have hm := normK_mem hk
          have hm' : ∀ x ∈ kept, x ∈ pieces 47 t ∧ dots x = false := fun x hx => by
            rcases hm x hx with h1 | h1
            · cases h1
            · exact h1
          refine ⟨kept, _, h.symm, ⟨fun x hx => hf.parts x (hm' x hx).1, fun x hx => (hm' x hx).2, fun x hx => (pieces_mem 47 t x (hm' x hx).1).2⟩, ?_⟩
          have := normK_length hk
          rw [slashed_pieces] at this
          simp [slashed] at this hl ⊢
          omega
    · rw [if_neg h47] at h; cases h

theorem build_eq (kept : List (List UInt8)) (op : Bool) : build kept op = if kept = [] then [47] else slashed kept ++ (if op = true then [47] else []) := by
  unfold build
  by_cases h : kept = []
  · subst h; simp [Lib.join]
  · rw [if_neg h, slashed_join h]
    cases op <;> simp [h]
theorem build_open (kept : List (List UInt8)) (op : Bool) : build kept (op || kept.isEmpty) = build kept op := by
  rw [build_eq, build_eq]
  by_cases h : kept = []
  · rw [if_pos h, if_pos h]
  · have : kept.isEmpty = false := by cases kept with
      | nil => exact absurd rfl h
      | cons a b => rfl
    rw [this, Bool.or_false]

/-- The pieces of a normal form. -/
def good : List (List UInt8) → Prop
  | [] => True
  | [x] => x ≠ [46] ∧ x ≠ [46, 46]
  | x :: y :: r => dots x = false ∧ good (y :: r)
theorem good_one {x : List UInt8} (h : dots x = false) : x ≠ [46] ∧ x ≠ [46, 46] := ⟨by rintro rfl; revert h; decide, by rintro rfl; revert h; decide⟩
theorem good_keep {kept : List (List UInt8)} (h : ∀ x ∈ kept, dots x = false) : good kept ∧ good (kept ++ [[]]) := by
  induction kept with
  | nil => exact ⟨trivial, by decide, by decide⟩
  | cons x r ih =>
    obtain ⟨h1, h2⟩ := ih (fun y hy => h y (by simp [hy]))
    have hx := h x (by simp)
    cases r with
    | nil => exact ⟨good_one hx, hx, h2⟩
    | cons y r => exact ⟨⟨hx, h1⟩, hx, h2⟩

theorem nf_parts {kept : List (List UInt8)} (op : Bool) (hk : Clean kept) : ∃ tl, build kept op = 47 :: tl ∧ Fix tl ∧ normK [] (pieces 47 tl) = some kept ∧
    ((pieces 47 tl).getLast?.map dots).getD false = (op || kept.isEmpty) ∧ good (pieces 47 tl) := by
  rw [build_eq]
  by_cases h : kept = []
  · subst h
    refine ⟨[], by simp, Fix.nil, by decide, by simp [pieces, dots], by simp [pieces, good]⟩
  · rw [if_neg h, slashed_join h]
    have hp := pieces_slashed hk.no
    rw [slashed_join h] at hp
    have hp' : pieces 47 (Lib.join kept [47]) = kept := by
      simp only [pieces, if_true] at hp
      injection hp
    have hf : Fix (Lib.join kept [47]) := by
      have := Fix.join hk.fix
      rw [slashed_join h] at this
      exact (this.plain (by decide)).2
    have hi : kept.isEmpty = false := by cases kept with
      | nil => exact absurd rfl h
      | cons a b => rfl
    rw [hi, Bool.or_false]
    obtain ⟨g1, g2⟩ := good_keep hk.dots
    cases op with
    | false =>
      refine ⟨Lib.join kept [47], by simp, hf, by rw [hp', normK_keep hk.dots]; rfl, ?_, by rw [hp']; exact g1⟩
      rw [hp']
      cases hl : kept.getLast? with
      | none => rfl
      | some x => exact hk.dots x (List.mem_of_getLast? hl)
    | true =>
      have hp2 : pieces 47 (Lib.join kept [47] ++ [47]) = kept ++ [[]] := by rw [pieces_slash, hp']; rfl
      refine ⟨Lib.join kept [47] ++ [47], by simp, hf.append (Fix.one (by decide) (by decide)), ?_, ?_, by rw [hp2]; exact g2⟩
      · rw [hp2, normK_append [[]] (normK_keep (kept := []) hk.dots)]
        simp [normK, dots]
      · rw [hp2]; simp [dots]

theorem normal_fixed {l p : List UInt8} (h : normal l = some p) : normal p = some p := by
  obtain ⟨kept, op, rfl, hk, _⟩ := normal_form h
  obtain ⟨tl, e1, e2, e3, e4, _⟩ := nf_parts op hk
  have hf : Fix (build kept op) := by rw [e1]; exact Fix.cons (by decide) (by decide) e2
  have e : unesc (build kept op) = some (47 :: tl) := by rw [← e1]; exact hf
  conv => lhs; unfold normal
  rw [e]
  simp only [List.head?_cons, if_true, List.tail_cons, e3, e4, Option.map_some]
  rw [build_open]

/-- A step behind a normal form. -/
theorem normal_step {kept kept2 : List (List UInt8)} {op : Bool} {y y' : List UInt8} (hk : Clean kept) (hy : unesc y = some y') (hn : normK kept (pieces 47 y') = some kept2) :
    normal (build kept op ++ 47 :: y) = some (build kept2 (((pieces 47 y').getLast?.map dots).getD false)) := by
  obtain ⟨tl, e1, e2, e3, e4, _⟩ := nf_parts op hk
  rw [e1]
  have e : unesc (47 :: tl ++ 47 :: y) = some (47 :: (tl ++ 47 :: y')) := by
    have h1 : Fix (47 :: tl) := Fix.cons (by decide) (by decide) e2
    have h2 : unesc (47 :: y) = some (47 :: y') := unesc_append (a := [47]) (Fix.one (by decide) (by decide)) hy
    exact unesc_append h1 h2
  conv => lhs; unfold normal
  rw [e]
  simp only [List.head?_cons, if_true, List.tail_cons]
  rw [pieces_slash, normK_append _ e3, hn]
  have hl : (pieces 47 tl ++ pieces 47 y').getLast? = (pieces 47 y').getLast? := by
    rw [List.getLast?_append]
    cases hq : (pieces 47 y').getLast? with
    | none => exact absurd (List.getLast?_eq_none_iff.1 hq) (pieces_ne 47 y')
    | some x => rfl
  rw [hl]; rfl

/-- What the last byte of a normal form tells. -/
theorem build_last {kept : List (List UInt8)} (op : Bool) (hk : Clean kept) :
    ((build kept op).getLast? = some 47 ∧ build kept true = build kept op) ∨ ((build kept op).getLast? ≠ some 47 ∧ build kept true = build kept op ++ [47]) := by
  rw [build_eq, build_eq]
  by_cases h : kept = []
  · left; rw [if_pos h, if_pos h]; exact ⟨rfl, rfl⟩
  · rw [if_neg h, if_neg h]
    cases op with
    | true => left; exact ⟨by simp, rfl⟩
    | false =>
      right
      refine ⟨?_, by simp⟩
      obtain ⟨r, x, rfl⟩ : ∃ r x, kept = r ++ [x] := ⟨_, _, (List.dropLast_concat_getLast h).symm⟩
      have hx : x ≠ [] := by intro e; have := hk.dots x (by simp); rw [e] at this; revert this; decide
      have hn := hk.no x (by simp)
      have e : slashed (r ++ [x]) = slashed r ++ 47 :: x := by unfold slashed; rw [List.flatMap_append]; simp
      rw [e]
      simp only [Bool.false_eq_true, if_false, List.append_nil]
      obtain ⟨q, c, rfl⟩ : ∃ q c, x = q ++ [c] := ⟨_, _, (List.dropLast_concat_getLast hx).symm⟩
      have := hn c (by simp)
      rw [show slashed r ++ 47 :: (q ++ [c]) = (slashed r ++ 47 :: q) ++ [c] by simp, List.getLast?_append]
      simpa using this
theorem build_more {kept : List (List UInt8)} {x : List UInt8} : build (kept ++ [x]) false = build kept true ++ x := by
  rw [build_eq, build_eq]
  rw [if_neg (by simp)]
  have e : slashed (kept ++ [x]) = slashed kept ++ 47 :: x := by unfold slashed; rw [List.flatMap_append]; simp
  rw [e]
  by_cases h : kept = []
  · subst h; simp [slashed]
  · rw [if_neg h]; simp

theorem fix_lower {l : List UInt8} (h : ∀ c ∈ l, 97 ≤ (c.toNat : Int) ∧ (c.toNat : Int) ≤ 122) : Fix l ∧ ∀ c ∈ l, c ≠ 47 := by
  induction l with
  | nil => exact ⟨Fix.nil, by simp⟩
  | cons c r ih =>
    obtain ⟨h1, h2⟩ := ih (fun x hx => h x (by simp [hx]))
    have hc := h c (by simp)
    have c47 : c ≠ 47 := by rintro rfl; revert hc; decide
    have c37 : c ≠ 37 := by rintro rfl; revert hc; decide
    have hb : badU c = false := by simp [badU]; omega
    refine ⟨Fix.cons hb c37 h1, fun x hx => ?_⟩
    rcases List.mem_cons.1 hx with rfl | hx
    · exact c47
    · exact h2 x hx

/-- The three steps of PathSteps. -/
theorem steps {l p x : List UInt8} (h : normal l = some p) (hx : ∀ c ∈ x, 97 ≤ (c.toNat : Int) ∧ (c.toNat : Int) ≤ 122) :
    ∃ want, ((p.getLast? = some 47 ∧ want = p) ∨ (p.getLast? ≠ some 47 ∧ want = p ++ [47])) ∧ p.length ≤ l.length + 1 ∧ 0 < p.length ∧
      normal (p ++ ([47, 120] ++ x ++ [47, 46, 46])) = some want ∧ normal (p ++ [47, 46]) = some want ∧ normal (p ++ ([47, 47, 37, 50, 101, 47, 120] ++ x)) = some (want ++ 120 :: x) := by
  obtain ⟨kept, op, rfl, hk, hl⟩ := normal_form h
  obtain ⟨fx, nx⟩ := fix_lower hx
  have fxx : Fix (120 :: x) := Fix.cons (by decide) (by decide) fx
  have nxx : ∀ c ∈ 120 :: x, c ≠ (47 : UInt8) := fun c hc => by
    rcases List.mem_cons.1 hc with rfl | hc
    · decide
    · exact nx c hc
  have dxx : dots (120 :: x) = false := by
    simp [dots]
  refine ⟨build kept true, ?_, ?_, ?_, ?_, ?_, ?_⟩
  · rcases build_last op hk with ⟨h1, h2⟩ | ⟨h1, h2⟩
    · exact .inl ⟨h1, h2⟩
    · exact .inr ⟨h1, h2⟩
  · rw [build_eq]
    split
    · simp
    · rw [List.length_append]; split <;> simp <;> omega
  · obtain ⟨tl, e, _⟩ := nf_parts op hk
    rw [e]; simp
  · have e : build kept op ++ ([47, 120] ++ x ++ [47, 46, 46]) = build kept op ++ 47 :: (120 :: x ++ 47 :: [46, 46]) := by simp
    have hp : pieces 47 (120 :: x ++ 47 :: [46, 46]) = [120 :: x, [46, 46]] := by rw [pieces_at _ nxx]; rfl
    rw [e, normal_step (y' := 120 :: x ++ 47 :: [46, 46]) hk (fxx.append (show Fix (47 :: [46, 46]) by unfold Fix; decide +kernel)) (kept2 := kept)]
    · rw [hp]; rfl
    · rw [hp]
      simp only [normK]
      rw [if_neg (by simp), if_neg (by rw [dxx]; simp), if_pos trivial, if_neg (by simp)]
      simp
  · rw [normal_step (y := [46]) (y' := [46]) hk (by decide +kernel) (kept2 := kept)]
    · rfl
    · simp [pieces, normK, dots]
  · have e : build kept op ++ ([47, 47, 37, 50, 101, 47, 120] ++ x) = build kept op ++ 47 :: ([47, 37, 50, 101, 47] ++ 120 :: x) := by simp
    have hp : pieces 47 ([47, 46, 47] ++ 120 :: x) = [[], [46], 120 :: x] := by
      rw [show [47, 46, 47] ++ 120 :: x = [] ++ 47 :: ([46] ++ 47 :: (120 :: x)) from rfl, pieces_slash, pieces_slash, pieces_no nxx]; rfl
    rw [e, normal_step (y' := [47, 46, 47] ++ 120 :: x) hk (unesc_append (show unesc [47, 37, 50, 101, 47] = some [47, 46, 47] by decide +kernel) fxx) (kept2 := kept ++ [120 :: x])]
    · rw [hp]
      have : (([[], [46], 120 :: x] : List (List UInt8)).getLast?.map dots).getD false = false := by simpa using dxx
      rw [this, build_more]
    · rw [hp]
      simp only [normK]
      rw [if_neg (by decide), if_pos (by decide), if_neg (by decide), if_pos (by decide), if_neg (by simp), if_neg (by rw [dxx]; simp)]

/-- Every escape in a fixed text is of a byte that is not plain. -/
theorem Fix.at_escape {l : List UInt8} (h : Fix l) : ∀ k (hk : k < l.length), l[k] = 37 → ∃ n, escB (l.drop k) = (n, true) ∧ plainB n = false := by
  revert h
  apply Fix.ind (P := fun l => ∀ k (hk : k < l.length), l[k] = 37 → ∃ n, escB (l.drop k) = (n, true) ∧ plainB n = false)
  · intro k hk; simp at hk
  · intro c r hr ih hb hc k hk h37
    cases k with
    | zero => exact absurd h37 hc
    | succ k => exact ih k (by simpa using hk) (by simpa using h37)
  · intro a b n r hr ih hp hn he k hk h37
    obtain ⟨_, _, ha, hb⟩ := pair_hex hp
    match k with
    | 0 => exact ⟨n, by simp [escB, hp], hn⟩
    | 1 => exact absurd h37 ha
    | 2 => exact absurd h37 hb
    | k + 3 => exact ih k (by simpa using hk) (by simpa using h37)
end Go.Proofs.YtgmjkkiahanekaaGreatDoor

/- Plain words of layer 6 over lists of bytes: hosts, authorities, targets, and what the laws ask of them; no program in sight. -/
set_option linter.unusedVariables false
set_option linter.unusedSimpArgs false
namespace Go.Proofs.YtgmjkkiahanekaaGreatDoor
open Lex

def alnumI (n : Int) : Bool := decide (97 ≤ n) && decide (n ≤ 122) || decide (48 ≤ n) && decide (n ≤ 57)
def alnumB (c : UInt8) : Bool := alnumI c.toNat
def hostC (c : UInt8) : Bool := alnumB c || decide ((c.toNat : Int) = 45) || decide ((c.toNat : Int) = 46)
/-- Two dots in a row. -/
def dotted : List UInt8 → Bool
  | a :: b :: r => (decide ((a.toNat : Int) = 46) && decide ((b.toNat : Int) = 46)) || dotted (b :: r)
  | _ => false
def hostB (l : List UInt8) : Bool := decide (l ≠ []) && decide (l.length ≤ 64) && ((l.head?.map alnumB).getD false) && ((l.getLast?.map alnumB).getD false) && !dotted l && l.all hostC

theorem prefix_dots (a : UInt8) (r : List UInt8) : ([46, 46] : List UInt8).isPrefixOf (a :: r) = (decide ((a.toNat : Int) = 46) && ((r.head?.map fun b => decide ((b.toNat : Int) = 46)).getD false)) := by
  have h46 : ∀ c : UInt8, ((46 : UInt8) == c) = decide ((c.toNat : Int) = 46) := by
    intro c; rw [Bool.eq_iff_iff, beq_iff_eq, decide_eq_true_eq, ← UInt8.toNat_inj]; simp only [UInt8.reduceToNat]; omega
  cases r with
  | nil => simp [List.isPrefixOf]
  | cons b r => simp [List.isPrefixOf, h46]
theorem contains_dots (l : List UInt8) : Lib.contains l [46, 46] = dotted l := by
  unfold Lib.contains
  induction l with
  | nil => decide
  | cons a r ih =>
    have hge := Lib.index_ge r [46, 46]
    cases r with
    | nil => unfold Lib.index; rw [prefix_dots]; simp [dotted, Lib.index]
    | cons b r =>
      unfold Lib.index
      rw [show ([46, 46] : List UInt8).isPrefixOf (a :: b :: r) = (decide ((a.toNat : Int) = 46) && decide ((b.toNat : Int) = 46)) from prefix_dots a (b :: r)]
      unfold dotted
      by_cases h : (decide ((a.toNat : Int) = 46) && decide ((b.toNat : Int) = 46)) = true
      · rw [if_pos h, h]; rfl
      · rw [if_neg h, Bool.eq_false_iff.2 h, Bool.false_or, ← ih]
        by_cases h1 : Lib.index (b :: r) [46, 46] = -1
        · rw [if_pos (by rw [h1]; rfl), h1]
        · rw [if_neg (by simpa using h1)]
          rw [Bool.eq_iff_iff, decide_eq_true_eq, decide_eq_true_eq]; omega

/-- What an authority is: the host and the port. -/
def authB (l : List UInt8) : Option (List UInt8 × Int) :=
  if hostB (lower (cutB l 58).1) = false then none
  else if (cutB l 58).2.2 = false then some (lower (cutB l 58).1, 0)
  else if (decimal (cutB l 58).2.1 5).2 = true ∧ 1 ≤ (decimal (cutB l 58).2.1 5).1 ∧ (decimal (cutB l 58).2.1 5).1 ≤ 65535 then some (lower (cutB l 58).1, (decimal (cutB l 58).2.1 5).1) else none

structure Tg where
  form : Int := 0
  host : List UInt8 := []
  port : Int := 0
  path : List UInt8 := []
  query : List UInt8 := []
  has : Bool := false
def badQ (c : UInt8) : Bool := decide ((c.toNat : Int) < 33) || decide (126 < (c.toNat : Int)) || decide ((c.toNat : Int) = 35)
/-- A target, or the error's number. -/
def localT (t : Tg) (s : List UInt8) : Tg × Int :=
  match normal (cutB s 63).1 with
  | none => ({}, 50)
  | some p => if (cutB s 63).2.1.any badQ then ({}, 60) else ({ t with path := p, query := (cutB s 63).2.1, has := (cutB s 63).2.2 }, 0)
def httpL : List UInt8 := [104, 116, 116, 112, 58, 47, 47]
def connectL : List UInt8 := [67, 79, 78, 78, 69, 67, 84]
def optionsL : List UInt8 := [79, 80, 84, 73, 79, 78, 83]
/-- The place of the first slash or question mark, or the length. -/
def endT (s : List UInt8) : Nat := if Lib.indexAny s [47, 63] < 0 then s.length else (Lib.indexAny s [47, 63]).toNat
def absT (s : List UInt8) : Tg × Int :=
  match authB (s.take (endT s)) with
  | none => ({}, 61)
  | some (h, p) => localT { form := 2, host := h, port := p } (if (s.drop (endT s)).head? = some 47 then s.drop (endT s) else 47 :: s.drop (endT s))
def parseT (method s : List UInt8) : Tg × Int :=
  if method = connectL then (match authB s with
    | none => ({}, 60)
    | some (h, p) => if p = 0 then ({}, 60) else ({ form := 3, host := h, port := p }, 0))
  else if s = [42] ∧ method = optionsL then ({ form := 4 }, 0)
  else if s.head? = some 47 then localT { form := 1 } s
  else if 7 ≤ s.length ∧ alike (s.take 7) httpL = true then absT (s.drop 7)
  else ({}, 60)
def originT (t : Tg) : List UInt8 := if t.form = 4 then [42] else if t.form ≠ 1 ∧ t.form ≠ 2 then [] else if t.has = true then t.path ++ 63 :: t.query else t.path

/-! ### cuts -/
theorem indexByte_at {l r : List UInt8} {c : UInt8} (h : ∀ x ∈ l, x ≠ c) : Lib.indexByte (l ++ c :: r) c = l.length := by
  induction l with
  | nil => simp [Lib.indexByte]
  | cons a l ih =>
    have ha : (a == c) = false := by simpa using h a (by simp)
    have := ih (fun x hx => h x (by simp [hx]))
    simp only [List.cons_append, Lib.indexByte, ha, this]
    rw [if_neg (by simp), if_neg (by simp; try omega)]; simp
theorem indexByte_no {l : List UInt8} {c : UInt8} (h : ∀ x ∈ l, x ≠ c) : Lib.indexByte l c = -1 := by
  induction l with
  | nil => rfl
  | cons a l ih =>
    have ha : (a == c) = false := by simpa using h a (by simp)
    simp only [Lib.indexByte, ha, ih (fun x hx => h x (by simp [hx]))]; rfl
theorem cutB_at {l r : List UInt8} {c : UInt8} (h : ∀ x ∈ l, x ≠ c) : cutB (l ++ c :: r) c = (l, r, true) := by
  unfold cutB
  rw [indexByte_at h, if_pos (by omega)]
  simp
theorem cutB_no {l : List UInt8} {c : UInt8} (h : ∀ x ∈ l, x ≠ c) : cutB l c = (l, [], false) := by
  unfold cutB
  rw [indexByte_no h, if_neg (by omega)]
theorem cutB_cases (l : List UInt8) (c : UInt8) : (∃ a r, l = a ++ c :: r ∧ (∀ x ∈ a, x ≠ c) ∧ cutB l c = (a, r, true)) ∨ ((∀ x ∈ l, x ≠ c) ∧ cutB l c = (l, [], false)) := by
  induction l with
  | nil => right; exact ⟨by simp, rfl⟩
  | cons b l ih =>
    by_cases hb : b = c
    · subst hb
      left; exact ⟨[], l, rfl, by simp, cutB_at (l := []) (by simp)⟩
    · rcases ih with ⟨a, r, rfl, h1, _⟩ | ⟨h1, _⟩
      · left
        have h2 : ∀ x ∈ b :: a, x ≠ c := by
          intro x hx
          rcases List.mem_cons.1 hx with rfl | hx
          · exact hb
          · exact h1 x hx
        exact ⟨b :: a, r, rfl, h2, cutB_at h2⟩
      · right
        have h2 : ∀ x ∈ b :: l, x ≠ c := by
          intro x hx
          rcases List.mem_cons.1 hx with rfl | hx
          · exact hb
          · exact h1 x hx
        exact ⟨h2, cutB_no h2⟩

/-! ### hosts and authorities -/
theorem hostC_no58 {c : UInt8} (h : hostC c = true) : c ≠ 58 ∧ lowB c = c := by
  have key : ∀ c : Fin 256, hostC (UInt8.ofNat c.val) = true → (UInt8.ofNat c.val) ≠ 58 ∧ lowB (UInt8.ofNat c.val) = UInt8.ofNat c.val := by decide +kernel
  have := key ⟨c.toNat, c.toNat_lt⟩
  simpa using this (by simpa using h)
theorem hostB_parts {l : List UInt8} (h : hostB l = true) : (∀ c ∈ l, hostC c = true) ∧ l.length ≤ 64 := by
  unfold hostB at h
  simp only [Bool.and_eq_true, decide_eq_true_eq] at h
  exact ⟨fun c hc => List.all_eq_true.1 h.2 c hc, h.1.1.1.1.2⟩
theorem hostB_lower {l : List UInt8} (h : hostB l = true) : lower l = l := by
  have h1 := (hostB_parts h).1
  clear h
  induction l with
  | nil => rfl
  | cons a l ih =>
    show lowB a :: lower l = _
    rw [(hostC_no58 (h1 a (by simp))).2, ih (fun c hc => h1 c (by simp [hc]))]
theorem hostB_no58 {l : List UInt8} (h : hostB l = true) : ∀ c ∈ l, c ≠ 58 := fun c hc => (hostC_no58 ((hostB_parts h).1 c hc)).1
theorem authB_host {l h : List UInt8} {p : Int} (hh : authB l = some (h, p)) : hostB h = true ∧ 0 ≤ p ∧ p ≤ 65535 ∧ lower h = h := by
  unfold authB at hh
  split at hh
  · cases hh
  · rename_i h1
    have h1 : hostB (lower (cutB l 58).1) = true := by simpa using h1
    split at hh
    · injection hh with hh; injection hh with e1 e2
      subst e1 e2
      exact ⟨h1, by omega, by omega, hostB_lower h1⟩
    · split at hh
      · rename_i h2
        injection hh with hh; injection hh with e1 e2
        subst e1 e2
        exact ⟨h1, by omega, by omega, hostB_lower h1⟩
      · cases hh
theorem authB_self {h : List UInt8} (hh : hostB h = true) : authB h = some (h, 0) := by
  unfold authB
  rw [cutB_no (hostB_no58 hh)]
  simp only [hostB_lower hh, hh]
  simp
theorem authB_80 {h : List UInt8} (hh : hostB h = true) : authB (h ++ [58, 48, 48, 48, 56, 48]) = some (h, 80) := by
  unfold authB
  rw [cutB_at (hostB_no58 hh)]
  simp only [hostB_lower hh, hh]
  rw [if_neg (by simp), if_neg (by simp)]
  rw [show decimal [48, 48, 48, 56, 48] 5 = (80, true) from by decide]
  simp

theorem lowB_58 (c : UInt8) : lowB c = 58 ↔ c = 58 := by
  have key : ∀ c : Fin 256, lowB (UInt8.ofNat c.val) = 58 ↔ (UInt8.ofNat c.val) = 58 := by decide +kernel
  have := key ⟨c.toNat, c.toNat_lt⟩
  simpa using this
theorem worth_low (c : UInt8) : (worth (lowB c) < 10 ↔ worth c < 10) ∧ (worth c < 10 → worth (lowB c) = worth c) := by
  have key : ∀ c : Fin 256, (worth (lowB (UInt8.ofNat c.val)) < 10 ↔ worth (UInt8.ofNat c.val) < 10) ∧ (worth (UInt8.ofNat c.val) < 10 → worth (lowB (UInt8.ofNat c.val)) = worth (UInt8.ofNat c.val)) := by decide +kernel
  have := key ⟨c.toNat, c.toNat_lt⟩
  simpa using this
theorem num_low {l : List UInt8} (h : (l.all fun c => decide (worth c < 10)) = true) : num 10 (lower l) = num 10 l := by
  unfold num lower
  rw [List.foldl_map]
  have key : ∀ (l : List UInt8) (n : Int), (l.all fun c => decide (worth c < 10)) = true → l.foldl (fun n c => n * 10 + worth (lowB c)) n = l.foldl (fun n c => n * 10 + worth c) n := by
    intro l
    induction l with
    | nil => intros; rfl
    | cons a l ih =>
      intro n h
      simp only [List.all_cons, Bool.and_eq_true, decide_eq_true_eq] at h
      simp only [List.foldl_cons]
      rw [(worth_low a).2 h.1, ih _ h.2]
  exact key l 0 h
theorem decimal_low (l : List UInt8) (d : Int) : decimal (lower l) d = decimal l d := by
  unfold decimal number
  have ha : ((lower l).all fun c => decide (worth c < 10)) = (l.all fun c => decide (worth c < 10)) := by
    unfold lower
    rw [List.all_map]
    congr 1
    funext c
    show decide (worth (lowB c) < 10) = _
    rw [Bool.eq_iff_iff, decide_eq_true_eq, decide_eq_true_eq]; exact (worth_low c).1
  have hn : lower l = [] ↔ l = [] := by cases l <;> simp [lower]
  rw [lower_length, ha]
  by_cases hall : (l.all fun c => decide (worth c < 10)) = true
  · rw [num_low hall]
    simp only [hn]
  · rw [if_pos (.inr (.inr (Bool.eq_false_iff.2 hall))), if_pos (.inr (.inr (Bool.eq_false_iff.2 hall)))]
theorem cutB_low (l : List UInt8) : cutB (lower l) 58 = (lower (cutB l 58).1, lower (cutB l 58).2.1, (cutB l 58).2.2) := by
  have hno : ∀ a : List UInt8, (∀ x ∈ a, x ≠ 58) → ∀ x ∈ lower a, x ≠ 58 := by
    intro a ha x hx
    unfold lower at hx
    obtain ⟨y, hy, rfl⟩ := List.mem_map.1 hx
    intro e
    exact ha y hy ((lowB_58 y).1 e)
  rcases cutB_cases l 58 with ⟨a, r, rfl, h1, h2⟩ | ⟨h1, h2⟩
  · rw [h2]
    have e : lower (a ++ 58 :: r) = lower a ++ 58 :: lower r := by unfold lower; rw [List.map_append, List.map_cons]; congr 1
    rw [e, cutB_at (hno a h1)]
  · rw [h2, cutB_no (hno l h1)]; rfl
theorem authB_low (l : List UInt8) : authB (lower l) = authB l := by
  unfold authB
  rw [cutB_low]
  simp only [lower_lower, decimal_low]
end Go.Proofs.YtgmjkkiahanekaaGreatDoor

