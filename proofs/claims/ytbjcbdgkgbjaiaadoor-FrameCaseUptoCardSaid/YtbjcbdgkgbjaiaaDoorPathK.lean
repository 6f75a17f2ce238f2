/- The contract of the document's Normal, for every text up to 4 MiB; the walk over PathNormals. -/
import Derived.Test.YtbjcbdgkgbjaiaaDoorPathJ
set_option linter.unusedVariables false
set_option linter.unusedSimpArgs false
namespace Go.Proofs.YtbjcbdgkgbjaiaaDoor
open Go.RowKit Lex

/-- Between two rounds: R is what is left, last what was cut last. -/
def At (pb : ByteArray) (ps : List (List UInt8)) (f i : Nat) (R : List (List UInt8)) (last : List UInt8) : Prop :=
  (1 ≤ f ∧ f ≤ i ∧ i ≤ pb.size ∧ (∀ j (h : j < pb.size), f ≤ j → j < i → pb[j] ≠ 47) ∧ R = pieces 47 (pb.data.toList.drop f) ∧ ps.getLast? = R.getLast?) ∨ (i = pb.size + 1 ∧ R = [] ∧ ps.getLast? = some last)

theorem At.start {pb : ByteArray} {t : List UInt8} (h : pb.data.toList = 47 :: t) : At pb (pieces 47 t) 1 1 (pieces 47 t) [] := by
  have hs : pb.size = t.length + 1 := by rw [← size_list, h]; rfl
  exact .inl ⟨Nat.le_refl _, Nat.le_refl _, by omega, fun j _ _ _ => by omega, by rw [h]; rfl, rfl⟩
theorem At.next {pb : ByteArray} {ps : List (List UInt8)} {f i : Nat} {R : List (List UInt8)} {last : List UInt8} (h : At pb ps f i R last) (hi : i < pb.size) (hc : pb[i] ≠ 47) : At pb ps f (i + 1) R last := by
  rcases h with ⟨h1, h2, h3, h4, h5, h6⟩ | ⟨h, _⟩
  · refine .inl ⟨h1, by omega, by omega, fun j hj hf hlt => ?_, h5, h6⟩
    by_cases he : j = i
    · subst he; exact hc
    · exact h4 j hj hf (by omega)
  · omega
theorem At.from_le {pb : ByteArray} {ps : List (List UInt8)} {f i : Nat} {R : List (List UInt8)} {last : List UInt8} (h : At pb ps f i R last) (hi : i ≤ pb.size) : f ≤ i := by
  rcases h with ⟨_, h2, _⟩ | ⟨h, _⟩ <;> omega
theorem At.cut {pb : ByteArray} {ps : List (List UInt8)} {f i : Nat} {R : List (List UInt8)} {last : List UInt8} (h : At pb ps f i R last) (hi : i ≤ pb.size) (hc : ∀ h : i < pb.size, pb[i] = 47) :
    ∃ R', R = (pb.extract f i).data.toList :: R' ∧ At pb ps (i + 1) (i + 1) R' (pb.extract f i).data.toList := by
  rcases h with ⟨h1, h2, h3, h4, h5, h6⟩ | ⟨h, _⟩
  · have hx : (pb.extract f i).data.toList = (pb.data.toList.drop f).take (i - f) := Lib.extract_data pb f i
    have hno : ∀ x ∈ (pb.data.toList.drop f).take (i - f), x ≠ 47 := by
      intro x hx
      obtain ⟨j, hj, rfl⟩ := List.getElem_of_mem hx
      have hj1 : j < i - f := by rw [List.length_take] at hj; omega
      have hj2 : f + j < pb.size := by rw [List.length_take, List.length_drop, size_list] at hj; omega
      have := h4 (f + j) hj2 (by omega) (by omega)
      rw [List.getElem_take, List.getElem_drop]
      exact this
    rw [hx]
    by_cases hlt : i < pb.size
    · refine ⟨pieces 47 (pb.data.toList.drop (i + 1)), ?_, .inl ⟨by omega, Nat.le_refl _, by omega, fun j _ _ _ => by omega, rfl, ?_⟩⟩
      · have e : pb.data.toList.drop f = (pb.data.toList.drop f).take (i - f) ++ 47 :: pb.data.toList.drop (i + 1) := by
          have h1 : (pb.data.toList.drop f).drop (i - f) = 47 :: pb.data.toList.drop (i + 1) := by
            rw [List.drop_drop, show f + (i - f) = i by omega, drop_at pb i hlt, hc hlt]
          rw [← h1, List.take_append_drop]
        rw [h5]
        conv => lhs; rw [e]
        rw [pieces_at _ hno]
      · rw [h6, h5]
        have e : pb.data.toList.drop f = (pb.data.toList.drop f).take (i - f) ++ 47 :: pb.data.toList.drop (i + 1) := by
          have h1 : (pb.data.toList.drop f).drop (i - f) = 47 :: pb.data.toList.drop (i + 1) := by
            rw [List.drop_drop, show f + (i - f) = i by omega, drop_at pb i hlt, hc hlt]
          rw [← h1, List.take_append_drop]
        rw [e, pieces_at _ hno]
        have hne := pieces_ne 47 (pb.data.toList.drop (i + 1))
        generalize pieces 47 (pb.data.toList.drop (i + 1)) = q at *
        cases q with
        | nil => exact absurd rfl hne
        | cons a q => rfl
    · have ht : (pb.data.toList.drop f).take (i - f) = pb.data.toList.drop f := List.take_of_length_le (by rw [List.length_drop, size_list]; omega)
      rw [ht] at hno ⊢
      have hR : R = [pb.data.toList.drop f] := by rw [h5]; exact pieces_no hno
      exact ⟨[], hR, .inr ⟨by omega, rfl, by rw [h6, hR]; rfl⟩⟩
  · omega

structure Held (pb : ByteArray) (ps kept : List (List UInt8)) (f i : Nat) (last : List UInt8) : Prop where
  at' : ∃ R, At pb ps f i R last ∧ normK [] ps = normK kept R
  len : kept.length ≤ i
  each : ∀ x ∈ kept, x.length ≤ pb.size
theorem Held.start {pb : ByteArray} {t : List UInt8} (h : pb.data.toList = 47 :: t) : Held pb (pieces 47 t) [] 1 1 [] := ⟨⟨_, At.start h, rfl⟩, by simp, by simp⟩
theorem Held.next {pb : ByteArray} {ps kept : List (List UInt8)} {f i : Nat} {last : List UInt8} (h : Held pb ps kept f i last) (hi : i < pb.size) (hc : pb[i] ≠ 47) : Held pb ps kept f (i + 1) last := by
  obtain ⟨⟨R, h1, h2⟩, h3, h4⟩ := h
  exact ⟨⟨R, h1.next hi hc, h2⟩, by omega, h4⟩
theorem Held.from_le {pb : ByteArray} {ps kept : List (List UInt8)} {f i : Nat} {last : List UInt8} (h : Held pb ps kept f i last) (hi : i ≤ pb.size) : f ≤ i := by
  obtain ⟨⟨R, h1, h2⟩, h3, h4⟩ := h
  exact h1.from_le hi
section
variable {pb : ByteArray} {ps kept : List (List UInt8)} {f i : Nat} {last x : List UInt8} (h : Held pb ps kept f i last) (hi : i ≤ pb.size) (hc : ∀ h : i < pb.size, pb[i] = 47) (hx : (pb.extract f i).data.toList = x)
include h hi hc hx
theorem Held.out (h2 : x = [46, 46]) (hn : kept = []) : normK [] ps = none := by
  obtain ⟨⟨R, h1, hR⟩, h3, h4⟩ := h
  obtain ⟨R', rfl, h5⟩ := h1.cut hi hc
  rw [hR, hx, h2, hn]; rfl
theorem Held.up (h2 : x = [46, 46]) (hn : kept ≠ []) : Held pb ps kept.dropLast (i + 1) (i + 1) x := by
  obtain ⟨⟨R, h1, hR⟩, h3, h4⟩ := h
  obtain ⟨R', rfl, h5⟩ := h1.cut hi hc
  rw [hx] at h5 hR
  refine ⟨⟨R', h5, ?_⟩, by simp; omega, fun y hy => h4 y (List.dropLast_subset _ hy)⟩
  rw [hR, h2]; simp only [normK, if_true]; rw [if_neg hn]
theorem Held.stay (h2 : x ≠ [46, 46]) (hd : dots x = true) : Held pb ps kept (i + 1) (i + 1) x := by
  obtain ⟨⟨R, h1, hR⟩, h3, h4⟩ := h
  obtain ⟨R', rfl, h5⟩ := h1.cut hi hc
  rw [hx] at h5 hR
  refine ⟨⟨R', h5, ?_⟩, by omega, h4⟩
  rw [hR]; simp only [normK]; rw [if_neg h2, if_pos hd]
theorem Held.keep (hd : dots x = false) : Held pb ps (kept ++ [x]) (i + 1) (i + 1) x := by
  obtain ⟨⟨R, h1, hR⟩, h3, h4⟩ := h
  obtain ⟨R', rfl, h5⟩ := h1.cut hi hc
  rw [hx] at h5 hR
  refine ⟨⟨R', h5, ?_⟩, by simp; omega, fun y hy => ?_⟩
  · rw [hR]; simp only [normK]
    rw [if_neg (by intro e; rw [e] at hd; revert hd; decide), if_neg (by rw [hd]; simp)]
  · rcases List.mem_append.1 hy with hy | hy
    · exact h4 y hy
    · simp at hy; subst hy
      rw [← hx, Lib.extract_data, List.length_take, List.length_drop, size_list]; omega
end
theorem Held.done {pb : ByteArray} {ps kept : List (List UInt8)} {f i : Nat} {last : List UInt8} (h : Held pb ps kept f i last) (hi : ¬ i ≤ pb.size) : normK [] ps = some kept ∧ ps.getLast? = some last ∧ i = pb.size + 1 := by
  obtain ⟨⟨R, h1, hR⟩, h3, h4⟩ := h
  rcases h1 with ⟨_, _, h, _⟩ | ⟨h, rfl, h2⟩
  · exact absurd h hi
  · exact ⟨by rw [hR]; rfl, h2, h⟩

theorem unesc_cons_plain {c : UInt8} {r : List UInt8} (h : badU c = false) (h' : c ≠ 37) : unesc (c :: r) = (unesc r).map (c :: ·) := walkE_plain h h'
theorem unesc_head {l p : List UInt8} (hu : unesc l = some p) (h : l.head? = some 47) : p.head? = some 47 := by
  cases l with
  | nil => cases h
  | cons a r =>
    simp at h; subst h
    rw [unesc_cons_plain (by decide) (by decide)] at hu
    cases hr : unesc r with
    | none => rw [hr] at hu; cases hu
    | some q => rw [hr] at hu; simp at hu; subst hu; rfl
theorem encU_head (n : UInt8) : (encU n).head? ≠ some 47 ∧ encU n ≠ [] := by
  have key : ∀ n : Fin 256, (encU (UInt8.ofNat n.val)).head? ≠ some 47 ∧ encU (UInt8.ofNat n.val) ≠ [] := by decide +kernel
  have h := key ⟨n.toNat, n.toNat_lt⟩
  simpa using h
theorem unesc_head' {l p : List UInt8} (hu : unesc l = some p) (h : p.head? = some 47) : l.head? = some 47 := by
  induction l using walkE_ind generalizing p with
  | h0 => simp [unesc, walkE_nil] at hu; subst hu; cases h
  | h1 c r ih hc =>
    cases hb : badU c with
    | true => unfold unesc at hu; rw [walkE_bad hb] at hu; cases hu
    | false =>
      rw [unesc_cons_plain hb hc] at hu
      cases hr : unesc r with
      | none => rw [hr] at hu; cases hu
      | some q => rw [hr] at hu; simp at hu; subst hu; exact h
  | h2 a b r ih =>
    unfold unesc at hu
    cases hp : pair a b with
    | none => rw [walkE_none hp] at hu; cases hu
    | some n =>
      rw [walkE_some (by decide) hp] at hu
      cases hr : walkE badU encU r with
      | none => rw [hr] at hu; cases hu
      | some q =>
        rw [hr] at hu; simp at hu; subst hu
        obtain ⟨e1, e2⟩ := encU_head n
        cases he : encU n with
        | nil => exact absurd he e2
        | cons x y => rw [he] at h e1; exact absurd h e1
  | h3 r hr => unfold unesc at hu; rw [walkE_short hr] at hu; cases hu
theorem escapes_some {l p : List UInt8} (hu : escapes l = some p) : ∃ t, p = 47 :: t ∧ p.length ≤ l.length := by
  unfold escapes at hu
  split at hu
  · rename_i h
    have h1 := unesc_head hu h
    cases p with
    | nil => cases h1
    | cons a t => simp at h1; subst h1; exact ⟨t, rfl, unesc_length hu⟩
  · cases hu

/-- Each piece behind a slash. -/
def slashed (kept : List (List UInt8)) : List UInt8 := kept.flatMap fun x => 47 :: x
theorem slashed_join : ∀ {kept : List (List UInt8)}, kept ≠ [] → slashed kept = 47 :: Lib.join kept [47] := by
  intro kept
  induction kept with
  | nil => intro h; exact absurd rfl h
  | cons x r ih =>
    intro _
    cases r with
    | nil => simp [slashed, Lib.join]
    | cons y r =>
      have := ih (by simp)
      simp only [slashed, List.flatMap_cons] at this ⊢
      rw [this]
      simp [Lib.join, List.intercalate, List.intersperse]
theorem slashed_take (kept : List (List UInt8)) (j : Nat) (h : j < kept.length) : slashed (kept.take (j + 1)) = slashed (kept.take j) ++ 47 :: kept[j] := by
  unfold slashed
  rw [List.take_succ_eq_append_getElem h, List.flatMap_append]
  simp only [List.flatMap_cons, List.flatMap_nil, List.append_nil]
theorem slashed_length (kept : List (List UInt8)) (N : Nat) (h : ∀ x ∈ kept, x.length ≤ N) : (slashed kept).length ≤ kept.length * (N + 1) := by
  induction kept with
  | nil => simp [slashed]
  | cons x r ih =>
    have h1 := ih (fun y hy => h y (by simp [hy]))
    have h2 := h x (by simp)
    have h3 : (slashed (x :: r)).length = x.length + 1 + (slashed r).length := by simp [slashed]; omega
    rw [h3, List.length_cons, Nat.add_mul, Nat.one_mul]; omega

theorem ret_norm' {a : ByteArray} {l : List UInt8} (h : a.data.toList = l) : Ending.returned (.tuple #[.string a, .int .i64 0]) = .returned (normVal (some l)) := ret_norm h
theorem dots_cases {x : List UInt8} (hd : dots x = true) (h2 : x ≠ [46, 46]) : x = [] ∨ x = [46] := by
  simp [dots] at hd
  rcases hd with (h | h) | h
  · exact .inl h
  · exact .inr h
  · exact absurd h h2

end Go.Proofs.YtbjcbdgkgbjaiaaDoor
