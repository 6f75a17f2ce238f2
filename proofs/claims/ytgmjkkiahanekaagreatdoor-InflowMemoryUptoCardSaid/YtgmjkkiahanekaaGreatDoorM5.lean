/- The texts PathK in one. -/
import Derived.Test.YtgmjkkiahanekaaGreatDoorM4
/- The contract of the document's Normal, for every text up to 4 MiB; the walk over PathNormals. -/
set_option linter.unusedVariables false
set_option linter.unusedSimpArgs false
namespace Go.Proofs.YtgmjkkiahanekaaGreatDoor
open Go.RowKit Lex

/-- Between two rounds: R is what is left, last what was cut last. -/
def At (pb : ByteArray) (ps : List (List UInt8)) (f i : Nat) (R : List (List UInt8)) (last : List UInt8) : Prop :=
  (1 ≤ f ∧ f ≤ i ∧ i ≤ pb.size ∧ (∀ j (h : j < pb.size), f ≤ j → j < i → pb[j] ≠ 47) ∧ R = pieces 47 (pb.data.toList.drop f) ∧ ps.getLast? = R.getLast?) ∨ (i = pb.size + 1 ∧ R = [] ∧ ps.getLast? = some last)

theorem At.start {pb : ByteArray} {t : List UInt8} (h : pb.data.toList = 47 :: t) : At pb (pieces 47 t) 1 1 (pieces 47 t) [] := by
  have hs : pb.size = t.length + 1 := by rw [← size_list, h]; rfl
  exact .inl ⟨Nat.le_refl _, Nat.le_refl _, by omega, fun j _ _ _ => by omega, by rw [h]; rfl, rfl⟩
theorem At.next {pb : ByteArray} {ps : List (List UInt8)} {f i : Nat} {R : List (List UInt8)} {last : List UInt8} (h : At pb ps f i R last) (hi : i < pb.size) (hc : pb[i] ≠ 47) : At pb ps f (i + 1) R last := by
  rcases h with ⟨h1, h2, h3, h4, h5, h6⟩ | ⟨h, _⟩
  · refine .inl ⟨h1, by omega, by omega, fun j hj hf hlt => ?_, h5, h6⟩
    by_cases he : j = i
    · subst he; exact hc
    · exact h4 j hj hf (by omega)
  · omega
theorem At.from_le {pb : ByteArray} {ps : List (List UInt8)} {f i : Nat} {R : List (List UInt8)} {last : List UInt8} (h : At pb ps f i R last) (hi : i ≤ pb.size) : f ≤ i := by
  rcases h with ⟨_, h2, _⟩ | ⟨h, _⟩ <;> omega
theorem At.cut {pb : ByteArray} {ps : List (List UInt8)} {f i : Nat} {R : List (List UInt8)} {last : List UInt8} (h : At pb ps f i R last) (hi : i ≤ pb.size) (hc : ∀ h : i < pb.size, pb[i] = 47) :
    ∃ R', R = (pb.extract f i).data.toList :: R' ∧ At pb ps (i + 1) (i + 1) R' (pb.extract f i).data.toList := by
  rcases h with ⟨h1, h2, h3, h4, h5, h6⟩ | ⟨h, _⟩
  · have hx : (pb.extract f i).data.toList = (pb.data.toList.drop f).take (i - f) := Lib.extract_data pb f i
    have hno : ∀ x ∈ (pb.data.toList.drop f).take (i - f), x ≠ 47 := by
      intro x hx
      obtain ⟨j, hj, rfl⟩ := List.getElem_of_mem hx
      have hj1 : j < i - f := by rw [List.length_take] at hj; omega
      have hj2 : f + j < pb.size := by rw [List.length_take, List.length_drop, size_list] at hj; omega
      have := h4 (f + j) hj2 (by omega) (by omega)
      rw [List.getElem_take, List.getElem_drop]
      exact this
    rw [hx]
    by_cases hlt : i < pb.size
    · refine ⟨pieces 47 (pb.data.toList.drop (i + 1)), ?_, .inl ⟨by omega, Nat.le_refl _, by omega, fun j _ _ _ => by omega, rfl, ?_⟩⟩
      · have e : pb.data.toList.drop f = (pb.data.toList.drop f).take (i - f) ++ 47 :: pb.data.toList.drop (i + 1) := by
          have h1 : (pb.data.toList.drop f).drop (i - f) = 47 :: pb.data.toList.drop (i + 1) := by
            rw [List.drop_drop, show f + (i - f) = i by omega, drop_at pb i hlt, hc hlt]
          rw [← h1, List.take_append_drop]
        rw [h5]
        conv => lhs; rw [e]
        rw [pieces_at _ hno]
      · rw [h6, h5]
        have e : pb.data.toList.drop f = (pb.data.toList.drop f).take (i - f) ++ 47 :: pb.data.toList.drop (i + 1) := by
          have h1 : (pb.data.toList.drop f).drop (i - f) = 47 :: pb.data.toList.drop (i + 1) := by
            rw [List.drop_drop, show f + (i - f) = i by omega, drop_at pb i hlt, hc hlt]
          rw [← h1, List.take_append_drop]
        rw [e, pieces_at _ hno]
        have hne := pieces_ne 47 (pb.data.toList.drop (i + 1))
        generalize pieces 47 (pb.data.toList.drop (i + 1)) = q at *
        cases q with
        | nil => exact absurd rfl hne
        | cons a q => rfl
    · have ht : (pb.data.toList.drop f).take (i - f) = pb.data.toList.drop f := List.take_of_length_le (by rw [List.length_drop, size_list]; omega)
      rw [ht] at hno ⊢
      have hR : R = [pb.data.toList.drop f] := by rw [h5]; exact pieces_no hno
      exact ⟨[], hR, .inr ⟨by omega, rfl, by rw [h6, hR]; rfl⟩⟩
  · omega

structure Held (pb : ByteArray) (ps kept : List (List UInt8)) (f i : Nat) (last : List UInt8) : Prop where
  at' : ∃ R, At pb ps f i R last ∧ normK [] ps = normK kept R
  len : kept.length ≤ i
  each : ∀ x ∈ kept, x.length ≤ pb.size
theorem Held.start {pb : ByteArray} {t : List UInt8} (h : pb.data.toList = 47 :: t) : Held pb (pieces 47 t) [] 1 1 [] := ⟨⟨_, At.start h, rfl⟩, by simp, by simp⟩
theorem Held.next {pb : ByteArray} {ps kept : List (List UInt8)} {f i : Nat} {last : List UInt8} (h : Held pb ps kept f i last) (hi : i < pb.size) (hc : pb[i] ≠ 47) : Held pb ps kept f (i + 1) last := by
  obtain ⟨⟨R, h1, h2⟩, h3, h4⟩ := h
  exact ⟨⟨R, h1.next hi hc, h2⟩, by omega, h4⟩
theorem Held.from_le {pb : ByteArray} {ps kept : List (List UInt8)} {f i : Nat} {last : List UInt8} (h : Held pb ps kept f i last) (hi : i ≤ pb.size) : f ≤ i := by
  obtain ⟨⟨R, h1, h2⟩, h3, h4⟩ := h
  exact h1.from_le hi
section
variable {pb : ByteArray} {ps kept : List (List UInt8)} {f i : Nat} {last x : List UInt8} (h : Held pb ps kept f i last) (hi : i ≤ pb.size) (hc : ∀ h : i < pb.size, pb[i] = 47) (hx : (pb.extract f i).data.toList = x)
include h hi hc hx
theorem Held.out (h2 : x = [46, 46]) (hn : kept = []) : normK [] ps = none := by
  obtain ⟨⟨R, h1, hR⟩, h3, h4⟩ := h
  obtain ⟨R', rfl, h5⟩ := h1.cut hi hc
  rw [hR, hx, h2, hn]; rfl
theorem Held.up (h2 : x = [46, 46]) (hn : kept ≠ []) : Held pb ps kept.dropLast (i + 1) (i + 1) x := by
  obtain ⟨⟨R, h1, hR⟩, h3, h4⟩ := h
  obtain ⟨R', rfl, h5⟩ := h1.cut hi hc
  rw [hx] at h5 hR
  refine ⟨⟨R', h5, ?_⟩, by simp; omega, fun y hy => h4 y (List.dropLast_subset _ hy)⟩
  rw [hR, h2]; simp only [normK, if_true]; rw [if_neg hn]
theorem Held.stay (h2 : x ≠ [46, 46]) (hd : dots x = true) : Held pb ps kept (i + 1) (i + 1) x := by
  obtain ⟨⟨R, h1, hR⟩, h3, h4⟩ := h
  obtain ⟨R', rfl, h5⟩ := h1.cut hi hc
  rw [hx] at h5 hR
  refine ⟨⟨R', h5, ?_⟩, by omega, h4⟩
  rw [hR]; simp only [normK]; rw [if_neg h2, if_pos hd]
theorem Held.keep (hd : dots x = false) : Held pb ps (kept ++ [x]) (i + 1) (i + 1) x := by
  obtain ⟨⟨R, h1, hR⟩, h3, h4⟩ := h
  obtain ⟨R', rfl, h5⟩ := h1.cut hi hc
  rw [hx] at h5 hR
  refine ⟨⟨R', h5, ?_⟩, by simp; omega, fun y hy => ?_⟩
  · rw [hR]; simp only [normK]
    rw [if_neg (by intro e; rw [e] at hd; revert hd; decide), if_neg (by rw [hd]; simp)]
  · rcases List.mem_append.1 hy with hy | hy
    · exact h4 y hy
    · simp at hy; subst hy
      rw [← hx, Lib.extract_data, List.length_take, List.length_drop, size_list]; omega
end
theorem Held.done {pb : ByteArray} {ps kept : List (List UInt8)} {f i : Nat} {last : List UInt8} (h : Held pb ps kept f i last) (hi : ¬ i ≤ pb.size) : normK [] ps = some kept ∧ ps.getLast? = some last ∧ i = pb.size + 1 := by
  obtain ⟨⟨R, h1, hR⟩, h3, h4⟩ := h
  rcases h1 with ⟨_, _, h, _⟩ | ⟨h, rfl, h2⟩
  · exact absurd h hi
  · exact ⟨by rw [hR]; rfl, h2, h⟩

theorem unesc_cons_plain {c : UInt8} {r : List UInt8} (h : badU c = false) (h' : c ≠ 37) : unesc (c :: r) = (unesc r).map (c :: ·) := walkE_plain h h'
theorem unesc_head {l p : List UInt8} (hu : unesc l = some p) (h : l.head? = some 47) : p.head? = some 47 := by
  cases l with
  | nil => cases h
  | cons a r =>
    simp at h; subst h
    rw [unesc_cons_plain (by decide) (by decide)] at hu
    cases hr : unesc r with
    | none => rw [hr] at hu; cases hu
    | some q => rw [hr] at hu; simp at hu; subst hu; rfl
theorem encU_head (n : UInt8) : (encU n).head? ≠ some 47 ∧ encU n ≠ [] := by
  have key : ∀ n : Fin 256, (encU (UInt8.ofNat n.val)).head? ≠ some 47 ∧ encU (UInt8.ofNat n.val) ≠ [] := by decide +kernel
  have h := key ⟨n.toNat, n.toNat_lt⟩
  simpa using h
theorem unesc_head' {l p : List UInt8} (hu : unesc l = some p) (h : p.head? = some 47) : l.head? = some 47 := by
  induction l using walkE_ind generalizing p with
  | h0 => simp [unesc, walkE_nil] at hu; subst hu; cases h
  | h1 c r ih hc =>
    cases hb : badU c with
    | true => unfold unesc at hu; rw [walkE_bad hb] at hu; cases hu
    | false =>
      rw [unesc_cons_plain hb hc] at hu
      cases hr : unesc r with
      | none => rw [hr] at hu; cases hu
      | some q => rw [hr] at hu; simp at hu; subst hu; exact h
  | h2 a b r ih =>
    unfold unesc at hu
    cases hp : pair a b with
    | none => rw [walkE_none hp] at hu; cases hu
    | some n =>
      rw [walkE_some (by decide) hp] at hu
      cases hr : walkE badU encU r with
      | none => rw [hr] at hu; cases hu
      | some q =>
        rw [hr] at hu; simp at hu; subst hu
        obtain ⟨e1, e2⟩ := encU_head n
        cases he : encU n with
        | nil => exact absurd he e2
        | cons x y => rw [he] at h e1; exact absurd h e1
  | h3 r hr => unfold unesc at hu; rw [walkE_short hr] at hu; cases hu
theorem escapes_some {l p : List UInt8} (hu : escapes l = some p) : ∃ t, p = 47 :: t ∧ p.length ≤ l.length := by
  unfold escapes at hu
  split at hu
  · rename_i h
    have h1 := unesc_head hu h
    cases p with
    | nil => cases h1
    | cons a t => simp at h1; subst h1; exact ⟨t, rfl, unesc_length hu⟩
  · cases hu

/-- Each piece behind a slash. -/
def slashed (kept : List (List UInt8)) : List UInt8 := kept.flatMap fun x => 47 :: x
theorem slashed_join : ∀ {kept : List (List UInt8)}, kept ≠ [] → slashed kept = 47 :: Lib.join kept [47] := by
  intro kept
  induction kept with
  | nil => intro h; exact absurd rfl h
  | cons x r ih =>
    intro _
    cases r with
    | nil => simp [slashed, Lib.join]
    | cons y r =>
      have := ih (by simp)
      simp only [slashed, List.flatMap_cons] at this ⊢
      rw [this]
      simp [Lib.join, List.intercalate, List.intersperse]
theorem slashed_take (kept : List (List UInt8)) (j : Nat) (h : j < kept.length) : slashed (kept.take (j + 1)) = slashed (kept.take j) ++ 47 :: kept[j] := by
  unfold slashed
  rw [List.take_succ_eq_append_getElem h, List.flatMap_append]
  simp only [List.flatMap_cons, List.flatMap_nil, List.append_nil]
theorem slashed_length (kept : List (List UInt8)) (N : Nat) (h : ∀ x ∈ kept, x.length ≤ N) : (slashed kept).length ≤ kept.length * (N + 1) := by
  induction kept with
  | nil => simp [slashed]
  | cons x r ih =>
    have h1 := ih (fun y hy => h y (by simp [hy]))
    have h2 := h x (by simp)
    have h3 : (slashed (x :: r)).length = x.length + 1 + (slashed r).length := by simp [slashed]; omega
    rw [h3, List.length_cons, Nat.add_mul, Nat.one_mul]; omega

theorem ret_norm' {a : ByteArray} {l : List UInt8} (h : a.data.toList = l) : Ending.returned (.tuple #[.string a, .int .i64 0]) = .returned (normVal (some l)) := ret_norm h
theorem dots_cases {x : List UInt8} (hd : dots x = true) (h2 : x ≠ [46, 46]) : x = [] ∨ x = [46] := by
  simp [dots] at hd
  rcases hd with (h | h) | h
  · exact .inl h
  · exact .inr h
  · exact absurd h h2

set_option maxRecDepth 100000 in
set_option maxHeartbeats 4000000 in
theorem rnormal_c (s : ByteArray) (w : World) (hs : s.size ≤ 4194304) :
    Calls Tryz.prog 151 #[.string s] w fun e w' => e = .returned (normVal (normal s.data.toList)) ∧ Below w.heap.size w w' := by
  obtain ⟨i0, hi, hz0, hz1, hz2⟩ := info_parts info_str
  have K := fun w => Lib.hid (escapes_c s w (by omega))
  have hn : normal s.data.toList = match escapes s.data.toList with | none => none | some p => (normK [] (pieces 47 p.tail)).map fun kept => build kept (((pieces 47 p.tail).getLast?.map dots).getD false) := by
    unfold normal escapes
    by_cases h : s.data.toList.head? = some 47
    · rw [if_pos h]
      cases hu : unesc s.data.toList with
      | none => rfl
      | some p =>
        have : p.head? = some 47 := unesc_head hu h
        simp only [this, if_true]
    · rw [if_neg h]
      cases hu : unesc s.data.toList with
      | none => rfl
      | some p =>
        have : ¬ p.head? = some 47 := fun h' => h (unesc_head' hu h')
        simp only [this, if_false]
  rw [hn]
  clear hn
  cases hu : escapes s.data.toList with
  | none =>
    rw [hu] at K
    simp only [optStr] at K
    clear hu
    go_enter Tryz.func151, Tryz.ntmps151
    go_wp2_with (go_at_call 170; refine (K _).out.mono ?_; rintro e w1 ⟨rfl, hb⟩)
    go_ret2
    exact ⟨rfl, hb⟩
  | some p =>
    obtain ⟨t, rfl, hpl⟩ := escapes_some hu
    rw [size_list] at hpl
    rw [hu] at K
    simp only [optStr, Option.getD_some, Option.isSome_some] at K
    clear hu
    simp only [List.tail_cons]
    obtain ⟨pb, hpb⟩ : ∃ pb, bs (47 :: t) = pb := ⟨_, rfl⟩
    have hpd : pb.data.toList = 47 :: t := by rw [← hpb, bs_list]
    have hps : pb.size ≤ 4194304 := by rw [← size_list, hpd]; exact Nat.le_trans hpl hs
    rw [hpb] at K
    have HS := Lib.hid (Held.start hpd)
    clear hpb hpd
    generalize hps' : pieces 47 t = ps at *
    have HPS := Lib.hid hps'
    clear hps' hpl
    go_enter Tryz.func151, Tryz.ntmps151
    go_wp2_with fail
    refine (K _).out.mono ?_
    rintro e w1 ⟨rfl, hb⟩
    go_wp2
    go_loopw [6, 7, 8, 9] (fun v l f i wr => ∃ (F I : Nat) (kept : List (List UInt8)) (last : List UInt8), I ≤ pb.size + 1 ∧ i = .int .i64 I ∧ f = .int .i64 F ∧ l = .string (bs last) ∧ wr.ownsRow w.heap.size 9 1 v kept.length (strs kept) ∧ Below w.heap.size w wr ∧ Held pb ps kept F I last) (fun _ _ _ i _ => pb.size + 1 - (intOf i).toNat)
    case atStart => exact ⟨1, 1, [], [], by omega, rfl, rfl, rfl, World.ownsRow_nil _ _ _ _, hb, HS.out⟩
    case round =>
      clear hb
      obtain ⟨F, I, kept, last, hI, rfl, rfl, rfl, hown, hB, hH⟩ := hrel
      have HO := Lib.hid hown
      have HH := Lib.hid hH
      have sw := hB.size
      clear hown hH
      by_cases hle : I ≤ pb.size
      · have hfi := HH.out.from_le hle
        by_cases hgo : ∃ h : I < pb.size, pb[I] ≠ 47
        · obtain ⟨hlt, hc⟩ := hgo
          have HN := Lib.hid (HH.out.next hlt hc)
          have g : ((pb[I].toNat : Int) != 47) = true := by
            rw [bne_iff_ne]; intro h; apply hc
            exact UInt8.toNat_inj.1 (by have : (47 : UInt8).toNat = 47 := rfl; omega)
          clear hc
          go_wp2
          go_roundw
          case rel => exact ⟨F, I + 1, kept, last, by omega, by go_num, rfl, rfl, HO.out, hB, HN.out⟩
          case measure => simp [intOf]; omega
        · have hc : ∀ h : I < pb.size, pb[I] = 47 := fun h => Classical.byContradiction fun hh => hgo ⟨h, hh⟩
          obtain ⟨x, hx⟩ : ∃ x, (pb.extract F I).data.toList = x := ⟨_, rfl⟩
          have hxl : x.length ≤ 4194304 := by rw [← hx, size_list, ByteArray.size_extract]; omega
          have hext : pb.extract F I = bs x := by rw [← hx, list_bs]
          clear hgo
          have C : I < pb.size ∧ (∀ h : I < pb.size, ((pb[I].toNat : Int) != 47) = false) ∨ I = pb.size := by
            by_cases h : I < pb.size
            · exact .inl ⟨h, fun h' => by rw [hc h]; rfl⟩
            · exact .inr (by omega)
          by_cases h2 : x = [46, 46]
          · by_cases hk0 : kept = []
            · have HN := Lib.hid (HH.out.out hle hc hx h2 hk0)
              obtain ⟨A, c, hv⟩ := own_slice' HO.out
              rw [hv]
              have hl0 : kept.length = 0 := by rw [hk0]; rfl
              rw [hl0]
              clear hv hc hx hk0
              subst h2
              rcases C with ⟨hlt, g⟩ | rfl
              · have g := g hlt
                go_wp2
                go_ret2
                exact ⟨by rw [HN.out]; rfl, hB⟩
              · go_wp2
                go_ret2
                exact ⟨by rw [HN.out]; rfl, hB⟩
            · have HN := Lib.hid (HH.out.up hle hc hx h2 hk0)
              have klen := HH.out.len
              have hl1 : 0 < kept.length := List.length_pos_iff.2 hk0
              have hform := HO.out.form hl1
              obtain ⟨g', cap, hv, _⟩ := hform
              have ho := HO.out
              rw [hv] at ho
              have ht := own_take ho (kept.length - 1) (by omega)
              have e1 : (strs kept).take (kept.length - 1) = strs kept.dropLast := by unfold strs; rw [← List.map_take, List.dropLast_eq_take]
              have e2 : kept.dropLast.length = kept.length - 1 := by simp
              rw [e1, ← e2] at ht
              have HT := Lib.hid ht
              have hcap : kept.length ≤ cap := by
                rcases ho.2 with ⟨h, _⟩ | ⟨g', cap', cur, he, a, b, c, _⟩
                · cases h
                · injection he with e1 e2 e3; subst e3; exact c
              have g0 : ((kept.length : Int) == 0) = false := by rw [beq_eq_false_iff_ne]; omega
              have E2 := Lib.hid e2
              rw [hv]
              clear hv ho ht e1 hk0 e2 hc hx
              subst h2
              rcases C with ⟨hlt, g⟩ | rfl
              · have g := g hlt
                go_wp2
                go_roundw
                case rel => exact ⟨I + 1, I + 1, kept.dropLast, [46, 46], by omega, by go_num, by go_num, rfl, by rw [E2.out] at HT; rw [E2.out]; exact HT.out, hB, HN.out⟩
                case measure => simp [intOf]; omega
              · go_wp2
                go_roundw
                case rel => exact ⟨pb.size + 1, pb.size + 1, kept.dropLast, [46, 46], by omega, by go_num, by go_num, rfl, by rw [E2.out] at HT; rw [E2.out]; exact HT.out, hB, HN.out⟩
                case measure => simp [intOf]
          · by_cases hd : dots x = true
            · have HN := Lib.hid (HH.out.stay hle hc hx h2 hd)
              have hc2 := dots_cases hd h2
              clear hd h2 hc hx
              rcases hc2 with rfl | rfl
              all_goals
                rcases C with ⟨hlt, g⟩ | rfl
                · have g := g hlt
                  go_wp2
                  go_roundw
                  case rel => exact ⟨I + 1, I + 1, kept, _, by omega, by go_num, by go_num, rfl, HO.out, hB, HN.out⟩
                  case measure => simp [intOf]; omega
                · go_wp2
                  go_roundw
                  case rel => exact ⟨pb.size + 1, pb.size + 1, kept, _, by omega, by go_num, by go_num, rfl, HO.out, hB, HN.out⟩
                  case measure => simp [intOf]
            · have hd' : dots x = false := by simpa using hd
              have HN := Lib.hid (HH.out.keep hle hc hx hd')
              have f0 : ¬ x = [] := by intro h; subst h; revert hd'; decide
              have f1 : ¬ x = [46] := by intro h; subst h; revert hd'; decide
              have f2 : (x == [46, 46]) = false := by rw [beq_eq_false_iff_ne]; exact h2
              have f3 : x.isEmpty = false := by cases x <;> simp_all
              have f4 : (x == [46]) = false := by rw [beq_eq_false_iff_ne]; exact f1
              have klen := HH.out.len
              clear hd hd' h2 hc hx
              rcases C with ⟨hlt, g⟩ | hEq
              · have g := g hlt
                go_wp2_with (at_builtin; refine wpList_append_own _ rfl (.tmp 57) (.tmp 59) 33 rfl w.heap.size 9 i0 (.string ByteArray.empty) 1 16 Tryz.underlying33 hi hz0 hz1 hz2 rfl (by decide) _ kept.length _ rfl (HO.out.alloc _) ⟨wr.heap.size, 0, none⟩ 1 1 [.string (bs x)] rfl rfl ?_ ?_ ?_ ?_ ?_ ?_)
                any_goals first | exact cell_one_new _ _ _ | (intro u hu; simp at hu; subst hu; rfl) | (show Value.oneCell' _ = true; rfl) | (unfold maxLen; omega) | omega | (simp; omega)
                intro v' w3 hown' hgrow _
                have e1 : strs kept ++ [.string (bs x)] = strs (kept ++ [x]) := by simp [strs]
                rw [e1] at hown'
                have HO' := Lib.hid hown'
                have hB' : Below w.heap.size w w3 := (hB.alloc (by omega) _).grown hgrow (by simp; omega) (fun g hg => by have := (HO.out.lt g hg).1; omega)
                clear hown' hgrow e1
                go_wp2
                go_roundw
                case rel => exact ⟨I + 1, I + 1, kept ++ [x], x, by omega, by go_num, by go_num, rfl, by rw [List.length_append]; exact HO'.out, hB', HN.out⟩
                case measure => simp [intOf]; omega
              · subst hEq
                go_wp2_with (at_builtin; refine wpList_append_own _ rfl (.tmp 57) (.tmp 59) 33 rfl w.heap.size 9 i0 (.string ByteArray.empty) 1 16 Tryz.underlying33 hi hz0 hz1 hz2 rfl (by decide) _ kept.length _ rfl (HO.out.alloc _) ⟨wr.heap.size, 0, none⟩ 1 1 [.string (bs x)] rfl rfl ?_ ?_ ?_ ?_ ?_ ?_)
                any_goals first | exact cell_one_new _ _ _ | (intro u hu; simp at hu; subst hu; rfl) | (show Value.oneCell' _ = true; rfl) | (unfold maxLen; omega) | omega | (simp; omega)
                intro v' w3 hown' hgrow _
                have e1 : strs kept ++ [.string (bs x)] = strs (kept ++ [x]) := by simp [strs]
                rw [e1] at hown'
                have HO' := Lib.hid hown'
                have hB' : Below w.heap.size w w3 := (hB.alloc (by omega) _).grown hgrow (by simp; omega) (fun g hg => by have := (HO.out.lt g hg).1; omega)
                clear hown' hgrow e1
                go_wp2
                go_roundw
                case rel => exact ⟨pb.size + 1, pb.size + 1, kept ++ [x], x, by omega, by go_num, by go_num, rfl, by rw [List.length_append]; exact HO'.out, hB', HN.out⟩
                case measure => simp [intOf]
      · obtain ⟨hfin, hlast, hI2⟩ := HH.out.done hle
        have sl := slashed_length kept pb.size HH.out.each
        have klen := HH.out.len
        have sl2 : kept.length * (pb.size + 1) ≤ 4194305 * 4194305 := Nat.mul_le_mul (by omega) (by omega)
        have HF := Lib.hid hfin
        have HL := Lib.hid hlast
        clear hfin hlast hle
        have hb1 : ∀ l : List UInt8, l.length ≤ 35184372088832 → (bs l).size + (⟨#[47]⟩ : ByteArray).size ≤ 9223372036854775807 := fun l hl => by
          show l.length + 1 ≤ _; omega
        have hb2 : ∀ l x : List UInt8, l.length ≤ 35184372088832 → x.length ≤ 35184372088832 → (bs l ++ (⟨#[47]⟩ : ByteArray)).size + (bs x).size ≤ 9223372036854775807 := fun l x hl hx => by
          rw [ByteArray.size_append]; show l.length + 1 + x.length ≤ _; omega
        by_cases hk0 : kept = []
        · have hl0 : kept.length = 0 := by rw [hk0]; rfl
          obtain ⟨A, c, hv⟩ := own_slice' HO.out
          rw [hv, hl0]
          subst hk0
          clear hv HO hl0 sl sl2 hb1 hb2 HH
          go_wp2
          go_loopw [10, 11] (fun o i wr' => o = .string ⟨#[]⟩ ∧ i = .int .i64 0 ∧ wr' = wr) (fun _ _ _ => 0)
          case atStart => exact ⟨rfl, rfl, rfl⟩
          case round =>
            obtain ⟨rfl, rfl, rfl⟩ := hrel
            go_wp2
            go_ret2
            exact ⟨by rw [HF.out]; exact ret_norm (by simp [build, Lib.join, ByteArray.data_append]), hB⟩
        · have hl1 : 0 < kept.length := List.length_pos_iff.2 hk0
          obtain ⟨g, cap, hv, _⟩ := HO.out.form hl1
          have ho := HO.out
          rw [hv] at ho
          have hcells := World.ownsRow.cells ho (g := g) rfl
          have hcap : kept.length ≤ cap := by
            rcases ho.2 with ⟨h, _⟩ | ⟨g', cap', cur, he, a, b, c, _⟩
            · cases h
            · injection he with e1 e2 e3; subst e3; exact c
          have HC := Lib.hid hcells
          have hse : (slashed kept).isEmpty = false := by rw [slashed_join hk0]; rfl
          have each := HH.out.each
          have hjl : ∀ j, (slashed (kept.take j)).length ≤ 35184372088832 := fun j => by
            have h1 := slashed_length (kept.take j) pb.size (fun x hx => each x (List.take_subset _ _ hx))
            have h2 : (kept.take j).length * (pb.size + 1) ≤ 4194305 * 4194305 := Nat.mul_le_mul (by rw [List.length_take]; omega) (by omega)
            omega
          have HK0 := Lib.hid hk0
          have HJ := Lib.hid hjl
          have HE := Lib.hid each
          have HB1 := Lib.hid hb1
          have HB2 := Lib.hid hb2
          rw [hv]
          clear hv ho hk0 hcells each hjl sl sl2 hb1 hb2
          go_wp2
          go_loopw [10, 11] (fun o i wr' => ∃ j, j ≤ kept.length ∧ o = .string (bs (slashed (kept.take j))) ∧ i = .int .i64 j ∧ wr' = wr) (fun _ i _ => kept.length - (intOf i).toNat)
          case atStart => exact ⟨0, Nat.zero_le _, rfl, rfl, rfl⟩
          case round =>
            obtain ⟨j, hj, rfl, rfl, rfl⟩ := hrel
            by_cases hlt : j < kept.length
            · have hc : wr.cell? ⟨g, j, none⟩ = some (.string (bs kept[j])) := by
                have := HC.out j (.string (bs kept[j])) (by simp [strs, hlt])
                by_cases hj0 : j = 0
                · subst hj0; simpa [Addr.add] using this
                · simpa [Addr.add, hj0] using this
              have hst := slashed_take kept j hlt
              have hxl := HE.out kept[j] (List.getElem_mem hlt)
              have z1 := HB1.out (slashed (kept.take j)) (HJ.out j)
              have z2 := HB2.out (slashed (kept.take j)) kept[j] (HJ.out j) (by omega)
              have HST := Lib.hid hst
              clear hst
              obtain ⟨x, hx⟩ : ∃ x, kept[j] = x := ⟨_, rfl⟩
              obtain ⟨y, hy⟩ : ∃ y, slashed (kept.take j) = y := ⟨_, rfl⟩
              rw [hx, hy] at HST
              rw [hx] at hc z2
              rw [hy] at z1 z2 ⊢
              clear hxl hx
              go_wp2
              go_roundw
              case rel => exact ⟨j + 1, by omega, by rw [HST.out]; congr 1; exact bytes_ext (by simp [bs, ByteArray.data_append]), by go_num, by first | rfl | trivial⟩
              case measure => simp [intOf]; omega
            · have hje : j = kept.length := by omega
              subst hje
              rw [List.take_length]
              have z1 := HB1.out (slashed kept) (by have := HJ.out kept.length; rw [List.take_length] at this; exact this)
              have HSJ := Lib.hid (slashed_join HK0.out)
              by_cases hd : dots last = true
              · have HD := Lib.hid hd
                have hc3 : last = [] ∨ last = [46] ∨ last = [46, 46] := by
                  simp [dots] at hd
                  rcases hd with (h | h) | h
                  · exact .inl h
                  · exact .inr (.inl h)
                  · exact .inr (.inr h)
                clear hd
                rcases hc3 with rfl | rfl | rfl
                all_goals
                  go_wp2
                  go_ret2
                  exact ⟨by rw [HF.out, HL.out]; exact ret_norm (by simp [build, HK0.out, HD.out, HSJ.out, ByteArray.data_append]), hB⟩
              · have hd' : dots last = false := by simpa using hd
                have h2 : last ≠ [46, 46] := by intro h; subst h; revert hd'; decide
                have f1 : ¬ last = [46] := by intro h; subst h; revert hd'; decide
                have f2 : (last == [46, 46]) = false := by rw [beq_eq_false_iff_ne]; exact h2
                have f3 : last.isEmpty = false := by
                  cases hl : last with
                  | nil => rw [hl] at hd'; revert hd'; decide
                  | cons => rfl
                have f4 : (last == [46]) = false := by rw [beq_eq_false_iff_ne]; exact f1
                have HD := Lib.hid hd'
                clear hd hd' h2
                go_wp2
                go_ret2
                exact ⟨by rw [HF.out, HL.out]; exact ret_norm (by simp [build, HK0.out, HD.out, HSJ.out, ByteArray.data_append]), hB⟩

end Go.Proofs.YtgmjkkiahanekaaGreatDoor

