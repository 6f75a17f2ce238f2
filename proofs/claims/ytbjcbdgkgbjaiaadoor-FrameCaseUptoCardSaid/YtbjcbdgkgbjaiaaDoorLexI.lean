/- The contracts of lex.Elements, the document's Elements and Same; the walk over LexLists. -/
import Derived.Test.YtbjcbdgkgbjaiaaDoorPathK
import Derived.Test.YtbjcbdgkgbjaiaaDoorLexH
set_option linter.unusedVariables false
set_option linter.unusedSimpArgs false
namespace Go.Proofs.YtbjcbdgkgbjaiaaDoor
open Go.RowKit Lex

def elemsOf (ps : List (List UInt8)) : List (List UInt8) := (ps.map trim).filter fun x => !x.isEmpty
def elems (l : List UInt8) : List (List UInt8) := elemsOf (pieces 44 l)
theorem elemsOf_nil : elemsOf [] = [] := rfl
theorem elemsOf_skip {x : List UInt8} {r : List (List UInt8)} (h : trim x = []) : elemsOf (x :: r) = elemsOf r := by simp [elemsOf, h]
theorem elemsOf_take {x : List UInt8} {r : List (List UInt8)} (h : trim x ≠ []) : elemsOf (x :: r) = trim x :: elemsOf r := by
  have : (trim x).isEmpty = false := by cases hq : trim x with
    | nil => exact absurd hq h
    | cons => rfl
  simp [elemsOf, this]
theorem elemsOf_append (a b : List (List UInt8)) : elemsOf (a ++ b) = elemsOf a ++ elemsOf b := by simp [elemsOf]
theorem elemsOf_length (ps : List (List UInt8)) : (elemsOf ps).length ≤ ps.length := by
  unfold elemsOf
  exact Nat.le_trans (List.length_filter_le _ _) (by simp)
theorem elems_mem {l : List UInt8} : ∀ x ∈ elems l, x ≠ [] ∧ trim x = x ∧ (∀ c ∈ x, c ≠ 44) ∧ x.length ≤ l.length := by
  intro x hx
  unfold elems elemsOf at hx
  rw [List.mem_filter] at hx
  obtain ⟨h1, h2⟩ := hx
  obtain ⟨p, hp, rfl⟩ := List.mem_map.1 h1
  obtain ⟨h3, h4⟩ := pieces_mem 44 l p hp
  refine ⟨by intro e; rw [e] at h2; simp at h2, trim_trim p, fun c hc => ?_, Nat.le_trans (trim_length p) h3⟩
  obtain ⟨a, m, b, rfl, ha, hb, h5, h6⟩ := trim_parts p
  rw [trim_mid ha hb h5 h6] at hc
  exact h4 c (by simp [hc])

/-- A row of the call's own, in a later world. -/
theorem own_below {w w' : World} {base : Nat} {e : TypeId} {z n : Nat} {v : Value} {xs : List Value} (h : w.ownsRow base e z v n xs) (hb : Below w.heap.size w w') : w'.ownsRow base e z v n xs :=
  h.kept (row := none) ⟨hb.os, hb.tape, hb.output, hb.size, fun k hk _ => hb.block k hk⟩ (by
    cases v.ownBlock with
    | none => exact .inl rfl
    | some k => exact .inr (by simp))

theorem own_from {w : World} {base base' : Nat} {e : TypeId} {z n : Nat} {v : Value} {xs : List Value} (h : w.ownsRow base e z v n xs) (hb : base' ≤ base) : w.ownsRow base' e z v n xs := by
  obtain ⟨h1, h2⟩ := h
  refine ⟨h1, ?_⟩
  rcases h2 with h2 | ⟨g, cap, cur, he, a, rest⟩
  · exact .inl h2
  · exact .inr ⟨g, cap, cur, he, by omega, rest⟩

/-- What is still to come. -/
structure Coming (ps kept : List (List UInt8)) (R : List (List UInt8)) (k : Nat) : Prop where
  all : elemsOf ps = kept ++ elemsOf R
  len : kept.length ≤ k
theorem Coming.skip {ps kept R : List (List UInt8)} {x : List UInt8} {k : Nat} (h : Coming ps kept (x :: R) k) (hx : trim x = []) : Coming ps kept R (k + 1) :=
  ⟨by rw [h.all, elemsOf_skip hx], by have := h.len; omega⟩
theorem Coming.take {ps kept R : List (List UInt8)} {x : List UInt8} {k : Nat} (h : Coming ps kept (x :: R) k) (hx : trim x ≠ []) : Coming ps (kept ++ [trim x]) R (k + 1) :=
  ⟨by rw [h.all, elemsOf_take hx]; simp, by have := h.len; simp; omega⟩

set_option maxRecDepth 100000 in
set_option maxHeartbeats 4000000 in
theorem elements_c (s : ByteArray) (m : Int) (w : World) (hs : s.size ≤ 8388608) (hm : w.cell? ⟨0, 0, none⟩ = some (.int .i64 m)) :
    Calls Tryd.prog 43 #[.string s] w fun e w' => ∃ v, e = .returned v ∧ w'.ownsRow w.heap.size 9 1 v (elems s.data.toList).length (strs (elems s.data.toList)) ∧ Below w.heap.size w w' := by
  obtain ⟨i0, hi, hz0, hz1, hz2⟩ := info_parts info_str
  have SP := fun (w : World) (h : w.cell? ⟨0, 0, none⟩ = some (.int .i64 m)) => Lib.hid (split_c s 44 m w (by omega) h)
  have hpc := pieces_length 44 s.data.toList
  have hpm := pieces_mem 44 s.data.toList
  rw [size_list] at hpc hpm
  unfold elems
  generalize pieces 44 s.data.toList = ps at *
  have PM := Lib.hid hpm
  clear hpm
  go_enter Tryd.func43, Tryd.ntmps43
  go_wp2_with fail
  refine (SP _ hm).out.mono ?_
  rintro e w2 ⟨rfl, hw2⟩
  rw [hw2]
  clear hw2
  have b1 := (Below.refl w.heap.size w).alloc (Nat.le_refl _) (.cells (strs ps).toArray 9)
  have hblk : (w.alloc (.cells (strs ps).toArray 9)).heap[w.heap.size]? = some (.cells (strs ps).toArray 9 (0, 0)) := heap_alloc_new w _
  have hsz1 : w.heap.size + 1 ≤ (w.alloc (.cells (strs ps).toArray 9)).heap.size := by simp
  have BL := Lib.hid hblk
  clear hblk hm
  go_wp2
  go_loopw [3, 9] (fun v i wr => ∃ (k : Nat) (kept : List (List UInt8)), k ≤ ps.length ∧ i = .int .i64 k ∧ wr.ownsRow (w.heap.size + 1) 9 1 v kept.length (strs kept) ∧ Below w.heap.size w wr ∧ w.heap.size + 1 ≤ wr.heap.size ∧ wr.heap[w.heap.size]? = some (.cells (strs ps).toArray 9 (0, 0)) ∧ Coming ps kept (ps.drop k) k) (fun _ i _ => ps.length - (intOf i).toNat)
  case atStart => exact ⟨0, [], Nat.zero_le _, rfl, World.ownsRow_nil _ _ _ _, b1, hsz1, BL.out, ⟨by simp, by simp⟩⟩
  case round =>
    clear b1 hsz1
    obtain ⟨k, kept, hk, rfl, hown, hB, hz, hblk, hC⟩ := hrel
    have HO := Lib.hid hown
    have HC := Lib.hid hC
    have BL := Lib.hid hblk
    have klen := hC.len
    clear hown hC hblk
    by_cases hlt : k < ps.length
    · have hc : wr.cell? ⟨w.heap.size, k, none⟩ = some (.string (bs ps[k])) := by
        have := cell_of_row wr w.heap.size k (strs ps).toArray 9 (0, 0) BL.out
        rw [this]
        simp [strs, hlt]
      have hxl := (PM.out ps[k] (List.getElem_mem hlt)).1
      have hdc := drop_cons ps k hlt
      obtain ⟨x, hx⟩ : ∃ x, ps[k] = x := ⟨_, rfl⟩
      rw [hx] at hc hxl hdc
      rw [hdc] at HC
      have K := fun w => Lib.hid (trim_c (bs x) w (by show x.length ≤ _; omega))
      rw [bs_list] at K
      clear hx hdc
      by_cases ht : trim x = []
      · have HN := Lib.hid (HC.out.skip ht)
        rw [ht] at K
        clear ht
        go_wp2_with fail
        refine (K _).out.mono ?_
        rintro e w3 ⟨rfl, hb3⟩
        have HO3 := Lib.hid (own_below HO.out hb3)
        have BL3 := Lib.hid ((hb3.block w.heap.size (by omega)).trans BL.out)
        have hB3 := hB.trans (hb3.mono (by omega))
        have hz3 : w.heap.size + 1 ≤ w3.heap.size := by have := hb3.size; omega
        clear hb3
        go_wp2
        go_roundw
        case rel => exact ⟨k + 1, kept, by omega, by go_num, HO3.out, hB3, hz3, BL3.out, HN.out⟩
        case measure => simp [intOf]; omega
      · have HN := Lib.hid (HC.out.take ht)
        have f3 : (trim x).isEmpty = false := by
          cases hq : trim x with
          | nil => exact absurd hq ht
          | cons => rfl
        clear ht
        generalize trim x = y at *
        go_wp2_with fail
        refine (K _).out.mono ?_
        rintro e w3 ⟨rfl, hb3⟩
        have HO3 := Lib.hid (own_below HO.out hb3)
        have BL3 := Lib.hid ((hb3.block w.heap.size (by omega)).trans BL.out)
        have hB3 := hB.trans (hb3.mono (by omega))
        have hz3 : w.heap.size + 1 ≤ w3.heap.size := by have := hb3.size; omega
        clear hb3
        go_wp2_with (at_builtin; refine wpList_append_own _ rfl (.tmp 17) (.tmp 19) 32 rfl (w.heap.size + 1) 9 i0 (.string ByteArray.empty) 1 16 Tryd.underlying32 hi hz0 hz1 hz2 rfl (by decide) _ kept.length _ rfl (HO3.out.alloc _) ⟨w3.heap.size, 0, none⟩ 1 1 [.string (bs y)] rfl rfl ?_ ?_ ?_ ?_ ?_ ?_)
        any_goals first | exact cell_one_new _ _ _ | (intro u hu; simp at hu; subst hu; rfl) | (show Value.oneCell' _ = true; rfl) | (unfold maxLen; omega) | omega | (simp; omega)
        intro v' w4 hown' hgrow _
        have e1 : strs kept ++ [.string (bs y)] = strs (kept ++ [y]) := by simp [strs]
        rw [e1] at hown'
        have HO' := Lib.hid hown'
        have hB' : Below w.heap.size w w4 := (hB3.alloc (by omega) _).grown hgrow (by simp; omega) (fun g hg => by have := (HO3.out.lt g hg).1; omega)
        have hz' : w.heap.size + 1 ≤ w4.heap.size := by have := hgrow.size; simp at this; omega
        have hblk' := (hgrow.block w.heap.size (by simp; omega) (fun q => by have := (HO3.out.lt w.heap.size q.symm).1; omega)).trans ((Below.heap_alloc w3 _ w.heap.size (by omega)).trans BL3.out)
        have BL' := Lib.hid hblk'
        clear hown' hgrow e1 hblk'
        go_wp2
        go_roundw
        case rel => exact ⟨k + 1, kept ++ [y], by omega, by go_num, by rw [List.length_append]; exact HO'.out, hB', hz', BL'.out, HN.out⟩
        case measure => simp [intOf]; omega
    · have hfin : elemsOf ps = kept := by rw [HC.out.all, List.drop_of_length_le (by omega), elemsOf_nil, List.append_nil]
      have ho := HO.out
      have HF := Lib.hid hfin
      clear hfin
      go_wp2
      go_ret
      exact ⟨_, rfl, by rw [HF.out]; exact own_from ho (by omega), hB⟩

/-! ### the document's -/
def AtC (pb : ByteArray) (f i : Nat) (R : List (List UInt8)) : Prop :=
  (f ≤ i ∧ i ≤ pb.size ∧ (∀ j (h : j < pb.size), f ≤ j → j < i → pb[j] ≠ 44) ∧ R = pieces 44 (pb.data.toList.drop f)) ∨ (i = pb.size + 1 ∧ R = [])
theorem AtC.start (pb : ByteArray) : AtC pb 0 0 (pieces 44 pb.data.toList) := .inl ⟨Nat.le_refl _, Nat.zero_le _, fun j _ _ h => absurd h (Nat.not_lt_zero _), rfl⟩
theorem AtC.next {pb : ByteArray} {f i : Nat} {R : List (List UInt8)} (h : AtC pb f i R) (hi : i < pb.size) (hc : pb[i] ≠ 44) : AtC pb f (i + 1) R := by
  rcases h with ⟨h2, h3, h4, h5⟩ | ⟨h, _⟩
  · refine .inl ⟨by omega, by omega, fun j hj hf hlt => ?_, h5⟩
    by_cases he : j = i
    · subst he; exact hc
    · exact h4 j hj hf (by omega)
  · omega
theorem AtC.from_le {pb : ByteArray} {f i : Nat} {R : List (List UInt8)} (h : AtC pb f i R) (hi : i ≤ pb.size) : f ≤ i := by
  rcases h with ⟨h2, _⟩ | ⟨h, _⟩ <;> omega
theorem AtC.done {pb : ByteArray} {f i : Nat} {R : List (List UInt8)} (h : AtC pb f i R) (hi : ¬ i ≤ pb.size) : R = [] := by
  rcases h with ⟨_, h2, _⟩ | ⟨_, h⟩
  · exact absurd h2 hi
  · exact h
theorem AtC.cut {pb : ByteArray} {f i : Nat} {R : List (List UInt8)} (h : AtC pb f i R) (hi : i ≤ pb.size) (hc : ∀ h : i < pb.size, pb[i] = 44) :
    ∃ R', R = (pb.extract f i).data.toList :: R' ∧ AtC pb (i + 1) (i + 1) R' := by
  rcases h with ⟨h2, h3, h4, h5⟩ | ⟨h, _⟩
  · have hx : (pb.extract f i).data.toList = (pb.data.toList.drop f).take (i - f) := Lib.extract_data pb f i
    have hno : ∀ x ∈ (pb.data.toList.drop f).take (i - f), x ≠ 44 := by
      intro x hx
      obtain ⟨j, hj, rfl⟩ := List.getElem_of_mem hx
      have hj1 : j < i - f := by rw [List.length_take] at hj; omega
      have hj2 : f + j < pb.size := by rw [List.length_take, List.length_drop, size_list] at hj; omega
      have := h4 (f + j) hj2 (by omega) (by omega)
      rw [List.getElem_take, List.getElem_drop]
      exact this
    rw [hx]
    by_cases hlt : i < pb.size
    · refine ⟨pieces 44 (pb.data.toList.drop (i + 1)), ?_, .inl ⟨Nat.le_refl _, by omega, fun j _ _ _ => by omega, rfl⟩⟩
      have e : pb.data.toList.drop f = (pb.data.toList.drop f).take (i - f) ++ 44 :: pb.data.toList.drop (i + 1) := by
        have h1 : (pb.data.toList.drop f).drop (i - f) = 44 :: pb.data.toList.drop (i + 1) := by
          rw [List.drop_drop, show f + (i - f) = i by omega, drop_at pb i hlt, hc hlt]
        rw [← h1, List.take_append_drop]
      rw [h5]
      conv => lhs; rw [e]
      rw [pieces_at _ hno]
    · have ht : (pb.data.toList.drop f).take (i - f) = pb.data.toList.drop f := List.take_of_length_le (by rw [List.length_drop, size_list]; omega)
      rw [ht] at hno ⊢
      exact ⟨[], by rw [h5]; exact pieces_no hno, .inr ⟨by omega, rfl⟩⟩
  · omega

set_option maxRecDepth 100000 in
set_option maxHeartbeats 4000000 in
theorem relements_c (s : ByteArray) (w : World) (hs : s.size ≤ 8388608) :
    Calls Tryd.prog 13 #[.string s] w fun e w' => ∃ v, e = .returned v ∧ w'.ownsRow w.heap.size 9 1 v (elems s.data.toList).length (strs (elems s.data.toList)) ∧ Below w.heap.size w w' := by
  obtain ⟨i0, hi, hz0, hz1, hz2⟩ := info_parts info_str
  have hst := Lib.hid (AtC.start s)
  unfold elems
  generalize pieces 44 s.data.toList = ps at *
  go_enter Tryd.func13, Tryd.ntmps13
  go_wp2
  go_loopw [3, 4, 5] (fun v f i wr => ∃ (F I : Nat) (kept R : List (List UInt8)), I ≤ s.size + 1 ∧ i = .int .i64 I ∧ f = .int .i64 F ∧ wr.ownsRow w.heap.size 9 1 v kept.length (strs kept) ∧ Below w.heap.size w wr ∧ AtC s F I R ∧ Coming ps kept R I) (fun _ _ i _ => s.size + 1 - (intOf i).toNat)
  case atStart => exact ⟨0, 0, [], ps, by omega, rfl, rfl, World.ownsRow_nil _ _ _ _, Below.refl _ _, hst.out, ⟨by simp, by simp⟩⟩
  case round =>
    clear hst
    obtain ⟨F, I, kept, R, hI, rfl, rfl, hown, hB, hA, hC⟩ := hrel
    have HO := Lib.hid hown
    have HC := Lib.hid hC
    have HA := Lib.hid hA
    have klen := hC.len
    have sw := hB.size
    clear hown hC hA
    by_cases hle : I ≤ s.size
    · have hfi := HA.out.from_le hle
      by_cases hgo : ∃ h : I < s.size, s[I] ≠ 44
      · obtain ⟨hlt, hc⟩ := hgo
        have HN := Lib.hid (HA.out.next hlt hc)
        have HN2 := Lib.hid (show Coming ps kept R (I + 1) from ⟨HC.out.all, by omega⟩)
        have g : ((s[I].toNat : Int) == 44) = false := by
          rw [beq_eq_false_iff_ne]; intro h; apply hc
          exact UInt8.toNat_inj.1 (by have : (44 : UInt8).toNat = 44 := rfl; omega)
        have g2 : ((I : Int) == (s.size : Int)) = false := by rw [beq_eq_false_iff_ne]; omega
        clear hc
        go_wp2
        go_roundw
        case rel => exact ⟨F, I + 1, kept, R, by omega, by go_num, rfl, HO.out, hB, HN.out, HN2.out⟩
        case measure => simp [intOf]; omega
      · have hc : ∀ h : I < s.size, s[I] = 44 := fun h => Classical.byContradiction fun hh => hgo ⟨h, hh⟩
        obtain ⟨R', hR, hA'⟩ := HA.out.cut hle hc
        have hC := HC.out
        rw [hR] at hC
        have HA' := Lib.hid hA'
        have K := fun w => Lib.hid (rtrim_c (s.extract F I) w (by rw [ByteArray.size_extract]; omega))
        have Cs : I < s.size ∧ (∀ h : I < s.size, ((s[I].toNat : Int) == 44) = true) ∨ I = s.size := by
          by_cases h : I < s.size
          · exact .inl ⟨h, fun h' => by rw [hc h]; rfl⟩
          · exact .inr (by omega)
        by_cases ht : trim (s.extract F I).data.toList = []
        · have HN := Lib.hid (hC.skip ht)
          rw [ht] at K
          clear ht hC hR hc hA' hgo
          rcases Cs with ⟨hlt, g⟩ | hEq
          · have g := g hlt
            have g2 : ((I : Int) == (s.size : Int)) = false := by rw [beq_eq_false_iff_ne]; omega
            go_wp2_with (go_at_call 24; refine (K _).out.mono ?_; rintro e w' ⟨rfl, rfl⟩)
            go_roundw
            case rel => exact ⟨I + 1, I + 1, kept, R', by omega, by go_num, by go_num, HO.out, hB, HA'.out, HN.out⟩
            case measure => simp [intOf]; omega
          · subst hEq
            go_wp2_with (go_at_call 24; refine (K _).out.mono ?_; rintro e w' ⟨rfl, rfl⟩)
            go_roundw
            case rel => exact ⟨s.size + 1, s.size + 1, kept, R', by omega, by go_num, by go_num, HO.out, hB, HA'.out, HN.out⟩
            case measure => simp [intOf]
        · have HN := Lib.hid (hC.take ht)
          have hp : 0 < (bs (trim (s.extract F I).data.toList)).size := by
            show 0 < (trim (s.extract F I).data.toList).length
            exact List.length_pos_iff.2 ht
          have hp' : 0 < (trim (s.extract F I).data.toList).length := List.length_pos_iff.2 ht
          clear ht hC hR hc hA' hgo
          generalize trim (s.extract F I).data.toList = y at *
          rcases Cs with ⟨hlt, g⟩ | hEq
          · have g := g hlt
            have g2 : ((I : Int) == (s.size : Int)) = false := by rw [beq_eq_false_iff_ne]; omega
            go_wp2_with (first | (go_at_call 24; refine (K _).out.mono ?_; rintro e w' ⟨rfl, rfl⟩) | (at_builtin; refine wpList_append_own _ rfl (.tmp 31) (.tmp 33) 32 rfl w.heap.size 9 i0 (.string ByteArray.empty) 1 16 Tryd.underlying32 hi hz0 hz1 hz2 rfl (by decide) _ kept.length _ rfl (HO.out.alloc _) ⟨wr.heap.size, 0, none⟩ 1 1 [.string (bs y)] rfl rfl ?_ ?_ ?_ ?_ ?_ ?_))
            any_goals first | exact cell_one_new _ _ _ | (intro u hu; simp at hu; subst hu; rfl) | (show Value.oneCell' _ = true; rfl) | (unfold maxLen; omega) | omega | (simp; omega)
            intro v' w4 hown' hgrow _
            have e1 : strs kept ++ [.string (bs y)] = strs (kept ++ [y]) := by simp [strs]
            rw [e1] at hown'
            have HO' := Lib.hid hown'
            have hB' : Below w.heap.size w w4 := (hB.alloc (by omega) _).grown hgrow (by simp; omega) (fun g hg => by have := (HO.out.lt g hg).1; omega)
            clear hown' hgrow e1
            go_wp2
            go_roundw
            case rel => exact ⟨I + 1, I + 1, kept ++ [y], R', by omega, by go_num, by go_num, by rw [List.length_append]; exact HO'.out, hB', HA'.out, HN.out⟩
            case measure => simp [intOf]; omega
          · subst hEq
            go_wp2_with (first | (go_at_call 24; refine (K _).out.mono ?_; rintro e w' ⟨rfl, rfl⟩) | (at_builtin; refine wpList_append_own _ rfl (.tmp 31) (.tmp 33) 32 rfl w.heap.size 9 i0 (.string ByteArray.empty) 1 16 Tryd.underlying32 hi hz0 hz1 hz2 rfl (by decide) _ kept.length _ rfl (HO.out.alloc _) ⟨wr.heap.size, 0, none⟩ 1 1 [.string (bs y)] rfl rfl ?_ ?_ ?_ ?_ ?_ ?_))
            any_goals first | exact cell_one_new _ _ _ | (intro u hu; simp at hu; subst hu; rfl) | (show Value.oneCell' _ = true; rfl) | (unfold maxLen; omega) | omega | (simp; omega)
            intro v' w4 hown' hgrow _
            have e1 : strs kept ++ [.string (bs y)] = strs (kept ++ [y]) := by simp [strs]
            rw [e1] at hown'
            have HO' := Lib.hid hown'
            have hB' : Below w.heap.size w w4 := (hB.alloc (by omega) _).grown hgrow (by simp; omega) (fun g hg => by have := (HO.out.lt g hg).1; omega)
            clear hown' hgrow e1
            go_wp2
            go_roundw
            case rel => exact ⟨s.size + 1, s.size + 1, kept ++ [y], R', by omega, by go_num, by go_num, by rw [List.length_append]; exact HO'.out, hB', HA'.out, HN.out⟩
            case measure => simp [intOf]
    · have hR := HA.out.done hle
      have hfin : elemsOf ps = kept := by rw [HC.out.all, hR, elemsOf_nil, List.append_nil]
      have ho := HO.out
      have HF := Lib.hid hfin
      clear hfin hR
      go_wp2
      go_ret
      exact ⟨_, rfl, by rw [HF.out]; exact ho, hB⟩
end Go.Proofs.YtbjcbdgkgbjaiaaDoor
