/- The texts LexI, FldA, HdA in one. -/
import Derived.Test.YtgmjkkiahanekaaGreatDoorM5
import Derived.Test.YtgmjkkiahanekaaGreatDoorM3
import Derived.Test.YtgmjkkiahanekaaGreatDoorM0
/- The contracts of lex.Elements, the document's Elements and Same; the walk over LexLists. -/
set_option linter.unusedVariables false
set_option linter.unusedSimpArgs false
namespace Go.Proofs.YtgmjkkiahanekaaGreatDoor
open Go.RowKit Lex

def elemsOf (ps : List (List UInt8)) : List (List UInt8) := (ps.map trim).filter fun x => !x.isEmpty
def elems (l : List UInt8) : List (List UInt8) := elemsOf (pieces 44 l)
theorem elemsOf_nil : elemsOf [] = [] := rfl
theorem elemsOf_skip {x : List UInt8} {r : List (List UInt8)} (h : trim x = []) : elemsOf (x :: r) = elemsOf r := by simp [elemsOf, h]
theorem elemsOf_take {x : List UInt8} {r : List (List UInt8)} (h : trim x ≠ []) : elemsOf (x :: r) = trim x :: elemsOf r := by
  have : (trim x).isEmpty = false := by cases hq : trim x with
    | nil => exact absurd hq h
    | cons => rfl
  simp [elemsOf, this]
theorem elemsOf_append (a b : List (List UInt8)) : elemsOf (a ++ b) = elemsOf a ++ elemsOf b := by simp [elemsOf]
theorem elemsOf_length (ps : List (List UInt8)) : (elemsOf ps).length ≤ ps.length := by
  unfold elemsOf
  exact Nat.le_trans (List.length_filter_le _ _) (by simp)
theorem elems_mem {l : List UInt8} : ∀ x ∈ elems l, x ≠ [] ∧ trim x = x ∧ (∀ c ∈ x, c ≠ 44) ∧ x.length ≤ l.length := by
  intro x hx
  unfold elems elemsOf at hx
  rw [List.mem_filter] at hx
  obtain ⟨h1, h2⟩ := hx
  obtain ⟨p, hp, rfl⟩ := List.mem_map.1 h1
  obtain ⟨h3, h4⟩ := pieces_mem 44 l p hp
  refine ⟨by intro e; rw [e] at h2; simp at h2, trim_trim p, fun c hc => ?_, Nat.le_trans (trim_length p) h3⟩
  obtain ⟨a, m, b, rfl, ha, hb, h5, h6⟩ := trim_parts p
  rw [trim_mid ha hb h5 h6] at hc
  exact h4 c (by simp [hc])

/-- A row of the call's own, in a later world. -/
theorem own_below {w w' : World} {base : Nat} {e : TypeId} {z n : Nat} {v : Value} {xs : List Value} (h : w.ownsRow base e z v n xs) (hb : Below w.heap.size w w') : w'.ownsRow base e z v n xs :=
  h.kept (row := none) ⟨hb.os, hb.tape, hb.output, hb.size, fun k hk _ => hb.block k hk⟩ (by
    cases v.ownBlock with
    | none => exact .inl rfl
    | some k => exact .inr (by simp))

theorem own_from {w : World} {base base' : Nat} {e : TypeId} {z n : Nat} {v : Value} {xs : List Value} (h : w.ownsRow base e z v n xs) (hb : base' ≤ base) : w.ownsRow base' e z v n xs := by
  obtain ⟨h1, h2⟩ := h
  refine ⟨h1, ?_⟩
  rcases h2 with h2 | ⟨g, cap, cur, he, a, rest⟩
  · exact .inl h2
  · exact .inr ⟨g, cap, cur, he, by omega, rest⟩

/-- What is still to come. -/
structure Coming (ps kept : List (List UInt8)) (R : List (List UInt8)) (k : Nat) : Prop where
  all : elemsOf ps = kept ++ elemsOf R
  len : kept.length ≤ k
theorem Coming.skip {ps kept R : List (List UInt8)} {x : List UInt8} {k : Nat} (h : Coming ps kept (x :: R) k) (hx : trim x = []) : Coming ps kept R (k + 1) :=
  ⟨by rw [h.all, elemsOf_skip hx], by have := h.len; omega⟩
theorem Coming.take {ps kept R : List (List UInt8)} {x : List UInt8} {k : Nat} (h : Coming ps kept (x :: R) k) (hx : trim x ≠ []) : Coming ps (kept ++ [trim x]) R (k + 1) :=
  ⟨by rw [h.all, elemsOf_take hx]; simp, by have := h.len; simp; omega⟩

set_option maxRecDepth 100000 in
set_option maxHeartbeats 4000000 in
theorem elements_c (s : ByteArray) (m : Int) (w : World) (hs : s.size ≤ 8388608) (hm : w.cell? ⟨0, 0, none⟩ = some (.int .i64 m)) :
    Calls Tryz.prog 144 #[.string s] w fun e w' => ∃ v, e = .returned v ∧ w'.ownsRow w.heap.size 9 1 v (elems s.data.toList).length (strs (elems s.data.toList)) ∧ Below w.heap.size w w' := by
  obtain ⟨i0, hi, hz0, hz1, hz2⟩ := info_parts info_str
  have SP := fun (w : World) (h : w.cell? ⟨0, 0, none⟩ = some (.int .i64 m)) => Lib.hid (split_c s 44 m w (by omega) h)
  have hpc := pieces_length 44 s.data.toList
  have hpm := pieces_mem 44 s.data.toList
  rw [size_list] at hpc hpm
  unfold elems
  generalize pieces 44 s.data.toList = ps at *
  have PM := Lib.hid hpm
  clear hpm
  go_enter Tryz.func144, Tryz.ntmps144
  go_wp2_with fail
  refine (SP _ hm).out.mono ?_
  rintro e w2 ⟨rfl, hw2⟩
  rw [hw2]
  clear hw2
  have b1 := (Below.refl w.heap.size w).alloc (Nat.le_refl _) (.cells (strs ps).toArray 9)
  have hblk : (w.alloc (.cells (strs ps).toArray 9)).heap[w.heap.size]? = some (.cells (strs ps).toArray 9 (0, 0)) := heap_alloc_new w _
  have hsz1 : w.heap.size + 1 ≤ (w.alloc (.cells (strs ps).toArray 9)).heap.size := by simp
  have BL := Lib.hid hblk
  clear hblk hm
  go_wp2
  go_loopw [3, 9] (fun v i wr => ∃ (k : Nat) (kept : List (List UInt8)), k ≤ ps.length ∧ i = .int .i64 k ∧ wr.ownsRow (w.heap.size + 1) 9 1 v kept.length (strs kept) ∧ Below w.heap.size w wr ∧ w.heap.size + 1 ≤ wr.heap.size ∧ wr.heap[w.heap.size]? = some (.cells (strs ps).toArray 9 (0, 0)) ∧ Coming ps kept (ps.drop k) k) (fun _ i _ => ps.length - (intOf i).toNat)
  case atStart => exact ⟨0, [], Nat.zero_le _, rfl, World.ownsRow_nil _ _ _ _, b1, hsz1, BL.out, ⟨by simp, by simp⟩⟩
  case round =>
    clear b1 hsz1
    obtain ⟨k, kept, hk, rfl, hown, hB, hz, hblk, hC⟩ := hrel
    have HO := Lib.hid hown
    have HC := Lib.hid hC
    have BL := Lib.hid hblk
    have klen := hC.len
    clear hown hC hblk
    by_cases hlt : k < ps.length
    · have hc : wr.cell? ⟨w.heap.size, k, none⟩ = some (.string (bs ps[k])) := by
        have := cell_of_row wr w.heap.size k (strs ps).toArray 9 (0, 0) BL.out
        rw [this]
        simp [strs, hlt]
      have hxl := (PM.out ps[k] (List.getElem_mem hlt)).1
      have hdc := drop_cons ps k hlt
      obtain ⟨x, hx⟩ : ∃ x, ps[k] = x := ⟨_, rfl⟩
      rw [hx] at hc hxl hdc
      rw [hdc] at HC
      have K := fun w => Lib.hid (trim_c (bs x) w (by show x.length ≤ _; omega))
      rw [bs_list] at K
      clear hx hdc
      by_cases ht : trim x = []
      · have HN := Lib.hid (HC.out.skip ht)
        rw [ht] at K
        clear ht
        go_wp2_with fail
        refine (K _).out.mono ?_
        rintro e w3 ⟨rfl, hb3⟩
        have HO3 := Lib.hid (own_below HO.out hb3)
        have BL3 := Lib.hid ((hb3.block w.heap.size (by omega)).trans BL.out)
        have hB3 := hB.trans (hb3.mono (by omega))
        have hz3 : w.heap.size + 1 ≤ w3.heap.size := by have := hb3.size; omega
        clear hb3
        go_wp2
        go_roundw
        case rel => exact ⟨k + 1, kept, by omega, by go_num, HO3.out, hB3, hz3, BL3.out, HN.out⟩
        case measure => simp [intOf]; omega
      · have HN := Lib.hid (HC.out.take ht)
        have f3 : (trim x).isEmpty = false := by
          cases hq : trim x with
          | nil => exact absurd hq ht
          | cons => rfl
        clear ht
        generalize trim x = y at *
        go_wp2_with fail
        refine (K _).out.mono ?_
        rintro e w3 ⟨rfl, hb3⟩
        have HO3 := Lib.hid (own_below HO.out hb3)
        have BL3 := Lib.hid ((hb3.block w.heap.size (by omega)).trans BL.out)
        have hB3 := hB.trans (hb3.mono (by omega))
        have hz3 : w.heap.size + 1 ≤ w3.heap.size := by have := hb3.size; omega
        clear hb3
        go_wp2_with (at_builtin; refine wpList_append_own _ rfl (.tmp 17) (.tmp 19) 33 rfl (w.heap.size + 1) 9 i0 (.string ByteArray.empty) 1 16 Tryz.underlying33 hi hz0 hz1 hz2 rfl (by decide) _ kept.length _ rfl (HO3.out.alloc _) ⟨w3.heap.size, 0, none⟩ 1 1 [.string (bs y)] rfl rfl ?_ ?_ ?_ ?_ ?_ ?_)
        any_goals first | exact cell_one_new _ _ _ | (intro u hu; simp at hu; subst hu; rfl) | (show Value.oneCell' _ = true; rfl) | (unfold maxLen; omega) | omega | (simp; omega)
        intro v' w4 hown' hgrow _
        have e1 : strs kept ++ [.string (bs y)] = strs (kept ++ [y]) := by simp [strs]
        rw [e1] at hown'
        have HO' := Lib.hid hown'
        have hB' : Below w.heap.size w w4 := (hB3.alloc (by omega) _).grown hgrow (by simp; omega) (fun g hg => by have := (HO3.out.lt g hg).1; omega)
        have hz' : w.heap.size + 1 ≤ w4.heap.size := by have := hgrow.size; simp at this; omega
        have hblk' := (hgrow.block w.heap.size (by simp; omega) (fun q => by have := (HO3.out.lt w.heap.size q.symm).1; omega)).trans ((Below.heap_alloc w3 _ w.heap.size (by omega)).trans BL3.out)
        have BL' := Lib.hid hblk'
        clear hown' hgrow e1 hblk'
        go_wp2
        go_roundw
        case rel => exact ⟨k + 1, kept ++ [y], by omega, by go_num, by rw [List.length_append]; exact HO'.out, hB', hz', BL'.out, HN.out⟩
        case measure => simp [intOf]; omega
    · have hfin : elemsOf ps = kept := by rw [HC.out.all, List.drop_of_length_le (by omega), elemsOf_nil, List.append_nil]
      have ho := HO.out
      have HF := Lib.hid hfin
      clear hfin
      go_wp2
      go_ret
      exact ⟨_, rfl, by rw [HF.out]; exact own_from ho (by omega), hB⟩

/-! ### the document's -/
def AtC (pb : ByteArray) (f i : Nat) (R : List (List UInt8)) : Prop :=
  (f ≤ i ∧ i ≤ pb.size ∧ (∀ j (h : j < pb.size), f ≤ j → j < i → pb[j] ≠ 44) ∧ R = pieces 44 (pb.data.toList.drop f)) ∨ (i = pb.size + 1 ∧ R = [])
theorem AtC.start (pb : ByteArray) : AtC pb 0 0 (pieces 44 pb.data.toList) := .inl ⟨Nat.le_refl _, Nat.zero_le _, fun j _ _ h => absurd h (Nat.not_lt_zero _), rfl⟩
theorem AtC.next {pb : ByteArray} {f i : Nat} {R : List (List UInt8)} (h : AtC pb f i R) (hi : i < pb.size) (hc : pb[i] ≠ 44) : AtC pb f (i + 1) R := by
  rcases h with ⟨h2, h3, h4, h5⟩ | ⟨h, _⟩
  · refine .inl ⟨by omega, by omega, fun j hj hf hlt => ?_, h5⟩
    by_cases he : j = i
    · subst he; exact hc
    · exact h4 j hj hf (by omega)
  · omega
theorem AtC.from_le {pb : ByteArray} {f i : Nat} {R : List (List UInt8)} (h : AtC pb f i R) (hi : i ≤ pb.size) : f ≤ i := by
  rcases h with ⟨h2, _⟩ | ⟨h, _⟩ <;> omega
theorem AtC.done {pb : ByteArray} {f i : Nat} {R : List (List UInt8)} (h : AtC pb f i R) (hi : ¬ i ≤ pb.size) : R = [] := by
  rcases h with ⟨_, h2, _⟩ | ⟨_, h⟩
  · exact absurd h2 hi
  · exact h
theorem AtC.cut {pb : ByteArray} {f i : Nat} {R : List (List UInt8)} (h : AtC pb f i R) (hi : i ≤ pb.size) (hc : ∀ h : i < pb.size, pb[i] = 44) :
    ∃ R', R = (pb.extract f i).data.toList :: R' ∧ AtC pb (i + 1) (i + 1) R' := by
  rcases h with ⟨h2, h3, h4, h5⟩ | ⟨h, _⟩
  · have hx : (pb.extract f i).data.toList = (pb.data.toList.drop f).take (i - f) := Lib.extract_data pb f i
    have hno : ∀ x ∈ (pb.data.toList.drop f).take (i - f), x ≠ 44 := by
      intro x hx
      obtain ⟨j, hj, rfl⟩ := List.getElem_of_mem hx
      have hj1 : j < i - f := by rw [List.length_take] at hj; omega
      have hj2 : f + j < pb.size := by rw [List.length_take, List.length_drop, size_list] at hj; omega
      have := h4 (f + j) hj2 (by omega) (by omega)
      rw [List.getElem_take, List.getElem_drop]
      exact this
    rw [hx]
    by_cases hlt : i < pb.size
    · refine ⟨pieces 44 (pb.data.toList.drop (i + 1)), ?_, .inl ⟨Nat.le_refl _, by omega, fun j _ _ _ => by omega, rfl⟩⟩
      have e : pb.data.toList.drop f = (pb.data.toList.drop f).take (i - f) ++ 44 :: pb.data.toList.drop (i + 1) := by
        have h1 : (pb.data.toList.drop f).drop (i - f) = 44 :: pb.data.toList.drop (i + 1) := by
          rw [List.drop_drop, show f + (i - f) = i by omega, drop_at pb i hlt, hc hlt]
        rw [← h1, List.take_append_drop]
      rw [h5]
      conv => lhs; rw [e]
      rw [pieces_at _ hno]
    · have ht : (pb.data.toList.drop f).take (i - f) = pb.data.toList.drop f := List.take_of_length_le (by rw [List.length_drop, size_list]; omega)
      rw [ht] at hno ⊢
      exact ⟨[], by rw [h5]; exact pieces_no hno, .inr ⟨by omega, rfl⟩⟩
  · omega

set_option maxRecDepth 100000 in
set_option maxHeartbeats 4000000 in
theorem relements_c (s : ByteArray) (w : World) (hs : s.size ≤ 8388608) :
    Calls Tryz.prog 105 #[.string s] w fun e w' => ∃ v, e = .returned v ∧ w'.ownsRow w.heap.size 9 1 v (elems s.data.toList).length (strs (elems s.data.toList)) ∧ Below w.heap.size w w' := by
  obtain ⟨i0, hi, hz0, hz1, hz2⟩ := info_parts info_str
  have hst := Lib.hid (AtC.start s)
  unfold elems
  generalize pieces 44 s.data.toList = ps at *
  go_enter Tryz.func105, Tryz.ntmps105
  go_wp2
  go_loopw [3, 4, 5] (fun v f i wr => ∃ (F I : Nat) (kept R : List (List UInt8)), I ≤ s.size + 1 ∧ i = .int .i64 I ∧ f = .int .i64 F ∧ wr.ownsRow w.heap.size 9 1 v kept.length (strs kept) ∧ Below w.heap.size w wr ∧ AtC s F I R ∧ Coming ps kept R I) (fun _ _ i _ => s.size + 1 - (intOf i).toNat)
  case atStart => exact ⟨0, 0, [], ps, by omega, rfl, rfl, World.ownsRow_nil _ _ _ _, Below.refl _ _, hst.out, ⟨by simp, by simp⟩⟩
  case round =>
    clear hst
    obtain ⟨F, I, kept, R, hI, rfl, rfl, hown, hB, hA, hC⟩ := hrel
    have HO := Lib.hid hown
    have HC := Lib.hid hC
    have HA := Lib.hid hA
    have klen := hC.len
    have sw := hB.size
    clear hown hC hA
    by_cases hle : I ≤ s.size
    · have hfi := HA.out.from_le hle
      by_cases hgo : ∃ h : I < s.size, s[I] ≠ 44
      · obtain ⟨hlt, hc⟩ := hgo
        have HN := Lib.hid (HA.out.next hlt hc)
        have HN2 := Lib.hid (show Coming ps kept R (I + 1) from ⟨HC.out.all, by omega⟩)
        have g : ((s[I].toNat : Int) == 44) = false := by
          rw [beq_eq_false_iff_ne]; intro h; apply hc
          exact UInt8.toNat_inj.1 (by have : (44 : UInt8).toNat = 44 := rfl; omega)
        have g2 : ((I : Int) == (s.size : Int)) = false := by rw [beq_eq_false_iff_ne]; omega
        clear hc
        go_wp2
        go_roundw
        case rel => exact ⟨F, I + 1, kept, R, by omega, by go_num, rfl, HO.out, hB, HN.out, HN2.out⟩
        case measure => simp [intOf]; omega
      · have hc : ∀ h : I < s.size, s[I] = 44 := fun h => Classical.byContradiction fun hh => hgo ⟨h, hh⟩
        obtain ⟨R', hR, hA'⟩ := HA.out.cut hle hc
        have hC := HC.out
        rw [hR] at hC
        have HA' := Lib.hid hA'
        have K := fun w => Lib.hid (rtrim_c (s.extract F I) w (by rw [ByteArray.size_extract]; omega))
        have Cs : I < s.size ∧ (∀ h : I < s.size, ((s[I].toNat : Int) == 44) = true) ∨ I = s.size := by
          by_cases h : I < s.size
          · exact .inl ⟨h, fun h' => by rw [hc h]; rfl⟩
          · exact .inr (by omega)
        by_cases ht : trim (s.extract F I).data.toList = []
        · have HN := Lib.hid (hC.skip ht)
          rw [ht] at K
          clear ht hC hR hc hA' hgo
          rcases Cs with ⟨hlt, g⟩ | hEq
          · have g := g hlt
            have g2 : ((I : Int) == (s.size : Int)) = false := by rw [beq_eq_false_iff_ne]; omega
            go_wp2_with (go_at_call 77; refine (K _).out.mono ?_; rintro e w' ⟨rfl, rfl⟩)
            go_roundw
            case rel => exact ⟨I + 1, I + 1, kept, R', by omega, by go_num, by go_num, HO.out, hB, HA'.out, HN.out⟩
            case measure => simp [intOf]; omega
          · subst hEq
            go_wp2_with (go_at_call 77; refine (K _).out.mono ?_; rintro e w' ⟨rfl, rfl⟩)
            go_roundw
            case rel => exact ⟨s.size + 1, s.size + 1, kept, R', by omega, by go_num, by go_num, HO.out, hB, HA'.out, HN.out⟩
            case measure => simp [intOf]
        · have HN := Lib.hid (hC.take ht)
          have hp : 0 < (bs (trim (s.extract F I).data.toList)).size := by
            show 0 < (trim (s.extract F I).data.toList).length
            exact List.length_pos_iff.2 ht
          have hp' : 0 < (trim (s.extract F I).data.toList).length := List.length_pos_iff.2 ht
          clear ht hC hR hc hA' hgo
          generalize trim (s.extract F I).data.toList = y at *
          rcases Cs with ⟨hlt, g⟩ | hEq
          · have g := g hlt
            have g2 : ((I : Int) == (s.size : Int)) = false := by rw [beq_eq_false_iff_ne]; omega
            go_wp2_with (first | (go_at_call 77; refine (K _).out.mono ?_; rintro e w' ⟨rfl, rfl⟩) | (at_builtin; refine wpList_append_own _ rfl (.tmp 31) (.tmp 33) 33 rfl w.heap.size 9 i0 (.string ByteArray.empty) 1 16 Tryz.underlying33 hi hz0 hz1 hz2 rfl (by decide) _ kept.length _ rfl (HO.out.alloc _) ⟨wr.heap.size, 0, none⟩ 1 1 [.string (bs y)] rfl rfl ?_ ?_ ?_ ?_ ?_ ?_))
            any_goals first | exact cell_one_new _ _ _ | (intro u hu; simp at hu; subst hu; rfl) | (show Value.oneCell' _ = true; rfl) | (unfold maxLen; omega) | omega | (simp; omega)
            intro v' w4 hown' hgrow _
            have e1 : strs kept ++ [.string (bs y)] = strs (kept ++ [y]) := by simp [strs]
            rw [e1] at hown'
            have HO' := Lib.hid hown'
            have hB' : Below w.heap.size w w4 := (hB.alloc (by omega) _).grown hgrow (by simp; omega) (fun g hg => by have := (HO.out.lt g hg).1; omega)
            clear hown' hgrow e1
            go_wp2
            go_roundw
            case rel => exact ⟨I + 1, I + 1, kept ++ [y], R', by omega, by go_num, by go_num, by rw [List.length_append]; exact HO'.out, hB', HA'.out, HN.out⟩
            case measure => simp [intOf]; omega
          · subst hEq
            go_wp2_with (first | (go_at_call 77; refine (K _).out.mono ?_; rintro e w' ⟨rfl, rfl⟩) | (at_builtin; refine wpList_append_own _ rfl (.tmp 31) (.tmp 33) 33 rfl w.heap.size 9 i0 (.string ByteArray.empty) 1 16 Tryz.underlying33 hi hz0 hz1 hz2 rfl (by decide) _ kept.length _ rfl (HO.out.alloc _) ⟨wr.heap.size, 0, none⟩ 1 1 [.string (bs y)] rfl rfl ?_ ?_ ?_ ?_ ?_ ?_))
            any_goals first | exact cell_one_new _ _ _ | (intro u hu; simp at hu; subst hu; rfl) | (show Value.oneCell' _ = true; rfl) | (unfold maxLen; omega) | omega | (simp; omega)
            intro v' w4 hown' hgrow _
            have e1 : strs kept ++ [.string (bs y)] = strs (kept ++ [y]) := by simp [strs]
            rw [e1] at hown'
            have HO' := Lib.hid hown'
            have hB' : Below w.heap.size w w4 := (hB.alloc (by omega) _).grown hgrow (by simp; omega) (fun g hg => by have := (HO.out.lt g hg).1; omega)
            clear hown' hgrow e1
            go_wp2
            go_roundw
            case rel => exact ⟨s.size + 1, s.size + 1, kept ++ [y], R', by omega, by go_num, by go_num, by rw [List.length_append]; exact HO'.out, hB', HA'.out, HN.out⟩
            case measure => simp [intOf]
    · have hR := HA.out.done hle
      have hfin : elemsOf ps = kept := by rw [HC.out.all, hR, elemsOf_nil, List.append_nil]
      have ho := HO.out
      have HF := Lib.hid hfin
      clear hfin hR
      go_wp2
      go_ret
      exact ⟨_, rfl, by rw [HF.out]; exact ho, hB⟩
end Go.Proofs.YtgmjkkiahanekaaGreatDoor

/- Plain words of layer 7 over lists of fields: the values of a name, Get, Elements, Has, Remove, Set, Strip, Check; no program in sight. -/
set_option linter.unusedVariables false
set_option linter.unusedSimpArgs false
namespace Go.Proofs.YtgmjkkiahanekaaGreatDoor
open Go.RowKit Lex

abbrev Fd := List UInt8 × List UInt8
def valuesF (l : List Fd) (name : List UInt8) : List (List UInt8) := (l.filter fun f => alike f.1 name).map (·.2)
def getF (l : List Fd) (name : List UInt8) : List UInt8 × Nat := ((valuesF l name).headD [], (valuesF l name).length)
def elementsF (l : List Fd) (name : List UInt8) : List (List UInt8) := (valuesF l name).flatMap elems
def hasF (l : List Fd) (name e : List UInt8) : Bool := (elementsF l name).any fun x => alike x e
def removeF (l : List Fd) (name : List UInt8) : List Fd := l.filter fun f => !alike f.1 name
def setF (l : List Fd) (name value : List UInt8) : List Fd := removeF l name ++ [(name, value)]
def conn : List UInt8 := [67, 111, 110, 110, 101, 99, 116, 105, 111, 110]
def fixedN : List (List UInt8) := [conn, [75, 101, 101, 112, 45, 65, 108, 105, 118, 101], [80, 114, 111, 120, 121, 45, 67, 111, 110, 110, 101, 99, 116, 105, 111, 110], [84, 69], [84, 114, 97, 105, 108, 101, 114], [84, 114, 97, 110, 115, 102, 101, 114, 45, 69, 110, 99, 111, 100, 105, 110, 103], [85, 112, 103, 114, 97, 100, 101]]
def namesF (l : List Fd) : List (List UInt8) := fixedN ++ elementsF l conn
def stripF (l : List Fd) : List Fd := l.filter fun f => !(namesF l).any fun n => alike f.1 n
def badF (f : Fd) : Bool := !token f.1 || !value f.2 || decide (512 < f.1.length + f.2.length)
def checkF (l : List Fd) : Int := if l.any badF then 70 else if 32 < l.length then 71 else 0

theorem alike_comm (a b : List UInt8) : alike a b = alike b a := by
  unfold alike; rw [Bool.eq_iff_iff, beq_iff_eq, beq_iff_eq]; exact eq_comm
theorem alike_self (a : List UInt8) : alike a a = true := by unfold alike; simp
theorem alike_low {a b : List UInt8} (h : lower a = lower b) (c : List UInt8) : alike c a = alike c b := by unfold alike; rw [h]
theorem valuesF_low {a b : List UInt8} (h : lower a = lower b) (l : List Fd) : valuesF l a = valuesF l b := by
  unfold valuesF; congr 2; funext f; exact alike_low h f.1

theorem valuesF_snoc (l : List Fd) (f : Fd) (name : List UInt8) : valuesF (l ++ [f]) name = valuesF l name ++ (if alike f.1 name then [f.2] else []) := by
  unfold valuesF; rw [List.filter_append, List.map_append]
  congr 1
  by_cases h : alike f.1 name = true
  · simp [h]
  · simp [h]
theorem valuesF_take (l : List Fd) (k : Nat) (h : k < l.length) (name : List UInt8) : valuesF (l.take (k + 1)) name = valuesF (l.take k) name ++ (if alike l[k].1 name then [l[k].2] else []) := by
  rw [List.take_succ_eq_append_getElem h, valuesF_snoc]
theorem valuesF_length (l : List Fd) (name : List UInt8) : (valuesF l name).length ≤ l.length := by
  unfold valuesF; rw [List.length_map]; exact List.length_filter_le _ _
theorem valuesF_prefix (l : List Fd) (k : Nat) (name : List UInt8) : valuesF (l.take k) name <+: valuesF l name := by
  conv => rhs; rw [← List.take_append_drop k l]
  unfold valuesF
  rw [List.filter_append, List.map_append]
  exact List.prefix_append _ _
theorem valuesF_mem {l : List Fd} {name v : List UInt8} (h : v ∈ valuesF l name) : ∃ f ∈ l, f.2 = v := by
  unfold valuesF at h
  obtain ⟨f, hf, rfl⟩ := List.mem_map.1 h
  exact ⟨f, (List.mem_filter.1 hf).1, rfl⟩

theorem removeF_snoc (l : List Fd) (f : Fd) (name : List UInt8) : removeF (l ++ [f]) name = removeF l name ++ (if alike f.1 name then [] else [f]) := by
  unfold removeF; rw [List.filter_append]
  congr 1
  by_cases h : alike f.1 name = true
  · simp [h]
  · simp [h]
theorem removeF_take (l : List Fd) (k : Nat) (h : k < l.length) (name : List UInt8) : removeF (l.take (k + 1)) name = removeF (l.take k) name ++ (if alike l[k].1 name then [] else [l[k]]) := by
  rw [List.take_succ_eq_append_getElem h, removeF_snoc]
theorem removeF_length (l : List Fd) (name : List UInt8) : (removeF l name).length ≤ l.length := List.length_filter_le _ _
theorem removeF_mem {l : List Fd} {name : List UInt8} {f : Fd} (h : f ∈ removeF l name) : f ∈ l := (List.mem_filter.1 h).1
theorem removeF_low {a b : List UInt8} (h : lower a = lower b) (l : List Fd) : removeF l a = removeF l b := by
  unfold removeF; congr 1; funext f; rw [alike_low h f.1]
/-- Removing one name after the other. -/
theorem removeF_all (l : List Fd) (ns : List (List UInt8)) : ns.foldl removeF l = l.filter fun f => !ns.any fun n => alike f.1 n := by
  induction ns generalizing l with
  | nil => exact (List.filter_eq_self.2 fun _ _ => rfl).symm
  | cons n ns ih =>
    rw [List.foldl_cons, ih]
    unfold removeF
    rw [List.filter_filter]
    congr 1
    funext f
    rw [List.any_cons, Bool.not_or, Bool.and_comm]
theorem stripF_fold (l : List Fd) : (namesF l).foldl removeF l = stripF l := removeF_all l _

theorem checkF_bad {l : List Fd} {k : Nat} (h : k < l.length) (hb : badF l[k] = true) : checkF l = 70 := by
  unfold checkF; rw [if_pos (List.any_eq_true.2 ⟨_, List.getElem_mem h, hb⟩)]
theorem checkF_many {l : List Fd} (h : ∀ f ∈ l, badF f = false) (hn : 32 < l.length) : checkF l = 71 := by
  unfold checkF
  rw [if_neg (by rw [List.any_eq_true]; rintro ⟨f, hf, hb⟩; rw [h f hf] at hb; cases hb), if_pos hn]
theorem checkF_ok {l : List Fd} (h : ∀ f ∈ l, badF f = false) (hn : ¬ 32 < l.length) : checkF l = 0 := by
  unfold checkF
  rw [if_neg (by rw [List.any_eq_true]; rintro ⟨f, hf, hb⟩; rw [h f hf] at hb; cases hb), if_neg hn]
theorem all_take_good {l : List Fd} {k : Nat} (h : k < l.length) (ha : ∀ f ∈ l.take k, badF f = false) (hb : badF l[k] = false) : ∀ f ∈ l.take (k + 1), badF f = false := by
  intro f hf
  rw [List.take_succ_eq_append_getElem h, List.mem_append] at hf
  rcases hf with hf | hf
  · exact ha f hf
  · simp at hf; subst hf; exact hb

/-- A list of fields, as its two cells a field lie in a world. -/
def Flds (w : World) (A : Option Addr) (l : List Fd) : Prop := ∀ j (h : j < l.length), ∃ (g o : Nat), A = some ⟨g, o, none⟩ ∧ w.cell? ⟨g, o + j * 2, none⟩ = some (.string (bs l[j].1)) ∧ w.cell? ⟨g, o + j * 2 + 1, none⟩ = some (.string (bs l[j].2))
theorem Flds.below {w w' : World} {A : Option Addr} {l : List Fd} (h : Flds w A l) (hb : Below w.heap.size w w') : Flds w' A l := by
  intro j hj
  obtain ⟨g, o, e, c1, c2⟩ := h j hj
  exact ⟨g, o, e, (hb.cell (World.block_lt_of_cell? w _ c1)).trans c1, (hb.cell (World.block_lt_of_cell? w _ c2)).trans c2⟩
theorem Flds.nil (w : World) (A : Option Addr) : Flds w A [] := fun j hj => absurd hj (Nat.not_lt_zero _)
def fvals (l : List Fd) : List Value := l.flatMap fun f => [.string (bs f.1), .string (bs f.2)]
theorem fvals_append (a b : List Fd) : fvals (a ++ b) = fvals a ++ fvals b := by unfold fvals; rw [List.flatMap_append]
theorem fvals_at : ∀ (l : List Fd) (k : Nat) (h : k < l.length), (fvals l)[k * 2]? = some (.string (bs l[k].1)) ∧ (fvals l)[k * 2 + 1]? = some (.string (bs l[k].2))
  | f :: l, 0, _ => ⟨rfl, rfl⟩
  | f :: l, k + 1, h => by
    have := fvals_at l k (by simpa using h)
    have e1 : fvals (f :: l) = .string (bs f.1) :: .string (bs f.2) :: fvals l := rfl
    rw [e1, show (k + 1) * 2 = k * 2 + 1 + 1 from by omega]
    exact this
theorem flds_own {w : World} {base : Nat} {e : TypeId} {A : Option Addr} {cap : Nat} {l : List Fd} (h : w.ownsRow base e 2 (.slice A l.length cap) l.length (fvals l)) : Flds w A l := by
  intro j hj
  obtain ⟨h1, h2⟩ := fvals_at l j hj
  rcases h.2 with ⟨_, h0⟩ | ⟨g, cap', cur, he, _, _, _⟩
  · omega
  · injection he with e1 e2 e3
    subst e1
    have a1 := World.ownsRow.cells h (g := g) rfl _ _ h1
    have a2 := World.ownsRow.cells h (g := g) rfl _ _ h2
    have ad : ∀ k, (⟨g, 0, none⟩ : Addr).add k = ⟨g, 0 + k, none⟩ := fun k => by unfold Addr.add; split <;> simp_all
    rw [ad] at a1 a2
    exact ⟨g, 0, rfl, a1, by rw [Nat.add_assoc]; exact a2⟩
end Go.Proofs.YtgmjkkiahanekaaGreatDoor

/- Plain words of layer 8 over lists of bytes: lines, versions, start and status lines, fields' lines, heads; no program in sight. -/
set_option linter.unusedVariables false
set_option linter.unusedSimpArgs false
namespace Go.Proofs.YtgmjkkiahanekaaGreatDoor
open Lex

/-- The line that begins a text: the line, or none and the error; room: how many bytes it may have. -/
def lineL (over : Int) : Nat → List UInt8 → Option (List UInt8) × Int
  | _, [] => (none, 0)
  | room, c :: r =>
    if c = 10 then (none, 80)
    else if c = 13 then (if r = [] then (none, 0) else if r.head? = some 10 then (some [], 0) else (none, 80))
    else match room with
      | 0 => (none, over)
      | room + 1 => ((lineL over room r).1.map (c :: ·), (lineL over room r).2)
def httpV : List UInt8 := [72, 84, 84, 80, 47]
/-- The minor digit and the error. -/
def versionL (s : List UInt8) : Int × Int :=
  if s.length = 8 ∧ s.take 5 = httpV ∧ s[6]? = some 46 then
    (match s[5]?, s[7]? with
    | some a, some b => if digit a = true ∧ digit b = true then (if a = 49 then ((b.toNat : Int) - 48, 0) else (0, 81)) else (0, 80)
    | _, _ => (0, 80))
  else (0, 80)
def tchar (c : UInt8) : Bool := decide (33 ≤ (c.toNat : Int)) && decide ((c.toNat : Int) ≤ 126)
structure Hd where
  method : List UInt8 := []
  target : List UInt8 := []
  status : Int := 0
  reason : List UInt8 := []
  minor : Int := 0
  fields : List Fd := []
/-- A start line. -/
def startL (l : List UInt8) : Hd × Int :=
  match pieces 32 l with
  | [a, b, c] => if token a = true ∧ a.length ≤ 16 ∧ b ≠ [] ∧ b.all tchar = true then (if (versionL c).2 = 0 then ({ method := a, target := b, minor := (versionL c).1 }, 0) else ({}, (versionL c).2)) else ({}, 80)
  | _ => ({}, 80)
/-- A status line. -/
def statusL (l : List UInt8) : Hd × Int :=
  if l.length < 12 ∨ l[8]? ≠ some 32 ∨ (12 < l.length ∧ l[12]? ≠ some 32) then ({}, 80)
  else if (decimal ((l.drop 9).take 3) 3).2 = true ∧ 100 ≤ (decimal ((l.drop 9).take 3) 3).1 ∧ (decimal ((l.drop 9).take 3) 3).1 ≤ 599 then
    (if (l.drop 13).all okv = true then
      (if (versionL (l.take 8)).2 = 0 then ({ status := (decimal ((l.drop 9).take 3) 3).1, reason := l.drop 13, minor := (versionL (l.take 8)).1 }, 0) else ({}, (versionL (l.take 8)).2))
    else ({}, 80))
  else ({}, 80)
/-- A field's line. -/
def fieldL (l : List UInt8) : Option Fd :=
  if (cutB l 58).2.2 = true ∧ token (cutB l 58).1 = true ∧ (trim (cutB l 58).2.1).all okv = true then some ((cutB l 58).1, trim (cutB l 58).2.1) else none
/-- The fields' lines: the fields and how many bytes they have, with the empty line; room: how many fields more. -/
def fieldsL : Nat → List UInt8 → Option (List Fd × Nat) × Int
  | 0, d => match lineL 83 512 d with
    | (none, e) => (none, e)
    | (some l, _) => if l = [] then (some ([], 2), 0) else (none, 83)
  | room + 1, d => match lineL 83 512 d with
    | (none, e) => (none, e)
    | (some l, _) => if l = [] then (some ([], 2), 0) else
      match fieldL l with
      | none => (none, 70)
      | some f => ((fieldsL room (d.drop (l.length + 2))).1.map fun x => (f :: x.1, x.2 + (l.length + 2)), (fieldsL room (d.drop (l.length + 2))).2)
/-- The empty lines ahead. -/
def ahead : List UInt8 → Nat
  | 13 :: 10 :: r => 1 + ahead r
  | _ => 0
/-- A head from its first line on: the head and the bytes used (0: none), the error. -/
def readAt (first : List UInt8 → Hd × Int) (d : List UInt8) : Hd × Nat × Int :=
  match lineL 82 1100 d with
  | (none, e) => ({}, 0, e)
  | (some l, _) => if (first l).2 ≠ 0 then ({}, 0, (first l).2) else
    match fieldsL 32 (d.drop (l.length + 2)) with
    | (none, e) => ({}, 0, e)
    | (some (fs, n), _) => ({ (first l).1 with fields := fs }, n + (l.length + 2), 0)
def readL (skip : Bool) (first : List UInt8 → Hd × Int) (d : List UInt8) : Hd × Nat × Int :=
  let k := if skip then 2 * ahead d else 0
  ((readAt first (d.drop k)).1, (if (readAt first (d.drop k)).2.1 = 0 then 0 else (readAt first (d.drop k)).2.1 + k), (readAt first (d.drop k)).2.2)

/-! ### lines -/
theorem lineL_nil (over : Int) (room : Nat) : lineL over room [] = (none, 0) := by cases room <;> rfl
theorem lineL_10 (over : Int) (room : Nat) (r : List UInt8) : lineL over room (10 :: r) = (none, 80) := by cases room <;> rfl
theorem lineL_13 (over : Int) (room : Nat) (r : List UInt8) : lineL over room (13 :: r) = if r = [] then (none, 0) else if r.head? = some 10 then (some [], 0) else (none, 80) := by cases room <;> rfl
theorem lineL_over (over : Int) {c : UInt8} (r : List UInt8) (h1 : c ≠ 10) (h2 : c ≠ 13) : lineL over 0 (c :: r) = (none, over) := by
  simp only [lineL]; rw [if_neg h1, if_neg h2]
theorem lineL_step (over : Int) {c : UInt8} (room : Nat) (r : List UInt8) (h1 : c ≠ 10) (h2 : c ≠ 13) : lineL over (room + 1) (c :: r) = ((lineL over room r).1.map (c :: ·), (lineL over room r).2) := by
  simp only [lineL]; rw [if_neg h1, if_neg h2]
/-- A byte of a line. -/
def lb (c : UInt8) : Bool := decide (c ≠ 10) && decide (c ≠ 13)
theorem lineL_app (over : Int) : ∀ (a : List UInt8) (room : Nat) (r : List UInt8), a.all lb = true → a.length ≤ room → lineL over room (a ++ r) = ((lineL over (room - a.length) r).1.map (a ++ ·), (lineL over (room - a.length) r).2)
  | [], room, r, _, _ => by simp
  | c :: a, room, r, h, hl => by
    simp only [List.all_cons, Bool.and_eq_true, lb, decide_eq_true_eq] at h
    simp only [List.length_cons] at hl
    obtain ⟨room, rfl⟩ : ∃ q, room = q + 1 := ⟨room - 1, by omega⟩
    rw [List.cons_append, lineL_step over room _ h.1.1 h.1.2, lineL_app over a room r (by simpa [lb] using h.2) (by omega)]
    rw [show room + 1 - (c :: a).length = room - a.length by simp]
    cases (lineL over (room - a.length) r).1 <;> simp
/-- What a line can be. -/
theorem lineL_cases (over : Int) (room : Nat) (d : List UInt8) :
    (∃ l r, d = l ++ 13 :: 10 :: r ∧ l.all lb = true ∧ l.length ≤ room ∧ lineL over room d = (some l, 0)) ∨
    (d.all lb = true ∧ d.length ≤ room ∧ lineL over room d = (none, 0)) ∨
    (∃ a, d = a ++ [13] ∧ a.all lb = true ∧ a.length ≤ room ∧ lineL over room d = (none, 0)) ∨
    (∃ a r, d = a ++ 10 :: r ∧ a.all lb = true ∧ a.length ≤ room ∧ lineL over room d = (none, 80)) ∨
    (∃ a c r, d = a ++ 13 :: c :: r ∧ c ≠ 10 ∧ a.all lb = true ∧ a.length ≤ room ∧ lineL over room d = (none, 80)) ∨
    (∃ a c r, d = a ++ c :: r ∧ lb c = true ∧ a.all lb = true ∧ a.length = room ∧ lineL over room d = (none, over)) := by
  induction d generalizing room with
  | nil => exact .inr (.inl ⟨rfl, Nat.zero_le _, lineL_nil over room⟩)
  | cons c r ih =>
    by_cases h10 : c = 10
    · subst h10
      exact .inr (.inr (.inr (.inl ⟨[], r, rfl, rfl, Nat.zero_le _, lineL_10 over room r⟩)))
    · by_cases h13 : c = 13
      · subst h13
        rw [lineL_13]
        cases r with
        | nil => exact .inr (.inr (.inl ⟨[], rfl, rfl, Nat.zero_le _, rfl⟩))
        | cons x r =>
          rw [if_neg (by simp)]
          by_cases hx : x = 10
          · subst hx
            exact .inl ⟨[], r, rfl, rfl, Nat.zero_le _, by simp⟩
          · rw [if_neg (by simpa using hx)]
            exact .inr (.inr (.inr (.inr (.inl ⟨[], x, r, rfl, hx, rfl, Nat.zero_le _, rfl⟩))))
      · have hlb : lb c = true := by simp [lb, h10, h13]
        cases room with
        | zero => exact .inr (.inr (.inr (.inr (.inr ⟨[], c, r, rfl, hlb, rfl, rfl, lineL_over over r h10 h13⟩))))
        | succ room =>
          rw [lineL_step over room r h10 h13]
          have cs : ∀ a : List UInt8, a.all lb = true → (c :: a).all lb = true := fun a ha => by rw [List.all_cons, hlb, ha]; rfl
          rcases ih room with ⟨l, t, rfl, h1, h2, h3⟩ | ⟨h1, h2, h3⟩ | ⟨a, rfl, h1, h2, h3⟩ | ⟨a, t, rfl, h1, h2, h3⟩ | ⟨a, x, t, rfl, hx, h1, h2, h3⟩ | ⟨a, x, t, rfl, hx, h1, h2, h3⟩
          · rw [h3]; exact .inl ⟨c :: l, t, rfl, cs l h1, by simp; omega, rfl⟩
          · rw [h3]; exact .inr (.inl ⟨cs r h1, by simp; omega, rfl⟩)
          · rw [h3]; exact .inr (.inr (.inl ⟨c :: a, rfl, cs a h1, by simp; omega, rfl⟩))
          · rw [h3]; exact .inr (.inr (.inr (.inl ⟨c :: a, t, rfl, cs a h1, by simp; omega, rfl⟩)))
          · rw [h3]; exact .inr (.inr (.inr (.inr (.inl ⟨c :: a, x, t, rfl, hx, cs a h1, by simp; omega, rfl⟩))))
          · rw [h3]; exact .inr (.inr (.inr (.inr (.inr ⟨c :: a, x, t, rfl, hx, cs a h1, by simp; omega, rfl⟩))))
theorem lineL_at {over : Int} {room : Nat} {l r : List UInt8} (h : l.all lb = true) (hl : l.length ≤ room) : lineL over room (l ++ 13 :: 10 :: r) = (some l, 0) := by
  rw [lineL_app over l room _ h hl, lineL_13]; simp
theorem lineL_some {over : Int} {room : Nat} {d l : List UInt8} {e : Int} (h : lineL over room d = (some l, e)) : ∃ r, d = l ++ 13 :: 10 :: r ∧ l.all lb = true ∧ l.length ≤ room ∧ e = 0 := by
  rcases lineL_cases over room d with ⟨l', r, rfl, h1, h2, h3⟩ | ⟨h1, h2, h3⟩ | ⟨a, rfl, h1, h2, h3⟩ | ⟨a, t, rfl, h1, h2, h3⟩ | ⟨a, x, t, rfl, hx, h1, h2, h3⟩ | ⟨a, x, t, rfl, hx, h1, h2, h3⟩
  · rw [h3] at h; injection h with h4 h5; injection h4 with h4; subst h4; exact ⟨r, rfl, h1, h2, h5.symm⟩
  all_goals rw [h3] at h; injection h with h4 _; cases h4
/-- What has been told of a line stays so. -/
theorem lineL_more {over : Int} {room : Nat} {d : List UInt8} (t : List UInt8) (h : lineL over room d ≠ (none, 0)) : lineL over room (d ++ t) = lineL over room d := by
  rcases lineL_cases over room d with ⟨l', r, rfl, h1, h2, h3⟩ | ⟨h1, h2, h3⟩ | ⟨a, rfl, h1, h2, h3⟩ | ⟨a, r, rfl, h1, h2, h3⟩ | ⟨a, x, r, rfl, hx, h1, h2, h3⟩ | ⟨a, x, r, rfl, hx, h1, h2, h3⟩
  · rw [h3]
    rw [List.append_assoc]; exact lineL_at h1 h2
  · exact absurd h3 h
  · exact absurd h3 h
  · rw [h3, List.append_assoc, lineL_app over a room _ h1 h2, List.cons_append, lineL_10]; rfl
  · rw [h3, List.append_assoc, lineL_app over a room _ h1 h2, List.cons_append, List.cons_append, lineL_13, if_neg (by simp), if_neg (by simpa using hx)]; rfl
  · simp only [lb, Bool.and_eq_true, decide_eq_true_eq] at hx
    rw [h3, List.append_assoc, lineL_app over a room _ h1 (by omega), List.cons_append, show room - a.length = 0 by omega, lineL_over over _ hx.1 hx.2]; rfl
/-- Cut short, a line isn't whole, and is no error. -/
theorem lineL_cut {over : Int} {room : Nat} {l r : List UInt8} (h : l.all lb = true) (hl : l.length ≤ room) {k : Nat} (hk : k < l.length + 2) : lineL over room ((l ++ 13 :: 10 :: r).take k) = (none, 0) := by
  by_cases h1 : k ≤ l.length
  · rw [List.take_append_of_le_length h1]
    have h2 : (l.take k).all lb = true := by
      rw [List.all_eq_true] at h ⊢
      exact fun x hx => h x (List.mem_of_mem_take hx)
    have := lineL_app over (l.take k) room [] h2 (by rw [List.length_take]; omega)
    rw [List.append_nil, lineL_nil] at this
    exact this
  · have hk : k = l.length + 1 := by omega
    subst hk
    rw [List.take_append, List.take_of_length_le (by omega), show l.length + 1 - l.length = 1 by omega]
    rw [lineL_app over l room _ h hl]
    rw [show List.take 1 (13 :: 10 :: r) = [13] from rfl, lineL_13]; simp

/-! ### steadiness -/
theorem fieldsL_none {room : Nat} {d : List UInt8} {e : Int} (h : lineL 83 512 d = (none, e)) : fieldsL room d = (none, e) := by cases room <;> simp only [fieldsL, h]
theorem fieldsL_end {room : Nat} {d : List UInt8} {e : Int} (h : lineL 83 512 d = (some [], e)) : fieldsL room d = (some ([], 2), 0) := by cases room <;> simp only [fieldsL, h, if_true]
theorem fieldsL_large {d l : List UInt8} {e : Int} (h : lineL 83 512 d = (some l, e)) (hl : l ≠ []) : fieldsL 0 d = (none, 83) := by simp only [fieldsL, h, if_neg hl]
theorem fieldsL_bad {room : Nat} {d l : List UInt8} {e : Int} (h : lineL 83 512 d = (some l, e)) (hl : l ≠ []) (hf : fieldL l = none) : fieldsL (room + 1) d = (none, 70) := by simp only [fieldsL, h, if_neg hl, hf]
theorem fieldsL_step {room : Nat} {d l : List UInt8} {e : Int} {f : Fd} (h : lineL 83 512 d = (some l, e)) (hl : l ≠ []) (hf : fieldL l = some f) :
    fieldsL (room + 1) d = ((fieldsL room (d.drop (l.length + 2))).1.map fun x => (f :: x.1, x.2 + (l.length + 2)), (fieldsL room (d.drop (l.length + 2))).2) := by simp only [fieldsL, h, if_neg hl, hf]
theorem drop_line (l r : List UInt8) : (l ++ 13 :: 10 :: r).drop (l.length + 2) = r := by
  rw [← List.drop_drop, List.drop_left]; rfl
theorem fieldsL_more (room : Nat) : ∀ (d t : List UInt8), fieldsL room d ≠ (none, 0) → fieldsL room (d ++ t) = fieldsL room d := by
  induction room with
  | zero =>
    intro d t h
    cases hl : lineL 83 512 d with
    | mk o e =>
      have hne : lineL 83 512 d ≠ (none, 0) := fun h2 => h (fieldsL_none h2)
      have hm := lineL_more t hne
      rw [hl] at hm
      cases o with
      | none => rw [fieldsL_none hl, fieldsL_none hm]
      | some l =>
        by_cases h0 : l = []
        · subst h0; rw [fieldsL_end hl, fieldsL_end hm]
        · rw [fieldsL_large hl h0, fieldsL_large hm h0]
  | succ room ih =>
    intro d t h
    cases hl : lineL 83 512 d with
    | mk o e =>
      have hne : lineL 83 512 d ≠ (none, 0) := fun h2 => h (fieldsL_none h2)
      have hm := lineL_more t hne
      rw [hl] at hm
      cases o with
      | none => rw [fieldsL_none hl, fieldsL_none hm]
      | some l =>
        by_cases h0 : l = []
        · subst h0; rw [fieldsL_end hl, fieldsL_end hm]
        · cases hf : fieldL l with
          | none => rw [fieldsL_bad hl h0 hf, fieldsL_bad hm h0 hf]
          | some f =>
            rw [fieldsL_step hl h0 hf, fieldsL_step hm h0 hf]
            rw [fieldsL_step hl h0 hf] at h
            obtain ⟨r, rfl, _⟩ := lineL_some hl
            rw [List.append_assoc, List.cons_append, List.cons_append, drop_line, drop_line]
            rw [drop_line] at h
            rw [ih r t (fun h2 => h (by rw [h2]; rfl))]
/-- What is used: all bytes of the fields' lines, and cut short they aren't whole. -/
theorem fieldsL_used (room : Nat) : ∀ {d : List UInt8} {fs : List Fd} {n : Nat} {e : Int}, fieldsL room d = (some (fs, n), e) → 2 ≤ n ∧ n ≤ d.length ∧ fs.length ≤ room ∧ e = 0 ∧ (∀ k, k < n → fieldsL room (d.take k) = (none, 0)) ∧ fieldsL room (d.take n) = (some (fs, n), e) := by
  induction room with
  | zero =>
    intro d fs n e h
    cases hl : lineL 83 512 d with
    | mk o e' =>
      cases o with
      | none => rw [fieldsL_none hl] at h; injection h with h; cases h
      | some l =>
        by_cases h0 : l = []
        · subst h0
          rw [fieldsL_end hl] at h
          injection h with h h2; injection h with h; injection h with h3 h4
          subst h3 h4 h2
          obtain ⟨r, rfl, ha, hb, _⟩ := lineL_some hl
          refine ⟨Nat.le_refl _, by simp, Nat.le_refl _, rfl, fun k hk => fieldsL_none (lineL_cut ha hb (by simpa using hk)), ?_⟩
          exact fieldsL_end (e := 0) rfl
        · rw [fieldsL_large hl h0] at h; injection h with h; cases h
  | succ room ih =>
    intro d fs n e h
    cases hl : lineL 83 512 d with
    | mk o e' =>
      cases o with
      | none => rw [fieldsL_none hl] at h; injection h with h; cases h
      | some l =>
        by_cases h0 : l = []
        · subst h0
          rw [fieldsL_end hl] at h
          injection h with h h2; injection h with h; injection h with h3 h4
          subst h3 h4 h2
          obtain ⟨r, rfl, ha, hb, _⟩ := lineL_some hl
          refine ⟨Nat.le_refl _, by simp, Nat.zero_le _, rfl, fun k hk => fieldsL_none (lineL_cut ha hb (by simpa using hk)), ?_⟩
          exact fieldsL_end (e := 0) rfl
        · cases hf : fieldL l with
          | none => rw [fieldsL_bad hl h0 hf] at h; injection h with h; cases h
          | some f =>
            obtain ⟨r, rfl, ha, hb, _⟩ := lineL_some hl
            rw [fieldsL_step hl h0 hf, drop_line] at h
            cases hq : fieldsL room r with
            | mk o2 e2 =>
              rw [hq] at h
              cases o2 with
              | none => injection h with h; cases h
              | some x =>
                obtain ⟨gs, q⟩ := x
                injection h with h h2
                simp only [Option.map_some, Option.some.injEq, Prod.mk.injEq] at h
                obtain ⟨rfl, rfl⟩ := h
                simp only at h2
                subst h2
                obtain ⟨i1, i2, i3, i4, i5, i6⟩ := ih hq
                refine ⟨by omega, by simp; omega, by simp; omega, i4, fun k hk => ?_, ?_⟩
                · by_cases hk2 : k < l.length + 2
                  · exact fieldsL_none (lineL_cut ha hb hk2)
                  · have et : (l ++ 13 :: 10 :: r).take k = l ++ 13 :: 10 :: r.take (k - (l.length + 2)) := by
                      rw [List.take_append, List.take_of_length_le (by omega)]
                      obtain ⟨j, hj⟩ : ∃ j, k - l.length = j + 2 := ⟨k - l.length - 2, by omega⟩
                      rw [hj, show k - (l.length + 2) = j by omega]; rfl
                    rw [et, fieldsL_step (lineL_at ha hb) h0 hf, drop_line, i5 _ (by omega)]; rfl
                · have et : (l ++ 13 :: 10 :: r).take (q + (l.length + 2)) = l ++ 13 :: 10 :: r.take q := by
                    rw [List.take_append, List.take_of_length_le (by omega), show q + (l.length + 2) - l.length = q + 2 by omega]; rfl
                  rw [et, fieldsL_step (lineL_at ha hb) h0 hf, drop_line, i6]; rfl
end Go.Proofs.YtgmjkkiahanekaaGreatDoor

