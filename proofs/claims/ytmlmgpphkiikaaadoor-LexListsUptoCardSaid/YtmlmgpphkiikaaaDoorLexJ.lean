/- The contract of Same; the walk over LexLists. -/
import Derived.Test.YtmlmgpphkiikaaaDoorLexI
import Derived.Deep.QuietTactic
import Derived.BigQuiet
set_option linter.unusedVariables false
set_option linter.unusedSimpArgs false
namespace Go.Proofs.YtmlmgpphkiikaaaDoor
open Go.RowKit Lex

theorem ba_size' (a b : ByteArray) : (a ++ b).size = a.size + b.size := ByteArray.size_append
/-- A slice's texts, read in a world. -/
def Texts (w : World) (A : Option Addr) (l : List (List UInt8)) : Prop := ∀ j (h : j < l.length), ∃ g, A = some ⟨g, 0, none⟩ ∧ w.cell? ⟨g, j, none⟩ = some (.string (bs l[j]))
theorem texts_of {w : World} {base : Nat} {e : TypeId} {A : Option Addr} {c : Nat} {l : List (List UInt8)} (h : w.ownsRow base e 1 (.slice A l.length c) l.length (strs l)) : Texts w A l := by
  intro j hj
  rcases h.2 with ⟨h1, h2⟩ | ⟨g, cap, cur, he, a, b, _⟩
  · omega
  · injection he with e1 e2 e3
    subst e1
    have := World.ownsRow.cells h (g := g) rfl j (.string (bs l[j])) (by simp [strs, hj])
    refine ⟨g, rfl, ?_⟩
    by_cases hj0 : j = 0
    · subst hj0; simpa [Addr.add] using this
    · simpa [Addr.add, hj0] using this
theorem Texts.below {w w' : World} {A : Option Addr} {l : List (List UInt8)} (h : Texts w A l) (hb : Below w.heap.size w w') : Texts w' A l := by
  intro j hj
  obtain ⟨g, e, hc⟩ := h j hj
  exact ⟨g, e, (hb.cell (World.block_lt_of_cell? w _ hc)).trans hc⟩

set_option maxHeartbeats 4000000 in
theorem same_c (A A' : Option Addr) (c c' : Nat) (l : List (List UInt8)) (w : World) (h1 : Texts w A l) (h2 : Texts w A' l) (hl : l.length ≤ 1099511627776) :
    Calls Tryd.prog 40 #[.slice A l.length c, .slice A' l.length c'] w fun e w' => e = .returned (.bool true) ∧ Below w.heap.size w w' := by
  have H1 := Lib.hid h1
  have H2 := Lib.hid h2
  clear h1 h2
  go_enter Tryd.func40, Tryd.ntmps40
  go_wp2
  go_loopw [5] (fun i wr => ∃ k : Nat, k ≤ l.length ∧ i = .int .i64 k ∧ Below w.heap.size w wr) (fun i _ => l.length - (intOf i).toNat)
  case atStart => exact ⟨0, Nat.zero_le _, rfl, Below.refl _ _⟩
  case round =>
    obtain ⟨k, hk, rfl, hB⟩ := hrel
    by_cases hlt : k < l.length
    · obtain ⟨g, hA, hc⟩ := H1.out.below hB k hlt
      obtain ⟨g', hA', hc'⟩ := H2.out.below hB k hlt
      rw [hA, hA']
      generalize bs l[k] = x at *
      clear hA hA'
      go_wp2
      go_quiet (fail)
      go_wp2
      go_roundw
      case rel => exact ⟨k + 1, by omega, by go_num, hB.trans ⟨rfl, rfl, rfl, Nat.le_refl _, fun _ _ => rfl⟩⟩
      case measure => simp [intOf]; omega
    · go_wp2
      go_ret
      exact ⟨rfl, hB⟩

/-- The text that LexLists builds. -/
def built (l : List (List UInt8)) : List UInt8 := l.flatMap fun x => 32 :: 44 :: (x ++ [9, 44])
theorem built_snoc (l : List (List UInt8)) (k : Nat) (h : k < l.length) : built (l.take (k + 1)) = built (l.take k) ++ (32 :: 44 :: (l[k] ++ [9, 44])) := by
  unfold built
  rw [List.take_succ_eq_append_getElem h, List.flatMap_append]
  simp only [List.flatMap_cons, List.flatMap_nil, List.append_nil]
theorem built_length (l : List (List UInt8)) : (built l).length = (slashed l).length + 3 * l.length := by
  induction l with
  | nil => rfl
  | cons x r ih => 
    have e1 : (built (x :: r)).length = x.length + 4 + (built r).length := by simp [built]; omega
    have e2 : (slashed (x :: r)).length = x.length + 1 + (slashed r).length := by simp [slashed]; omega
    rw [e1, e2, ih, List.length_cons]; omega
theorem slashed_elems (ps : List (List UInt8)) : (slashed (elemsOf ps)).length ≤ (slashed ps).length := by
  induction ps with
  | nil => exact Nat.le_refl _
  | cons x r ih =>
    have e : ∀ (a : List UInt8) (q : List (List UInt8)), (slashed (a :: q)).length = a.length + 1 + (slashed q).length := fun a q => by simp [slashed]; omega
    by_cases h : trim x = []
    · rw [elemsOf_skip h, e]; omega
    · rw [elemsOf_take h, e, e]
      have := trim_length x
      omega
theorem slashed_pieces' (c : UInt8) (t : List UInt8) : (slashed (pieces c t)).length = t.length + 1 := by
  induction t with
  | nil => rfl
  | cons b t ih =>
    have e : ∀ (a : List UInt8) (q : List (List UInt8)), (slashed (a :: q)).length = a.length + 1 + (slashed q).length := fun a q => by simp [slashed]; omega
    simp only [pieces]
    split
    · rw [e, ih]; simp; omega
    · cases hq : pieces c t with
      | nil => exact absurd hq (pieces_ne c t)
      | cons p ps =>
        rw [hq, e] at ih
        simp only [e, List.length_cons]; omega
theorem built_elems (l : List UInt8) : (built (elems l)).length ≤ 4 * (l.length + 1) ∧ (elems l).length ≤ l.length + 1 := by
  have h1 := slashed_elems (pieces 44 l)
  rw [slashed_pieces'] at h1
  have h2 := elemsOf_length (pieces 44 l)
  have h3 := pieces_length 44 l
  have h4 := built_length (elems l)
  unfold elems at *
  omega
theorem elems_built {l : List (List UInt8)} (h : ∀ x ∈ l, x ≠ [] ∧ trim x = x ∧ ∀ c ∈ x, c ≠ (44 : UInt8)) : elems (built l) = l := by
  induction l with
  | nil => decide
  | cons x r ih =>
    obtain ⟨h1, h2, h3⟩ := h x (by simp)
    have e : built (x :: r) = [32] ++ 44 :: ((x ++ [9]) ++ 44 :: built r) := by simp [built]
    obtain ⟨h4, h5⟩ := (trim_self x).1 h2
    have ht : trim (x ++ [9]) = x := by
      have := trim_mid (a := []) (m := x) (b := [9]) rfl (by decide) h4 h5
      simpa using this
    unfold elems
    rw [e, pieces_at _ (by decide), pieces_at _ (by
      intro c hc
      rcases List.mem_append.1 hc with hc | hc
      · exact h3 c hc
      · simp at hc; subst hc; decide)]
    rw [elemsOf_skip (by decide), elemsOf_take (by rw [ht]; exact h1), ht]
    congr 1
    exact ih (fun y hy => h y (by simp [hy]))

set_option maxRecDepth 100000 in
set_option maxHeartbeats 4000000 in
theorem lists_walk (s : ByteArray) (hs : s.size ≤ 1048576) (m : Int) (W : World) {w : World} (hW : W = w) (hm : W.cell? ⟨0, 0, none⟩ = some (.int .i64 m)) :
    Calls Tryd.prog 13 #[.string s] W fun e w' => e = .returned (.bool true) ∧ Below W.heap.size W w' := by
  subst hW
  have A := Lib.hid (anchor_c W)
  have E1 := fun w hm => Lib.hid (elements_c s m w (by omega) hm)
  have E2 := fun w => Lib.hid (relements_c s w (by omega))
  have EM := Lib.hid (elems_mem (l := s.data.toList))
  obtain ⟨hbl, hel⟩ := built_elems s.data.toList
  have hb := elems_built (l := elems s.data.toList) (fun x hx => ⟨(EM.out x hx).1, (EM.out x hx).2.1, (EM.out x hx).2.2.1⟩)
  rw [size_list] at hbl hel
  have E3 := fun w hm => Lib.hid (elements_c (bs (built (elems s.data.toList))) m w (by show (built _).length ≤ _; omega) hm)
  rw [bs_list, hb] at E3
  have hmem : ∀ x ∈ elems s.data.toList, x.length ≤ 1048576 := fun x hx => by
    have := (EM.out x hx).2.2.2
    rw [size_list] at this; omega
  have HM := Lib.hid hmem
  have hbt : ∀ k, (built ((elems s.data.toList).take k)).length ≤ 5242880 := fun k => by
    have h1 := built_length ((elems s.data.toList).take k)
    have h2 := built_length (elems s.data.toList)
    have h3 : (slashed ((elems s.data.toList).take k)).length ≤ (slashed (elems s.data.toList)).length := by
      conv => rhs; rw [← List.take_append_drop k (elems s.data.toList)]
      unfold slashed; rw [List.flatMap_append, List.length_append]; omega
    have h4 : ((elems s.data.toList).take k).length ≤ (elems s.data.toList).length := by rw [List.length_take]; omega
    omega
  have HBT := Lib.hid hbt
  clear hbl hb hmem hbt
  generalize elems s.data.toList = l at *
  go_enter Tryd.func13, Tryd.ntmps13
  go_wp2_with fail
  refine A.out.mono ?_
  rintro e w1 ⟨rfl, hb1⟩
  have hm1 := cell_below hb1 hm
  go_wp2_with fail
  refine (E1 _ hm1).out.mono ?_
  rintro e w2 ⟨v, rfl, ho2, hb2⟩
  obtain ⟨a, c, rfl⟩ := own_slice' ho2
  have t2 := texts_of ho2
  have hm2 := cell_below hb2 hm1
  clear ho2
  go_wp2_with fail
  refine (E2 _).out.mono ?_
  rintro e w3 ⟨v, rfl, ho3, hb3⟩
  obtain ⟨a', c', rfl⟩ := own_slice' ho3
  have S1 := Lib.hid (same_c a a' c c' l w3 (t2.below hb3) (texts_of ho3) (by omega))
  have t3 := t2.below hb3
  have hm3 := cell_below hb3 hm2
  clear ho3 t2
  go_wp2_with fail
  refine S1.out.mono ?_
  rintro e w4 ⟨rfl, hb4⟩
  have T4 := Lib.hid (t3.below hb4)
  have hm4 := cell_below hb4 hm3
  have hB := below_then (below_then (below_then hb1 hb2) hb3) hb4
  clear hb1 hb2 hb3 hb4 t3 hm1 hm2 hm3 S1
  go_wp2
  go_loopw [4, 18] (fun t i wr => ∃ k : Nat, k ≤ l.length ∧ t = .string (bs (built (l.take k))) ∧ i = .int .i64 k ∧ Below w4.heap.size w4 wr) (fun _ i _ => l.length - (intOf i).toNat)
  case atStart => exact ⟨0, Nat.zero_le _, rfl, rfl, Below.refl _ _⟩
  case round =>
    obtain ⟨k, hk, rfl, rfl, hb5⟩ := hrel
    by_cases hlt : k < l.length
    · obtain ⟨g, hA, hc⟩ := T4.out.below hb5 k hlt
      have hxm := EM.out l[k] (List.getElem_mem hlt)
      have hxl := HM.out l[k] (List.getElem_mem hlt)
      have HSN := Lib.hid (built_snoc l k hlt)
      have hy := HBT.out k
      have K := fun w => Lib.hid (trim_c (bs l[k]) w (by show l[k].length ≤ _; omega))
      rw [bs_list, hxm.2.1] at K
      have hne := hxm.1
      clear hxm
      generalize built (l.take k) = y at *
      generalize l[k] = x at *
      have f3 : x.isEmpty = false := by
        cases x with
        | nil => exact absurd rfl hne
        | cons => rfl
      have z1 : (⟨#[32, 44]⟩ : ByteArray).size + (bs x).size ≤ 9223372036854775807 := by show 2 + x.length ≤ _; omega
      have z2 : ((⟨#[32, 44]⟩ : ByteArray) ++ bs x).size + (⟨#[9, 44]⟩ : ByteArray).size ≤ 9223372036854775807 := by rw [ba_size']; show 2 + x.length + 2 ≤ _; omega
      have z3 : (bs y).size + ((⟨#[32, 44]⟩ : ByteArray) ++ bs x ++ ⟨#[9, 44]⟩).size ≤ 9223372036854775807 := by rw [ba_size', ba_size']; show y.length + (2 + x.length + 2) ≤ _; omega
      subst hA
      clear hne
      go_wp2_with (go_at_call 23; refine (K _).out.mono ?_; rintro e w6 ⟨rfl, hb6⟩)
      go_roundw
      case rel => exact ⟨k + 1, by omega, by rw [HSN.out]; first | (congr 1; exact bytes_ext (by simp [bs, ByteArray.data_append])) | rfl, by go_num, below_then hb5 hb6⟩
      case measure => simp [intOf]; omega
    · obtain rfl : k = l.length := by omega
      rw [List.take_length]
      have hm5 := cell_below hb5 hm4
      go_wp2_with fail
      refine (E3 _ hm5).out.mono ?_
      rintro e w6 ⟨v, rfl, ho6, hb6⟩
      obtain ⟨a2, c2, rfl⟩ := own_slice' ho6
      have S2 := Lib.hid (same_c a2 a c2 c l w6 (texts_of ho6) ((T4.out.below hb5).below hb6) (by omega))
      clear ho6
      go_wp2_with fail
      refine S2.out.mono ?_
      rintro e w7 ⟨rfl, hb7⟩
      go_wp2
      go_ret
      exact ⟨rfl, below_then (below_then (below_then hB hb5) hb6) hb7⟩
end Go.Proofs.YtmlmgpphkiikaaaDoor
