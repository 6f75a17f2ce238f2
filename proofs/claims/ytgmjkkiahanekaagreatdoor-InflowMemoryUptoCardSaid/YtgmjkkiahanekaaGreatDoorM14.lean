/- The texts FldE, FldF, LexJ, FldG, FrmA, InA in one. -/
import Derived.Test.YtgmjkkiahanekaaGreatDoorM13
import Derived.OwnWalk
import Derived.Deep.QuietTactic
import Derived.BigQuiet
import Derived.Test.YtgmjkkiahanekaaGreatDoorM6
import Derived.Test.YtgmjkkiahanekaaGreatDoorM12
import Derived.Test.YtgmjkkiahanekaaGreatDoorM9
/- The contracts of fields.Remove and Set and of the document's alike, Remove and Set, for every list of fields. -/
set_option linter.unusedVariables false
set_option linter.unusedSimpArgs false
namespace Go.Proofs.YtgmjkkiahanekaaGreatDoor
open Go.RowKit Lex

/-- The bounds of a list of fields. -/
structure FB (fs : List Fd) : Prop where
  len : fs.length ≤ 1048600
  nm : ∀ f ∈ fs, f.1.length ≤ 4194304
  vl : ∀ f ∈ fs, f.2.length ≤ 4194304
theorem FB.remove {fs : List Fd} (h : FB fs) (name : List UInt8) : FB (removeF fs name) :=
  ⟨Nat.le_trans (removeF_length fs name) h.len, fun f hf => h.nm f (removeF_mem hf), fun f hf => h.vl f (removeF_mem hf)⟩

theorem info_field : (Tryz.prog.info? 59).map (fun i => (i.zero, i.size, i.bytes)) = some (some (.agg #[.string ByteArray.empty, .string ByteArray.empty]), 2, 32) := by kernel_rfl

theorem ralike_c (a b : ByteArray) (w : World) (ha : a.size ≤ 140737488351232) (hb : b.size ≤ 140737488351232) : Calls Tryz.prog 52 #[.string a, .string b] w fun e w' => e = .returned (.bool (alike a.data.toList b.data.toList)) ∧ Below w.heap.size w w' := by
  have L1 := fun w => Lib.hid (rlower_c a w ha)
  have L2 := fun w => Lib.hid (rlower_c b w hb)
  go_enter Tryz.func52, Tryz.ntmps52
  go_wp2_with fail
  refine (L1 _).out.mono ?_
  rintro e w1 ⟨rfl, hb1⟩
  go_wp2_with fail
  refine (L2 _).out.mono ?_
  rintro e w2 ⟨rfl, hb2⟩
  go_wp2
  go_ret
  exact ⟨ret_bool (by unfold alike; simp [Lib.toList_data, bs]), below_then hb1 hb2⟩

theorem ones_field (f : Fd) : ∀ u ∈ [Value.string (bs f.1), Value.string (bs f.2)], u.oneCell' = true := by
  intro u hu
  simp only [List.mem_cons, List.not_mem_nil, or_false] at hu
  rcases hu with rfl | rfl <;> rfl
theorem news2 (w : World) (a b : Value) (e : TypeId) : ∀ j u, [a, b][j]? = some u → (w.alloc (.cells #[a, b] e)).cell? ((⟨w.heap.size, 0, none⟩ : Addr).add j) = some u :=
  fun j u hu => World.news_of_block (cs := #[a, b]) (heap_alloc_new w _) j u hu
theorem fvals_one (f : Fd) : fvals [f] = [.string (bs f.1), .string (bs f.2)] := rfl

end Go.Proofs.YtgmjkkiahanekaaGreatDoor

/- The contracts of fields.Set, and of the document's Remove, Set, Same and Get, for every list of fields. -/
set_option linter.unusedVariables false
set_option linter.unusedSimpArgs false
namespace Go.Proofs.YtgmjkkiahanekaaGreatDoor
open Go.RowKit Lex

set_option maxRecDepth 100000 in
set_option maxHeartbeats 4000000 in
theorem samef_c (A A' : Option Addr) (c c' : Nat) (l : List Fd) (w : World) (h1 : Flds w A l) (h2 : Flds w A' l) (hl : l.length ≤ 4398046511104) :
    Calls Tryz.prog 74 #[.slice A l.length c, .slice A' l.length c'] w fun e w' => e = .returned (.bool true) ∧ Below w.heap.size w w' := by
  have H1 := Lib.hid h1
  have H2 := Lib.hid h2
  clear h1 h2
  go_enter Tryz.func74, Tryz.ntmps74
  go_wp2
  go_loopw [5] (fun i wr => ∃ k : Nat, k ≤ l.length ∧ i = .int .i64 k ∧ Below w.heap.size w wr) (fun i _ => l.length - (intOf i).toNat)
  case atStart => exact ⟨0, Nat.zero_le _, rfl, Below.refl _ _⟩
  case round =>
    obtain ⟨k, hk, rfl, hB⟩ := hrel
    by_cases hlt : k < l.length
    · obtain ⟨g, o, hA, c1, c2⟩ := H1.out.below hB k hlt
      obtain ⟨g', o', hA', c1', c2'⟩ := H2.out.below hB k hlt
      rw [hA, hA']
      generalize bs l[k].1 = x at *
      generalize bs l[k].2 = y at *
      clear hA hA'
      have k0 : (0 : Int) ≤ (k : Int) := by omega
      have k1 : (k : Int) < (l.length : Int) := by omega
      go_wp2
      go_quiet (fail)
      go_wp2
      go_roundw
      case rel => exact ⟨k + 1, by omega, by go_num, hB.trans ⟨rfl, rfl, rfl, Nat.le_refl _, fun _ _ => rfl⟩⟩
      case measure => simp [intOf]; omega
    · go_wp2
      go_ret
      exact ⟨rfl, hB⟩
end Go.Proofs.YtgmjkkiahanekaaGreatDoor

/- The contract of Same; the walk over LexLists. -/
set_option linter.unusedVariables false
set_option linter.unusedSimpArgs false
namespace Go.Proofs.YtgmjkkiahanekaaGreatDoor
open Go.RowKit Lex

theorem ba_size' (a b : ByteArray) : (a ++ b).size = a.size + b.size := ByteArray.size_append
/-- A slice's texts, read in a world. -/
def Texts (w : World) (A : Option Addr) (l : List (List UInt8)) : Prop := ∀ j (h : j < l.length), ∃ g, A = some ⟨g, 0, none⟩ ∧ w.cell? ⟨g, j, none⟩ = some (.string (bs l[j]))
theorem texts_of {w : World} {base : Nat} {e : TypeId} {A : Option Addr} {c : Nat} {l : List (List UInt8)} (h : w.ownsRow base e 1 (.slice A l.length c) l.length (strs l)) : Texts w A l := by
  intro j hj
  rcases h.2 with ⟨h1, h2⟩ | ⟨g, cap, cur, he, a, b, _⟩
  · omega
  · injection he with e1 e2 e3
    subst e1
    have := World.ownsRow.cells h (g := g) rfl j (.string (bs l[j])) (by simp [strs, hj])
    refine ⟨g, rfl, ?_⟩
    by_cases hj0 : j = 0
    · subst hj0; simpa [Addr.add] using this
    · simpa [Addr.add, hj0] using this
theorem Texts.below {w w' : World} {A : Option Addr} {l : List (List UInt8)} (h : Texts w A l) (hb : Below w.heap.size w w') : Texts w' A l := by
  intro j hj
  obtain ⟨g, e, hc⟩ := h j hj
  exact ⟨g, e, (hb.cell (World.block_lt_of_cell? w _ hc)).trans hc⟩

/-- The text that LexLists builds. -/
def built (l : List (List UInt8)) : List UInt8 := l.flatMap fun x => 32 :: 44 :: (x ++ [9, 44])
theorem built_snoc (l : List (List UInt8)) (k : Nat) (h : k < l.length) : built (l.take (k + 1)) = built (l.take k) ++ (32 :: 44 :: (l[k] ++ [9, 44])) := by
  unfold built
  rw [List.take_succ_eq_append_getElem h, List.flatMap_append]
  simp only [List.flatMap_cons, List.flatMap_nil, List.append_nil]
theorem built_length (l : List (List UInt8)) : (built l).length = (slashed l).length + 3 * l.length := by
  induction l with
  | nil => rfl
  | cons x r ih => 
    have e1 : (built (x :: r)).length = x.length + 4 + (built r).length := by simp [built]; omega
    have e2 : (slashed (x :: r)).length = x.length + 1 + (slashed r).length := by simp [slashed]; omega
    rw [e1, e2, ih, List.length_cons]; omega
theorem slashed_elems (ps : List (List UInt8)) : (slashed (elemsOf ps)).length ≤ (slashed ps).length := by
  induction ps with
  | nil => exact Nat.le_refl _
  | cons x r ih =>
    have e : ∀ (a : List UInt8) (q : List (List UInt8)), (slashed (a :: q)).length = a.length + 1 + (slashed q).length := fun a q => by simp [slashed]; omega
    by_cases h : trim x = []
    · rw [elemsOf_skip h, e]; omega
    · rw [elemsOf_take h, e, e]
      have := trim_length x
      omega
theorem slashed_pieces' (c : UInt8) (t : List UInt8) : (slashed (pieces c t)).length = t.length + 1 := by
  induction t with
  | nil => rfl
  | cons b t ih =>
    have e : ∀ (a : List UInt8) (q : List (List UInt8)), (slashed (a :: q)).length = a.length + 1 + (slashed q).length := fun a q => by simp [slashed]; omega
    simp only [pieces]
    split
    · rw [e, ih]; simp; omega
    · cases hq : pieces c t with
      | nil => exact absurd hq (pieces_ne c t)
      | cons p ps =>
        rw [hq, e] at ih
        simp only [e, List.length_cons]; omega
theorem built_elems (l : List UInt8) : (built (elems l)).length ≤ 4 * (l.length + 1) ∧ (elems l).length ≤ l.length + 1 := by
  have h1 := slashed_elems (pieces 44 l)
  rw [slashed_pieces'] at h1
  have h2 := elemsOf_length (pieces 44 l)
  have h3 := pieces_length 44 l
  have h4 := built_length (elems l)
  unfold elems at *
  omega
theorem elems_built {l : List (List UInt8)} (h : ∀ x ∈ l, x ≠ [] ∧ trim x = x ∧ ∀ c ∈ x, c ≠ (44 : UInt8)) : elems (built l) = l := by
  induction l with
  | nil => decide
  | cons x r ih =>
    obtain ⟨h1, h2, h3⟩ := h x (by simp)
    have e : built (x :: r) = [32] ++ 44 :: ((x ++ [9]) ++ 44 :: built r) := by simp [built]
    obtain ⟨h4, h5⟩ := (trim_self x).1 h2
    have ht : trim (x ++ [9]) = x := by
      have := trim_mid (a := []) (m := x) (b := [9]) rfl (by decide) h4 h5
      simpa using this
    unfold elems
    rw [e, pieces_at _ (by decide), pieces_at _ (by
      intro c hc
      rcases List.mem_append.1 hc with hc | hc
      · exact h3 c hc
      · simp at hc; subst hc; decide)]
    rw [elemsOf_skip (by decide), elemsOf_take (by rw [ht]; exact h1), ht]
    congr 1
    exact ih (fun y hy => h y (by simp [hy]))

end Go.Proofs.YtgmjkkiahanekaaGreatDoor

/- The contracts of fields.Has and of the document's Get, Elements, Has, One and Strip, for every list of fields. -/
set_option linter.unusedVariables false
set_option linter.unusedSimpArgs false
namespace Go.Proofs.YtgmjkkiahanekaaGreatDoor
open Go.RowKit Lex

theorem valuesF_cons (f : Fd) (l : List Fd) (name : List UInt8) : valuesF (f :: l) name = (if alike f.1 name then [f.2] else []) ++ valuesF l name := by
  unfold valuesF
  by_cases hh : alike f.1 name = true
  · simp [hh]
  · simp [hh]
theorem valuesF_drop (fs : List Fd) (k : Nat) (h : k < fs.length) (name : List UInt8) : valuesF (fs.drop k) name = (if alike fs[k].1 name then [fs[k].2] else []) ++ valuesF (fs.drop (k + 1)) name := by
  rw [List.drop_eq_getElem_cons h, valuesF_cons]
theorem elementsF_take (fs : List Fd) (k : Nat) (h : k < fs.length) (name : List UInt8) : elementsF (fs.take (k + 1)) name = elementsF (fs.take k) name ++ (if alike fs[k].1 name then elems fs[k].2 else []) := by
  unfold elementsF
  rw [valuesF_take fs k h, List.flatMap_append]
  congr 1
  split <;> simp
theorem elementsF_length {fs : List Fd} (hB : FB fs) (k : Nat) (name : List UInt8) : (elementsF (fs.take k) name).length ≤ 4398148223000 := by
  have key : ∀ l : List (List UInt8), (∀ v ∈ l, v.length ≤ 4194304) → (l.flatMap elems).length ≤ l.length * 4194305 := by
    intro l
    induction l with
    | nil => intro _; simp
    | cons v l ih =>
      intro hv
      have h1 := ih (fun u hu => hv u (List.mem_cons_of_mem _ hu))
      have h2 := elems_length v
      have h3 := hv v List.mem_cons_self
      rw [List.flatMap_cons, List.length_append, List.length_cons, Nat.add_mul]; omega
  have h1 := key (valuesF (fs.take k) name) (fun v hv => by
    obtain ⟨f, hf, rfl⟩ := valuesF_mem hv
    exact hB.vl f (List.mem_of_mem_take hf))
  have h2 := valuesF_length (fs.take k) name
  rw [List.length_take] at h2
  have h3 : (valuesF (fs.take k) name).length ≤ 1048600 := by have := hB.len; omega
  have h4 := Nat.mul_le_mul_right 4194305 h3
  unfold elementsF
  omega
theorem elementsF_mem {fs : List Fd} (hB : FB fs) {name x : List UInt8} (h : x ∈ elementsF fs name) : x.length ≤ 4194304 := by
  unfold elementsF at h
  obtain ⟨v, hv, hx⟩ := List.mem_flatMap.1 h
  obtain ⟨f, hf, rfl⟩ := valuesF_mem hv
  exact Nat.le_trans (elems_mem x hx).2.2.2 (hB.vl f hf)

set_option maxRecDepth 100000 in
set_option maxHeartbeats 4000000 in
theorem rget_c (A : Option Addr) (cap : Nat) (fs : List Fd) (name : ByteArray) (w : World) (hnm : name.size ≤ 140737488351232) (hB : FB fs) (hF : Flds w A fs) :
    Calls Tryz.prog 21 #[.slice A fs.length cap, .string name] w fun e w' => e = .returned (.tuple #[.string (bs (getF fs name.data.toList).1), .int .i64 (getF fs name.data.toList).2]) ∧ Below w.heap.size w w' := by
  have HF := Lib.hid hF
  obtain ⟨hl, hb1, hb2⟩ := hB
  have HB1 := Lib.hid hb1
  clear hF hb1 hb2
  go_enter Tryz.func21, Tryz.ntmps21
  go_wp2
  go_loopw [6, 7, 8] (fun v n i wr => ∃ k : Nat, k ≤ fs.length ∧ i = .int .i64 ((k : Int) - 1) ∧ v = .string (bs ((valuesF (fs.drop k) name.data.toList).headD [])) ∧ n = .int .i64 (valuesF (fs.drop k) name.data.toList).length ∧ Below w.heap.size w wr) (fun _ _ i _ => (intOf i + 1).toNat)
  case atStart => exact ⟨fs.length, Nat.le_refl _, rfl, by rw [List.drop_length]; rfl, by rw [List.drop_length]; rfl, Below.refl _ _⟩
  case round =>
    obtain ⟨k, hk, rfl, rfl, rfl, hB⟩ := hrel
    by_cases hlt : 0 < k
    · obtain ⟨q, rfl⟩ : ∃ q, k = q + 1 := ⟨k - 1, by omega⟩
      have hq : q < fs.length := by omega
      obtain ⟨g, o, hA, c1, c2⟩ := HF.out.below hB q hq
      subst hA
      have AL := fun w => Lib.hid (ralike_c (bs fs[q].1) name w (Nat.le_trans (HB1.out _ (List.getElem_mem hq)) (by decide)) hnm)
      rw [bs_list] at AL
      have HR := Lib.hid (valuesF_drop fs q hq name.data.toList)
      have hvl : (valuesF (fs.drop (q + 1)) name.data.toList).length ≤ 1048600 := by
        have h1 := valuesF_length (fs.drop (q + 1)) name.data.toList
        rw [List.length_drop] at h1; omega
      obtain ⟨f, hf⟩ : ∃ f, fs[q] = f := ⟨_, rfl⟩
      rw [hf] at c1 c2 AL HR
      clear hf
      rw [show (((q + 1 : Nat) : Int) - 1) = (q : Int) from by omega]
      generalize hV : valuesF (fs.drop (q + 1)) name.data.toList = V at *
      have HV := Lib.hid hV
      clear hV
      cases hal : alike f.1 name.data.toList with
      | true =>
        rw [hal] at AL HR
        have HR2 := Lib.hid (show valuesF (fs.drop q) name.data.toList = f.2 :: V by rw [HR.out]; simp)
        clear hal HR
        go_wp2_with fail
        refine (AL _).out.mono ?_
        rintro e w1 ⟨rfl, hb⟩
        have d2 := held1 hb c2
        have HB2 := Lib.hid (below_then hB hb)
        clear hb c1 c2 hB
        go_wp2
        go_roundw
        case rel => exact ⟨q, by omega, by go_num, by rw [HR2.out]; rfl, by rw [HR2.out, List.length_cons]; go_num, HB2.out⟩
        case measure => simp [intOf]
      | false =>
        rw [hal] at AL HR
        have HR2 := Lib.hid (show valuesF (fs.drop q) name.data.toList = V by rw [HR.out]; simp)
        clear hal HR
        go_wp2_with (go_at_call 52; refine (AL _).out.mono ?_; rintro e w1 ⟨rfl, hb⟩)
        go_roundw
        case rel => exact ⟨q, by omega, by go_num, by rw [HR2.out]; simp, by rw [HR2.out], below_then hB hb⟩
        case measure => simp [intOf]
    · obtain rfl : k = 0 := by omega
      rw [List.drop_zero]
      go_wp2
      go_ret2
      exact ⟨rfl, hB⟩

set_option maxRecDepth 100000 in
set_option maxHeartbeats 4000000 in
theorem relementsf_c (A : Option Addr) (cap : Nat) (fs : List Fd) (name : ByteArray) (w : World) (hnm : name.size ≤ 140737488351232) (hB : FB fs) (hF : Flds w A fs) :
    Calls Tryz.prog 75 #[.slice A fs.length cap, .string name] w fun e w' => ∃ v, e = .returned v ∧ w'.ownsRow w.heap.size 9 1 v (elementsF fs name.data.toList).length (strs (elementsF fs name.data.toList)) ∧ Below w.heap.size w w' := by
  obtain ⟨i0, hi, hz0, hz1, hz2⟩ := info_parts info_str
  have HF := Lib.hid hF
  have HEL := Lib.hid (elementsF_length hB (name := name.data.toList))
  obtain ⟨hl, hb1, hb2⟩ := hB
  have HB1 := Lib.hid hb1
  have HB2 := Lib.hid hb2
  clear hF hb1 hb2
  go_enter Tryz.func75, Tryz.ntmps75
  go_wp2
  go_loopw [5, 6, 7] (fun v i _ wr => ∃ k : Nat, k ≤ fs.length ∧ i = .int .i64 k ∧ wr.ownsRow w.heap.size 9 1 v (elementsF (fs.take k) name.data.toList).length (strs (elementsF (fs.take k) name.data.toList)) ∧ Below w.heap.size w wr) (fun _ i _ _ => fs.length - (intOf i).toNat)
  case atStart => exact ⟨0, Nat.zero_le _, rfl, World.ownsRow_nil _ _ _ _, Below.refl _ _⟩
  case round =>
    obtain ⟨k, hk, rfl, hown, hB⟩ := hrel
    have HO := Lib.hid hown
    have hz := hB.size
    clear hown
    by_cases hlt : k < fs.length
    · obtain ⟨g, o, hA, c1, c2⟩ := HF.out.below hB k hlt
      subst hA
      have hg := World.block_lt_of_cell? wr _ c1
      have AL := fun w => Lib.hid (ralike_c (bs fs[k].1) name w (Nat.le_trans (HB1.out _ (List.getElem_mem hlt)) (by decide)) hnm)
      have EL := fun w => Lib.hid (relements_c (bs fs[k].2) w (Nat.le_trans (HB2.out _ (List.getElem_mem hlt)) (by decide)))
      have hel := elems_length fs[k].2
      have hvl := HB2.out _ (List.getElem_mem hlt)
      rw [bs_list] at AL EL
      have HR := Lib.hid (elementsF_take fs k hlt name.data.toList)
      have hrl := HEL.out k
      obtain ⟨f, hf⟩ : ∃ f, fs[k] = f := ⟨_, rfl⟩
      rw [hf] at c1 c2 AL EL HR hel hvl
      clear hf
      cases hal : alike f.1 name.data.toList with
      | false =>
        rw [hal] at AL HR
        have HR2 := Lib.hid (show elementsF (fs.take (k + 1)) name.data.toList = elementsF (fs.take k) name.data.toList by rw [HR.out]; simp)
        clear hal HR
        go_wp2_with (go_at_call 52; refine (AL _).out.mono ?_; rintro e w1 ⟨rfl, hb⟩)
        go_roundw
        case rel => exact ⟨k + 1, by omega, by go_num, by rw [HR2.out]; exact own_below HO.out hb, below_then hB hb⟩
        case measure => simp [intOf]; omega
      | true =>
        rw [hal] at AL HR
        have HR2 := Lib.hid (show elementsF (fs.take (k + 1)) name.data.toList = elementsF (fs.take k) name.data.toList ++ elems f.2 by rw [HR.out]; simp)
        clear hal HR
        go_wp2_with fail
        refine (AL _).out.mono ?_
        rintro e w1 ⟨rfl, hb⟩
        have HO1 := Lib.hid (own_below HO.out hb)
        have hB1 := below_then hB hb
        have d2 := held1 hb c2
        clear hb c1 c2 hB
        go_wp2_with fail
        refine (EL _).out.mono ?_
        rintro e w2 ⟨s, rfl, hs, hb⟩
        have HS := Lib.hid hs
        have HO2 := Lib.hid (own_below HO1.out hb)
        have hB2 := below_then hB1 hb
        have hz2' := hB2.size
        clear hb hs hB1 d2
        generalize elementsF (fs.take k) name.data.toList = R at *
        go_wp2_with (at_builtin; refine wpList_append_rows rfl (.tmp 27) (.tmp 28) 33 rfl w.heap.size w1.heap.size 9 i0 (.string ByteArray.empty) 1 16 Tryz.underlying33 hi hz0 hz1 hz2 rfl (by decide) _ R.length _ rfl HO2.out _ (elems f.2).length _ rfl HS.out (ones_strs _) (by unfold maxLen; omega) (by omega) (by omega) ?_; intro v' w3 hown' hgrow _)
        have e1 : strs R ++ strs (elems f.2) = strs (R ++ elems f.2) := by simp [strs]
        rw [e1] at hown'
        have HO' := Lib.hid hown'
        have HB' := Lib.hid (hB2.grown hgrow (by omega) (fun g hg => (HO2.out.lt g hg).1))
        clear hown' hgrow e1
        go_wp2
        go_roundw
        case rel => exact ⟨k + 1, by omega, by go_num, by rw [HR2.out, List.length_append]; exact HO'.out, HB'.out⟩
        case measure => simp [intOf]; omega
    · obtain rfl : k = fs.length := by omega
      have ho := HO.out
      rw [List.take_length] at ho
      have HO2 := Lib.hid ho
      clear ho
      go_wp2
      go_ret
      exact ⟨_, rfl, HO2.out, hB⟩

theorem any_take_false {α : Type} {p : α → Bool} {l : List α} {k : Nat} (h : k < l.length) (ha : (l.take k).any p = false) (hp : p l[k] = false) : (l.take (k + 1)).any p = false := by
  rw [List.take_succ_eq_append_getElem h, List.any_append, ha]; simp [hp]
theorem any_at {α : Type} {p : α → Bool} {l : List α} {k : Nat} (h : k < l.length) (hp : p l[k] = true) : l.any p = true := List.any_eq_true.2 ⟨_, List.getElem_mem h, hp⟩

set_option maxRecDepth 100000 in
set_option maxHeartbeats 4000000 in
theorem rhasf_c (A : Option Addr) (cap : Nat) (fs : List Fd) (name el : ByteArray) (w : World) (hnm : name.size ≤ 140737488351232) (hel : el.size ≤ 140737488351232) (hB : FB fs) (hF : Flds w A fs) :
    Calls Tryz.prog 54 #[.slice A fs.length cap, .string name, .string el] w fun e w' => e = .returned (.bool (hasF fs name.data.toList el.data.toList)) ∧ Below w.heap.size w w' := by
  have EL := fun w h => Lib.hid (relementsf_c A cap fs name w hnm hB h)
  have hmem := fun x h => elementsF_mem (name := name.data.toList) (x := x) hB h
  have HM := Lib.hid hmem
  have hlen := elementsF_length hB fs.length name.data.toList
  rw [List.take_length] at hlen
  unfold hasF
  clear hmem hB
  generalize elementsF fs name.data.toList = l at *
  go_enter Tryz.func54, Tryz.ntmps54
  go_wp2_with fail
  refine (EL _ hF).out.mono ?_
  rintro e w1 ⟨v, rfl, hown, hb⟩
  obtain ⟨a, c, rfl⟩ := own_slice' hown
  have HT := Lib.hid (texts_of hown)
  clear hown hF
  go_wp2
  go_loopw [8] (fun i wr => ∃ k : Nat, k ≤ l.length ∧ i = .int .i64 k ∧ (l.take k).any (fun x => alike x el.data.toList) = false ∧ Below w1.heap.size w1 wr) (fun i _ => l.length - (intOf i).toNat)
  case atStart => exact ⟨0, Nat.zero_le _, rfl, by simp, Below.refl _ _⟩
  case round =>
    obtain ⟨k, hk, rfl, ha, hB⟩ := hrel
    have HA := Lib.hid ha
    clear ha
    by_cases hlt : k < l.length
    · obtain ⟨g, hA, c1⟩ := HT.out.below hB k hlt
      subst hA
      have AL := fun w => Lib.hid (ralike_c (bs l[k]) el w (Nat.le_trans (HM.out _ (List.getElem_mem hlt)) (by decide)) hel)
      rw [bs_list] at AL
      cases hal : alike l[k] el.data.toList with
      | true =>
        have HY := Lib.hid (any_at (p := fun x => alike x el.data.toList) hlt hal)
        rw [hal] at AL
        clear hal
        go_wp2_with (go_at_call 52; refine (AL _).out.mono ?_; rintro e w2 ⟨rfl, hb2⟩)
        go_ret
        exact ⟨ret_bool HY.out.symm, below_then (below_then hb hB) hb2⟩
      | false =>
        have HN := Lib.hid (any_take_false (p := fun x => alike x el.data.toList) hlt HA.out hal)
        rw [hal] at AL
        clear hal
        go_wp2_with (go_at_call 52; refine (AL _).out.mono ?_; rintro e w2 ⟨rfl, hb2⟩)
        go_roundw
        case rel => exact ⟨k + 1, by omega, by go_num, HN.out, below_then hB hb2⟩
        case measure => simp [intOf]; omega
    · obtain rfl : k = l.length := by omega
      have ha := HA.out
      rw [List.take_length] at ha
      have HA2 := Lib.hid ha
      clear ha
      go_wp2
      go_ret
      exact ⟨ret_bool HA2.out.symm, below_then hb hB⟩
end Go.Proofs.YtgmjkkiahanekaaGreatDoor

/- Plain words of layer 9 over lists of fields: lengths, codings, framings; no program in sight. -/
set_option linter.unusedVariables false
set_option linter.unusedSimpArgs false
namespace Go.Proofs.YtgmjkkiahanekaaGreatDoor
open Go.RowKit Lex

def clenU : List UInt8 := [67, 111, 110, 116, 101, 110, 116, 45, 76, 101, 110, 103, 116, 104]
def clenL : List UInt8 := [99, 111, 110, 116, 101, 110, 116, 45, 108, 101, 110, 103, 116, 104]
def tencU : List UInt8 := [84, 114, 97, 110, 115, 102, 101, 114, 45, 69, 110, 99, 111, 100, 105, 110, 103]
def tencL : List UInt8 := [116, 114, 97, 110, 115, 102, 101, 114, 45, 101, 110, 99, 111, 100, 105, 110, 103]
def chunkedL : List UInt8 := [99, 104, 117, 110, 107, 101, 100]
def closeL : List UInt8 := [99, 108, 111, 115, 101]
def keepL : List UInt8 := [107, 101, 101, 112, 45, 97, 108, 105, 118, 101]
def connectM : List UInt8 := [67, 79, 78, 78, 69, 67, 84]
def headM : List UInt8 := [72, 69, 65, 68]
theorem clen_low : lower clenU = lower clenL := by decide +kernel
theorem tenc_low : lower tencU = lower tencL := by decide +kernel

/-- One part of a length: the number, or none. -/
def partN (p : List UInt8) : Option Int := if (decimal (trim p) 15).2 = true then some (decimal (trim p) 15).1 else none
/-- The lengths, read one by one: nothing yet, or one number. -/
def lenGo : Option Int → List (List UInt8) → Option (Option Int)
  | st, [] => some st
  | st, p :: r => match partN p with
    | none => none
    | some n => if st = none ∨ st = some n then lenGo (some n) r else none
def partsF (fs : List Fd) : List (List UInt8) := (valuesF fs clenL).flatMap (pieces 44)
def lengthF (fs : List Fd) : Option (Option Int) := lenGo none (partsF fs)
def sizedF (fs : List Fd) : Bool := decide (0 < (getF fs clenL).2)
def codedF (fs : List Fd) : Bool := decide (0 < (getF fs tencL).2)
def chk (x : List UInt8) : Bool := alike x chunkedL
/-- 1: chunked alone; 2: chunked once, at the end; 3: anything else. -/
def codeL (l : List (List UInt8)) : Int := if l = [] ∨ (l.getLast?.map chk).getD false = false ∨ l.dropLast.any chk = true then 3 else if l.length = 1 then 1 else 2
def codeF (fs : List Fd) : Int := codeL (elementsF fs tencL)
def reqF (minor : Int) (fs : List Fd) (most : Int) : Int × Int × Int :=
  if codedF fs = true then (if minor = 0 ∨ sizedF fs = true ∨ codeF fs = 3 then (0, 0, 90) else if codeF fs = 1 then (3, 0, 0) else (0, 0, 91))
  else if sizedF fs = false then (1, 0, 0)
  else match lengthF fs with
    | some (some n) => if most < n then (0, 0, 101) else (2, n, 0)
    | _ => (0, 0, 90)
def noBody (s : Int) : Bool := (decide (100 ≤ s) && decide (s ≤ 199)) || decide (s = 204) || decide (s = 304)
def respF (method : List UInt8) (s minor : Int) (fs : List Fd) : Int × Int × Int :=
  if s = 101 then (5, 0, 0)
  else if noBody s = true then (1, 0, 0)
  else if method = connectM ∧ 200 ≤ s ∧ s ≤ 299 then (5, 0, 0)
  else if method = headM then (1, 0, 0)
  else if codedF fs = true then (if minor = 0 ∨ sizedF fs = true then (0, 0, 90) else if codeF fs = 1 then (3, 0, 0) else (0, 0, 91))
  else if sizedF fs = false then (4, 0, 0)
  else match lengthF fs with
    | some (some n) => (2, n, 0)
    | _ => (0, 0, 90)
def keepF (minor : Int) (fs : List Fd) : Bool := !hasF fs conn closeL && (decide (minor ≠ 0) || hasF fs conn keepL)

theorem lenGo_cons_bad {st : Option Int} {p : List UInt8} {r : List (List UInt8)} (h : partN p = none) : lenGo st (p :: r) = none := by simp only [lenGo, h]
theorem lenGo_cons_ok {st : Option Int} {p : List UInt8} {r : List (List UInt8)} {n : Int} (h : partN p = some n) (hs : st = none ∨ st = some n) : lenGo st (p :: r) = lenGo (some n) r := by simp only [lenGo, h]; rw [if_pos hs]
theorem lenGo_cons_ne {st : Option Int} {p : List UInt8} {r : List (List UInt8)} {n : Int} (h : partN p = some n) (hs : ¬ (st = none ∨ st = some n)) : lenGo st (p :: r) = none := by simp only [lenGo, h]; rw [if_neg hs]
theorem lenGo_some (n : Int) (l : List (List UInt8)) : lenGo (some n) l ≠ some none := by
  induction l generalizing n with
  | nil => simp [lenGo]
  | cons p r ih =>
    cases h : partN p with
    | none => rw [lenGo_cons_bad h]; simp
    | some k =>
      by_cases hs : (some n : Option Int) = none ∨ some n = some k
      · rw [lenGo_cons_ok h hs]; exact ih k
      · rw [lenGo_cons_ne h hs]; simp
theorem lenGo_cons (st : Option Int) (p : List UInt8) (r : List (List UInt8)) : lenGo st (p :: r) ≠ some none := by
  cases h : partN p with
  | none => rw [lenGo_cons_bad h]; simp
  | some k =>
    by_cases hs : st = none ∨ st = some k
    · rw [lenGo_cons_ok h hs]; exact lenGo_some _ _
    · rw [lenGo_cons_ne h hs]; simp
theorem partN_bound {p : List UInt8} {n : Int} (h : partN p = some n) : 0 ≤ n ∧ n < 1000000000000000 := by
  unfold partN at h
  split at h
  · injection h with h
    subst h
    rename_i h2
    generalize trim p = t at *
    unfold decimal at *
    rw [show (if (18 : Int) < 15 then (18 : Int) else 15) = 15 from by decide] at *
    unfold number at *
    split at h2
    · cases h2
    · rename_i h3
      rw [if_neg h3]
      simp only [not_or] at h3
      obtain ⟨a, b, c⟩ := h3
      have hb := num_bound 10 (by omega) t (by simpa using c)
      have hl : t.length ≤ 15 := by omega
      have : (10 : Int) ^ t.length ≤ 10 ^ 15 := by
        have := Nat.pow_le_pow_right (n := 10) (by decide) hl
        exact_mod_cast this
      have h4 : (10 : Int) ^ 15 = 1000000000000000 := by decide
      simp only
      omega
  · cases h
theorem lenGo_bound {st : Option Int} {l : List (List UInt8)} {n : Int} (hs : ∀ m, st = some m → 0 ≤ m ∧ m < 1000000000000000) (h : lenGo st l = some (some n)) : 0 ≤ n ∧ n < 1000000000000000 := by
  induction l generalizing st with
  | nil => simp only [lenGo] at h; injection h with h; exact hs n h
  | cons p r ih =>
    cases hp : partN p with
    | none => rw [lenGo_cons_bad hp] at h; cases h
    | some k =>
      by_cases hq : st = none ∨ st = some k
      · rw [lenGo_cons_ok hp hq] at h
        exact ih (fun m hm => by injection hm with hm; subst hm; exact partN_bound hp) h
      · rw [lenGo_cons_ne hp hq] at h; cases h
theorem length_bound {fs : List Fd} {n : Int} (h : lengthF fs = some (some n)) : 0 ≤ n ∧ n < 1000000000000000 := lenGo_bound (fun _ e => by cases e) h
theorem sized_parts {fs : List Fd} (h : sizedF fs = true) : ∃ p r, partsF fs = p :: r := by
  unfold sizedF getF at h
  simp only [decide_eq_true_eq] at h
  unfold partsF
  cases hv : valuesF fs clenL with
  | nil => rw [hv] at h; simp at h
  | cons v vs =>
    cases hp : pieces 44 v with
    | nil => exact absurd hp (pieces_ne 44 v)
    | cons p ps => exact ⟨p, ps ++ vs.flatMap (pieces 44), by rw [List.flatMap_cons, hp]; rfl⟩
theorem length_sized {fs : List Fd} (h : sizedF fs = true) : lengthF fs ≠ some none := by
  obtain ⟨p, r, e⟩ := sized_parts h
  unfold lengthF; rw [e]; exact lenGo_cons _ _ _
theorem partsF_drop (fs : List Fd) (k : Nat) (h : k < fs.length) : partsF (fs.drop k) = (if alike fs[k].1 clenL then pieces 44 fs[k].2 else []) ++ partsF (fs.drop (k + 1)) := by
  unfold partsF
  rw [valuesF_drop fs k h, List.flatMap_append]
  congr 1
  split <;> simp
theorem partsF_nil : partsF [] = [] := rfl
theorem codeL_nil : codeL [] = 3 := rfl
theorem codeL_cases (l : List (List UInt8)) : codeL l = 1 ∨ codeL l = 2 ∨ codeL l = 3 := by
  unfold codeL; split
  · exact .inr (.inr rfl)
  · split
    · exact .inl rfl
    · exact .inr (.inl rfl)
/-- How often chunked is there. -/
def countC (l : List (List UInt8)) : Nat := (l.filter chk).length
theorem countC_snoc (l : List (List UInt8)) (k : Nat) (h : k < l.length) : countC (l.take (k + 1)) = countC (l.take k) + (if chk l[k] then 1 else 0) := by
  unfold countC
  rw [List.take_succ_eq_append_getElem h, List.filter_append, List.length_append]
  congr 1
  by_cases hc : chk l[k] = true
  · rw [if_pos hc]; simp [hc]
  · rw [if_neg hc]; simp [hc]
theorem countC_any {l : List (List UInt8)} : countC l = 0 ↔ l.any chk = false := by
  unfold countC
  rw [List.length_eq_zero_iff, List.filter_eq_nil_iff, List.any_eq_false]
theorem code_last {l : List (List UInt8)} (hl : l ≠ []) : (codeL l ≠ 3) ↔ (countC l = 1 ∧ chk (l.getLast hl) = true) := by
  have e := List.dropLast_concat_getLast hl
  have hc : countC l = countC l.dropLast + (if chk (l.getLast hl) then 1 else 0) := by
    conv => lhs; rw [← e]
    unfold countC
    rw [List.filter_append, List.length_append]
    congr 1
    by_cases hc : chk (l.getLast hl) = true
    · rw [if_pos hc]; simp [hc]
    · rw [if_neg hc]; simp [hc]
  have hg : (l.getLast?.map chk).getD false = chk (l.getLast hl) := by rw [List.getLast?_eq_some_getLast hl]; rfl
  unfold codeL
  rw [hg]
  cases hk : chk (l.getLast hl) with
  | false => simp
  | true =>
    rw [hk, if_pos rfl] at hc
    have h0 := countC_any (l := l.dropLast)
    by_cases h1 : l.dropLast.any chk = true
    · rw [if_pos (.inr (.inr h1))]
      constructor
      · intro h; exact absurd rfl h
      · rintro ⟨h, _⟩
        have : countC l.dropLast = 0 := by omega
        rw [h0.1 this] at h1; cases h1
    · have h2 : l.dropLast.any chk = false := by simpa using h1
      rw [if_neg (by rintro (h | h | h) <;> simp_all)]
      have h3 := h0.2 h2
      constructor
      · intro _; exact ⟨by omega, rfl⟩
      · intro _; split <;> decide
theorem code_alone {l : List (List UInt8)} (h : codeL l ≠ 3) : codeL l = 1 ↔ l.length = 1 := by
  unfold codeL at *
  split at h
  · exact absurd rfl h
  · rename_i h1
    rw [if_neg h1]
    split
    · rename_i h2; simp [h2]
    · rename_i h2; simp [h2]
end Go.Proofs.YtgmjkkiahanekaaGreatDoor

/- The plain words of layer 11: a request's head and whom it is for, the document's reading of a request, the reader that keeps what it has read. -/
set_option linter.unusedVariables false
set_option linter.unusedSimpArgs false
namespace Go.Proofs.YtgmjkkiahanekaaGreatDoor
open Lex

structure Rq where
  head : Hd := {}
  tg : Tg := {}
  host : List UInt8 := []
  port : Int := 0
  body : List UInt8 := []
  sized : Bool := false
  keep : Bool := false
  upg : List UInt8 := []
def hostU : List UInt8 := [72, 111, 115, 116]
def hostN : List UInt8 := [104, 111, 115, 116]
def expectU : List UInt8 := [69, 120, 112, 101, 99, 116]
def expectN : List UInt8 := [101, 120, 112, 101, 99, 116]
def upgU : List UInt8 := [85, 112, 103, 114, 97, 100, 101]
def upgN : List UInt8 := [117, 112, 103, 114, 97, 100, 101]
def connN : List UInt8 := [99, 111, 110, 110, 101, 99, 116, 105, 111, 110]
def getW : List UInt8 := [71, 69, 84]
def statusE (e : Int) : Int := if e = 82 then 414 else if e = 83 then 431 else if e = 81 then 505 else if e = 91 then 501 else if e = 101 then 413 else 400
theorem status_pos (e : Int) : 400 ≤ statusE e ∧ statusE e ≤ 505 := by unfold statusE; repeat' (first | decide | split)
def hostL (h : Hd) (t : Tg) : Option (List UInt8 × Int) :=
  if 1 < (getF h.fields hostN).2 ∨ ((getF h.fields hostN).2 = 0 ∧ h.minor ≠ 0) then none
  else if (getF h.fields hostN).2 = 1 ∧ authB (getF h.fields hostN).1 = none then none
  else if t.form = 2 ∨ t.form = 3 then some (t.host, t.port)
  else if (getF h.fields hostN).2 = 0 then some ([], 0)
  else authB (getF h.fields hostN).1
def upgradeL (h : Hd) (k : Int) : List UInt8 :=
  if h.method = getW ∧ h.minor ≠ 0 ∧ k = 1 ∧ (elementsF h.fields upgN).length = 1 ∧ hasF h.fields conn upgN = true then lower ((elementsF h.fields upgN).headD []) else []
/-- A head: the request, how its body is framed, how many bytes it has. -/
def beginL (most : Int) (b : List UInt8) : Option (Rq × Int × Int × Nat) × Int :=
  if (readL true startL b).2.2 ≠ 0 then (none, statusE (readL true startL b).2.2)
  else if (readL true startL b).2.1 = 0 then (none, 0)
  else if (parseT (readL true startL b).1.method (readL true startL b).1.target).2 ≠ 0 then (none, 400)
  else match hostL (readL true startL b).1 (parseT (readL true startL b).1.method (readL true startL b).1.target).1 with
  | none => (none, 400)
  | some (n, o) =>
    if 0 < (getF (readL true startL b).1.fields expectN).2 then (none, 417)
    else if (reqF (readL true startL b).1.minor (readL true startL b).1.fields most).2.2 ≠ 0 then (none, statusE (reqF (readL true startL b).1.minor (readL true startL b).1.fields most).2.2)
    else if (readL true startL b).1.method = connectL ∧ (reqF (readL true startL b).1.minor (readL true startL b).1.fields most).1 ≠ 1 then (none, 400)
    else (some ({ head := (readL true startL b).1, tg := (parseT (readL true startL b).1.method (readL true startL b).1.target).1, host := n, port := o, sized := decide ((reqF (readL true startL b).1.minor (readL true startL b).1.fields most).1 ≠ 1), keep := keepF (readL true startL b).1.minor (readL true startL b).1.fields, upg := upgradeL (readL true startL b).1 (reqF (readL true startL b).1.minor (readL true startL b).1.fields most).1 },
      (reqF (readL true startL b).1.minor (readL true startL b).1.fields most).1, (reqF (readL true startL b).1.minor (readL true startL b).1.fields most).2.1, (readL true startL b).2.1), 0)
/-- The document's reading: the request and how many bytes it has, or the status. -/
def docR (most : Int) (s : List UInt8) : Option (Rq × Nat) × Int :=
  match beginL most s with
  | (none, e) => (none, e)
  | (some (q, k, l, n), _) =>
    if k = 1 then (some (q, n), 0)
    else if k = 2 then (if (s.length : Int) - (n : Int) < l then (none, 0) else (some ({ q with body := (s.drop n).take l.toNat }, n + l.toNat), 0))
    else if (runD { most := most } (s.drop n)).2.2.err ≠ 0 then (none, statusE (runD { most := most } (s.drop n)).2.2.err)
    else if (runD { most := most } (s.drop n)).2.2.st = 4 then (some ({ q with body := (runD { most := most } (s.drop n)).1 }, n + (runD { most := most } (s.drop n)).2.1), 0)
    else (none, 0)
/-- The reader: what it keeps of a request that isn't whole. -/
structure In where
  most : Int
  status : Int := 0
  buf : List UInt8 := []
  now : Option (Rq × Nat) := none
  kind : Int := 0
  len : Int := 0
  used : Nat := 0
  dec : Option Dec := none
  body : List UInt8 := []
/-- What it keeps agrees with the bytes. -/
structure In.Ok (r : In) : Prop where
  most : -9223372036854775808 ≤ r.most ∧ r.most ≤ 9223372036854775807
  st : 0 ≤ r.status ∧ r.status ≤ 999
  head : ∀ q n, r.now = some (q, n) → r.status = 0 → beginL r.most r.buf = (some (q, r.kind, r.len, n), 0)
  plain : ∀ q n, r.now = some (q, n) → r.status = 0 → r.kind ≠ 3 → r.used = n
  chunk : ∀ q n, r.now = some (q, n) → r.status = 0 → r.kind = 3 → n ≤ r.used ∧ r.used ≤ r.buf.length ∧ ∃ d, r.dec = some d ∧ runD { most := r.most } ((r.buf.drop n).take (r.used - n)) = (r.body, r.used - n, d) ∧ d.st ≠ 4 ∧ d.err = 0
def feedI (r : In) (s : List UInt8) : In := { r with buf := r.buf ++ s }
def restI (r : In) : In := { r with buf := [], now := none, used := 0 }
end Go.Proofs.YtgmjkkiahanekaaGreatDoor

