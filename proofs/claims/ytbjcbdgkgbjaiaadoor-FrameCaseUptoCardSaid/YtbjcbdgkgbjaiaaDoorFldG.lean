/- The contracts of fields.Has and of the document's Get, Elements, Has, One and Strip, for every list of fields. -/
import Derived.Test.YtbjcbdgkgbjaiaaDoorFldF
import Derived.Test.YtbjcbdgkgbjaiaaDoorLexJ
set_option linter.unusedVariables false
set_option linter.unusedSimpArgs false
namespace Go.Proofs.YtbjcbdgkgbjaiaaDoor
open Go.RowKit Lex

theorem valuesF_cons (f : Fd) (l : List Fd) (name : List UInt8) : valuesF (f :: l) name = (if alike f.1 name then [f.2] else []) ++ valuesF l name := by
  unfold valuesF
  by_cases hh : alike f.1 name = true
  · simp [hh]
  · simp [hh]
theorem valuesF_drop (fs : List Fd) (k : Nat) (h : k < fs.length) (name : List UInt8) : valuesF (fs.drop k) name = (if alike fs[k].1 name then [fs[k].2] else []) ++ valuesF (fs.drop (k + 1)) name := by
  rw [List.drop_eq_getElem_cons h, valuesF_cons]
theorem elementsF_take (fs : List Fd) (k : Nat) (h : k < fs.length) (name : List UInt8) : elementsF (fs.take (k + 1)) name = elementsF (fs.take k) name ++ (if alike fs[k].1 name then elems fs[k].2 else []) := by
  unfold elementsF
  rw [valuesF_take fs k h, List.flatMap_append]
  congr 1
  split <;> simp
theorem elementsF_length {fs : List Fd} (hB : FB fs) (k : Nat) (name : List UInt8) : (elementsF (fs.take k) name).length ≤ 4398148223000 := by
  have key : ∀ l : List (List UInt8), (∀ v ∈ l, v.length ≤ 4194304) → (l.flatMap elems).length ≤ l.length * 4194305 := by
    intro l
    induction l with
    | nil => intro _; simp
    | cons v l ih =>
      intro hv
      have h1 := ih (fun u hu => hv u (List.mem_cons_of_mem _ hu))
      have h2 := elems_length v
      have h3 := hv v List.mem_cons_self
      rw [List.flatMap_cons, List.length_append, List.length_cons, Nat.add_mul]; omega
  have h1 := key (valuesF (fs.take k) name) (fun v hv => by
    obtain ⟨f, hf, rfl⟩ := valuesF_mem hv
    exact hB.vl f (List.mem_of_mem_take hf))
  have h2 := valuesF_length (fs.take k) name
  rw [List.length_take] at h2
  have h3 : (valuesF (fs.take k) name).length ≤ 1048600 := by have := hB.len; omega
  have h4 := Nat.mul_le_mul_right 4194305 h3
  unfold elementsF
  omega
theorem elementsF_mem {fs : List Fd} (hB : FB fs) {name x : List UInt8} (h : x ∈ elementsF fs name) : x.length ≤ 4194304 := by
  unfold elementsF at h
  obtain ⟨v, hv, hx⟩ := List.mem_flatMap.1 h
  obtain ⟨f, hf, rfl⟩ := valuesF_mem hv
  exact Nat.le_trans (elems_mem x hx).2.2.2 (hB.vl f hf)

set_option maxRecDepth 100000 in
set_option maxHeartbeats 4000000 in
theorem rget_c (A : Option Addr) (cap : Nat) (fs : List Fd) (name : ByteArray) (w : World) (hnm : name.size ≤ 140737488351232) (hB : FB fs) (hF : Flds w A fs) :
    Calls Tryd.prog 39 #[.slice A fs.length cap, .string name] w fun e w' => e = .returned (.tuple #[.string (bs (getF fs name.data.toList).1), .int .i64 (getF fs name.data.toList).2]) ∧ Below w.heap.size w w' := by
  have HF := Lib.hid hF
  obtain ⟨hl, hb1, hb2⟩ := hB
  have HB1 := Lib.hid hb1
  clear hF hb1 hb2
  go_enter Tryd.func39, Tryd.ntmps39
  go_wp2
  go_loopw [6, 7, 8] (fun v n i wr => ∃ k : Nat, k ≤ fs.length ∧ i = .int .i64 ((k : Int) - 1) ∧ v = .string (bs ((valuesF (fs.drop k) name.data.toList).headD [])) ∧ n = .int .i64 (valuesF (fs.drop k) name.data.toList).length ∧ Below w.heap.size w wr) (fun _ _ i _ => (intOf i + 1).toNat)
  case atStart => exact ⟨fs.length, Nat.le_refl _, rfl, by rw [List.drop_length]; rfl, by rw [List.drop_length]; rfl, Below.refl _ _⟩
  case round =>
    obtain ⟨k, hk, rfl, rfl, rfl, hB⟩ := hrel
    by_cases hlt : 0 < k
    · obtain ⟨q, rfl⟩ : ∃ q, k = q + 1 := ⟨k - 1, by omega⟩
      have hq : q < fs.length := by omega
      obtain ⟨g, o, hA, c1, c2⟩ := HF.out.below hB q hq
      subst hA
      have AL := fun w => Lib.hid (ralike_c (bs fs[q].1) name w (Nat.le_trans (HB1.out _ (List.getElem_mem hq)) (by decide)) hnm)
      rw [bs_list] at AL
      have HR := Lib.hid (valuesF_drop fs q hq name.data.toList)
      have hvl : (valuesF (fs.drop (q + 1)) name.data.toList).length ≤ 1048600 := by
        have h1 := valuesF_length (fs.drop (q + 1)) name.data.toList
        rw [List.length_drop] at h1; omega
      obtain ⟨f, hf⟩ : ∃ f, fs[q] = f := ⟨_, rfl⟩
      rw [hf] at c1 c2 AL HR
      clear hf
      rw [show (((q + 1 : Nat) : Int) - 1) = (q : Int) from by omega]
      generalize hV : valuesF (fs.drop (q + 1)) name.data.toList = V at *
      have HV := Lib.hid hV
      clear hV
      cases hal : alike f.1 name.data.toList with
      | true =>
        rw [hal] at AL HR
        have HR2 := Lib.hid (show valuesF (fs.drop q) name.data.toList = f.2 :: V by rw [HR.out]; simp)
        clear hal HR
        go_wp2_with fail
        refine (AL _).out.mono ?_
        rintro e w1 ⟨rfl, hb⟩
        have d2 := held1 hb c2
        have HB2 := Lib.hid (below_then hB hb)
        clear hb c1 c2 hB
        go_wp2
        go_roundw
        case rel => exact ⟨q, by omega, by go_num, by rw [HR2.out]; rfl, by rw [HR2.out, List.length_cons]; go_num, HB2.out⟩
        case measure => simp [intOf]
      | false =>
        rw [hal] at AL HR
        have HR2 := Lib.hid (show valuesF (fs.drop q) name.data.toList = V by rw [HR.out]; simp)
        clear hal HR
        go_wp2_with (go_at_call 26; refine (AL _).out.mono ?_; rintro e w1 ⟨rfl, hb⟩)
        go_roundw
        case rel => exact ⟨q, by omega, by go_num, by rw [HR2.out]; simp, by rw [HR2.out], below_then hB hb⟩
        case measure => simp [intOf]
    · obtain rfl : k = 0 := by omega
      rw [List.drop_zero]
      go_wp2
      go_ret2
      exact ⟨rfl, hB⟩

set_option maxRecDepth 100000 in
set_option maxHeartbeats 4000000 in
theorem relementsf_c (A : Option Addr) (cap : Nat) (fs : List Fd) (name : ByteArray) (w : World) (hnm : name.size ≤ 140737488351232) (hB : FB fs) (hF : Flds w A fs) :
    Calls Tryd.prog 15 #[.slice A fs.length cap, .string name] w fun e w' => ∃ v, e = .returned v ∧ w'.ownsRow w.heap.size 9 1 v (elementsF fs name.data.toList).length (strs (elementsF fs name.data.toList)) ∧ Below w.heap.size w w' := by
  obtain ⟨i0, hi, hz0, hz1, hz2⟩ := info_parts info_str
  have HF := Lib.hid hF
  have HEL := Lib.hid (elementsF_length hB (name := name.data.toList))
  obtain ⟨hl, hb1, hb2⟩ := hB
  have HB1 := Lib.hid hb1
  have HB2 := Lib.hid hb2
  clear hF hb1 hb2
  go_enter Tryd.func15, Tryd.ntmps15
  go_wp2
  go_loopw [5, 6, 7] (fun v i _ wr => ∃ k : Nat, k ≤ fs.length ∧ i = .int .i64 k ∧ wr.ownsRow w.heap.size 9 1 v (elementsF (fs.take k) name.data.toList).length (strs (elementsF (fs.take k) name.data.toList)) ∧ Below w.heap.size w wr) (fun _ i _ _ => fs.length - (intOf i).toNat)
  case atStart => exact ⟨0, Nat.zero_le _, rfl, World.ownsRow_nil _ _ _ _, Below.refl _ _⟩
  case round =>
    obtain ⟨k, hk, rfl, hown, hB⟩ := hrel
    have HO := Lib.hid hown
    have hz := hB.size
    clear hown
    by_cases hlt : k < fs.length
    · obtain ⟨g, o, hA, c1, c2⟩ := HF.out.below hB k hlt
      subst hA
      have hg := World.block_lt_of_cell? wr _ c1
      have AL := fun w => Lib.hid (ralike_c (bs fs[k].1) name w (Nat.le_trans (HB1.out _ (List.getElem_mem hlt)) (by decide)) hnm)
      have EL := fun w => Lib.hid (relements_c (bs fs[k].2) w (Nat.le_trans (HB2.out _ (List.getElem_mem hlt)) (by decide)))
      have hel := elems_length fs[k].2
      have hvl := HB2.out _ (List.getElem_mem hlt)
      rw [bs_list] at AL EL
      have HR := Lib.hid (elementsF_take fs k hlt name.data.toList)
      have hrl := HEL.out k
      obtain ⟨f, hf⟩ : ∃ f, fs[k] = f := ⟨_, rfl⟩
      rw [hf] at c1 c2 AL EL HR hel hvl
      clear hf
      cases hal : alike f.1 name.data.toList with
      | false =>
        rw [hal] at AL HR
        have HR2 := Lib.hid (show elementsF (fs.take (k + 1)) name.data.toList = elementsF (fs.take k) name.data.toList by rw [HR.out]; simp)
        clear hal HR
        go_wp2_with (go_at_call 26; refine (AL _).out.mono ?_; rintro e w1 ⟨rfl, hb⟩)
        go_roundw
        case rel => exact ⟨k + 1, by omega, by go_num, by rw [HR2.out]; exact own_below HO.out hb, below_then hB hb⟩
        case measure => simp [intOf]; omega
      | true =>
        rw [hal] at AL HR
        have HR2 := Lib.hid (show elementsF (fs.take (k + 1)) name.data.toList = elementsF (fs.take k) name.data.toList ++ elems f.2 by rw [HR.out]; simp)
        clear hal HR
        go_wp2_with fail
        refine (AL _).out.mono ?_
        rintro e w1 ⟨rfl, hb⟩
        have HO1 := Lib.hid (own_below HO.out hb)
        have hB1 := below_then hB hb
        have d2 := held1 hb c2
        clear hb c1 c2 hB
        go_wp2_with fail
        refine (EL _).out.mono ?_
        rintro e w2 ⟨s, rfl, hs, hb⟩
        have HS := Lib.hid hs
        have HO2 := Lib.hid (own_below HO1.out hb)
        have hB2 := below_then hB1 hb
        have hz2' := hB2.size
        clear hb hs hB1 d2
        generalize elementsF (fs.take k) name.data.toList = R at *
        go_wp2_with (at_builtin; refine wpList_append_rows rfl (.tmp 27) (.tmp 28) 32 rfl w.heap.size w1.heap.size 9 i0 (.string ByteArray.empty) 1 16 Tryd.underlying32 hi hz0 hz1 hz2 rfl (by decide) _ R.length _ rfl HO2.out _ (elems f.2).length _ rfl HS.out (ones_strs _) (by unfold maxLen; omega) (by omega) (by omega) ?_; intro v' w3 hown' hgrow _)
        have e1 : strs R ++ strs (elems f.2) = strs (R ++ elems f.2) := by simp [strs]
        rw [e1] at hown'
        have HO' := Lib.hid hown'
        have HB' := Lib.hid (hB2.grown hgrow (by omega) (fun g hg => (HO2.out.lt g hg).1))
        clear hown' hgrow e1
        go_wp2
        go_roundw
        case rel => exact ⟨k + 1, by omega, by go_num, by rw [HR2.out, List.length_append]; exact HO'.out, HB'.out⟩
        case measure => simp [intOf]; omega
    · obtain rfl : k = fs.length := by omega
      have ho := HO.out
      rw [List.take_length] at ho
      have HO2 := Lib.hid ho
      clear ho
      go_wp2
      go_ret
      exact ⟨_, rfl, HO2.out, hB⟩

theorem any_take_false {α : Type} {p : α → Bool} {l : List α} {k : Nat} (h : k < l.length) (ha : (l.take k).any p = false) (hp : p l[k] = false) : (l.take (k + 1)).any p = false := by
  rw [List.take_succ_eq_append_getElem h, List.any_append, ha]; simp [hp]
theorem any_at {α : Type} {p : α → Bool} {l : List α} {k : Nat} (h : k < l.length) (hp : p l[k] = true) : l.any p = true := List.any_eq_true.2 ⟨_, List.getElem_mem h, hp⟩

set_option maxRecDepth 100000 in
set_option maxHeartbeats 4000000 in
theorem rhasf_c (A : Option Addr) (cap : Nat) (fs : List Fd) (name el : ByteArray) (w : World) (hnm : name.size ≤ 140737488351232) (hel : el.size ≤ 140737488351232) (hB : FB fs) (hF : Flds w A fs) :
    Calls Tryd.prog 31 #[.slice A fs.length cap, .string name, .string el] w fun e w' => e = .returned (.bool (hasF fs name.data.toList el.data.toList)) ∧ Below w.heap.size w w' := by
  have EL := fun w h => Lib.hid (relementsf_c A cap fs name w hnm hB h)
  have hmem := fun x h => elementsF_mem (name := name.data.toList) (x := x) hB h
  have HM := Lib.hid hmem
  have hlen := elementsF_length hB fs.length name.data.toList
  rw [List.take_length] at hlen
  unfold hasF
  clear hmem hB
  generalize elementsF fs name.data.toList = l at *
  go_enter Tryd.func31, Tryd.ntmps31
  go_wp2_with fail
  refine (EL _ hF).out.mono ?_
  rintro e w1 ⟨v, rfl, hown, hb⟩
  obtain ⟨a, c, rfl⟩ := own_slice' hown
  have HT := Lib.hid (texts_of hown)
  clear hown hF
  go_wp2
  go_loopw [8] (fun i wr => ∃ k : Nat, k ≤ l.length ∧ i = .int .i64 k ∧ (l.take k).any (fun x => alike x el.data.toList) = false ∧ Below w1.heap.size w1 wr) (fun i _ => l.length - (intOf i).toNat)
  case atStart => exact ⟨0, Nat.zero_le _, rfl, by simp, Below.refl _ _⟩
  case round =>
    obtain ⟨k, hk, rfl, ha, hB⟩ := hrel
    have HA := Lib.hid ha
    clear ha
    by_cases hlt : k < l.length
    · obtain ⟨g, hA, c1⟩ := HT.out.below hB k hlt
      subst hA
      have AL := fun w => Lib.hid (ralike_c (bs l[k]) el w (Nat.le_trans (HM.out _ (List.getElem_mem hlt)) (by decide)) hel)
      rw [bs_list] at AL
      cases hal : alike l[k] el.data.toList with
      | true =>
        have HY := Lib.hid (any_at (p := fun x => alike x el.data.toList) hlt hal)
        rw [hal] at AL
        clear hal
        go_wp2_with (go_at_call 26; refine (AL _).out.mono ?_; rintro e w2 ⟨rfl, hb2⟩)
        go_ret
        exact ⟨ret_bool HY.out.symm, below_then (below_then hb hB) hb2⟩
      | false =>
        have HN := Lib.hid (any_take_false (p := fun x => alike x el.data.toList) hlt HA.out hal)
        rw [hal] at AL
        clear hal
        go_wp2_with (go_at_call 26; refine (AL _).out.mono ?_; rintro e w2 ⟨rfl, hb2⟩)
        go_roundw
        case rel => exact ⟨k + 1, by omega, by go_num, HN.out, below_then hB hb2⟩
        case measure => simp [intOf]; omega
    · obtain rfl : k = l.length := by omega
      have ha := HA.out
      rw [List.take_length] at ha
      have HA2 := Lib.hid ha
      clear ha
      go_wp2
      go_ret
      exact ⟨ret_bool HA2.out.symm, below_then hb hB⟩
end Go.Proofs.YtbjcbdgkgbjaiaaDoor
