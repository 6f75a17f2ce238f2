/- The contracts of fields.Set, and of the document's Remove, Set, Same and Get, for every list of fields. -/
import Derived.Test.YtnoolehpooidjaaDoorFldE
import Derived.Deep.QuietTactic
import Derived.BigQuiet
set_option linter.unusedVariables false
set_option linter.unusedSimpArgs false
namespace Go.Proofs.YtnoolehpooidjaaDoor
open Go.RowKit Lex

set_option maxRecDepth 100000 in
set_option maxHeartbeats 4000000 in
theorem setf_c (A : Option Addr) (cap : Nat) (fs : List Fd) (name value : ByteArray) (w : World) (hnm : name.size ≤ 140737488351232) (hB : FB fs) (hF : Flds w A fs) :
    Calls Tryd.prog 11 #[.slice A fs.length cap, .string name, .string value] w fun e w' => ∃ v, e = .returned v ∧ w'.ownsRow w.heap.size 30 2 v (setF fs name.data.toList value.data.toList).length (fvals (setF fs name.data.toList value.data.toList)) ∧ Below w.heap.size w w' := by
  obtain ⟨i0, hi, hz0, hz1, hz2⟩ := info_parts info_field
  have RM := fun w h => Lib.hid (removef_c A cap fs name w hnm hB h)
  have hl := removeF_length fs name.data.toList
  have hl2 := hB.len
  have hname : (name : ByteArray) = bs name.data.toList := (list_bs name).symm
  have hset : setF fs name.data.toList value.data.toList = removeF fs name.data.toList ++ [(name.data.toList, value.data.toList)] := rfl
  have HS := Lib.hid hset
  clear hset hname
  generalize removeF fs name.data.toList = R at *
  go_enter Tryd.func11, Tryd.ntmps11
  go_wp2_with fail
  refine (RM _ hF).out.mono ?_
  rintro e w1 ⟨v, rfl, hown, hb⟩
  have HO := Lib.hid hown
  have hz := hb.size
  clear hown
  go_wp2_with (at_builtin; refine wpList_append_own _ rfl (.tmp 9) (.tmp 13) 22 rfl w.heap.size 30 i0 (.agg #[.string ByteArray.empty, .string ByteArray.empty]) 2 32 Tryd.underlying22 hi hz0 hz1 hz2 rfl (by decide) _ R.length _ rfl (HO.out.alloc _) ⟨w1.heap.size, 0, none⟩ 1 1 [.string name, .string value] rfl rfl (news2 _ _ _ _) (by have := ones_field (name.data.toList, value.data.toList); rw [list_bs, list_bs] at this; exact this) (by unfold maxLen; omega) (by omega) (by simp; omega) ?_; intro v' w2 hown' hgrow _)
  have e1 : fvals R ++ [.string name, .string value] = fvals (R ++ [(name.data.toList, value.data.toList)]) := by rw [fvals_append, fvals_one, list_bs, list_bs]
  rw [e1] at hown'
  have HO' := Lib.hid hown'
  have HB' := Lib.hid ((hb.alloc hz _).grown hgrow (by simp; omega) (fun g hg => (HO.out.lt g hg).1))
  clear hown' hgrow e1
  go_wp2
  go_ret
  exact ⟨_, rfl, by rw [HS.out, List.length_append]; exact HO'.out, HB'.out⟩

set_option maxRecDepth 100000 in
set_option maxHeartbeats 4000000 in
theorem rremove_c (A : Option Addr) (cap : Nat) (fs : List Fd) (name : ByteArray) (w : World) (hnm : name.size ≤ 140737488351232) (hB : FB fs) (hF : Flds w A fs) :
    Calls Tryd.prog 14 #[.slice A fs.length cap, .string name] w fun e w' => ∃ v, e = .returned v ∧ w'.ownsRow w.heap.size 30 2 v (removeF fs name.data.toList).length (fvals (removeF fs name.data.toList)) ∧ Below w.heap.size w w' := by
  obtain ⟨i0, hi, hz0, hz1, hz2⟩ := info_parts info_field
  have HF := Lib.hid hF
  obtain ⟨hl, hb1, hb2⟩ := hB
  have HB1 := Lib.hid hb1
  clear hF hb1 hb2
  go_enter Tryd.func14, Tryd.ntmps14
  go_wp2
  go_loopw [5, 6] (fun v i wr => ∃ k : Nat, k ≤ fs.length ∧ i = .int .i64 k ∧ wr.ownsRow w.heap.size 30 2 v (removeF (fs.take k) name.data.toList).length (fvals (removeF (fs.take k) name.data.toList)) ∧ Below w.heap.size w wr) (fun _ i _ => fs.length - (intOf i).toNat)
  case atStart => exact ⟨0, Nat.zero_le _, rfl, World.ownsRow_nil _ _ _ _, Below.refl _ _⟩
  case round =>
    obtain ⟨k, hk, rfl, hown, hB⟩ := hrel
    have HO := Lib.hid hown
    have hz := hB.size
    clear hown
    by_cases hlt : k < fs.length
    · obtain ⟨g, o, hA, c1, c2⟩ := HF.out.below hB k hlt
      subst hA
      have hg := World.block_lt_of_cell? wr _ c1
      have AL := fun w => Lib.hid (ralike_c (bs fs[k].1) name w (Nat.le_trans (HB1.out _ (List.getElem_mem hlt)) (by decide)) hnm)
      rw [bs_list] at AL
      have HR := Lib.hid (removeF_take fs k hlt name.data.toList)
      have hrl : (removeF (fs.take k) name.data.toList).length ≤ 1048600 := by
        have h1 := removeF_length (fs.take k) name.data.toList
        rw [List.length_take] at h1; omega
      obtain ⟨f, hf⟩ : ∃ f, fs[k] = f := ⟨_, rfl⟩
      rw [hf] at c1 c2 AL HR
      clear hf
      cases hal : alike f.1 name.data.toList with
      | true =>
        rw [hal] at AL HR
        have HR2 := Lib.hid (show removeF (fs.take (k + 1)) name.data.toList = removeF (fs.take k) name.data.toList by rw [HR.out]; simp)
        clear hal HR
        go_wp2_with (go_at_call 28; refine (AL _).out.mono ?_; rintro e w1 ⟨rfl, hb⟩)
        go_roundw
        case rel => exact ⟨k + 1, by omega, by go_num, by rw [HR2.out]; exact own_below HO.out hb, below_then hB hb⟩
        case measure => simp [intOf]; omega
      | false =>
        rw [hal] at AL HR
        have HR2 := Lib.hid (show removeF (fs.take (k + 1)) name.data.toList = removeF (fs.take k) name.data.toList ++ [f] by rw [HR.out]; simp)
        clear hal HR
        go_wp2_with fail
        refine (AL _).out.mono ?_
        rintro e w1 ⟨rfl, hb⟩
        have HO1 := Lib.hid (own_below HO.out hb)
        have hB1 := below_then hB hb
        have d1 := held1 hb c1
        have d2 := held1 hb c2
        have hz1' := hB1.size
        clear hb c1 c2 hB
        generalize removeF (fs.take k) name.data.toList = R at *
        go_wp2_with (at_builtin; refine wpList_append_own _ rfl (.tmp 21) (.tmp 26) 22 rfl w.heap.size 30 i0 (.agg #[.string ByteArray.empty, .string ByteArray.empty]) 2 32 Tryd.underlying22 hi hz0 hz1 hz2 rfl (by decide) _ R.length _ rfl (HO1.out.alloc _) ⟨w1.heap.size, 0, none⟩ 1 1 [.string (bs f.1), .string (bs f.2)] rfl rfl (news2 _ _ _ _) (ones_field f) (by unfold maxLen; omega) (by omega) (by simp; omega) ?_; intro v' w2 hown' hgrow _)
        rw [← fvals_one, ← fvals_append] at hown'
        have HO' := Lib.hid hown'
        have HB' := Lib.hid ((hB1.alloc hz1' _).grown hgrow (by simp; omega) (fun g hg => (HO1.out.lt g hg).1))
        clear hown' hgrow d1 d2
        go_wp2
        go_roundw
        case rel => exact ⟨k + 1, by omega, by go_num, by rw [HR2.out, List.length_append]; exact HO'.out, HB'.out⟩
        case measure => simp [intOf]; omega
    · obtain rfl : k = fs.length := by omega
      have ho := HO.out
      rw [List.take_length] at ho
      have HO2 := Lib.hid ho
      clear ho
      go_wp2
      go_ret
      exact ⟨_, rfl, HO2.out, hB⟩

set_option maxRecDepth 100000 in
set_option maxHeartbeats 4000000 in
theorem rset_c (A : Option Addr) (cap : Nat) (fs : List Fd) (name value : ByteArray) (w : World) (hnm : name.size ≤ 140737488351232) (hB : FB fs) (hF : Flds w A fs) :
    Calls Tryd.prog 12 #[.slice A fs.length cap, .string name, .string value] w fun e w' => ∃ v, e = .returned v ∧ w'.ownsRow w.heap.size 30 2 v (setF fs name.data.toList value.data.toList).length (fvals (setF fs name.data.toList value.data.toList)) ∧ Below w.heap.size w w' := by
  obtain ⟨i0, hi, hz0, hz1, hz2⟩ := info_parts info_field
  have RM := fun w h => Lib.hid (rremove_c A cap fs name w hnm hB h)
  have hl := removeF_length fs name.data.toList
  have hl2 := hB.len
  have hset : setF fs name.data.toList value.data.toList = removeF fs name.data.toList ++ [(name.data.toList, value.data.toList)] := rfl
  have HS := Lib.hid hset
  clear hset
  generalize removeF fs name.data.toList = R at *
  go_enter Tryd.func12, Tryd.ntmps12
  go_wp2_with fail
  refine (RM _ hF).out.mono ?_
  rintro e w1 ⟨v, rfl, hown, hb⟩
  have HO := Lib.hid hown
  have hz := hb.size
  clear hown
  go_wp2_with (at_builtin; refine wpList_append_own _ rfl (.tmp 11) (.tmp 15) 22 rfl w.heap.size 30 i0 (.agg #[.string ByteArray.empty, .string ByteArray.empty]) 2 32 Tryd.underlying22 hi hz0 hz1 hz2 rfl (by decide) _ R.length _ rfl (HO.out.alloc _) ⟨w1.heap.size, 0, none⟩ 1 1 [.string name, .string value] rfl rfl (news2 _ _ _ _) (by have := ones_field (name.data.toList, value.data.toList); rw [list_bs, list_bs] at this; exact this) (by unfold maxLen; omega) (by omega) (by simp; omega) ?_; intro v' w2 hown' hgrow _)
  have e1 : fvals R ++ [.string name, .string value] = fvals (R ++ [(name.data.toList, value.data.toList)]) := by rw [fvals_append, fvals_one, list_bs, list_bs]
  rw [e1] at hown'
  have HO' := Lib.hid hown'
  have HB' := Lib.hid ((hb.alloc hz _).grown hgrow (by simp; omega) (fun g hg => (HO.out.lt g hg).1))
  clear hown' hgrow e1
  go_wp2
  go_ret
  exact ⟨_, rfl, by rw [HS.out, List.length_append]; exact HO'.out, HB'.out⟩

set_option maxRecDepth 100000 in
set_option maxHeartbeats 4000000 in
theorem samef_c (A A' : Option Addr) (c c' : Nat) (l : List Fd) (w : World) (h1 : Flds w A l) (h2 : Flds w A' l) (hl : l.length ≤ 4398046511104) :
    Calls Tryd.prog 10 #[.slice A l.length c, .slice A' l.length c'] w fun e w' => e = .returned (.bool true) ∧ Below w.heap.size w w' := by
  have H1 := Lib.hid h1
  have H2 := Lib.hid h2
  clear h1 h2
  go_enter Tryd.func10, Tryd.ntmps10
  go_wp2
  go_loopw [5] (fun i wr => ∃ k : Nat, k ≤ l.length ∧ i = .int .i64 k ∧ Below w.heap.size w wr) (fun i _ => l.length - (intOf i).toNat)
  case atStart => exact ⟨0, Nat.zero_le _, rfl, Below.refl _ _⟩
  case round =>
    obtain ⟨k, hk, rfl, hB⟩ := hrel
    by_cases hlt : k < l.length
    · obtain ⟨g, o, hA, c1, c2⟩ := H1.out.below hB k hlt
      obtain ⟨g', o', hA', c1', c2'⟩ := H2.out.below hB k hlt
      rw [hA, hA']
      generalize bs l[k].1 = x at *
      generalize bs l[k].2 = y at *
      clear hA hA'
      have k0 : (0 : Int) ≤ (k : Int) := by omega
      have k1 : (k : Int) < (l.length : Int) := by omega
      go_wp2
      go_quiet (fail)
      go_wp2
      go_roundw
      case rel => exact ⟨k + 1, by omega, by go_num, hB.trans ⟨rfl, rfl, rfl, Nat.le_refl _, fun _ _ => rfl⟩⟩
      case measure => simp [intOf]; omega
    · go_wp2
      go_ret
      exact ⟨rfl, hB⟩
end Go.Proofs.YtnoolehpooidjaaDoor
