/- The contracts of fields.Remove and Set and of the document's alike, Remove and Set, for every list of fields. -/
import Derived.Test.YtnoolehpooidjaaDoorFldD
import Derived.OwnWalk
set_option linter.unusedVariables false
set_option linter.unusedSimpArgs false
namespace Go.Proofs.YtnoolehpooidjaaDoor
open Go.RowKit Lex

/-- The bounds of a list of fields. -/
structure FB (fs : List Fd) : Prop where
  len : fs.length ≤ 1048600
  nm : ∀ f ∈ fs, f.1.length ≤ 4194304
  vl : ∀ f ∈ fs, f.2.length ≤ 4194304
theorem FB.remove {fs : List Fd} (h : FB fs) (name : List UInt8) : FB (removeF fs name) :=
  ⟨Nat.le_trans (removeF_length fs name) h.len, fun f hf => h.nm f (removeF_mem hf), fun f hf => h.vl f (removeF_mem hf)⟩

theorem info_field : (Tryd.prog.info? 30).map (fun i => (i.zero, i.size, i.bytes)) = some (some (.agg #[.string ByteArray.empty, .string ByteArray.empty]), 2, 32) := by kernel_rfl

theorem ralike_c (a b : ByteArray) (w : World) (ha : a.size ≤ 140737488351232) (hb : b.size ≤ 140737488351232) : Calls Tryd.prog 28 #[.string a, .string b] w fun e w' => e = .returned (.bool (alike a.data.toList b.data.toList)) ∧ Below w.heap.size w w' := by
  have L1 := fun w => Lib.hid (rlower_c a w ha)
  have L2 := fun w => Lib.hid (rlower_c b w hb)
  go_enter Tryd.func28, Tryd.ntmps28
  go_wp2_with fail
  refine (L1 _).out.mono ?_
  rintro e w1 ⟨rfl, hb1⟩
  go_wp2_with fail
  refine (L2 _).out.mono ?_
  rintro e w2 ⟨rfl, hb2⟩
  go_wp2
  go_ret
  exact ⟨ret_bool (by unfold alike; simp [Lib.toList_data, bs]), below_then hb1 hb2⟩

theorem ones_field (f : Fd) : ∀ u ∈ [Value.string (bs f.1), Value.string (bs f.2)], u.oneCell' = true := by
  intro u hu
  simp only [List.mem_cons, List.not_mem_nil, or_false] at hu
  rcases hu with rfl | rfl <;> rfl
theorem news2 (w : World) (a b : Value) (e : TypeId) : ∀ j u, [a, b][j]? = some u → (w.alloc (.cells #[a, b] e)).cell? ((⟨w.heap.size, 0, none⟩ : Addr).add j) = some u :=
  fun j u hu => World.news_of_block (cs := #[a, b]) (heap_alloc_new w _) j u hu
theorem fvals_one (f : Fd) : fvals [f] = [.string (bs f.1), .string (bs f.2)] := rfl

set_option maxRecDepth 100000 in
set_option maxHeartbeats 4000000 in
theorem removef_c (A : Option Addr) (cap : Nat) (fs : List Fd) (name : ByteArray) (w : World) (hnm : name.size ≤ 140737488351232) (hB : FB fs) (hF : Flds w A fs) :
    Calls Tryd.prog 13 #[.slice A fs.length cap, .string name] w fun e w' => ∃ v, e = .returned v ∧ w'.ownsRow w.heap.size 30 2 v (removeF fs name.data.toList).length (fvals (removeF fs name.data.toList)) ∧ Below w.heap.size w w' := by
  obtain ⟨i0, hi, hz0, hz1, hz2⟩ := info_parts info_field
  have HF := Lib.hid hF
  obtain ⟨hl, hb1, hb2⟩ := hB
  have HB1 := Lib.hid hb1
  clear hF hb1 hb2
  go_enter Tryd.func13, Tryd.ntmps13
  go_wp2
  go_loopw [5, 7, 10] (fun v _ i wr => ∃ k : Nat, k ≤ fs.length ∧ i = .int .i64 k ∧ wr.ownsRow w.heap.size 30 2 v (removeF (fs.take k) name.data.toList).length (fvals (removeF (fs.take k) name.data.toList)) ∧ Below w.heap.size w wr) (fun _ _ i _ => fs.length - (intOf i).toNat)
  case atStart => exact ⟨0, Nat.zero_le _, rfl, World.ownsRow_nil _ _ _ _, Below.refl _ _⟩
  case round =>
    obtain ⟨k, hk, rfl, hown, hB⟩ := hrel
    have HO := Lib.hid hown
    have hz := hB.size
    clear hown
    by_cases hlt : k < fs.length
    · obtain ⟨g, o, hA, c1, c2⟩ := HF.out.below hB k hlt
      subst hA
      have hg := World.block_lt_of_cell? wr _ c1
      have AL := fun w => Lib.hid (alike_c (bs fs[k].1) name w (Nat.le_trans (HB1.out _ (List.getElem_mem hlt)) (by decide)) (Nat.le_trans hnm (by decide)))
      rw [bs_list] at AL
      have HR := Lib.hid (removeF_take fs k hlt name.data.toList)
      have hrl : (removeF (fs.take k) name.data.toList).length ≤ 1048600 := by
        have h1 := removeF_length (fs.take k) name.data.toList
        rw [List.length_take] at h1; omega
      obtain ⟨f, hf⟩ : ∃ f, fs[k] = f := ⟨_, rfl⟩
      rw [hf] at c1 c2 AL HR
      clear hf
      cases hal : alike f.1 name.data.toList with
      | true =>
        rw [hal] at AL HR
        have HR2 := Lib.hid (show removeF (fs.take (k + 1)) name.data.toList = removeF (fs.take k) name.data.toList by rw [HR.out]; simp)
        clear hal HR
        go_wp2_with (go_at_call 27; refine (AL _).out.mono ?_; rintro e w1 ⟨rfl, hb⟩)
        go_roundw
        case rel => exact ⟨k + 1, by omega, by go_num, by rw [HR2.out]; exact own_below HO.out (belowA hb), below_then hB (belowA hb)⟩
        case measure => simp [intOf]; omega
      | false =>
        rw [hal] at AL HR
        have HR2 := Lib.hid (show removeF (fs.take (k + 1)) name.data.toList = removeF (fs.take k) name.data.toList ++ [f] by rw [HR.out]; simp)
        clear hal HR
        go_wp2_with fail
        refine (AL _).out.mono ?_
        rintro e w1 ⟨rfl, hb⟩
        have HO1 := Lib.hid (own_below HO.out (belowA hb))
        have hB1 := below_then hB (belowA hb)
        have d1 := held1 hb (cell_first wr (.string (bs f.1)) (.string (bs f.2)) 30)
        have d2 := held1 hb (cell_second wr (.string (bs f.1)) (.string (bs f.2)) 30)
        have hz1' := hB1.size
        clear hb c1 c2 hB
        generalize removeF (fs.take k) name.data.toList = R at *
        go_wp2_with (at_builtin; refine wpList_append_own _ rfl (.tmp 19) (.tmp 21) 22 rfl w.heap.size 30 i0 (.agg #[.string ByteArray.empty, .string ByteArray.empty]) 2 32 Tryd.underlying22 hi hz0 hz1 hz2 rfl (by decide) _ R.length _ rfl (HO1.out.alloc _) ⟨w1.heap.size, 0, none⟩ 1 1 [.string (bs f.1), .string (bs f.2)] rfl rfl (news2 _ _ _ _) (ones_field f) (by unfold maxLen; omega) (by omega) (by simp; omega) ?_; intro v' w2 hown' hgrow _)
        rw [← fvals_one, ← fvals_append] at hown'
        have HO' := Lib.hid hown'
        have HB' := Lib.hid ((hB1.alloc hz1' _).grown hgrow (by simp; omega) (fun g hg => (HO1.out.lt g hg).1))
        clear hown' hgrow d1 d2
        go_wp2
        go_roundw
        case rel => exact ⟨k + 1, by omega, by go_num, by rw [HR2.out, List.length_append]; exact HO'.out, HB'.out⟩
        case measure => simp [intOf]; omega
    · obtain rfl : k = fs.length := by omega
      have ho := HO.out
      rw [List.take_length] at ho
      have HO2 := Lib.hid ho
      clear ho
      go_wp2
      go_ret
      exact ⟨_, rfl, HO2.out, hB⟩
end Go.Proofs.YtnoolehpooidjaaDoor
