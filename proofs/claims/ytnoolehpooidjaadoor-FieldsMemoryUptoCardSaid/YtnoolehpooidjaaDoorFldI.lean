/- The contracts of the document's One and Strip and of fields.Strip, for every list of fields. -/
import Derived.Test.YtnoolehpooidjaaDoorFldH
import Derived.Laws.OwnMore
set_option linter.unusedVariables false
set_option linter.unusedSimpArgs false
namespace Go.Proofs.YtnoolehpooidjaaDoor
open Go.RowKit Lex

def connL : List UInt8 := [99, 111, 110, 110, 101, 99, 116, 105, 111, 110]
def lowN : List (List UInt8) := fixedN.map lower
def oneF (l : List Fd) (name : List UInt8) : Bool := (lowN.any fun n => alike n name) || hasF l connL name
theorem connL_low : lower conn = lower connL := by decide +kernel
theorem elementsF_low {a b : List UInt8} (h : lower a = lower b) (l : List Fd) : elementsF l a = elementsF l b := by unfold elementsF; rw [valuesF_low h]
theorem oneF_eq (l : List Fd) (name : List UInt8) : oneF l name = (namesF l).any fun n => alike name n := by
  unfold oneF namesF hasF lowN
  rw [List.any_append, List.any_map, ← elementsF_low connL_low]
  have h1 : (fun n => alike n name) ∘ lower = fun n => alike name n := by
    funext n
    show alike (lower n) name = alike name n
    rw [alike_comm]
    exact (alike_low (lower_lower n) name)
  rw [h1]
  congr 2
  funext x
  exact alike_comm x name
theorem stripF_take (l : List Fd) (k : Nat) (h : k < l.length) (p : Fd → Bool) : ((l.take (k + 1)).filter fun f => !p f) = ((l.take k).filter fun f => !p f) ++ (if p l[k] then [] else [l[k]]) := by
  rw [List.take_succ_eq_append_getElem h, List.filter_append]
  congr 1
  by_cases hh : p l[k] = true
  · simp [hh]
  · simp [hh]

set_option maxRecDepth 100000 in
set_option maxHeartbeats 4000000 in
theorem rone_c (A : Option Addr) (cap : Nat) (fs : List Fd) (name : ByteArray) (w : World) (hnm : name.size ≤ 140737488351232) (hB : FB fs) (hF : Flds w A fs) :
    Calls Tryd.prog 29 #[.slice A fs.length cap, .string name] w fun e w' => e = .returned (.bool (oneF fs name.data.toList)) ∧ Below w.heap.size w w' := by
  have HA := fun w h => Lib.hid (rhasf_c A cap fs ⟨#[99, 111, 110, 110, 101, 99, 116, 105, 111, 110]⟩ name w (by decide) hnm hB h)
  rw [show (⟨#[99, 111, 110, 110, 101, 99, 116, 105, 111, 110]⟩ : ByteArray).data.toList = connL from rfl] at HA
  have HF := Lib.hid hF
  obtain ⟨W0, hW0⟩ : ∃ W0, w.alloc (.cells #[.string ⟨#[99, 111, 110, 110, 101, 99, 116, 105, 111, 110]⟩, .string ⟨#[107, 101, 101, 112, 45, 97, 108, 105, 118, 101]⟩, .string ⟨#[112, 114, 111, 120, 121, 45, 99, 111, 110, 110, 101, 99, 116, 105, 111, 110]⟩, .string ⟨#[116, 101]⟩, .string ⟨#[116, 114, 97, 105, 108, 101, 114]⟩, .string ⟨#[116, 114, 97, 110, 115, 102, 101, 114, 45, 101, 110, 99, 111, 100, 105, 110, 103]⟩, .string ⟨#[117, 112, 103, 114, 97, 100, 101]⟩] 51) = W0 := ⟨_, rfl⟩
  have hc : ∀ k, k < 7 → W0.cell? ⟨w.heap.size, k, none⟩ = some (.string (bs (lowN.getD k []))) := by
    intro k hk
    rw [← hW0, World.cell?_alloc_new]
    rcases (by omega : k = 0 ∨ k = 1 ∨ k = 2 ∨ k = 3 ∨ k = 4 ∨ k = 5 ∨ k = 6) with rfl | rfl | rfl | rfl | rfl | rfl | rfl <;> rfl
  have hB0 : Below w.heap.size w W0 := by rw [← hW0]; exact (Below.refl _ _).alloc (Nat.le_refl _) _
  have hln : ∀ k, (lowN.getD k []).length ≤ 100 := by
    intro k
    rcases Nat.lt_or_ge k 7 with h | h
    · rcases (by omega : k = 0 ∨ k = 1 ∨ k = 2 ∨ k = 3 ∨ k = 4 ∨ k = 5 ∨ k = 6) with rfl | rfl | rfl | rfl | rfl | rfl | rfl <;> decide +kernel
    · rw [List.getD_eq_getElem?_getD, List.getElem?_eq_none (by show 7 ≤ k; omega)]; simp
  have HC := Lib.hid hc
  have HB0 := Lib.hid hB0
  have HLN := Lib.hid hln
  unfold oneF
  clear hB hF hc hB0 hln
  go_enter Tryd.func29, Tryd.ntmps29
  go_wp2
  clear hW0
  go_loopw [6] (fun i wr => ∃ k : Nat, k ≤ 7 ∧ i = .int .i64 k ∧ (lowN.take k).any (fun n => alike n name.data.toList) = false ∧ Below W0.heap.size W0 wr) (fun i _ => 7 - (intOf i).toNat)
  case atStart => exact ⟨0, by omega, rfl, by simp, Below.refl _ _⟩
  case round =>
    obtain ⟨k, hk, rfl, ha, hB⟩ := hrel
    have HA1 := Lib.hid ha
    clear ha
    by_cases hlt : k < 7
    · have c1 := held1 hB (HC.out k hlt)
      have hlk : k < lowN.length := hlt
      have hgd : lowN.getD k [] = lowN[k] := by rw [List.getD_eq_getElem?_getD, List.getElem?_eq_getElem hlk]; rfl
      have hl100 := HLN.out k
      rw [hgd] at c1 hl100
      have AL := fun w => Lib.hid (ralike_c (bs lowN[k]) name w (Nat.le_trans hl100 (by decide)) hnm)
      rw [bs_list] at AL
      clear hgd hl100
      cases hal : alike lowN[k] name.data.toList with
      | true =>
        have HY := Lib.hid (any_at (p := fun n => alike n name.data.toList) hlk hal)
        rw [hal] at AL
        clear hal
        generalize bs lowN[k] = x at *
        go_wp2_with (go_at_call 28; refine (AL _).out.mono ?_; rintro e w2 ⟨rfl, hb2⟩)
        go_ret
        exact ⟨ret_bool (by rw [HY.out]; rfl), below_then HB0.out (below_then hB hb2)⟩
      | false =>
        have HN := Lib.hid (any_take_false (p := fun n => alike n name.data.toList) hlk HA1.out hal)
        rw [hal] at AL
        clear hal
        generalize bs lowN[k] = x at *
        go_wp2_with (go_at_call 28; refine (AL _).out.mono ?_; rintro e w2 ⟨rfl, hb2⟩)
        go_roundw
        case rel => exact ⟨k + 1, by omega, by go_num, HN.out, below_then hB hb2⟩
        case measure => simp [intOf]; omega
    · obtain rfl : k = 7 := by omega
      have ha := HA1.out
      have HA2 := Lib.hid (show (lowN.any fun n => alike n name.data.toList) = false from ha)
      have hF2 := HF.out.below (below_then HB0.out hB)
      clear ha
      go_wp2_with fail
      refine (HA _ hF2).out.mono ?_
      rintro e w2 ⟨rfl, hb2⟩
      go_wp2
      go_ret
      exact ⟨ret_bool (by rw [HA2.out, Bool.false_or]), below_then (below_then HB0.out hB) hb2⟩

set_option maxRecDepth 100000 in
set_option maxHeartbeats 4000000 in
theorem rstrip_c (A : Option Addr) (cap : Nat) (fs : List Fd) (w : World) (hB : FB fs) (hF : Flds w A fs) :
    Calls Tryd.prog 16 #[.slice A fs.length cap] w fun e w' => ∃ v, e = .returned v ∧ w'.ownsRow w.heap.size 30 2 v (stripF fs).length (fvals (stripF fs)) ∧ Below w.heap.size w w' := by
  obtain ⟨i0, hi, hz0, hz1, hz2⟩ := info_parts info_field
  have HF := Lib.hid hF
  have hst : stripF fs = fs.filter fun f => !oneF fs f.1 := by
    unfold stripF
    congr 1
    funext f
    rw [oneF_eq]
  have ON := fun (nm : List UInt8) w (h1 : nm.length ≤ 4194304) h => Lib.hid (rone_c A cap fs (bs nm) w (Nat.le_trans h1 (by decide)) hB h)
  rw [hst]
  obtain ⟨hl, hb1, hb2⟩ := hB
  have HB1 := Lib.hid hb1
  clear hF hb1 hb2 hst
  go_enter Tryd.func16, Tryd.ntmps16
  go_wp2
  go_loopw [3, 4] (fun v i wr => ∃ k : Nat, k ≤ fs.length ∧ i = .int .i64 k ∧ wr.ownsRow w.heap.size 30 2 v ((fs.take k).filter fun f => !oneF fs f.1).length (fvals ((fs.take k).filter fun f => !oneF fs f.1)) ∧ Below w.heap.size w wr) (fun _ i _ => fs.length - (intOf i).toNat)
  case atStart => exact ⟨0, Nat.zero_le _, rfl, World.ownsRow_nil _ _ _ _, Below.refl _ _⟩
  case round =>
    obtain ⟨k, hk, rfl, hown, hB⟩ := hrel
    have HO := Lib.hid hown
    have hz := hB.size
    clear hown
    by_cases hlt : k < fs.length
    · obtain ⟨g, o, hA, c1, c2⟩ := HF.out.below hB k hlt
      have hFk := Lib.hid (HF.out.below hB)
      have hg := World.block_lt_of_cell? wr _ c1
      have hnl := HB1.out _ (List.getElem_mem hlt)
      have HR := Lib.hid (stripF_take fs k hlt (fun f => oneF fs f.1))
      have hrl : ((fs.take k).filter fun f => !oneF fs f.1).length ≤ 1048600 := by
        have h1 := List.length_filter_le (fun f : Fd => !oneF fs f.1) (fs.take k)
        rw [List.length_take] at h1; omega
      obtain ⟨f, hf⟩ : ∃ f, fs[k] = f := ⟨_, rfl⟩
      rw [hf] at c1 c2 HR hnl
      have AL := fun w h => Lib.hid (ON f.1 w hnl h).out
      subst hA
      clear hf
      cases hal : oneF fs f.1 with
      | true =>
        rw [hal] at AL HR
        have HR2 := Lib.hid (show ((fs.take (k + 1)).filter fun f => !oneF fs f.1) = (fs.take k).filter fun f => !oneF fs f.1 by rw [HR.out]; simp)
        clear hal HR
        go_wp2_with fail
        refine (AL _ hFk.out).out.mono ?_
        rintro e w1 ⟨rfl, hb⟩
        go_wp2
        go_roundw
        case rel => exact ⟨k + 1, by omega, by go_num, by rw [HR2.out]; exact own_below HO.out hb, below_then hB hb⟩
        case measure => simp [intOf]; omega
      | false =>
        rw [hal] at AL HR
        have HR2 := Lib.hid (show ((fs.take (k + 1)).filter fun f => !oneF fs f.1) = ((fs.take k).filter fun f => !oneF fs f.1) ++ [f] by rw [HR.out]; simp)
        clear hal HR
        go_wp2_with fail
        refine (AL _ hFk.out).out.mono ?_
        rintro e w1 ⟨rfl, hb⟩
        have HO1 := Lib.hid (own_below HO.out hb)
        have hB1 := below_then hB hb
        have d1 := held1 hb c1
        have d2 := held1 hb c2
        have hz1' := hB1.size
        clear hb c1 c2 hB
        generalize ((fs.take k).filter fun f => !oneF fs f.1) = R at *
        go_wp2_with (at_builtin; refine wpList_append_own _ rfl (.tmp 19) (.tmp 24) 22 rfl w.heap.size 30 i0 (.agg #[.string ByteArray.empty, .string ByteArray.empty]) 2 32 Tryd.underlying22 hi hz0 hz1 hz2 rfl (by decide) _ R.length _ rfl (HO1.out.alloc _) ⟨w1.heap.size, 0, none⟩ 1 1 [.string (bs f.1), .string (bs f.2)] rfl rfl (news2 _ _ _ _) (ones_field f) (by unfold maxLen; omega) (by omega) (by simp; omega) ?_; intro v' w2 hown' hgrow _)
        rw [← fvals_one, ← fvals_append] at hown'
        have HO' := Lib.hid hown'
        have HB' := Lib.hid ((hB1.alloc hz1' _).grown hgrow (by simp; omega) (fun g hg => (HO1.out.lt g hg).1))
        clear hown' hgrow d1 d2
        go_wp2
        go_roundw
        case rel => exact ⟨k + 1, by omega, by go_num, by rw [HR2.out, List.length_append]; exact HO'.out, HB'.out⟩
        case measure => simp [intOf]; omega
    · obtain rfl : k = fs.length := by omega
      have ho := HO.out
      rw [List.take_length] at ho
      have HO2 := Lib.hid ho
      clear ho
      go_wp2
      go_ret
      exact ⟨_, rfl, HO2.out, hB⟩
end Go.Proofs.YtnoolehpooidjaaDoor
