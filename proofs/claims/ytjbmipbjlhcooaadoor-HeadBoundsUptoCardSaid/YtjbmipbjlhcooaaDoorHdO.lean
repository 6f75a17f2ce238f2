/- The contract of the law's line: n times the letter a. -/
import Derived.Test.YtjbmipbjlhcooaaDoorHdM
import Derived.Laws.IdiomStrings
import Derived.Laws.MakeOwn
set_option linter.unusedVariables false
set_option linter.unusedSimpArgs false
namespace Go.Proofs.YtjbmipbjlhcooaaDoor
open Go.RowKit Lex

theorem u8_info : (Tryd.prog.info? 5).map (fun i => (i.zero, i.size, i.bytes)) = some (some (.int .u8 0), 1, 1) := by kernel_rfl
theorem u8_slice : Tryd.prog.underlying 66 = some (.slice 5) := by kernel_rfl
theorem u8_under : Tryd.prog.underlying 5 = some (.int .u8) := by kernel_rfl
theorem str_under : Tryd.prog.underlying 9 = some .string := by kernel_rfl
def Aas (w : World) (B n k : Nat) : Prop := ∀ j, j < n → w.cell? ⟨B, j, none⟩ = some (.int .u8 (if j < k then 97 else 0)) ∧ w.frozen? ⟨B, j, none⟩ = false
theorem aas_step {w : World} {B n k : Nat} (h : Aas w B n k) (hk : k < n) : Aas (w.setCell ⟨B, k, none⟩ (.int .u8 97)) B n (k + 1) := by
  intro j hj
  obtain ⟨h1, h2⟩ := h j hj
  refine ⟨?_, (World.frozen?_setCell ..).trans h2⟩
  by_cases e : j = k
  · subst e
    rw [setS _ h1, if_pos (by omega)]
  · rw [setO _ _ _ _ _ (fun h => e h.symm), h1]
    by_cases hjk : j < k
    · rw [if_pos hjk, if_pos (by omega)]
    · rw [if_neg hjk, if_neg (by omega)]
set_option maxRecDepth 100000 in
set_option maxHeartbeats 4000000 in
theorem bline_c (n : Nat) (hn : n ≤ 4000) (w : World) :
    Calls Tryd.prog 32 #[.int .i64 n] w fun e w' => e = .returned (.string (bs (aas n))) ∧ Below w.heap.size w w' := by
  obtain ⟨i0, hi, hz0, hz1, hz2⟩ := info_parts u8_info
  have hmk := run_make (P := Tryd.prog) w 66 5 i0 (.int .u8 0) u8_slice hi hz0 .i64 .i64 (n : Int) (n : Int) (by omega) (Int.le_refl _) (by rw [hz2]; omega) (by omega)
  simp only [Int.toNat_natCast, hz1, Nat.mul_one] at hmk
  obtain ⟨V, hV⟩ : ∃ V, w.alloc (.cells (madeCells (Value.int .u8 0).cells n) 5) = V := ⟨_, rfl⟩
  rw [hV] at hmk
  have BV : Hid (Below w.heap.size w V) := Lib.hid (by rw [← hV]; exact (Below.refl _ w).alloc (Nat.le_refl _) _)
  have AV : Hid (Aas V w.heap.size n 0) := Lib.hid (by
    intro j hj
    rw [← hV]
    refine ⟨?_, frozen_new w _ _ j⟩
    rw [World.cell?_alloc_new, if_neg (Nat.not_lt_zero j)]
    show (madeCells #[Value.int .u8 0] n)[j]? = _
    rw [← Array.getElem?_toList, toList_madeCells_one, List.getElem?_replicate, if_pos hj])
  clear hV hi hz0 hz1 hz2
  have CV : ∀ w' : World, Aas w' w.heap.size n n → (convert 66 9 (.slice (some ⟨w.heap.size, 0, none⟩) n n)).run Tryd.prog w' = .ok (.string (bs (aas n))) w' := by
    intro w' ha
    have := run_convert_bytes_back (P := Tryd.prog) w' 66 9 5 ⟨w.heap.size, 0, none⟩ n (aas n) u8_slice u8_under str_under (fun j hj => by
      rw [aas_length] at hj
      have h := (ha j hj).1
      rw [if_pos hj] at h
      have e : (aas n)[j] = 97 := List.getElem_replicate ..
      rw [e]
      have e2 : (⟨w.heap.size, 0, none⟩ : Addr).add j = ⟨w.heap.size, j, none⟩ := by unfold Addr.add; split <;> simp_all
      rw [e2]; exact h)
    rw [aas_length] at this
    exact this
  have HCV := Lib.hid CV
  clear CV
  go_enter Tryd.func32, Tryd.ntmps32
  go_wp2
  go_loopw [9] (fun i wr => ∃ k : Nat, k ≤ n ∧ i = .int .i64 k ∧ Below w.heap.size w wr ∧ Aas wr w.heap.size n k) (fun i _ => n - (intOf i).toNat)
  case atStart => exact ⟨0, Nat.zero_le _, rfl, BV.out, AV.out⟩
  case round =>
    obtain ⟨k, hk, rfl, hB, hA⟩ := hrel
    have BR := Lib.hid hB
    have AR := Lib.hid hA
    clear hB hA hmk
    by_cases hlt : k < n
    · obtain ⟨ck, fk⟩ := AR.out k hlt
      rw [if_neg (Nat.lt_irrefl k)] at ck
      have q1 : (k : Int) < (n : Int) := by omega
      have q2 : (0 : Int) ≤ (k : Int) := by omega
      go_wp2
      go_roundw
      case rel => exact ⟨k + 1, by omega, by go_num, BR.out.setCell (Nat.le_refl _) _, aas_step AR.out hlt⟩
      case measure => simp [intOf]; omega
    · obtain rfl : k = n := by omega
      have hcv := HCV.out wr AR.out
      go_wp2
      go_ret
      exact ⟨rfl, BR.out⟩
end Go.Proofs.YtjbmipbjlhcooaaDoor
