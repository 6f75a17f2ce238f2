/- The contracts of path.Under and Cut and of the document's Under, for every text. -/
import Derived.Test.YtjbmipbjlhcooaaDoorPathD
import Derived.IntWalk
import Derived.Deep.QuietTactic
import Derived.BigQuiet
set_option linter.unusedVariables false
set_option linter.unusedSimpArgs false
namespace Go.Proofs.YtjbmipbjlhcooaaDoor
open Go.RowKit Lex

def underB (p q : List UInt8) : Bool := q.isPrefixOf p && (decide (p.length = q.length) || p[q.length]? == some 47 || q.getLast? == some 47)

theorem suffix_one (q : List UInt8) (c : UInt8) : Lib.hasSuffix q [c] = (q.getLast? == some c) := by
  unfold Lib.hasSuffix
  rw [Bool.eq_iff_iff, List.isSuffixOf_iff_suffix, beq_iff_eq]
  constructor
  · rintro ⟨a, rfl⟩; simp
  · intro h
    rw [List.getLast?_eq_some_iff] at h
    obtain ⟨a, rfl⟩ := h
    exact ⟨a, rfl⟩

/-! ### Cut -/
/-- What stands ahead of the first c, what behind it, and whether there is one. -/
def cutB (l : List UInt8) (c : UInt8) : List UInt8 × List UInt8 × Bool :=
  if 0 ≤ Lib.indexByte l c then (l.take (Lib.indexByte l c).toNat, l.drop ((Lib.indexByte l c).toNat + 1), true) else (l, [], false)

def cutVal (x : List UInt8 × List UInt8 × Bool) : Value := .tuple #[.string (bs x.1), .string (bs x.2.1), .bool x.2.2]

theorem indexByte_lt (l : List UInt8) (c : UInt8) (h : 0 ≤ Lib.indexByte l c) : Lib.indexByte l c < l.length := by
  induction l with
  | nil => simp [Lib.indexByte] at h
  | cons b l ih =>
    simp only [Lib.indexByte] at h ⊢
    split
    · simp
    · rename_i hb
      rw [if_neg hb] at h
      split
      · rename_i h1; rw [if_pos h1] at h; omega
      · rename_i h1; rw [if_neg h1] at h
        have h2 : Lib.indexByte l c ≠ -1 := by simpa using h1
        have := ih (by omega)
        simp; omega

theorem indexByte_ge (l : List UInt8) (c : UInt8) : -1 ≤ Lib.indexByte l c := by
  induction l with
  | nil => simp [Lib.indexByte]
  | cons b l ih => simp only [Lib.indexByte]; split; · omega
                   split <;> omega

theorem ret_cut {a b : ByteArray} {q : Bool} {x : List UInt8 × List UInt8 × Bool} (ha : a.data.toList = x.1) (hb : b.data.toList = x.2.1) (hq : q = x.2.2) : Ending.returned (.tuple #[.string a, .string b, .bool q]) = .returned (cutVal x) := by
  unfold cutVal
  rw [← ha, ← hb, hq, list_bs, list_bs]
theorem Drawn.below {w : World} {n : Nat} : Below w.heap.size w (w.drewN n) := ⟨rfl, rfl, rfl, Nat.le_refl _, fun _ _ => rfl⟩
theorem cell_below {w w1 : World} {a : Addr} {v : Value} (hb : Below w.heap.size w w1) (hc : w.cell? a = some v) : w1.cell? a = some v :=
  (hb.cell (World.block_lt_of_cell? w _ hc)).trans hc
theorem scut_c (s : ByteArray) (c : UInt8) (w : World) (hs : s.size ≤ 140737488351232) : Calls Tryd.prog 59 #[.string s, .string ⟨#[c]⟩] w fun e w' => e = .returned (cutVal (cutB s.data.toList c)) ∧ Below w.heap.size w w' := by
  have K := fun w => Lib.hid ((Tryd.stringslite_Index_one s c w))
  have hge := indexByte_ge s.data.toList c
  have hlt := indexByte_lt s.data.toList c
  rw [size_list] at hlt
  unfold cutB
  generalize Lib.indexByte s.data.toList c = i at *
  by_cases h : 0 ≤ i
  · rw [if_pos h]
    obtain ⟨k, rfl⟩ := Int.eq_ofNat_of_zero_le h
    have hlt := hlt h
    clear hge h
    go_enter Tryd.func59, Tryd.ntmps59
    go_wp2_with (go_at_call 82; refine (K _).out.mono ?_; rintro e w' ⟨rfl, rfl⟩)
    have hw : IntKind.i64.wrap ((k : Int) + 1) = (k : Int) + 1 := IntWalk.i64_in _ (by omega)
    have hk1 : ((k : Int) + 1).toNat = k + 1 := by omega
    have hk2 : 0 ≤ (k : Int) + 1 := by omega
    have hk3 : (k : Int) + 1 ≤ s.size := by omega
    go_quiet (fail)
    clear hw hk1
    go_wp2
    go_ret3
    exact ⟨ret_cut (by rw [Lib.extract_data]; simp) (by rw [Lib.extract_to_end]; simp) rfl, Drawn.below⟩
  · rw [if_neg h]
    have h' : i < 0 := by omega
    clear hge hlt h
    go_enter Tryd.func59, Tryd.ntmps59
    go_wp2_with (go_at_call 82; refine (K _).out.mono ?_; rintro e w' ⟨rfl, rfl⟩)
    go_ret3
    exact ⟨ret_cut rfl rfl rfl, Below.refl _ _⟩

theorem cut_c (s : ByteArray) (c : UInt8) (w : World) (hs : s.size ≤ 140737488351232) : Calls Tryd.prog 35 #[.string s, .string ⟨#[c]⟩] w fun e w' => e = .returned (cutVal (cutB s.data.toList c)) ∧ Below w.heap.size w w' := by
  have K := fun w => Lib.hid (scut_c s c w hs)
  generalize cutB s.data.toList c = x at *
  obtain ⟨a, b, q⟩ := x
  go_enter Tryd.func35, Tryd.ntmps35
  go_wp2_with (go_at_call 59; refine (K _).out.mono ?_; rintro e w' ⟨rfl, hb⟩; simp only [cutVal])
  go_ret3
  exact ⟨rfl, hb⟩

theorem pcut_c (s : ByteArray) (w : World) (hs : s.size ≤ 140737488351232) : Calls Tryd.prog 66 #[.string s] w fun e w' => e = .returned (cutVal (cutB s.data.toList 63)) ∧ Below w.heap.size w w' := by
  have K := fun w => Lib.hid (cut_c s 63 w hs)
  generalize cutB s.data.toList 63 = x at *
  obtain ⟨a, b, q⟩ := x
  go_enter Tryd.func66, Tryd.ntmps66
  go_wp2_with (go_at_call 35; refine (K _).out.mono ?_; rintro e w' ⟨rfl, hb⟩; simp only [cutVal])
  go_ret3
  exact ⟨rfl, hb⟩

end Go.Proofs.YtjbmipbjlhcooaaDoor
