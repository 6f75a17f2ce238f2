/- The contracts of path.Under and Cut and of the document's Under, for every text. -/
import Derived.Test.YthaphfedogmliaaPathD
import Derived.IntWalk
import Derived.Deep.QuietTactic
import Derived.BigQuiet
set_option linter.unusedVariables false
set_option linter.unusedSimpArgs false
namespace Go.Proofs.Ythaphfedogmliaa
open Go.RowKit Lex

def underB (p q : List UInt8) : Bool := q.isPrefixOf p && (decide (p.length = q.length) || p[q.length]? == some 47 || q.getLast? == some 47)

theorem suffix_one (q : List UInt8) (c : UInt8) : Lib.hasSuffix q [c] = (q.getLast? == some c) := by
  unfold Lib.hasSuffix
  rw [Bool.eq_iff_iff, List.isSuffixOf_iff_suffix, beq_iff_eq]
  constructor
  · rintro ⟨a, rfl⟩; simp
  · intro h
    rw [List.getLast?_eq_some_iff] at h
    obtain ⟨a, rfl⟩ := h
    exact ⟨a, rfl⟩

theorem under_c (p q : ByteArray) (w : World) (hq : q.size ≤ 9223372036854775807) (hp : p.size ≤ 9223372036854775807) : Calls Try.prog 33 #[.string p, .string q] w fun e w' => e = .returned (.bool (underB p.data.toList q.data.toList)) ∧ w = w' := by
  have K := fun w => Lib.hid ((Try.strings_CutPrefix p q w))
  have S := fun w => Lib.hid ((Try.strings_HasSuffix q ⟨#[47]⟩ w hq))
  rw [show (⟨#[47]⟩ : ByteArray).data.toList = [47] from rfl, suffix_one] at S
  unfold underB
  cases hpre : q.data.toList.isPrefixOf p.data.toList with
  | false =>
    have e1 : Lib.hasPrefix p.data.toList q.data.toList = false := hpre
    rw [e1] at K
    clear e1 hpre
    go_enter Try.func33, Try.ntmps33
    go_wp2_with (go_at_call 18; refine (K _).out.mono ?_; rintro e w' ⟨rfl, rfl⟩)
    go_ret
    exact ⟨rfl, rfl⟩
  | true =>
    have e1 : Lib.hasPrefix p.data.toList q.data.toList = true := hpre
    have hle : q.size ≤ p.size := by
      have := (List.isPrefixOf_iff_prefix.1 hpre).length_le
      rw [size_list, size_list] at this; exact this
    have e2 : Lib.trimPrefix p.data.toList q.data.toList = p.data.toList.drop q.size := by unfold Lib.trimPrefix; rw [e1, if_pos rfl, size_list]
    rw [e1, e2] at K
    clear e1 e2 hpre
    by_cases hz : p.size = q.size
    · have hd : p.data.toList.drop q.size = [] := List.drop_of_length_le (by rw [size_list]; omega)
      rw [hd] at K
      have HZ := Lib.hid hz
      clear hz hd
      go_enter Try.func33, Try.ntmps33
      go_wp2_with (go_at_call 18; refine (K _).out.mono ?_; rintro e w' ⟨rfl, rfl⟩)
      go_ret
      exact ⟨ret_bool (by rw [size_list, size_list, decide_eq_true HZ.out]; rfl), rfl⟩
    · have hlt : q.size < p.size := by omega
      have hd := drop_at p q.size hlt
      have hg := get_at p q.size hlt
      rw [size_list, size_list, decide_eq_false hz, hg]
      obtain ⟨r, hr, hr0, hrl⟩ : ∃ r : ByteArray, r = ⟨(p.data.toList.drop q.size).toArray⟩ ∧ 0 < r.size ∧ ∀ h : 0 < r.size, r[0]'h = p[q.size] := by
        refine ⟨_, rfl, by rw [hd]; exact Nat.succ_pos _, fun h => ?_⟩
        have : ∀ l : List UInt8, (hl : l = p.data.toList.drop q.size) → ∀ h : 0 < (⟨l.toArray⟩ : ByteArray).size, (⟨l.toArray⟩ : ByteArray)[0]'h = p[q.size] := by
          intro l hl h
          rw [hd] at hl
          subst hl
          rfl
        exact this _ rfl h
      rw [← hr] at K
      have hre : r.toList.isEmpty = false := nonempty_toList (by omega)
      have hr0' := hrl hr0
      have HR := Lib.hid hr
      have HRL := Lib.hid hrl
      have HD := Lib.hid hd
      have HG := Lib.hid hg
      have HZ := Lib.hid hz
      clear hr hrl hd hg hz
      cases hs : q.data.toList.getLast? == some 47 with
      | true =>
        rw [hs] at S
        have HS := Lib.hid hs
        clear hs
        go_enter Try.func33, Try.ntmps33
        go_wp2_with (first | (go_at_call 18; refine (K _).out.mono ?_; rintro e w' ⟨rfl, rfl⟩) | (go_at_call 37; refine (S _).out.mono ?_; rintro e w' ⟨rfl, rfl⟩))
        go_ret
        exact ⟨ret_bool (by simp), rfl⟩
      | false =>
        rw [hs] at S
        have HS := Lib.hid hs
        clear hs
        go_enter Try.func33, Try.ntmps33
        go_wp2_with (first | (go_at_call 18; refine (K _).out.mono ?_; rintro e w' ⟨rfl, rfl⟩) | (go_at_call 37; refine (S _).out.mono ?_; rintro e w' ⟨rfl, rfl⟩))
        go_ret
        exact ⟨ret_bool (by
          rw [Bool.eq_iff_iff]; simp [← UInt8.toNat_inj]; omega), rfl⟩

/-! ### Cut -/
/-- What stands ahead of the first c, what behind it, and whether there is one. -/
def cutB (l : List UInt8) (c : UInt8) : List UInt8 × List UInt8 × Bool :=
  if 0 ≤ Lib.indexByte l c then (l.take (Lib.indexByte l c).toNat, l.drop ((Lib.indexByte l c).toNat + 1), true) else (l, [], false)

def cutVal (x : List UInt8 × List UInt8 × Bool) : Value := .tuple #[.string (bs x.1), .string (bs x.2.1), .bool x.2.2]

theorem indexByte_lt (l : List UInt8) (c : UInt8) (h : 0 ≤ Lib.indexByte l c) : Lib.indexByte l c < l.length := by
  induction l with
  | nil => simp [Lib.indexByte] at h
  | cons b l ih =>
    simp only [Lib.indexByte] at h ⊢
    split
    · simp
    · rename_i hb
      rw [if_neg hb] at h
      split
      · rename_i h1; rw [if_pos h1] at h; omega
      · rename_i h1; rw [if_neg h1] at h
        have h2 : Lib.indexByte l c ≠ -1 := by simpa using h1
        have := ih (by omega)
        simp; omega

theorem indexByte_ge (l : List UInt8) (c : UInt8) : -1 ≤ Lib.indexByte l c := by
  induction l with
  | nil => simp [Lib.indexByte]
  | cons b l ih => simp only [Lib.indexByte]; split; · omega
                   split <;> omega

theorem ret_cut {a b : ByteArray} {q : Bool} {x : List UInt8 × List UInt8 × Bool} (ha : a.data.toList = x.1) (hb : b.data.toList = x.2.1) (hq : q = x.2.2) : Ending.returned (.tuple #[.string a, .string b, .bool q]) = .returned (cutVal x) := by
  unfold cutVal
  rw [← ha, ← hb, hq, list_bs, list_bs]
theorem Drawn.below {w : World} {n : Nat} : Below w.heap.size w (w.drewN n) := ⟨rfl, rfl, rfl, Nat.le_refl _, fun _ _ => rfl⟩
theorem cell_below {w w1 : World} {a : Addr} {v : Value} (hb : Below w.heap.size w w1) (hc : w.cell? a = some v) : w1.cell? a = some v :=
  (hb.cell (World.block_lt_of_cell? w _ hc)).trans hc
end Go.Proofs.Ythaphfedogmliaa
