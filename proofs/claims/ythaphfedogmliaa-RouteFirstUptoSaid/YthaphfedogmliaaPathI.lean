/- The walk over PathDecodes, for all texts. -/
import Derived.Test.YthaphfedogmliaaPathH
set_option linter.unusedVariables false
set_option linter.unusedSimpArgs false
namespace Go.Proofs.Ythaphfedogmliaa
open Go.RowKit Lex

theorem indexByte_none (l : List UInt8) (c : UInt8) (h : Lib.indexByte l c < 0) : ∀ j (hj : j < l.length), l[j] ≠ c := by
  induction l with
  | nil => intro j hj; simp at hj
  | cons b l ih =>
    simp only [Lib.indexByte] at h
    split at h
    · omega
    · rename_i hb
      intro j hj
      cases j with
      | zero => simpa using hb
      | succ j =>
        have hge := indexByte_ge l c
        have := ih (by
          by_cases hq : (Lib.indexByte l c == -1) = true
          · have : Lib.indexByte l c = -1 := by simpa using hq
            omega
          · rw [if_neg hq] at h; omega) j (by simpa using hj)
        simpa using this

theorem indexByte_found (l : List UInt8) (c : UInt8) (k : Nat) (h : Lib.indexByte l c = (k : Int)) : (∃ hk : k < l.length, l[k] = c) ∧ ∀ j (hj : j < l.length), j < k → l[j] ≠ c := by
  induction l generalizing k with
  | nil => simp [Lib.indexByte] at h
  | cons b l ih =>
    simp only [Lib.indexByte] at h
    split at h
    · rename_i hb
      obtain rfl : k = 0 := by omega
      exact ⟨⟨by simp, by simpa using hb⟩, fun j _ h => absurd h (Nat.not_lt_zero _)⟩
    · rename_i hb
      split at h
      · omega
      · cases k with
        | zero =>
          rename_i hq
          have h1 : Lib.indexByte l c ≠ -1 := by simpa using hq
          have := indexByte_ge l c
          omega
        | succ k =>
          obtain ⟨⟨hk, h1⟩, h2⟩ := ih k (by omega)
          refine ⟨⟨by simpa using hk, by simpa using h1⟩, fun j hj hlt => ?_⟩
          cases j with
          | zero => simpa using hb
          | succ j => simpa using h2 j (by simpa using hj) (by omega)

theorem byte_of {c : UInt8} (h : (c.toNat : Int) = 63) : c = 63 := by
  have h63 : (63 : UInt8).toNat = 63 := rfl
  exact UInt8.toNat_inj.1 (by omega)
theorem bytes_ext {a b : ByteArray} (h : a.data.toList = b.data.toList) : a = b := by
  obtain ⟨⟨a⟩⟩ := a; obtain ⟨⟨b⟩⟩ := b; simp at h; subst h; rfl

theorem cut_at (s : ByteArray) : ∃ k, k ≤ s.size ∧ (∀ j (hj : j < s.size), j < k → s[j] ≠ 63) ∧
    ((∃ h : k < s.size, s[k] = 63 ∧ cutVal (cutB s.data.toList 63) = .tuple #[.string (s.extract 0 k), .string (s.extract (k + 1) s.size), .bool true]) ∨
     (k = s.size ∧ cutVal (cutB s.data.toList 63) = .tuple #[.string (s.extract 0 s.size), .string ⟨#[]⟩, .bool false])) := by
  unfold cutB
  by_cases h : 0 ≤ Lib.indexByte s.data.toList 63
  · obtain ⟨k, hk⟩ := Int.eq_ofNat_of_zero_le h
    obtain ⟨⟨h1, h2⟩, h3⟩ := indexByte_found _ _ _ hk
    have h1' : k < s.size := by rw [← size_list]; exact h1
    refine ⟨k, by omega, fun j hj hlt => h3 j (by rw [size_list]; exact hj) hlt, .inl ⟨h1', h2, ?_⟩⟩
    rw [if_pos h, hk]
    unfold cutVal
    rw [show bs (s.data.toList.take ((k : Int).toNat)) = s.extract 0 k from bytes_ext (by rw [Lib.extract_data]; simp [bs]), show bs (s.data.toList.drop ((k : Int).toNat + 1)) = s.extract (k + 1) s.size from bytes_ext (by rw [Lib.extract_to_end]; simp [bs])]
  · refine ⟨s.size, Nat.le_refl _, fun j hj _ => indexByte_none _ _ (by omega) j (by rw [size_list]; exact hj), .inr ⟨rfl, ?_⟩⟩
    rw [if_neg h]
    unfold cutVal
    rw [show bs s.data.toList = s.extract 0 s.size from bytes_ext (by rw [Lib.extract_to_end]; simp [bs])]

end Go.Proofs.Ythaphfedogmliaa
