/- The walks over PathChain and PathDecodes, for all texts. -/
import Derived.Test.YthaphfedogmliaaPathG
set_option linter.unusedVariables false
set_option linter.unusedSimpArgs false
namespace Go.Proofs.Ythaphfedogmliaa
open Go.RowKit Lex

theorem under_self (a : List UInt8) : underB a a = true := by
  unfold underB
  rw [show a.isPrefixOf a = true from by rw [List.isPrefixOf_iff_prefix]; exact List.prefix_refl _]
  simp

theorem under_trans {a b c : List UInt8} (h1 : underB a b = true) (h2 : underB b c = true) : underB a c = true := by
  unfold underB at *
  simp only [Bool.and_eq_true, Bool.or_eq_true, decide_eq_true_eq, beq_iff_eq, List.isPrefixOf_iff_prefix] at *
  obtain ⟨p1, q1⟩ := h1
  obtain ⟨p2, q2⟩ := h2
  refine ⟨p2.trans p1, ?_⟩
  have l1 := p1.length_le
  have l2 := p2.length_le
  by_cases hbc : c.length = b.length
  · have : c = b := List.IsPrefix.eq_of_length p2 hbc
    subst this
    exact q1
  · have hlt : c.length < b.length := by omega
    rcases q2 with (h | h) | h
    · omega
    · left; right
      obtain ⟨r, hr⟩ := p1
      rw [← hr, List.getElem?_append_left hlt]
      exact h
    · exact .inr h

end Go.Proofs.Ythaphfedogmliaa
