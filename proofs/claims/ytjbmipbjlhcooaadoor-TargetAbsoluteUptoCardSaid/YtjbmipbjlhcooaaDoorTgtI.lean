/- The contracts of Origin, program and document. -/
import Derived.Test.YtjbmipbjlhcooaaDoorTgtH
set_option linter.unusedVariables false
set_option linter.unusedSimpArgs false
namespace Go.Proofs.YtjbmipbjlhcooaaDoor
open Go.RowKit Lex

set_option maxRecDepth 100000 in
set_option maxHeartbeats 4000000 in
theorem origin_c (t : Tg) (w : World) (hp : t.path.length ≤ 140737488351232) (hq : t.query.length ≤ 140737488351232) : Calls Tryd.prog 23 #[tgVal t] w fun e w' => e = .returned (.string (bs (originT t))) ∧ Below w.heap.size w w' := by
  obtain ⟨f, h, p, pa, qu, b⟩ := t
  simp only at hp hq
  unfold originT tgVal
  simp only
  have hps : (bs pa).size ≤ 140737488351232 := hp
  have hqs : (bs qu).size ≤ 140737488351232 := hq
  have h1 : (ByteArray.mk #[63]).size = 1 := rfl
  have h2 : (bs pa ++ ByteArray.mk #[63]).size = (bs pa).size + 1 := by rw [ByteArray.size_append, h1]
  by_cases c4 : f = 4
  · subst c4
    go_enter Tryd.func23, Tryd.ntmps23
    go_wp2
    go_ret
    exact ⟨rfl, (Below.refl _ w).alloc (Nat.le_refl _) _⟩
  · rw [if_neg c4]
    have b4 : (f == 4) = false := by rw [beq_eq_false_iff_ne]; exact c4
    by_cases c12 : f ≠ 1 ∧ f ≠ 2
    · rw [if_pos c12]
      have b1 : (f != 1) = true := by rw [bne_iff_ne]; exact c12.1
      have b2 : (f != 2) = true := by rw [bne_iff_ne]; exact c12.2
      go_enter Tryd.func23, Tryd.ntmps23
      go_wp2
      go_ret
      exact ⟨rfl, (Below.refl _ w).alloc (Nat.le_refl _) _⟩
    · rw [if_neg c12]
      have hf : f = 1 ∨ f = 2 := by omega
      clear c4 c12 b4
      cases b with
      | false =>
        rw [if_neg (by simp)]
        rcases hf with rfl | rfl
        all_goals
          go_enter Tryd.func23, Tryd.ntmps23
          go_wp2
          go_ret
          exact ⟨rfl, (Below.refl _ w).alloc (Nat.le_refl _) _⟩
      | true =>
        rw [if_pos rfl]
        have hj : bs pa ++ ByteArray.mk #[63] ++ bs qu = bs (pa ++ 63 :: qu) := by
          apply ByteArray.ext
          apply Array.ext'
          simp [bs]
        rcases hf with rfl | rfl
        all_goals
          go_enter Tryd.func23, Tryd.ntmps23
          go_wp2
          go_ret
          exact ⟨rfl, (Below.refl _ w).alloc (Nat.le_refl _) _⟩

set_option maxRecDepth 100000 in
set_option maxHeartbeats 4000000 in
theorem rorigin_c (t : Tg) (w : World) (hp : t.path.length ≤ 140737488351232) (hq : t.query.length ≤ 140737488351232) : Calls Tryd.prog 24 #[tgVal t] w fun e w' => e = .returned (.string (bs (originT t))) ∧ Below w.heap.size w w' := by
  obtain ⟨f, h, p, pa, qu, b⟩ := t
  simp only at hp hq
  unfold originT tgVal
  simp only
  have hps : (bs pa).size ≤ 140737488351232 := hp
  have hqs : (bs qu).size ≤ 140737488351232 := hq
  have h1 : (ByteArray.mk #[63]).size = 1 := rfl
  have h2 : (bs pa ++ ByteArray.mk #[63]).size = (bs pa).size + 1 := by rw [ByteArray.size_append, h1]
  by_cases c4 : f = 4
  · subst c4
    go_enter Tryd.func24, Tryd.ntmps24
    go_wp2
    go_ret
    exact ⟨rfl, (Below.refl _ w).alloc (Nat.le_refl _) _⟩
  · rw [if_neg c4]
    have b4 : (f == 4) = false := by rw [beq_eq_false_iff_ne]; exact c4
    by_cases c12 : f ≠ 1 ∧ f ≠ 2
    · rw [if_pos c12]
      have b1 : (f != 1) = true := by rw [bne_iff_ne]; exact c12.1
      have b2 : (f != 2) = true := by rw [bne_iff_ne]; exact c12.2
      go_enter Tryd.func24, Tryd.ntmps24
      go_wp2
      go_ret
      exact ⟨rfl, (Below.refl _ w).alloc (Nat.le_refl _) _⟩
    · rw [if_neg c12]
      have hf : f = 1 ∨ f = 2 := by omega
      clear c4 c12 b4
      cases b with
      | false =>
        rw [if_neg (by simp)]
        rcases hf with rfl | rfl
        all_goals
          go_enter Tryd.func24, Tryd.ntmps24
          go_wp2
          go_ret
          exact ⟨rfl, (Below.refl _ w).alloc (Nat.le_refl _) _⟩
      | true =>
        rw [if_pos rfl]
        have hj : bs pa ++ ByteArray.mk #[63] ++ bs qu = bs (pa ++ 63 :: qu) := by
          apply ByteArray.ext
          apply Array.ext'
          simp [bs]
        rcases hf with rfl | rfl
        all_goals
          go_enter Tryd.func24, Tryd.ntmps24
          go_wp2
          go_ret
          exact ⟨rfl, (Below.refl _ w).alloc (Nat.le_refl _) _⟩
end Go.Proofs.YtjbmipbjlhcooaaDoor
