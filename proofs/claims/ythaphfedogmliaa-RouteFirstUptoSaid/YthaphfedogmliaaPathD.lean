/- The contracts of path.Decode and the document's At, Decode: the plain walks over escapes, for every text. -/
import Derived.Test.YthaphfedogmliaaPathC
set_option linter.unusedVariables false
set_option linter.unusedSimpArgs false
namespace Go.Proofs.Ythaphfedogmliaa
open Go.RowKit Lex

/-! ### the document's -/
def atI (p : UInt8 × Bool) : Int := if p.2 then p.1.toNat else -1

theorem rat_c (s : ByteArray) (k : Nat) (w : World) (hs : s.size ≤ 9223372036854775000) (hlt : k < s.size) (h37 : s[k] = 37) :
    Calls Try.prog 22 #[.string s, .int .i64 k] w fun e w' => e = .returned (.int .i64 (atI (escB (s.data.toList.drop k)))) ∧ w = w' := by
  have hd := drop_at s k hlt
  have g5 : ((s[k].toNat : Int) != 37) = false := by rw [h37]; rfl
  by_cases h2 : s.size ≤ k + 2
  · have he : atI (escB (s.data.toList.drop k)) = -1 := by
      rw [hd]
      have hl : (s.data.toList.drop (k + 1)).length < 2 := by rw [List.length_drop, size_list]; omega
      match s.data.toList.drop (k + 1), hl with
      | [], _ => rfl
      | [_], _ => rfl
    rw [he]
    have h2' : (s.size : Int) ≤ (k : Int) + 2 := by omega
    go_enter Try.func22, Try.ntmps22
    go_wp2
    go_ret
    exact ⟨rfl, rfl⟩
  · have h2' : ¬ (s.size : Int) ≤ (k : Int) + 2 := by omega
    have hl : 2 ≤ (s.data.toList.drop (k + 1)).length := by rw [List.length_drop, size_list]; omega
    have hx : (s.extract (k + 1) (k + 3)).data.toList = (s.data.toList.drop (k + 1)).take 2 := by rw [Lib.extract_data]; congr 1; omega
    rw [hd]
    clear hd
    have K := fun w => Lib.hid (rhex_c (s.extract (k + 1) (k + 3)) 2 w)
    rw [hx] at K
    match hr : s.data.toList.drop (k + 1), hl with
    | a :: b :: r, _ =>
      rw [hr] at K
      simp only [List.take_succ_cons, List.take_zero, hex_pair] at K
      clear hx hr
      simp only [escB]
      generalize pair a b = p at *
      cases p with
      | none =>
        simp only at K
        simp only [atI]
        go_enter Try.func22, Try.ntmps22
        go_wp2_with (go_at_call 38; refine (K _).out.mono ?_; rintro e w' ⟨rfl, rfl⟩)
        go_ret
        exact ⟨rfl, rfl⟩
      | some n =>
        simp only at K
        simp only [atI, if_true]
        go_enter Try.func22, Try.ntmps22
        go_wp2_with (go_at_call 38; refine (K _).out.mono ?_; rintro e w' ⟨rfl, rfl⟩)
        go_ret
        exact ⟨rfl, rfl⟩

end Go.Proofs.Ythaphfedogmliaa
