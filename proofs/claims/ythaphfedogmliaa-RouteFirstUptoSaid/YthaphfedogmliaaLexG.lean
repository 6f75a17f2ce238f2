/- The contract of the document's Lower (append byte by byte); the walks over LexTexts and LexCase, for all texts. -/
import Derived.Test.YthaphfedogmliaaLexF
import Derived.OwnWalk
import Derived.Laws.AppendOwn
set_option linter.unusedVariables false
set_option linter.unusedSimpArgs false
namespace Go.Proofs.Ythaphfedogmliaa
open Go.RowKit Lex

theorem info_u8 : (Try.prog.info? 5).map (fun i => (i.zero, i.size, i.bytes)) = some (some (.int .u8 0), 1, 1) := by kernel_rfl

def nums8 (xs : List Int) : List Value := xs.map (Value.int .u8)

/-- A row of bytes of the call's own, made a string. -/
theorem own_string8 {w : World} {base n : Nat} {v : Value} {xs : List Int} (h : w.ownsRow base 5 1 v n (nums8 xs)) : (convert 59 9 v).run Try.prog w = .ok (.string (strOfNums xs)) w := by
  have hl : xs.length = n := by have := h.1; simpa [nums8] using this
  rcases h.2 with ⟨rfl, h0⟩ | ⟨g, cap, cur, rfl, _⟩
  · subst h0
    obtain rfl : xs = [] := List.eq_nil_of_length_eq_zero hl
    exact run_convert_bytes_nil w 59 5 Try.underlying59 Try.underlying5 0 0 9 Try.underlying9
  · refine run_convert_bytes_arg w 59 5 Try.underlying59 Try.underlying5 g 0 n cap xs hl (fun i hi => ?_) 9 Try.underlying9
    have hc := h.cells (g := g) rfl i (.int .u8 (xs.getD i 0)) (by simp [nums8, List.getElem?_eq_getElem (show i < xs.length by omega), List.getD_eq_getElem?_getD])
    have ha : (⟨g, 0, none⟩ : Addr).add i = ⟨g, 0 + i, none⟩ := by unfold Addr.add; split <;> simp_all
    rw [← ha]; exact hc

theorem lowNums_snoc (s : ByteArray) (k : Nat) (h : k < s.size) : nums8 ((lowNums s).take (k + 1)) = nums8 ((lowNums s).take k) ++ [.int .u8 (low s[k].toNat)] := by
  unfold nums8
  rw [List.take_succ_eq_append_getElem (by rw [lowNums_length]; exact h), List.map_append]
  congr 1
  simp only [List.map_cons, List.map_nil]
  congr 2
  have := lowNums_at s k h
  rw [List.getD_eq_getElem?_getD, List.getElem?_eq_getElem (by rw [lowNums_length]; exact h)] at this
  exact this

set_option maxRecDepth 100000 in
set_option maxHeartbeats 4000000 in
theorem rlower_c (s : ByteArray) (w : World) (hs : s.size ≤ 140737488351232) : Calls Try.prog 39 #[.string s] w fun e w' => e = .returned (.string (bs (lower s.data.toList))) ∧ Below w.heap.size w w' := by
  obtain ⟨i0, hi, hz0, hz1, hz2⟩ := info_parts info_u8
  go_enter Try.func39, Try.ntmps39
  go_wp2
  go_loopw [3, 4] (fun v i wr => ∃ k : Nat, k ≤ s.size ∧ i = .int .i64 k ∧ wr.ownsRow w.heap.size 5 1 v k (nums8 ((lowNums s).take k)) ∧ Below w.heap.size w wr) (fun _ i _ => s.size - (intOf i).toNat)
  case atStart => exact ⟨0, Nat.zero_le _, rfl, World.ownsRow_nil _ _ _ _, Below.refl _ _⟩
  case round =>
    obtain ⟨k, hk, rfl, hown, hB⟩ := hrel
    have HO := Lib.hid hown
    clear hown
    have sw := hB.size
    by_cases hlt : k < s.size
    · obtain ⟨x, hx, hx0, hcase⟩ : ∃ x : Int, low s[k].toNat = x ∧ (0 ≤ x ∧ x ≤ 255) ∧ ((65 ≤ (s[k].toNat : Int) ∧ (s[k].toNat : Int) ≤ 90 ∧ x = s[k].toNat - 65 + 97) ∨ ((s[k].toNat : Int) < 65 ∧ x = s[k].toNat) ∨ (65 ≤ (s[k].toNat : Int) ∧ 90 < (s[k].toNat : Int) ∧ x = s[k].toNat)) := by
        refine ⟨_, rfl, low_range _, ?_⟩
        unfold low
        split
        · left; omega
        · right; omega
      have hsn := lowNums_snoc s k hlt
      rw [hx] at hsn
      have HSN := Lib.hid hsn
      clear hsn
      have c255 : (s[k].toNat : Int) ≤ 255 := by have := s[k].toNat_lt; omega
      rcases hcase with ⟨h1, h2, e⟩ | ⟨h1, e⟩ | ⟨h1, h2, e⟩
      · subst e
        go_wp2_with (at_builtin; refine wpList_append_own _ rfl (.tmp 24) (.tmp 26) 59 rfl w.heap.size 5 i0 (.int .u8 0) 1 1 Try.underlying59 hi hz0 hz1 hz2 rfl (by decide) _ k _ rfl (HO.out.alloc _) ⟨wr.heap.size, 0, none⟩ 1 1 [.int .u8 (s[k].toNat - 65 + 97)] rfl rfl ?c1 ?c2 ?c3 ?c4 ?c5 ?_)
        any_goals first | exact cell_one_new _ _ _ | (intro u hu; simp at hu; subst hu; rfl) | (show Value.oneCell' _ = true; rfl) | (unfold maxLen; omega) | omega | (simp; omega)
        intro v' w1 hown' hgrow _
        have hk := HSN.out
        rw [← hk] at hown'
        have HO' := Lib.hid hown'
        have hB' : Below w.heap.size w w1 := (hB.alloc sw _).grown hgrow (by simp; omega) (fun g hg => (HO.out.lt g hg).1)
        clear hown' hgrow hk
        go_wp2
        go_roundw
        case rel => exact ⟨k + 1, by omega, by go_num, HO'.out, hB'⟩
        case measure => simp [intOf]; omega
      · subst e
        go_wp2_with (at_builtin; refine wpList_append_own _ rfl (.tmp 24) (.tmp 26) 59 rfl w.heap.size 5 i0 (.int .u8 0) 1 1 Try.underlying59 hi hz0 hz1 hz2 rfl (by decide) _ k _ rfl (HO.out.alloc _) ⟨wr.heap.size, 0, none⟩ 1 1 [.int .u8 (s[k].toNat)] rfl rfl ?d1 ?d2 ?d3 ?d4 ?d5 ?_)
        any_goals first | exact cell_one_new _ _ _ | (intro u hu; simp at hu; subst hu; rfl) | (show Value.oneCell' _ = true; rfl) | (unfold maxLen; omega) | omega | (simp; omega)
        intro v' w1 hown' hgrow _
        have hk := HSN.out
        rw [← hk] at hown'
        have HO' := Lib.hid hown'
        have hB' : Below w.heap.size w w1 := (hB.alloc sw _).grown hgrow (by simp; omega) (fun g hg => (HO.out.lt g hg).1)
        clear hown' hgrow hk
        go_wp2
        go_roundw
        case rel => exact ⟨k + 1, by omega, by go_num, HO'.out, hB'⟩
        case measure => simp [intOf]; omega
      · subst e
        go_wp2_with (at_builtin; refine wpList_append_own _ rfl (.tmp 24) (.tmp 26) 59 rfl w.heap.size 5 i0 (.int .u8 0) 1 1 Try.underlying59 hi hz0 hz1 hz2 rfl (by decide) _ k _ rfl (HO.out.alloc _) ⟨wr.heap.size, 0, none⟩ 1 1 [.int .u8 (s[k].toNat)] rfl rfl ?f1 ?f2 ?f3 ?f4 ?f5 ?_)
        any_goals first | exact cell_one_new _ _ _ | (intro u hu; simp at hu; subst hu; rfl) | (show Value.oneCell' _ = true; rfl) | (unfold maxLen; omega) | omega | (simp; omega)
        intro v' w1 hown' hgrow _
        have hk := HSN.out
        rw [← hk] at hown'
        have HO' := Lib.hid hown'
        have hB' : Below w.heap.size w w1 := (hB.alloc sw _).grown hgrow (by simp; omega) (fun g hg => (HO.out.lt g hg).1)
        clear hown' hgrow hk
        go_wp2
        go_roundw
        case rel => exact ⟨k + 1, by omega, by go_num, HO'.out, hB'⟩
        case measure => simp [intOf]; omega
    · have ht : (lowNums s).take k = lowNums s := List.take_of_length_le (by rw [lowNums_length]; omega)
      have hcv2 := own_string8 HO.out
      rw [ht, strOf_low] at hcv2
      clear ht
      go_wp2
      go_ret
      exact ⟨rfl, hB⟩

end Go.Proofs.Ythaphfedogmliaa
