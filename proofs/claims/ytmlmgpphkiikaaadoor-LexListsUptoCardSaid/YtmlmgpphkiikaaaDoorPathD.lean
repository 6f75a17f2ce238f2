/- The contracts of path.Decode and the document's At, Decode: the plain walks over escapes, for every text. -/
import Derived.Test.YtmlmgpphkiikaaaDoorPathC
set_option linter.unusedVariables false
set_option linter.unusedSimpArgs false
namespace Go.Proofs.YtmlmgpphkiikaaaDoor
open Go.RowKit Lex

set_option maxHeartbeats 2000000 in
theorem decode_c (s : ByteArray) (w : World) (hs : s.size ≤ 140737488351232) : Calls Tryd.prog 34 #[.string s] w fun e w' => e = .returned (optStr (decodeL s.data.toList)) ∧ Below w.heap.size w w' := by
  obtain ⟨i0, hi, hz0, hz1, hz2⟩ := info_parts info_u8
  go_enter Tryd.func34, Tryd.ntmps34
  go_wp2
  go_loopw [4, 5] (fun v i wr => ∃ (k : Nat) (o : List UInt8), k ≤ s.size ∧ i = .int .i64 k ∧ wr.ownsRow w.heap.size 5 1 v o.length (nums8 (nat8 o)) ∧ Below w.heap.size w wr ∧ Gone (fun _ => false) (fun n => [n]) s k o) (fun _ i _ => s.size - (intOf i).toNat)
  case atStart => exact ⟨0, [], Nat.zero_le _, rfl, World.ownsRow_nil _ _ _ _, Below.refl _ _, Gone.start s⟩
  case round =>
    obtain ⟨k, o, hk, rfl, hown, hB, hG⟩ := hrel
    have HO := Lib.hid hown
    clear hown
    have HG := Lib.hid hG
    have hlen := hG.len
    clear hG
    have sw := hB.size
    by_cases hlt : k < s.size
    · have c255 : (s[k].toNat : Int) ≤ 255 := by have := s[k].toNat_lt; omega
      by_cases h37 : (s[k].toNat : Int) = 37
      · have g5 : ((s[k].toNat : Int) == 37) = true := by rw [beq_iff_eq]; exact h37
        have h37' : s[k] = 37 := by rw [← UInt8.toNat_inj]; simp; omega
        have H37 := Lib.hid h37'
        have K := fun w => Lib.hid (escape_c (s.extract k s.size) w (by simp; omega))
        rw [rest_data] at K
        clear h37 h37'
        cases hok : (escB (s.data.toList.drop k)).2 with
        | false =>
          have HN := Lib.hid (HG.out.stop hlt H37.out hok)
          rw [hok] at K
          go_wp2_with (go_at_call 54; refine (K _).out.mono ?_; rintro e w' ⟨rfl, rfl⟩)
          go_ret2
          exact ⟨by unfold decodeL; rw [HN.out]; rfl, hB⟩
        | true =>
          obtain ⟨n, hn⟩ : ∃ n, (escB (s.data.toList.drop k)).1 = n := ⟨_, rfl⟩
          have he : escB (s.data.toList.drop k) = (n, true) := by rw [← hn, ← hok]
          rw [hok, hn] at K
          obtain ⟨hk2, hE⟩ := HG.out.esc hlt rfl H37.out n he (by simp)
          have HE := Lib.hid hE
          have HQ := Lib.hid he
          have HQ2 := Lib.hid hok
          have HQ3 := Lib.hid hn
          clear hE he hok hn
          have n255 : (n.toNat : Int) ≤ 255 := by have := n.toNat_lt; omega
          go_wp2_with (first | (go_at_call 54; refine (K _).out.mono ?_; rintro e w' ⟨rfl, rfl⟩) | (at_builtin; refine wpList_append_own _ rfl (.tmp 32) (.tmp 34) 26 rfl w.heap.size 5 i0 (.int .u8 0) 1 1 Tryd.underlying26 hi hz0 hz1 hz2 rfl (by decide) _ o.length _ rfl (HO.out.alloc _) ⟨wr.heap.size, 0, none⟩ 1 1 [.int .u8 n.toNat] rfl rfl ?_ ?_ ?_ ?_ ?_ ?_))
          any_goals first | exact cell_one_new _ _ _ | (intro u hu; simp at hu; subst hu; rfl) | (show Value.oneCell' _ = true; rfl) | (unfold maxLen; omega) | omega | (simp; omega)
          intro v' w1 hown' hgrow _
          have hsn := nat8_snoc o [n]
          simp only [List.map_cons, List.map_nil] at hsn
          rw [← hsn] at hown'
          have HO' := Lib.hid hown'
          have hB' : Below w.heap.size w w1 := (hB.alloc sw _).grown hgrow (by simp; omega) (fun g hg => (HO.out.lt g hg).1)
          clear hown' hgrow hsn
          go_wp2
          go_roundw
          case rel => exact ⟨k + 3, _, by omega, by go_num, by rw [List.length_append]; exact HO'.out, hB', HE.out⟩
          case measure => simp [intOf]; omega
      · have g5 : ((s[k].toNat : Int) == 37) = false := by rw [beq_eq_false_iff_ne]; exact h37
        have HP := Lib.hid (HG.out.plain hlt rfl (ne37.2 h37))
        go_wp2_with (at_builtin; refine wpList_append_own _ rfl (.tmp 32) (.tmp 34) 26 rfl w.heap.size 5 i0 (.int .u8 0) 1 1 Tryd.underlying26 hi hz0 hz1 hz2 rfl (by decide) _ o.length _ rfl (HO.out.alloc _) ⟨wr.heap.size, 0, none⟩ 1 1 [.int .u8 s[k].toNat] rfl rfl ?_ ?_ ?_ ?_ ?_ ?_)
        any_goals first | exact cell_one_new _ _ _ | (intro u hu; simp at hu; subst hu; rfl) | (show Value.oneCell' _ = true; rfl) | (unfold maxLen; omega) | omega | (simp; omega)
        intro v' w1 hown' hgrow _
        have hsn := nat8_snoc o [s[k]]
        simp only [List.map_cons, List.map_nil] at hsn
        rw [← hsn] at hown'
        have HO' := Lib.hid hown'
        have hB' : Below w.heap.size w w1 := (hB.alloc sw _).grown hgrow (by simp; omega) (fun g hg => (HO.out.lt g hg).1)
        clear hown' hgrow hsn
        go_wp2
        go_roundw
        case rel => exact ⟨k + 1, _, by omega, by go_num, by rw [List.length_append]; exact HO'.out, hB', HP.out⟩
        case measure => simp [intOf]; omega
    · have hcv2 := own_string8 HO.out
      rw [nat8_str] at hcv2
      have HN := Lib.hid (HG.out.whole (by omega))
      go_wp2
      go_ret2
      exact ⟨by unfold decodeL; rw [HN.out]; rfl, hB⟩

/-! ### the document's -/
def atI (p : UInt8 × Bool) : Int := if p.2 then p.1.toNat else -1

theorem rat_c (s : ByteArray) (k : Nat) (w : World) (hs : s.size ≤ 9223372036854775000) (hlt : k < s.size) (h37 : s[k] = 37) :
    Calls Tryd.prog 31 #[.string s, .int .i64 k] w fun e w' => e = .returned (.int .i64 (atI (escB (s.data.toList.drop k)))) ∧ w = w' := by
  have hd := drop_at s k hlt
  have g5 : ((s[k].toNat : Int) != 37) = false := by rw [h37]; rfl
  by_cases h2 : s.size ≤ k + 2
  · have he : atI (escB (s.data.toList.drop k)) = -1 := by
      rw [hd]
      have hl : (s.data.toList.drop (k + 1)).length < 2 := by rw [List.length_drop, size_list]; omega
      match s.data.toList.drop (k + 1), hl with
      | [], _ => rfl
      | [_], _ => rfl
    rw [he]
    have h2' : (s.size : Int) ≤ (k : Int) + 2 := by omega
    go_enter Tryd.func31, Tryd.ntmps31
    go_wp2
    go_ret
    exact ⟨rfl, rfl⟩
  · have h2' : ¬ (s.size : Int) ≤ (k : Int) + 2 := by omega
    have hl : 2 ≤ (s.data.toList.drop (k + 1)).length := by rw [List.length_drop, size_list]; omega
    have hx : (s.extract (k + 1) (k + 3)).data.toList = (s.data.toList.drop (k + 1)).take 2 := by rw [Lib.extract_data]; congr 1; omega
    rw [hd]
    clear hd
    have K := fun w => Lib.hid (rhex_c (s.extract (k + 1) (k + 3)) 2 w)
    rw [hx] at K
    match hr : s.data.toList.drop (k + 1), hl with
    | a :: b :: r, _ =>
      rw [hr] at K
      simp only [List.take_succ_cons, List.take_zero, hex_pair] at K
      clear hx hr
      simp only [escB]
      generalize pair a b = p at *
      cases p with
      | none =>
        simp only at K
        simp only [atI]
        go_enter Tryd.func31, Tryd.ntmps31
        go_wp2_with (go_at_call 18; refine (K _).out.mono ?_; rintro e w' ⟨rfl, rfl⟩)
        go_ret
        exact ⟨rfl, rfl⟩
      | some n =>
        simp only at K
        simp only [atI, if_true]
        go_enter Tryd.func31, Tryd.ntmps31
        go_wp2_with (go_at_call 18; refine (K _).out.mono ?_; rintro e w' ⟨rfl, rfl⟩)
        go_ret
        exact ⟨rfl, rfl⟩

set_option maxHeartbeats 2000000 in
theorem rdecode_c (s : ByteArray) (w : World) (hs : s.size ≤ 140737488351232) : Calls Tryd.prog 36 #[.string s] w fun e w' => e = .returned (optStr (decodeL s.data.toList)) ∧ Below w.heap.size w w' := by
  obtain ⟨i0, hi, hz0, hz1, hz2⟩ := info_parts info_u8
  go_enter Tryd.func36, Tryd.ntmps36
  go_wp2
  go_loopw [4, 5] (fun v i wr => ∃ (k : Nat) (o : List UInt8), k ≤ s.size ∧ i = .int .i64 k ∧ wr.ownsRow w.heap.size 5 1 v o.length (nums8 (nat8 o)) ∧ Below w.heap.size w wr ∧ Gone (fun _ => false) (fun n => [n]) s k o) (fun _ i _ => s.size - (intOf i).toNat)
  case atStart => exact ⟨0, [], Nat.zero_le _, rfl, World.ownsRow_nil _ _ _ _, Below.refl _ _, Gone.start s⟩
  case round =>
    obtain ⟨k, o, hk, rfl, hown, hB, hG⟩ := hrel
    have HO := Lib.hid hown
    clear hown
    have HG := Lib.hid hG
    have hlen := hG.len
    clear hG
    have sw := hB.size
    by_cases hlt : k < s.size
    · have c255 : (s[k].toNat : Int) ≤ 255 := by have := s[k].toNat_lt; omega
      by_cases h37 : (s[k].toNat : Int) = 37
      · have g5 : ((s[k].toNat : Int) != 37) = false := by rw [bne_eq_false_iff_eq]; exact h37
        have h37' : s[k] = 37 := by rw [← UInt8.toNat_inj]; simp; omega
        have H37 := Lib.hid h37'
        have K := fun w => Lib.hid (rat_c s k w (by omega) hlt h37')
        clear h37 h37'
        cases hok : (escB (s.data.toList.drop k)).2 with
        | false =>
          have HN := Lib.hid (HG.out.stop hlt H37.out hok)
          have e1 : atI (escB (s.data.toList.drop k)) = -1 := by unfold atI; rw [hok]; rfl
          rw [e1] at K
          clear e1
          go_wp2_with (go_at_call 31; refine (K _).out.mono ?_; rintro e w' ⟨rfl, rfl⟩)
          go_ret2
          exact ⟨by unfold decodeL; rw [HN.out]; rfl, hB⟩
        | true =>
          obtain ⟨n, hn⟩ : ∃ n, (escB (s.data.toList.drop k)).1 = n := ⟨_, rfl⟩
          have he : escB (s.data.toList.drop k) = (n, true) := by rw [← hn, ← hok]
          have e1 : atI (escB (s.data.toList.drop k)) = n.toNat := by rw [he]; rfl
          rw [e1] at K
          obtain ⟨hk2, hE⟩ := HG.out.esc hlt rfl H37.out n he (by simp)
          have HE := Lib.hid hE
          have HQ := Lib.hid he
          have HQ2 := Lib.hid hok
          have HQ3 := Lib.hid hn
          clear hE he hok hn e1
          have n255 : (n.toNat : Int) ≤ 255 := by have := n.toNat_lt; omega
          have n0 : 0 ≤ (n.toNat : Int) := by omega
          have nm : (n.toNat : Int) % 256 = n.toNat := by omega
          go_wp2_with (first | (go_at_call 31; refine (K _).out.mono ?_; rintro e w' ⟨rfl, rfl⟩) | (at_builtin; refine wpList_append_own _ rfl (.tmp 28) (.tmp 31) 26 rfl w.heap.size 5 i0 (.int .u8 0) 1 1 Tryd.underlying26 hi hz0 hz1 hz2 rfl (by decide) _ o.length _ rfl (HO.out.alloc _) ⟨wr.heap.size, 0, none⟩ 1 1 [.int .u8 n.toNat] rfl rfl ?_ ?_ ?_ ?_ ?_ ?_))
          any_goals first | exact cell_one_new _ _ _ | (intro u hu; simp at hu; subst hu; rfl) | (show Value.oneCell' _ = true; rfl) | (unfold maxLen; omega) | omega | (simp; omega)
          intro v' w1 hown' hgrow _
          have hsn := nat8_snoc o [n]
          simp only [List.map_cons, List.map_nil] at hsn
          rw [← hsn] at hown'
          have HO' := Lib.hid hown'
          have hB' : Below w.heap.size w w1 := (hB.alloc sw _).grown hgrow (by simp; omega) (fun g hg => (HO.out.lt g hg).1)
          clear hown' hgrow hsn
          go_wp2
          go_roundw
          case rel => exact ⟨k + 3, _, by omega, by go_num, by rw [List.length_append]; exact HO'.out, hB', HE.out⟩
          case measure => simp [intOf]; omega
      · have g5 : ((s[k].toNat : Int) != 37) = true := by rw [bne_iff_ne]; exact h37
        have HP := Lib.hid (HG.out.plain hlt rfl (ne37.2 h37))
        go_wp2_with (at_builtin; refine wpList_append_own _ rfl (.tmp 17) (.tmp 21) 26 rfl w.heap.size 5 i0 (.int .u8 0) 1 1 Tryd.underlying26 hi hz0 hz1 hz2 rfl (by decide) _ o.length _ rfl (HO.out.alloc _) ⟨wr.heap.size, 0, none⟩ 1 1 [.int .u8 s[k].toNat] rfl rfl ?_ ?_ ?_ ?_ ?_ ?_)
        any_goals first | exact cell_one_new _ _ _ | (intro u hu; simp at hu; subst hu; rfl) | (show Value.oneCell' _ = true; rfl) | (unfold maxLen; omega) | omega | (simp; omega)
        intro v' w1 hown' hgrow _
        have hsn := nat8_snoc o [s[k]]
        simp only [List.map_cons, List.map_nil] at hsn
        rw [← hsn] at hown'
        have HO' := Lib.hid hown'
        have hB' : Below w.heap.size w w1 := (hB.alloc sw _).grown hgrow (by simp; omega) (fun g hg => (HO.out.lt g hg).1)
        clear hown' hgrow hsn
        go_wp2
        go_roundw
        case rel => exact ⟨k + 1, _, by omega, by go_num, by rw [List.length_append]; exact HO'.out, hB', HP.out⟩
        case measure => simp [intOf]; omega
    · have hcv2 := own_string8 HO.out
      rw [nat8_str] at hcv2
      have HN := Lib.hid (HG.out.whole (by omega))
      go_wp2
      go_ret2
      exact ⟨by unfold decodeL; rw [HN.out]; rfl, hB⟩

end Go.Proofs.YtmlmgpphkiikaaaDoor
