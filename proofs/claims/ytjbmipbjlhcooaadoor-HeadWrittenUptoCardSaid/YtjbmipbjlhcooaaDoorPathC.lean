/- The contracts of path.unescape and path.Decode: the plain walks over escapes, for every text. -/
import Derived.Test.YtjbmipbjlhcooaaDoorPathB
import Derived.Deep.RegionLaw
import Derived.Deep.AppendLies
import Derived.BigRegion
set_option linter.unusedVariables false
set_option linter.unusedSimpArgs false
namespace Go.Proofs.YtjbmipbjlhcooaaDoor
open Go.RowKit Lex

theorem nat8_snoc (o : List UInt8) (l : List UInt8) : nums8 (nat8 (o ++ l)) = nums8 (nat8 o) ++ l.map fun c => Value.int .u8 (c.toNat : Int) := by
  simp [nums8, nat8, Function.comp_def]

theorem badU_cases {c : UInt8} (h : badU c = true) : (c.toNat : Int) < 33 ∨ (¬ (c.toNat : Int) < 33 ∧ 126 < (c.toNat : Int)) ∨ (¬ (c.toNat : Int) < 33 ∧ ¬ 126 < (c.toNat : Int) ∧ (c.toNat : Int) = 63) ∨ (¬ (c.toNat : Int) < 33 ∧ ¬ 126 < (c.toNat : Int) ∧ ¬ (c.toNat : Int) = 63 ∧ (c.toNat : Int) = 35) := by
  simp [badU] at h; omega
theorem badU_not {c : UInt8} (h : badU c = false) : ¬ (c.toNat : Int) < 33 ∧ ¬ 126 < (c.toNat : Int) ∧ ¬ (c.toNat : Int) = 63 ∧ ¬ (c.toNat : Int) = 35 := by
  simp [badU] at h; omega
theorem ne37 {c : UInt8} : c ≠ 37 ↔ ¬ (c.toNat : Int) = 37 := by
  rw [ne_eq, ← UInt8.toNat_inj]; simp; omega

def optStr (o : Option (List UInt8)) : Value := .tuple #[.string (bs (o.getD [])), .bool o.isSome]

theorem own_drew {w : World} {B : Nat} {e : TypeId} {z : Nat} {v : Value} {n : Nat} {xs : List Value} (h : w.ownsRow B e z v n xs) : w.drew.ownsRow B e z v n xs := h
theorem news3 (w : World) (a b c : Value) (e : TypeId) : ∀ j u, [a, b, c][j]? = some u → (w.alloc (.cells #[a, b, c] e)).drew.cell? ((⟨w.heap.size, 0, none⟩ : Addr).add j) = some u := fun j u hu =>
  World.news_of_block (w := (w.alloc (.cells #[a, b, c] e)).drew) (cs := #[a, b, c]) (t := e) (fr := (0, 0)) (heap_alloc_new w _) j u hu
theorem ones3 (k : IntKind) (a b c : Int) : ∀ u ∈ [Value.int k a, Value.int k b, Value.int k c], u.oneCell' = true := by
  intro u hu; simp at hu; rcases hu with rfl | rfl | rfl <;> rfl

set_option maxRecDepth 100000 in
set_option maxHeartbeats 2000000 in
theorem unescape_c (s : ByteArray) (w : World) (hs : s.size ≤ 140737488351232) : Calls Tryd.prog 84 #[.string s] w fun e w' => e = .returned (optStr (unesc s.data.toList)) ∧ Below w.heap.size w w' := by
  obtain ⟨i0, hi, hz0, hz1, hz2⟩ := info_parts info_u8
  go_enter Tryd.func84, Tryd.ntmps84
  go_wp2
  go_loopw [4, 5] (fun v i wr => ∃ (k : Nat) (o : List UInt8), k ≤ s.size ∧ i = .int .i64 k ∧ wr.ownsRow w.heap.size 5 1 v o.length (nums8 (nat8 o)) ∧ Below w.heap.size w wr ∧ Gone badU encU s k o) (fun _ i _ => s.size - (intOf i).toNat)
  case atStart => exact ⟨0, [], Nat.zero_le _, rfl, World.ownsRow_nil _ _ _ _, Below.refl _ _, Gone.start s⟩
  case round =>
    obtain ⟨k, o, hk, rfl, hown, hB, hG⟩ := hrel
    have HO := Lib.hid hown
    clear hown
    have HG := Lib.hid hG
    have hlen := hG.len
    clear hG
    have sw := hB.size
    by_cases hlt : k < s.size
    · have c255 : (s[k].toNat : Int) ≤ 255 := by have := s[k].toNat_lt; omega
      cases hbad : badU s[k] with
      | true =>
        have HN := Lib.hid (HG.out.bad hlt hbad)
        have hc := badU_cases hbad
        clear hbad
        rcases hc with h | ⟨h1, h⟩ | ⟨h1, h2, h⟩ | ⟨h1, h2, h3, h⟩
        · go_wp2
          go_ret2
          exact ⟨by unfold unesc; rw [HN.out]; rfl, hB⟩
        · go_wp2
          go_ret2
          exact ⟨by unfold unesc; rw [HN.out]; rfl, hB⟩
        · have g3 : ((s[k].toNat : Int) == 63) = true := by rw [beq_iff_eq]; exact h
          have HH := Lib.hid h
          clear h
          go_wp2
          go_ret2
          exact ⟨by unfold unesc; rw [HN.out]; rfl, hB⟩
        · have g3 : ((s[k].toNat : Int) == 63) = false := by rw [beq_eq_false_iff_ne]; exact h3
          have g4 : ((s[k].toNat : Int) == 35) = true := by rw [beq_iff_eq]; exact h
          have HH := Lib.hid h
          clear h
          go_wp2
          go_ret2
          exact ⟨by unfold unesc; rw [HN.out]; rfl, hB⟩
      | false =>
        obtain ⟨h1, h2, h3, h4⟩ := badU_not hbad
        have HBAD := Lib.hid hbad
        clear hbad
        have g3 : ((s[k].toNat : Int) == 63) = false := by rw [beq_eq_false_iff_ne]; exact h3
        have g4 : ((s[k].toNat : Int) == 35) = false := by rw [beq_eq_false_iff_ne]; exact h4
        by_cases h37 : (s[k].toNat : Int) = 37
        · have g5 : ((s[k].toNat : Int) != 37) = false := by rw [bne_eq_false_iff_eq]; exact h37
          have h37' : s[k] = 37 := by rw [← UInt8.toNat_inj]; simp; omega
          have H37 := Lib.hid h37'
          have K := fun w => Lib.hid (escape_c (s.extract k s.size) w (by simp; omega))
          rw [rest_data] at K
          clear h37 h37'
          cases hok : (escB (s.data.toList.drop k)).2 with
          | false =>
            have HN := Lib.hid (HG.out.stop hlt H37.out hok)
            rw [hok] at K
            go_wp2_with (go_at_call 99; refine (K _).out.mono ?_; rintro e w' ⟨rfl, rfl⟩)
            go_ret2
            exact ⟨by unfold unesc; rw [HN.out]; rfl, hB⟩
          | true =>
            obtain ⟨n, hn⟩ : ∃ n, (escB (s.data.toList.drop k)).1 = n := ⟨_, rfl⟩
            have he : escB (s.data.toList.drop k) = (n, true) := by rw [← hn, ← hok]
            rw [hok, hn] at K
            obtain ⟨hk2, hE⟩ := HG.out.esc hlt (by decide) H37.out n he (by unfold encU; split <;> simp)
            have HE := Lib.hid hE
            have HQ := Lib.hid he
            have HQ2 := Lib.hid hok
            have HQ3 := Lib.hid hn
            clear hE he hok hn
            have P := fun w => Lib.hid (plain_c n w)
            have n255 : (n.toNat : Int) ≤ 255 := by have := n.toNat_lt; omega
            cases hp : plainB n with
            | true =>
              rw [hp] at P
              have HEN := Lib.hid (show encU n = [n] from by unfold encU; rw [hp]; rfl)
              clear hp
              go_wp2_with (first | (go_at_call 99; refine (K _).out.mono ?_; rintro e w' ⟨rfl, rfl⟩) | (go_at_call 100; refine (P _).out.mono ?_; rintro e w' ⟨rfl, rfl⟩) | (at_builtin; refine wpList_append_own _ rfl (.tmp 51) (.tmp 53) 66 rfl w.heap.size 5 i0 (.int .u8 0) 1 1 Tryd.underlying66 hi hz0 hz1 hz2 rfl (by decide) _ o.length _ rfl (HO.out.alloc _) ⟨wr.heap.size, 0, none⟩ 1 1 [.int .u8 n.toNat] rfl rfl ?_ ?_ ?_ ?_ ?_ ?_))
              any_goals first | exact cell_one_new _ _ _ | (intro u hu; simp at hu; subst hu; rfl) | (show Value.oneCell' _ = true; rfl) | (unfold maxLen; omega) | omega | (simp; omega)
              intro v' w1 hown' hgrow _
              have hsn := nat8_snoc o [n]
              simp only [List.map_cons, List.map_nil] at hsn
              rw [← hsn, ← HEN.out] at hown'
              have hll : o.length + 1 = (o ++ encU n).length := by rw [HEN.out]; simp
              rw [hll] at hown'
              have HO' := Lib.hid hown'
              have hB' : Below w.heap.size w w1 := (hB.alloc sw _).grown hgrow (by simp; omega) (fun g hg => (HO.out.lt g hg).1)
              clear hown' hgrow hsn hll
              go_wp2
              go_roundw
              case rel => exact ⟨k + 3, _, by omega, by go_num, HO'.out, hB', HE.out⟩
              case measure => simp [intOf]; omega
            | false =>
              rw [hp] at P
              have HEN := Lib.hid (show encU n = [37, large (n.toNat / 16), large (n.toNat % 16)] from by unfold encU; rw [hp]; rfl)
              clear hp
              obtain ⟨q1, e1, hq1, r1⟩ : ∃ q1 : Nat, (n.toNat : Int) / 16 = (q1 : Int) ∧ q1 < 16 ∧ n.toNat / 16 = q1 := ⟨_, by omega, by have := n.toNat_lt; omega, rfl⟩
              obtain ⟨q2, e2, e2', hq2, r2⟩ : ∃ q2 : Nat, (n.toNat : Int) % 16 = (q2 : Int) ∧ bits .and .u8 (n.toNat : Int) 15 = (q2 : Int) ∧ q2 < 16 ∧ n.toNat % 16 = q2 := ⟨_, by omega, by
                rw [show (15 : Int) = ((15 : Nat) : Int) from rfl, u8_and_nat n.toNat 15 n.toNat_lt (by omega), show (15 : Nat) = 2 ^ 4 - 1 from rfl, Nat.and_two_pow_sub_one_eq_mod], by omega, rfl⟩
              have hq1' : (q1 : Int) < 16 := by omega
              have hq2' : (q2 : Int) < 16 := by omega
              have l1 := large_at q1 hq1
              have l2 := large_at q2 hq2
              rw [r1, r2] at HEN
              clear r1 r2
              go_wp2_with (first | (go_at_call 99; refine (K _).out.mono ?_; rintro e w' ⟨rfl, rfl⟩) | (go_at_call 100; refine (P _).out.mono ?_; rintro e w' ⟨rfl, rfl⟩))
              go_region_law (go_loud (refine step_append_lies _ rfl (.tmp 55) (.tmp 62) 66 rfl w.heap.size 5 i0 (.int .u8 0) 1 1 Tryd.underlying66 hi hz0 hz1 hz2 rfl (by decide) _ o.length (nums8 (nat8 o)) rfl (own_drew (HO.out.alloc _)) ⟨wr.heap.size, 0, none⟩ 3 3 [.int .u8 37, .int .u8 (large q1).toNat, .int .u8 (large q2).toNat] rfl rfl (news3 _ _ _ _ _) (ones3 _ _ _ _) (by decide) (by unfold maxLen; omega) (by omega) (by simp; omega) (wr.heap.size + 1) (by simp) ?_); intro g cap w1 hown' hgrow hgg hglt)
              all_goals
                have hsn := nat8_snoc o [37, large q1, large q2]
                simp only [List.map_cons, List.map_nil] at hsn
                rw [show (((37 : UInt8).toNat : Int)) = 37 from rfl] at hsn
                rw [← hsn, ← HEN.out] at hown'
                have hll : o.length + 3 = (o ++ encU n).length := by rw [HEN.out]; simp
                have hll' := hown'.1
                have HO' := Lib.hid hown'
                have hB' : Below w.heap.size w w1 := Below.grown (by repeat (first | exact hB.alloc sw _ | apply Below.drew)) hgrow (by simp; omega) (fun g hg => (HO.out.lt g hg).1)
                have HLL := Lib.hid hll
                clear hown' hgrow hsn hll hll' hgg
                go_wp2
                go_roundw
                case rel => exact ⟨k + 3, o ++ encU n, by omega, by go_num, by rw [← HLL.out]; exact HO'.out, hB', HE.out⟩
                case measure => simp [intOf]; omega
        · have g5 : ((s[k].toNat : Int) != 37) = true := by rw [bne_iff_ne]; exact h37
          have HP := Lib.hid (HG.out.plain hlt HBAD.out (ne37.2 h37))
          go_wp2_with (at_builtin; refine wpList_append_own _ rfl (.tmp 36) (.tmp 38) 66 rfl w.heap.size 5 i0 (.int .u8 0) 1 1 Tryd.underlying66 hi hz0 hz1 hz2 rfl (by decide) _ o.length _ rfl (HO.out.alloc _) ⟨wr.heap.size, 0, none⟩ 1 1 [.int .u8 (s[k].toNat)] rfl rfl ?_ ?_ ?_ ?_ ?_ ?_)
          any_goals first | exact cell_one_new _ _ _ | (intro u hu; simp at hu; subst hu; rfl) | (show Value.oneCell' _ = true; rfl) | (unfold maxLen; omega) | omega | (simp; omega)
          intro v' w1 hown' hgrow _
          have hsn := nat8_snoc o [s[k]]
          simp only [List.map_cons, List.map_nil] at hsn
          rw [← hsn] at hown'
          have HO' := Lib.hid hown'
          have hB' : Below w.heap.size w w1 := (hB.alloc sw _).grown hgrow (by simp; omega) (fun g hg => (HO.out.lt g hg).1)
          clear hown' hgrow hsn
          go_wp2
          go_roundw
          case rel => exact ⟨k + 1, _, by omega, by go_num, by rw [List.length_append]; exact HO'.out, hB', HP.out⟩
          case measure => simp [intOf]; omega
    · have hcv2 := own_string8 HO.out
      rw [nat8_str] at hcv2
      have HN := Lib.hid (HG.out.whole (by omega))
      go_wp2
      go_ret2
      exact ⟨by unfold unesc; rw [HN.out]; rfl, hB⟩

end Go.Proofs.YtjbmipbjlhcooaaDoor
