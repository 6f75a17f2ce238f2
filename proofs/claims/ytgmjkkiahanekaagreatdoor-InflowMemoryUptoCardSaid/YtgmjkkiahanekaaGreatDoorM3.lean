/- The texts PathC, PathD, PathE, LexH, PathG, PathH in one. -/
import Derived.Test.YtgmjkkiahanekaaGreatDoorM2
import Derived.Deep.RegionLaw
import Derived.Deep.AppendLies
import Derived.BigRegion
import Derived.IntWalk
import Derived.Deep.QuietTactic
import Derived.BigQuiet
import Derived.Test.YtgmjkkiahanekaaGreatDoorM0
import Derived.Deep.OwnRows
/- The contracts of path.unescape and path.Decode: the plain walks over escapes, for every text. -/
set_option linter.unusedVariables false
set_option linter.unusedSimpArgs false
namespace Go.Proofs.YtgmjkkiahanekaaGreatDoor
open Go.RowKit Lex

theorem nat8_snoc (o : List UInt8) (l : List UInt8) : nums8 (nat8 (o ++ l)) = nums8 (nat8 o) ++ l.map fun c => Value.int .u8 (c.toNat : Int) := by
  simp [nums8, nat8, Function.comp_def]

theorem badU_cases {c : UInt8} (h : badU c = true) : (c.toNat : Int) < 33 ∨ (¬ (c.toNat : Int) < 33 ∧ 126 < (c.toNat : Int)) ∨ (¬ (c.toNat : Int) < 33 ∧ ¬ 126 < (c.toNat : Int) ∧ (c.toNat : Int) = 63) ∨ (¬ (c.toNat : Int) < 33 ∧ ¬ 126 < (c.toNat : Int) ∧ ¬ (c.toNat : Int) = 63 ∧ (c.toNat : Int) = 35) := by
  simp [badU] at h; omega
theorem badU_not {c : UInt8} (h : badU c = false) : ¬ (c.toNat : Int) < 33 ∧ ¬ 126 < (c.toNat : Int) ∧ ¬ (c.toNat : Int) = 63 ∧ ¬ (c.toNat : Int) = 35 := by
  simp [badU] at h; omega
theorem ne37 {c : UInt8} : c ≠ 37 ↔ ¬ (c.toNat : Int) = 37 := by
  rw [ne_eq, ← UInt8.toNat_inj]; simp; omega

def optStr (o : Option (List UInt8)) : Value := .tuple #[.string (bs (o.getD [])), .bool o.isSome]

theorem own_drew {w : World} {B : Nat} {e : TypeId} {z : Nat} {v : Value} {n : Nat} {xs : List Value} (h : w.ownsRow B e z v n xs) : w.drew.ownsRow B e z v n xs := h
theorem news3 (w : World) (a b c : Value) (e : TypeId) : ∀ j u, [a, b, c][j]? = some u → (w.alloc (.cells #[a, b, c] e)).drew.cell? ((⟨w.heap.size, 0, none⟩ : Addr).add j) = some u := fun j u hu =>
  World.news_of_block (w := (w.alloc (.cells #[a, b, c] e)).drew) (cs := #[a, b, c]) (t := e) (fr := (0, 0)) (heap_alloc_new w _) j u hu
theorem ones3 (k : IntKind) (a b c : Int) : ∀ u ∈ [Value.int k a, Value.int k b, Value.int k c], u.oneCell' = true := by
  intro u hu; simp at hu; rcases hu with rfl | rfl | rfl <;> rfl

set_option maxRecDepth 100000 in
set_option maxHeartbeats 2000000 in
theorem unescape_c (s : ByteArray) (w : World) (hs : s.size ≤ 140737488351232) : Calls Tryz.prog 163 #[.string s] w fun e w' => e = .returned (optStr (unesc s.data.toList)) ∧ Below w.heap.size w w' := by
  obtain ⟨i0, hi, hz0, hz1, hz2⟩ := info_parts info_u8
  go_enter Tryz.func163, Tryz.ntmps163
  go_wp2
  go_loopw [4, 5] (fun v i wr => ∃ (k : Nat) (o : List UInt8), k ≤ s.size ∧ i = .int .i64 k ∧ wr.ownsRow w.heap.size 5 1 v o.length (nums8 (nat8 o)) ∧ Below w.heap.size w wr ∧ Gone badU encU s k o) (fun _ i _ => s.size - (intOf i).toNat)
  case atStart => exact ⟨0, [], Nat.zero_le _, rfl, World.ownsRow_nil _ _ _ _, Below.refl _ _, Gone.start s⟩
  case round =>
    obtain ⟨k, o, hk, rfl, hown, hB, hG⟩ := hrel
    have HO := Lib.hid hown
    clear hown
    have HG := Lib.hid hG
    have hlen := hG.len
    clear hG
    have sw := hB.size
    by_cases hlt : k < s.size
    · have c255 : (s[k].toNat : Int) ≤ 255 := by have := s[k].toNat_lt; omega
      cases hbad : badU s[k] with
      | true =>
        have HN := Lib.hid (HG.out.bad hlt hbad)
        have hc := badU_cases hbad
        clear hbad
        rcases hc with h | ⟨h1, h⟩ | ⟨h1, h2, h⟩ | ⟨h1, h2, h3, h⟩
        · go_wp2
          go_ret2
          exact ⟨by unfold unesc; rw [HN.out]; rfl, hB⟩
        · go_wp2
          go_ret2
          exact ⟨by unfold unesc; rw [HN.out]; rfl, hB⟩
        · have g3 : ((s[k].toNat : Int) == 63) = true := by rw [beq_iff_eq]; exact h
          have HH := Lib.hid h
          clear h
          go_wp2
          go_ret2
          exact ⟨by unfold unesc; rw [HN.out]; rfl, hB⟩
        · have g3 : ((s[k].toNat : Int) == 63) = false := by rw [beq_eq_false_iff_ne]; exact h3
          have g4 : ((s[k].toNat : Int) == 35) = true := by rw [beq_iff_eq]; exact h
          have HH := Lib.hid h
          clear h
          go_wp2
          go_ret2
          exact ⟨by unfold unesc; rw [HN.out]; rfl, hB⟩
      | false =>
        obtain ⟨h1, h2, h3, h4⟩ := badU_not hbad
        have HBAD := Lib.hid hbad
        clear hbad
        have g3 : ((s[k].toNat : Int) == 63) = false := by rw [beq_eq_false_iff_ne]; exact h3
        have g4 : ((s[k].toNat : Int) == 35) = false := by rw [beq_eq_false_iff_ne]; exact h4
        by_cases h37 : (s[k].toNat : Int) = 37
        · have g5 : ((s[k].toNat : Int) != 37) = false := by rw [bne_eq_false_iff_eq]; exact h37
          have h37' : s[k] = 37 := by rw [← UInt8.toNat_inj]; simp; omega
          have H37 := Lib.hid h37'
          have K := fun w => Lib.hid (escape_c (s.extract k s.size) w (by simp; omega))
          rw [rest_data] at K
          clear h37 h37'
          cases hok : (escB (s.data.toList.drop k)).2 with
          | false =>
            have HN := Lib.hid (HG.out.stop hlt H37.out hok)
            rw [hok] at K
            go_wp2_with (go_at_call 182; refine (K _).out.mono ?_; rintro e w' ⟨rfl, rfl⟩)
            go_ret2
            exact ⟨by unfold unesc; rw [HN.out]; rfl, hB⟩
          | true =>
            obtain ⟨n, hn⟩ : ∃ n, (escB (s.data.toList.drop k)).1 = n := ⟨_, rfl⟩
            have he : escB (s.data.toList.drop k) = (n, true) := by rw [← hn, ← hok]
            rw [hok, hn] at K
            obtain ⟨hk2, hE⟩ := HG.out.esc hlt (by decide) H37.out n he (by unfold encU; split <;> simp)
            have HE := Lib.hid hE
            have HQ := Lib.hid he
            have HQ2 := Lib.hid hok
            have HQ3 := Lib.hid hn
            clear hE he hok hn
            have P := fun w => Lib.hid (plain_c n w)
            have n255 : (n.toNat : Int) ≤ 255 := by have := n.toNat_lt; omega
            cases hp : plainB n with
            | true =>
              rw [hp] at P
              have HEN := Lib.hid (show encU n = [n] from by unfold encU; rw [hp]; rfl)
              clear hp
              go_wp2_with (first | (go_at_call 182; refine (K _).out.mono ?_; rintro e w' ⟨rfl, rfl⟩) | (go_at_call 183; refine (P _).out.mono ?_; rintro e w' ⟨rfl, rfl⟩) | (at_builtin; refine wpList_append_own _ rfl (.tmp 51) (.tmp 53) 71 rfl w.heap.size 5 i0 (.int .u8 0) 1 1 Tryz.underlying71 hi hz0 hz1 hz2 rfl (by decide) _ o.length _ rfl (HO.out.alloc _) ⟨wr.heap.size, 0, none⟩ 1 1 [.int .u8 n.toNat] rfl rfl ?_ ?_ ?_ ?_ ?_ ?_))
              any_goals first | exact cell_one_new _ _ _ | (intro u hu; simp at hu; subst hu; rfl) | (show Value.oneCell' _ = true; rfl) | (unfold maxLen; omega) | omega | (simp; omega)
              intro v' w1 hown' hgrow _
              have hsn := nat8_snoc o [n]
              simp only [List.map_cons, List.map_nil] at hsn
              rw [← hsn, ← HEN.out] at hown'
              have hll : o.length + 1 = (o ++ encU n).length := by rw [HEN.out]; simp
              rw [hll] at hown'
              have HO' := Lib.hid hown'
              have hB' : Below w.heap.size w w1 := (hB.alloc sw _).grown hgrow (by simp; omega) (fun g hg => (HO.out.lt g hg).1)
              clear hown' hgrow hsn hll
              go_wp2
              go_roundw
              case rel => exact ⟨k + 3, _, by omega, by go_num, HO'.out, hB', HE.out⟩
              case measure => simp [intOf]; omega
            | false =>
              rw [hp] at P
              have HEN := Lib.hid (show encU n = [37, large (n.toNat / 16), large (n.toNat % 16)] from by unfold encU; rw [hp]; rfl)
              clear hp
              obtain ⟨q1, e1, hq1, r1⟩ : ∃ q1 : Nat, (n.toNat : Int) / 16 = (q1 : Int) ∧ q1 < 16 ∧ n.toNat / 16 = q1 := ⟨_, by omega, by have := n.toNat_lt; omega, rfl⟩
              obtain ⟨q2, e2, e2', hq2, r2⟩ : ∃ q2 : Nat, (n.toNat : Int) % 16 = (q2 : Int) ∧ bits .and .u8 (n.toNat : Int) 15 = (q2 : Int) ∧ q2 < 16 ∧ n.toNat % 16 = q2 := ⟨_, by omega, by
                rw [show (15 : Int) = ((15 : Nat) : Int) from rfl, u8_and_nat n.toNat 15 n.toNat_lt (by omega), show (15 : Nat) = 2 ^ 4 - 1 from rfl, Nat.and_two_pow_sub_one_eq_mod], by omega, rfl⟩
              have hq1' : (q1 : Int) < 16 := by omega
              have hq2' : (q2 : Int) < 16 := by omega
              have l1 := large_at q1 hq1
              have l2 := large_at q2 hq2
              rw [r1, r2] at HEN
              clear r1 r2
              go_wp2_with (first | (go_at_call 182; refine (K _).out.mono ?_; rintro e w' ⟨rfl, rfl⟩) | (go_at_call 183; refine (P _).out.mono ?_; rintro e w' ⟨rfl, rfl⟩))
              go_region_law (go_loud (refine step_append_lies _ rfl (.tmp 55) (.tmp 62) 71 rfl w.heap.size 5 i0 (.int .u8 0) 1 1 Tryz.underlying71 hi hz0 hz1 hz2 rfl (by decide) _ o.length (nums8 (nat8 o)) rfl (own_drew (HO.out.alloc _)) ⟨wr.heap.size, 0, none⟩ 3 3 [.int .u8 37, .int .u8 (large q1).toNat, .int .u8 (large q2).toNat] rfl rfl (news3 _ _ _ _ _) (ones3 _ _ _ _) (by decide) (by unfold maxLen; omega) (by omega) (by simp; omega) (wr.heap.size + 1) (by simp) ?_); intro g cap w1 hown' hgrow hgg hglt)
              all_goals
                have hsn := nat8_snoc o [37, large q1, large q2]
                simp only [List.map_cons, List.map_nil] at hsn
                rw [show (((37 : UInt8).toNat : Int)) = 37 from rfl] at hsn
                rw [← hsn, ← HEN.out] at hown'
                have hll : o.length + 3 = (o ++ encU n).length := by rw [HEN.out]; simp
                have hll' := hown'.1
                have HO' := Lib.hid hown'
                have hB' : Below w.heap.size w w1 := Below.grown (by repeat (first | exact hB.alloc sw _ | apply Below.drew)) hgrow (by simp; omega) (fun g hg => (HO.out.lt g hg).1)
                have HLL := Lib.hid hll
                clear hown' hgrow hsn hll hll' hgg
                go_wp2
                go_roundw
                case rel => exact ⟨k + 3, o ++ encU n, by omega, by go_num, by rw [← HLL.out]; exact HO'.out, hB', HE.out⟩
                case measure => simp [intOf]; omega
        · have g5 : ((s[k].toNat : Int) != 37) = true := by rw [bne_iff_ne]; exact h37
          have HP := Lib.hid (HG.out.plain hlt HBAD.out (ne37.2 h37))
          go_wp2_with (at_builtin; refine wpList_append_own _ rfl (.tmp 36) (.tmp 38) 71 rfl w.heap.size 5 i0 (.int .u8 0) 1 1 Tryz.underlying71 hi hz0 hz1 hz2 rfl (by decide) _ o.length _ rfl (HO.out.alloc _) ⟨wr.heap.size, 0, none⟩ 1 1 [.int .u8 (s[k].toNat)] rfl rfl ?_ ?_ ?_ ?_ ?_ ?_)
          any_goals first | exact cell_one_new _ _ _ | (intro u hu; simp at hu; subst hu; rfl) | (show Value.oneCell' _ = true; rfl) | (unfold maxLen; omega) | omega | (simp; omega)
          intro v' w1 hown' hgrow _
          have hsn := nat8_snoc o [s[k]]
          simp only [List.map_cons, List.map_nil] at hsn
          rw [← hsn] at hown'
          have HO' := Lib.hid hown'
          have hB' : Below w.heap.size w w1 := (hB.alloc sw _).grown hgrow (by simp; omega) (fun g hg => (HO.out.lt g hg).1)
          clear hown' hgrow hsn
          go_wp2
          go_roundw
          case rel => exact ⟨k + 1, _, by omega, by go_num, by rw [List.length_append]; exact HO'.out, hB', HP.out⟩
          case measure => simp [intOf]; omega
    · have hcv2 := own_string8 HO.out
      rw [nat8_str] at hcv2
      have HN := Lib.hid (HG.out.whole (by omega))
      go_wp2
      go_ret2
      exact ⟨by unfold unesc; rw [HN.out]; rfl, hB⟩

end Go.Proofs.YtgmjkkiahanekaaGreatDoor

/- The contracts of path.Decode and the document's At, Decode: the plain walks over escapes, for every text. -/
set_option linter.unusedVariables false
set_option linter.unusedSimpArgs false
namespace Go.Proofs.YtgmjkkiahanekaaGreatDoor
open Go.RowKit Lex

/-! ### the document's -/
def atI (p : UInt8 × Bool) : Int := if p.2 then p.1.toNat else -1

theorem rat_c (s : ByteArray) (k : Nat) (w : World) (hs : s.size ≤ 9223372036854775000) (hlt : k < s.size) (h37 : s[k] = 37) :
    Calls Tryz.prog 186 #[.string s, .int .i64 k] w fun e w' => e = .returned (.int .i64 (atI (escB (s.data.toList.drop k)))) ∧ w = w' := by
  have hd := drop_at s k hlt
  have g5 : ((s[k].toNat : Int) != 37) = false := by rw [h37]; rfl
  by_cases h2 : s.size ≤ k + 2
  · have he : atI (escB (s.data.toList.drop k)) = -1 := by
      rw [hd]
      have hl : (s.data.toList.drop (k + 1)).length < 2 := by rw [List.length_drop, size_list]; omega
      match s.data.toList.drop (k + 1), hl with
      | [], _ => rfl
      | [_], _ => rfl
    rw [he]
    have h2' : (s.size : Int) ≤ (k : Int) + 2 := by omega
    go_enter Tryz.func186, Tryz.ntmps186
    go_wp2
    go_ret
    exact ⟨rfl, rfl⟩
  · have h2' : ¬ (s.size : Int) ≤ (k : Int) + 2 := by omega
    have hl : 2 ≤ (s.data.toList.drop (k + 1)).length := by rw [List.length_drop, size_list]; omega
    have hx : (s.extract (k + 1) (k + 3)).data.toList = (s.data.toList.drop (k + 1)).take 2 := by rw [Lib.extract_data]; congr 1; omega
    rw [hd]
    clear hd
    have K := fun w => Lib.hid (rhex_c (s.extract (k + 1) (k + 3)) 2 w)
    rw [hx] at K
    match hr : s.data.toList.drop (k + 1), hl with
    | a :: b :: r, _ =>
      rw [hr] at K
      simp only [List.take_succ_cons, List.take_zero, hex_pair] at K
      clear hx hr
      simp only [escB]
      generalize pair a b = p at *
      cases p with
      | none =>
        simp only at K
        simp only [atI]
        go_enter Tryz.func186, Tryz.ntmps186
        go_wp2_with (go_at_call 152; refine (K _).out.mono ?_; rintro e w' ⟨rfl, rfl⟩)
        go_ret
        exact ⟨rfl, rfl⟩
      | some n =>
        simp only at K
        simp only [atI, if_true]
        go_enter Tryz.func186, Tryz.ntmps186
        go_wp2_with (go_at_call 152; refine (K _).out.mono ?_; rintro e w' ⟨rfl, rfl⟩)
        go_ret
        exact ⟨rfl, rfl⟩

end Go.Proofs.YtgmjkkiahanekaaGreatDoor

/- The contracts of path.Under and Cut and of the document's Under, for every text. -/
set_option linter.unusedVariables false
set_option linter.unusedSimpArgs false
namespace Go.Proofs.YtgmjkkiahanekaaGreatDoor
open Go.RowKit Lex

def underB (p q : List UInt8) : Bool := q.isPrefixOf p && (decide (p.length = q.length) || p[q.length]? == some 47 || q.getLast? == some 47)

theorem suffix_one (q : List UInt8) (c : UInt8) : Lib.hasSuffix q [c] = (q.getLast? == some c) := by
  unfold Lib.hasSuffix
  rw [Bool.eq_iff_iff, List.isSuffixOf_iff_suffix, beq_iff_eq]
  constructor
  · rintro ⟨a, rfl⟩; simp
  · intro h
    rw [List.getLast?_eq_some_iff] at h
    obtain ⟨a, rfl⟩ := h
    exact ⟨a, rfl⟩

/-! ### Cut -/
/-- What stands ahead of the first c, what behind it, and whether there is one. -/
def cutB (l : List UInt8) (c : UInt8) : List UInt8 × List UInt8 × Bool :=
  if 0 ≤ Lib.indexByte l c then (l.take (Lib.indexByte l c).toNat, l.drop ((Lib.indexByte l c).toNat + 1), true) else (l, [], false)

def cutVal (x : List UInt8 × List UInt8 × Bool) : Value := .tuple #[.string (bs x.1), .string (bs x.2.1), .bool x.2.2]

theorem indexByte_lt (l : List UInt8) (c : UInt8) (h : 0 ≤ Lib.indexByte l c) : Lib.indexByte l c < l.length := by
  induction l with
  | nil => simp [Lib.indexByte] at h
  | cons b l ih =>
    simp only [Lib.indexByte] at h ⊢
    split
    · simp
    · rename_i hb
      rw [if_neg hb] at h
      split
      · rename_i h1; rw [if_pos h1] at h; omega
      · rename_i h1; rw [if_neg h1] at h
        have h2 : Lib.indexByte l c ≠ -1 := by simpa using h1
        have := ih (by omega)
        simp; omega

theorem indexByte_ge (l : List UInt8) (c : UInt8) : -1 ≤ Lib.indexByte l c := by
  induction l with
  | nil => simp [Lib.indexByte]
  | cons b l ih => simp only [Lib.indexByte]; split; · omega
                   split <;> omega

theorem ret_cut {a b : ByteArray} {q : Bool} {x : List UInt8 × List UInt8 × Bool} (ha : a.data.toList = x.1) (hb : b.data.toList = x.2.1) (hq : q = x.2.2) : Ending.returned (.tuple #[.string a, .string b, .bool q]) = .returned (cutVal x) := by
  unfold cutVal
  rw [← ha, ← hb, hq, list_bs, list_bs]
theorem Drawn.below {w : World} {n : Nat} : Below w.heap.size w (w.drewN n) := ⟨rfl, rfl, rfl, Nat.le_refl _, fun _ _ => rfl⟩
theorem cell_below {w w1 : World} {a : Addr} {v : Value} (hb : Below w.heap.size w w1) (hc : w.cell? a = some v) : w1.cell? a = some v :=
  (hb.cell (World.block_lt_of_cell? w _ hc)).trans hc
theorem scut_c (s : ByteArray) (c : UInt8) (w : World) (hs : s.size ≤ 140737488351232) : Calls Tryz.prog 160 #[.string s, .string ⟨#[c]⟩] w fun e w' => e = .returned (cutVal (cutB s.data.toList c)) ∧ Below w.heap.size w w' := by
  have K := fun w => Lib.hid ((Tryz.stringslite_Index_one s c w))
  have hge := indexByte_ge s.data.toList c
  have hlt := indexByte_lt s.data.toList c
  rw [size_list] at hlt
  unfold cutB
  generalize Lib.indexByte s.data.toList c = i at *
  by_cases h : 0 ≤ i
  · rw [if_pos h]
    obtain ⟨k, rfl⟩ := Int.eq_ofNat_of_zero_le h
    have hlt := hlt h
    clear hge h
    go_enter Tryz.func160, Tryz.ntmps160
    go_wp2_with (go_at_call 181; refine (K _).out.mono ?_; rintro e w' ⟨rfl, rfl⟩)
    have hw : IntKind.i64.wrap ((k : Int) + 1) = (k : Int) + 1 := IntWalk.i64_in _ (by omega)
    have hk1 : ((k : Int) + 1).toNat = k + 1 := by omega
    have hk2 : 0 ≤ (k : Int) + 1 := by omega
    have hk3 : (k : Int) + 1 ≤ s.size := by omega
    go_quiet (fail)
    clear hw hk1
    go_wp2
    go_ret3
    exact ⟨ret_cut (by rw [Lib.extract_data]; simp) (by rw [Lib.extract_to_end]; simp) rfl, Drawn.below⟩
  · rw [if_neg h]
    have h' : i < 0 := by omega
    clear hge hlt h
    go_enter Tryz.func160, Tryz.ntmps160
    go_wp2_with (go_at_call 181; refine (K _).out.mono ?_; rintro e w' ⟨rfl, rfl⟩)
    go_ret3
    exact ⟨ret_cut rfl rfl rfl, Below.refl _ _⟩

theorem cut_c (s : ByteArray) (c : UInt8) (w : World) (hs : s.size ≤ 140737488351232) : Calls Tryz.prog 135 #[.string s, .string ⟨#[c]⟩] w fun e w' => e = .returned (cutVal (cutB s.data.toList c)) ∧ Below w.heap.size w w' := by
  have K := fun w => Lib.hid (scut_c s c w hs)
  generalize cutB s.data.toList c = x at *
  obtain ⟨a, b, q⟩ := x
  go_enter Tryz.func135, Tryz.ntmps135
  go_wp2_with (go_at_call 160; refine (K _).out.mono ?_; rintro e w' ⟨rfl, hb⟩; simp only [cutVal])
  go_ret3
  exact ⟨rfl, hb⟩

theorem pcut_c (s : ByteArray) (w : World) (hs : s.size ≤ 140737488351232) : Calls Tryz.prog 137 #[.string s] w fun e w' => e = .returned (cutVal (cutB s.data.toList 63)) ∧ Below w.heap.size w w' := by
  have K := fun w => Lib.hid (cut_c s 63 w hs)
  generalize cutB s.data.toList 63 = x at *
  obtain ⟨a, b, q⟩ := x
  go_enter Tryz.func137, Tryz.ntmps137
  go_wp2_with (go_at_call 135; refine (K _).out.mono ?_; rintro e w' ⟨rfl, hb⟩; simp only [cutVal])
  go_ret3
  exact ⟨rfl, hb⟩

end Go.Proofs.YtgmjkkiahanekaaGreatDoor

/- The walks over LexTexts and LexCase, for all texts. -/
set_option linter.unusedVariables false
set_option linter.unusedSimpArgs false
namespace Go.Proofs.YtgmjkkiahanekaaGreatDoor
open Go.RowKit Lex

theorem below_then {W w1 w2 : World} (h : Below W.heap.size W w1) (k : Below w1.heap.size w1 w2) : Below W.heap.size W w2 := h.trans (k.mono h.size)
theorem bs_sz (l : List UInt8) : (bs l).size = l.length := rfl

end Go.Proofs.YtgmjkkiahanekaaGreatDoor

/- The contract of strings.Split at one byte in plain words, and of path.Normal, for every text of at most 4194304 bytes. -/
set_option linter.unusedVariables false
set_option linter.unusedSimpArgs false
namespace Go.Proofs.YtgmjkkiahanekaaGreatDoor
open Go.RowKit Lex

def strs (ps : List (List UInt8)) : List Value := ps.map fun x => .string (bs x)

theorem split_c (s : ByteArray) (c : UInt8) (m : Int) (w : World) (hs : s.size < 4294967281) (hm : w.cell? ⟨0, 0, none⟩ = some (.int .i64 m)) :
    Calls Tryz.prog 130 #[.string s, .string ⟨#[c]⟩] w fun e w' =>
      e = .returned (.slice (some ⟨w.heap.size, 0, none⟩) (pieces c s.data.toList).length (pieces c s.data.toList).length) ∧ w' = w.alloc (.cells (strs (pieces c s.data.toList)).toArray 9) := by
  have h := Tryz.strings_Split s ⟨#[c]⟩ m w hs hm (Nat.le_refl 1)
  have h1 : Lib.countB s ⟨#[c]⟩ + 1 = (pieces c s.data.toList).length := pieces_count c s.data.toList
  have h2 : (Lib.splitB ⟨#[c]⟩ 0 (Lib.countB s ⟨#[c]⟩) s).map Value.string = strs (pieces c s.data.toList) := by
    have := Lib.splitB_data ⟨#[c]⟩ 0 (Lib.countB s ⟨#[c]⟩) s
    rw [← split_one]
    unfold Lib.split strs
    have e : Lib.splitK [c] 0 (Lib.count s.data.toList [c]) s.data.toList = (Lib.splitB ⟨#[c]⟩ 0 (Lib.countB s ⟨#[c]⟩) s).map (·.data.toList) := this.symm
    rw [e, List.map_map]
    rfl
  rw [h1, h2] at h
  exact h

theorem info_str : (Tryz.prog.info? 9).map (fun i => (i.zero, i.size, i.bytes)) = some (some (.string ByteArray.empty), 1, 16) := by kernel_rfl

/-- A row of the call's own, cut short. -/
theorem own_take {w : World} {B : Nat} {e : TypeId} {g cap n : Nat} {xs : List Value} (h : w.ownsRow B e 1 (.slice (some ⟨g, 0, none⟩) n cap) n xs) (m : Nat) (hm : m ≤ n) : w.ownsRow B e 1 (.slice (some ⟨g, 0, none⟩) m cap) m (xs.take m) := by
  obtain ⟨h1, h2⟩ := h
  refine ⟨by rw [List.length_take]; omega, ?_⟩
  rcases h2 with ⟨h, _⟩ | ⟨g', cap', cur, he, a, b, c, d, f, k⟩
  · cases h
  · injection he with e1 e2 e3
    injection e1 with e1
    injection e1 with e1
    subst e1 e3
    refine .inr ⟨g, cap, cur, rfl, a, b, by omega, d, f, ?_⟩
    rw [← k, List.take_take]
    congr 1
    omega

def normVal (o : Option (List UInt8)) : Value := .tuple #[.string (bs (o.getD [])), .int .i64 (if o.isSome then 0 else 50)]

theorem slash_prefix (p : List UInt8) : Lib.hasPrefix p [47] = decide (p.head? = some 47) := by
  unfold Lib.hasPrefix
  cases p with
  | nil => rfl
  | cons a p =>
    rw [Bool.eq_iff_iff, List.isPrefixOf_iff_prefix, decide_eq_true_eq]
    constructor
    · rintro ⟨t, ht⟩; injection ht with h _; rw [h]; rfl
    · intro h; injection h with h; subst h; exact ⟨p, rfl⟩

theorem slash_c (p : List UInt8) (w : World) : Calls Tryz.prog 62 #[.string (bs p), .string ⟨#[47]⟩] w fun e w' => e = .returned (.bool (decide (p.head? = some 47))) ∧ w = w' :=
  (Tryz.strings_HasPrefix (bs p) ⟨#[47]⟩ w).mono fun e w' ⟨he, hw⟩ => ⟨by rw [he, show (⟨#[47]⟩ : ByteArray).data.toList = [47] from rfl, bs_list, slash_prefix], hw.symm⟩

theorem own_slice' {w : World} {B n z : Nat} {e : TypeId} {v : Value} {xs : List Value} (h : w.ownsRow B e z v n xs) : ∃ A c, v = .slice A n c := by
  rcases h.2 with ⟨rfl, rfl⟩ | ⟨g, cap, cur, rfl, _⟩
  · exact ⟨none, 0, rfl⟩
  · exact ⟨_, cap, rfl⟩

theorem join_c {B g cap : Nat} (kept : List (List UInt8)) (w : World) (h : w.ownsRow B 9 1 (.slice (some ⟨g, 0, none⟩) kept.length cap) kept.length (strs kept)) (hn : kept.length ≤ 140737488355328) (hl : (Lib.join kept [47]).length ≤ 140737488355328) :
    Calls Tryz.prog 164 #[.slice (some ⟨g, 0, none⟩) kept.length cap, .string ⟨#[47]⟩] w fun e w' => e = .returned (.string (bs (Lib.join kept [47]))) ∧ Below w.heap.size w w' := by
  have hm : (kept.map bs).map (·.data.toList) = kept := by rw [List.map_map]; exact List.map_id _
  have hc : kept.length ≤ cap := by
    rcases h.2 with ⟨h, _⟩ | ⟨g', cap', cur, he, a, b, c, _⟩
    · cases h
    · injection he with e1 e2 e3; subst e3; exact c
  have hg : g < w.heap.size := (h.lt g rfl).2
  have k := Tryz.strings_Join g 0 cap (kept.map bs) ⟨#[47]⟩ w (fun j x hx => by
    have := h.cells (g := g) rfl j (.string x) (by
      simp only [List.getElem?_map, Option.map_eq_some_iff] at hx
      obtain ⟨y, hy, rfl⟩ := hx
      simp [strs, hy])
    have ha : (⟨g, 0, none⟩ : Addr).add j = ⟨g, 0 + j, none⟩ := by unfold Addr.add; split <;> simp_all
    rw [← ha]; exact this) hg (by rw [List.length_map]; exact hn) (by rw [List.length_map]; exact hc) (by rw [hm]; exact hl)
  rw [List.length_map, hm] at k
  exact k

/-- Whether the piece ahead of k is one of dots, or empty. -/
def openAt (ps : List (List UInt8)) : Nat → Bool
  | 0 => false
  | k + 1 => ((ps[k]?).map dots).getD false
theorem openAt_next {ps : List (List UInt8)} {k : Nat} (h : k < ps.length) : openAt ps (k + 1) = dots ps[k] := by simp [openAt, h]
theorem openAt_last (ps : List (List UInt8)) : openAt ps ps.length = (ps.getLast?.map dots).getD false := by
  cases h : ps.length with
  | zero => have : ps = [] := List.eq_nil_of_length_eq_zero h
            subst this; rfl
  | succ n => rw [List.getLast?_eq_getElem?, h]; rfl

/-- What is kept behind k pieces. -/
structure Kept (ps kept : List (List UInt8)) (k N : Nat) : Prop where
  left : normK [] ps = normK kept (ps.drop k)
  len : kept.length ≤ k
  each : ∀ x ∈ kept, x.length ≤ N
theorem Kept.start (ps : List (List UInt8)) (N : Nat) : Kept ps [] 0 N := ⟨by simp, by simp, by simp⟩
theorem drop_cons {α : Type} (l : List α) (k : Nat) (h : k < l.length) : l.drop k = l[k] :: l.drop (k + 1) := List.drop_eq_getElem_cons h
theorem Kept.up {ps kept : List (List UInt8)} {k N : Nat} (h : Kept ps kept k N) (hk : k < ps.length) (hx : ps[k] = [46, 46]) (hn : kept ≠ []) : Kept ps kept.dropLast (k + 1) N := by
  refine ⟨?_, by have := h.len; simp; omega, fun x hx => h.each x (List.dropLast_subset _ hx)⟩
  rw [h.left, drop_cons ps k hk, hx]
  simp only [normK, if_true]
  rw [if_neg hn]
theorem Kept.out {ps kept : List (List UInt8)} {k N : Nat} (h : Kept ps kept k N) (hk : k < ps.length) (hx : ps[k] = [46, 46]) (hn : kept = []) : normK [] ps = none := by
  rw [h.left, drop_cons ps k hk, hx]
  simp only [normK, if_true]
  rw [if_pos hn]
theorem Kept.stay {ps kept : List (List UInt8)} {k N : Nat} (h : Kept ps kept k N) (hk : k < ps.length) (hx : ps[k] ≠ [46, 46]) (hd : dots ps[k] = true) : Kept ps kept (k + 1) N := by
  refine ⟨?_, by have := h.len; omega, h.each⟩
  rw [h.left, drop_cons ps k hk]
  simp only [normK]
  rw [if_neg hx, if_pos hd]
theorem Kept.keep {ps kept : List (List UInt8)} {k N : Nat} (h : Kept ps kept k N) (hk : k < ps.length) (hd : dots ps[k] = false) (hl : ps[k].length ≤ N) : Kept ps (kept ++ [ps[k]]) (k + 1) N := by
  refine ⟨?_, by have := h.len; simp; omega, fun x hx => ?_⟩
  · rw [h.left, drop_cons ps k hk]
    simp only [normK]
    rw [if_neg (by intro e; rw [e] at hd; revert hd; decide), if_neg (by rw [hd]; simp)]
  · rcases List.mem_append.1 hx with h1 | h1
    · exact h.each x h1
    · simp at h1; subst h1; exact hl

theorem ret_norm {a : ByteArray} {l : List UInt8} (h : a.data.toList = l) : Ending.returned (.tuple #[.string a, .int .i64 0]) = .returned (normVal (some l)) := by
  subst h
  simp [normVal, list_bs]
set_option maxRecDepth 100000 in
set_option maxHeartbeats 4000000 in
theorem normal_c (s : ByteArray) (m : Int) (w : World) (hs : s.size ≤ 4194304) (hm : w.cell? ⟨0, 0, none⟩ = some (.int .i64 m)) :
    Calls Tryz.prog 138 #[.string s] w fun e w' => e = .returned (normVal (normal s.data.toList)) ∧ Below w.heap.size w w' := by
  obtain ⟨i0, hi, hz0, hz1, hz2⟩ := info_parts info_str
  have K := fun w => Lib.hid (unescape_c s w (by omega))
  unfold normal
  cases hu : unesc s.data.toList with
  | none =>
    rw [hu] at K
    simp only [optStr] at K
    clear hu
    go_enter Tryz.func138, Tryz.ntmps138
    go_wp2_with (go_at_call 163; refine (K _).out.mono ?_; rintro e w1 ⟨rfl, hb⟩)
    go_ret2
    exact ⟨rfl, hb⟩
  | some p =>
    have hpl := unesc_length hu
    rw [size_list] at hpl
    rw [hu] at K
    simp only [optStr, Option.getD_some, Option.isSome_some] at K
    have P := fun w => Lib.hid (slash_c p w)
    clear hu
    by_cases h47 : p.head? = some 47
    · rw [decide_eq_true h47] at P
      simp only [h47, if_true]
      obtain ⟨t, rfl⟩ : ∃ t, p = 47 :: t := by
        cases p with
        | nil => cases h47
        | cons a t => simp at h47; exact ⟨t, by rw [h47]⟩
      have hx : ((bs (47 :: t)).extract 1 (bs (47 :: t)).size).data.toList = t := by rw [Lib.extract_to_end]; rfl
      have hsz : (bs (47 :: t)).size = t.length + 1 := rfl
      have htl : t.length < 4194304 := by simp at hpl; omega
      have SP := fun (w : World) (h : w.cell? ⟨0, 0, none⟩ = some (.int .i64 m)) => Lib.hid (split_c ((bs (47 :: t)).extract 1 (bs (47 :: t)).size) 47 m w (by simp [hsz]; omega) h)
      rw [hx] at SP
      simp only [List.tail_cons]
      have hp1 : 1 ≤ (bs (47 :: t)).size := by rw [hsz]; omega
      have HX := Lib.hid hx
      have HSZ := Lib.hid hsz
      have HH := Lib.hid h47
      clear hx h47 hsz
      go_enter Tryz.func138, Tryz.ntmps138
      go_wp2_with fail
      refine (K _).out.mono ?_
      rintro e w1 ⟨rfl, hb⟩
      have hm1 := cell_below hb hm
      go_wp2_with fail
      refine (P _).out.mono ?_
      rintro e w2 ⟨rfl, rfl⟩
      go_wp2_with fail
      refine (SP _ hm1).out.mono ?_
      rintro e w2 ⟨rfl, hw2⟩
      rw [hw2]
      clear hw2
      have b1 := hb.alloc hb.size (.cells (strs (pieces 47 t)).toArray 9)
      have hblk : (w1.alloc (.cells (strs (pieces 47 t)).toArray 9)).heap[w1.heap.size]? = some (.cells (strs (pieces 47 t)).toArray 9 (0, 0)) := heap_alloc_new w1 _
      have hsz1 : w1.heap.size + 1 ≤ (w1.alloc (.cells (strs (pieces 47 t)).toArray 9)).heap.size := by simp
      have hpc := pieces_length 47 t
      have hpm := pieces_mem 47 t
      have sw1 := hb.size
      have PM := Lib.hid hpm
      have BL := Lib.hid hblk
      clear hb hm1 hm hpm hblk
      generalize hps : pieces 47 t = ps at *
      have HPS := Lib.hid hps
      clear hps
      generalize w1.heap.size = B at *
      go_wp2
      go_loopw [6, 7, 27] (fun v o i wr => ∃ (k : Nat) (kept : List (List UInt8)), k ≤ ps.length ∧ i = .int .i64 k ∧ o = .bool (openAt ps k) ∧ wr.ownsRow (B + 1) 9 1 v kept.length (strs kept) ∧ Below w.heap.size w wr ∧ B + 1 ≤ wr.heap.size ∧ wr.heap[B]? = some (.cells (strs ps).toArray 9 (0, 0)) ∧ Kept ps kept k t.length) (fun _ _ i _ => ps.length - (intOf i).toNat)
      case atStart => exact ⟨0, [], Nat.zero_le _, rfl, rfl, World.ownsRow_nil _ _ _ _, b1, hsz1, BL.out, Kept.start _ _⟩
      case round =>
        clear b1 hsz1
        obtain ⟨k, kept, hk, rfl, rfl, hown, hB, hz, hblk, hK⟩ := hrel
        have HO := Lib.hid hown
        have HK := Lib.hid hK
        have BL := Lib.hid hblk
        have klen := hK.len
        clear hown hK hblk
        by_cases hlt : k < ps.length
        · have hc : wr.cell? ⟨B, k, none⟩ = some (.string (bs ps[k])) := by
            have := cell_of_row wr B k (strs ps).toArray 9 (0, 0) BL.out
            rw [this]
            simp [strs, hlt]
          have hxl := (PM.out ps[k] (List.getElem_mem hlt)).1
          obtain ⟨x, hx⟩ : ∃ x, ps[k] = x := ⟨_, rfl⟩
          rw [hx] at hc hxl
          have HX := Lib.hid hx
          clear hx
          have hne : ps[k] = x := HX.out
          by_cases h2 : x = [46, 46]
          · subst h2
            by_cases hk0 : kept = []
            · have HN := Lib.hid (HK.out.out hlt hne hk0)
              obtain ⟨A, c, hv⟩ := own_slice' HO.out
              rw [hv]
              have hl0 : kept.length = 0 := by rw [hk0]; rfl
              rw [hl0]
              clear hv hne
              go_wp2
              go_ret2
              exact ⟨by rw [HPS.out, HN.out]; rfl, hB⟩
            · have HN := Lib.hid (HK.out.up hlt hne hk0)
              have hl1 : 0 < kept.length := List.length_pos_iff.2 hk0
              have hform := HO.out.form hl1
              obtain ⟨g, cap, hv, _⟩ := hform
              have ho := HO.out
              rw [hv] at ho
              have ht := own_take ho (kept.length - 1) (by omega)
              have e1 : (strs kept).take (kept.length - 1) = strs kept.dropLast := by unfold strs; rw [← List.map_take, List.dropLast_eq_take]
              have e2 : kept.dropLast.length = kept.length - 1 := by simp
              rw [e1, ← e2] at ht
              have HT := Lib.hid ht
              have hcap : kept.length ≤ cap := by
                rcases ho.2 with ⟨h, _⟩ | ⟨g', cap', cur, he, a, b, c, _⟩
                · cases h
                · injection he with e1 e2 e3; subst e3; exact c
              have hop := openAt_next hlt
              rw [hne] at hop
              have HOP := Lib.hid hop
              have g0 : ((kept.length : Int) == 0) = false := by rw [beq_eq_false_iff_ne]; omega
              have E2 := Lib.hid e2
              rw [hv]
              clear hv ho ht e1 hne hop hk0 e2
              go_wp2
              go_roundw
              case rel => exact ⟨k + 1, kept.dropLast, by omega, by go_num, by rw [HOP.out]; rfl, by rw [E2.out] at HT; rw [E2.out]; exact HT.out, hB, hz, BL.out, HN.out⟩
              case measure => simp [intOf]; omega
          · by_cases hd : dots x = true
            · have HN := Lib.hid (HK.out.stay hlt (by rw [hne]; exact h2) (by rw [hne]; exact hd))
              have hop := openAt_next hlt
              rw [hne, hd] at hop
              have HOP := Lib.hid hop
              have hc2 : x = [] ∨ x = [46] := by
                simp [dots] at hd
                rcases hd with (h | h) | h
                · exact .inl h
                · exact .inr h
                · exact absurd h h2
              clear hne hop hd h2
              rcases hc2 with rfl | rfl
              · go_wp2
                go_roundw
                case rel => exact ⟨k + 1, kept, by omega, by go_num, by rw [HOP.out], HO.out, hB, hz, BL.out, HN.out⟩
                case measure => simp [intOf]; omega
              · go_wp2
                go_roundw
                case rel => exact ⟨k + 1, kept, by omega, by go_num, by rw [HOP.out], HO.out, hB, hz, BL.out, HN.out⟩
                case measure => simp [intOf]; omega
            · have hd' : dots x = false := by simpa using hd
              have HN := Lib.hid (HK.out.keep hlt (by rw [hne]; exact hd') (by rw [hne]; exact hxl))
              have hop := openAt_next hlt
              rw [hne, hd'] at hop
              have HOP := Lib.hid hop
              have f0 : ¬ x = [] := by intro h; subst h; revert hd'; decide
              have f1 : ¬ x = [46] := by intro h; subst h; revert hd'; decide
              have f2 : (x == [46, 46]) = false := by rw [beq_eq_false_iff_ne]; exact h2
              have f3 : x.isEmpty = false := by cases x <;> simp_all
              have f4 : (x == [46]) = false := by rw [beq_eq_false_iff_ne]; exact f1
              clear hne hop hd hd' h2
              go_wp2_with (at_builtin; refine wpList_append_own _ rfl (.tmp 60) (.tmp 62) 33 rfl (B + 1) 9 i0 (.string ByteArray.empty) 1 16 Tryz.underlying33 hi hz0 hz1 hz2 rfl (by decide) _ kept.length _ rfl (HO.out.alloc _) ⟨wr.heap.size, 0, none⟩ 1 1 [.string (bs x)] rfl rfl ?_ ?_ ?_ ?_ ?_ ?_)
              any_goals first | exact cell_one_new _ _ _ | (intro u hu; simp at hu; subst hu; rfl) | (show Value.oneCell' _ = true; rfl) | (unfold maxLen; omega) | omega | (simp; omega)
              intro v' w3 hown' hgrow _
              have e1 : strs kept ++ [.string (bs x)] = strs (kept ++ [x]) := by simp [strs]
              rw [e1] at hown'
              have HO' := Lib.hid hown'
              have hB' : Below w.heap.size w w3 := (hB.alloc (by omega) _).grown hgrow (by simp; omega) (fun g hg => by have := (HO.out.lt g hg).1; omega)
              have hz' : B + 1 ≤ w3.heap.size := by have := hgrow.size; simp at this; omega
              have hblk' := (hgrow.block B (by simp; omega) (fun q => by have := (HO.out.lt B q.symm).1; omega)).trans ((Below.heap_alloc wr _ B (by omega)).trans BL.out)
              have BL' := Lib.hid hblk'
              clear hown' hgrow e1 hblk'
              go_wp2
              go_roundw
              case rel => exact ⟨k + 1, kept ++ [x], by omega, by go_num, by rw [HOP.out], by rw [List.length_append]; exact HO'.out, hB', hz', BL'.out, by rw [← HX.out]; exact HN.out⟩
              case measure => simp [intOf]; omega
        · have hke : k = ps.length := by omega
          have hfin : normK [] ps = some kept := by
            rw [HK.out.left, List.drop_of_length_le (by omega)]; rfl
          have hop : openAt ps k = (ps.getLast?.map dots).getD false := by rw [hke, openAt_last]
          have HF := Lib.hid hfin
          have HOP := Lib.hid hop
          have jl := join_length kept t.length HK.out.each
          have jl2 : kept.length * (t.length + 1) ≤ 4194304 * 4194304 := Nat.mul_le_mul (by omega) (by omega)
          have HKE := Lib.hid hke
          clear hfin hop hke
          have hz47 : ∀ l : List UInt8, l.length ≤ 35184372088832 → (⟨#[47]⟩ : ByteArray).size + (bs l).size ≤ 9223372036854775807 := fun l hl => by
            show 1 + l.length ≤ _; omega
          have hz48 : ∀ l : List UInt8, l.length ≤ 35184372088832 → ((⟨#[47]⟩ : ByteArray) ++ bs l).size + (⟨#[47]⟩ : ByteArray).size ≤ 9223372036854775807 := fun l hl => by
            rw [ByteArray.size_append]; show 1 + l.length + 1 ≤ _; omega
          by_cases hk0 : kept = []
          · have hl0 : kept.length = 0 := by rw [hk0]; rfl
            obtain ⟨A, c, hv⟩ := own_slice' HO.out
            rw [hv, hl0]
            have J := fun w => Lib.hid (Tryz.strings_Join_none A c ⟨#[47]⟩ w)
            subst hk0
            clear hv HO hl0 jl jl2 hz47 hz48
            cases ho : openAt ps k with
            | true =>
              have HOO := Lib.hid ho
              clear ho
              go_wp2_with (go_at_call 164; refine (J _).out.mono ?_; rintro e w4 ⟨rfl, hw4⟩; rw [hw4]; clear hw4)
              go_ret2
              exact ⟨by rw [HPS.out, HF.out]; exact ret_norm (by simp [build, Lib.join, ByteArray.data_append]), hB⟩
            | false =>
              have HOO := Lib.hid ho
              clear ho
              go_wp2_with (go_at_call 164; refine (J _).out.mono ?_; rintro e w4 ⟨rfl, hw4⟩; rw [hw4]; clear hw4)
              go_ret2
              exact ⟨by rw [HPS.out, HF.out]; exact ret_norm (by simp [build, Lib.join, ByteArray.data_append]), hB⟩
          · have hl1 : 0 < kept.length := List.length_pos_iff.2 hk0
            obtain ⟨g, cap, hv, _⟩ := HO.out.form hl1
            have ho := HO.out
            rw [hv] at ho
            have J := Lib.hid (join_c kept _ ho (by omega) (by omega))
            have z1 := hz47 (Lib.join kept [47]) (by omega)
            have z2 := hz48 (Lib.join kept [47]) (by omega)
            have HK0 := Lib.hid hk0
            rw [hv]
            clear hv ho hk0 hz47 hz48 jl jl2
            generalize hJ : bs (Lib.join kept [47]) = jb at *
            have HJ := Lib.hid hJ
            clear hJ
            cases ho : openAt ps k with
            | true =>
              have HOO := Lib.hid ho
              clear ho
              go_wp2_with (go_at_call 164; refine J.out.mono ?_; rintro e w4 ⟨rfl, hb4⟩)
              go_ret2
              exact ⟨by rw [HPS.out, HF.out, ← HOP.out, HOO.out, ← HJ.out]; exact ret_norm (by simp [build, HK0.out, ByteArray.data_append]), below_then hB hb4⟩
            | false =>
              have HOO := Lib.hid ho
              clear ho
              go_wp2_with (go_at_call 164; refine J.out.mono ?_; rintro e w4 ⟨rfl, hb4⟩)
              go_ret2
              exact ⟨by rw [HPS.out, HF.out, ← HOP.out, HOO.out, ← HJ.out]; exact ret_norm (by simp [build, HK0.out, ByteArray.data_append]), below_then hB hb4⟩
    · rw [decide_eq_false h47] at P
      simp only [h47, if_false]
      go_enter Tryz.func138, Tryz.ntmps138
      go_wp2_with (first | (go_at_call 163; refine (K _).out.mono ?_; rintro e w1 ⟨rfl, hb⟩) | (go_at_call 62; refine (P _).out.mono ?_; rintro e w2 ⟨rfl, rfl⟩))
      go_ret2
      exact ⟨rfl, hb⟩

end Go.Proofs.YtgmjkkiahanekaaGreatDoor

/- The walks over PathChain and PathDecodes, for all texts. -/
set_option linter.unusedVariables false
set_option linter.unusedSimpArgs false
namespace Go.Proofs.YtgmjkkiahanekaaGreatDoor
open Go.RowKit Lex

theorem under_self (a : List UInt8) : underB a a = true := by
  unfold underB
  rw [show a.isPrefixOf a = true from by rw [List.isPrefixOf_iff_prefix]; exact List.prefix_refl _]
  simp

theorem under_trans {a b c : List UInt8} (h1 : underB a b = true) (h2 : underB b c = true) : underB a c = true := by
  unfold underB at *
  simp only [Bool.and_eq_true, Bool.or_eq_true, decide_eq_true_eq, beq_iff_eq, List.isPrefixOf_iff_prefix] at *
  obtain ⟨p1, q1⟩ := h1
  obtain ⟨p2, q2⟩ := h2
  refine ⟨p2.trans p1, ?_⟩
  have l1 := p1.length_le
  have l2 := p2.length_le
  by_cases hbc : c.length = b.length
  · have : c = b := List.IsPrefix.eq_of_length p2 hbc
    subst this
    exact q1
  · have hlt : c.length < b.length := by omega
    rcases q2 with (h | h) | h
    · omega
    · left; right
      obtain ⟨r, hr⟩ := p1
      rw [← hr, List.getElem?_append_left hlt]
      exact h
    · exact .inr h

end Go.Proofs.YtgmjkkiahanekaaGreatDoor

