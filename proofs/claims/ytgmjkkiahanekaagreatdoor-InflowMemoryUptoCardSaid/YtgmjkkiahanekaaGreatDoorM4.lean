/- The texts PathI, PathJ in one. -/
import Derived.Test.YtgmjkkiahanekaaGreatDoorM3
import Derived.Deep.RegionLaw
import Derived.Deep.AppendLies
import Derived.BigRegion
/- The walk over PathDecodes, for all texts. -/
set_option linter.unusedVariables false
set_option linter.unusedSimpArgs false
namespace Go.Proofs.YtgmjkkiahanekaaGreatDoor
open Go.RowKit Lex

theorem indexByte_none (l : List UInt8) (c : UInt8) (h : Lib.indexByte l c < 0) : ∀ j (hj : j < l.length), l[j] ≠ c := by
  induction l with
  | nil => intro j hj; simp at hj
  | cons b l ih =>
    simp only [Lib.indexByte] at h
    split at h
    · omega
    · rename_i hb
      intro j hj
      cases j with
      | zero => simpa using hb
      | succ j =>
        have hge := indexByte_ge l c
        have := ih (by
          by_cases hq : (Lib.indexByte l c == -1) = true
          · have : Lib.indexByte l c = -1 := by simpa using hq
            omega
          · rw [if_neg hq] at h; omega) j (by simpa using hj)
        simpa using this

theorem indexByte_found (l : List UInt8) (c : UInt8) (k : Nat) (h : Lib.indexByte l c = (k : Int)) : (∃ hk : k < l.length, l[k] = c) ∧ ∀ j (hj : j < l.length), j < k → l[j] ≠ c := by
  induction l generalizing k with
  | nil => simp [Lib.indexByte] at h
  | cons b l ih =>
    simp only [Lib.indexByte] at h
    split at h
    · rename_i hb
      obtain rfl : k = 0 := by omega
      exact ⟨⟨by simp, by simpa using hb⟩, fun j _ h => absurd h (Nat.not_lt_zero _)⟩
    · rename_i hb
      split at h
      · omega
      · cases k with
        | zero =>
          rename_i hq
          have h1 : Lib.indexByte l c ≠ -1 := by simpa using hq
          have := indexByte_ge l c
          omega
        | succ k =>
          obtain ⟨⟨hk, h1⟩, h2⟩ := ih k (by omega)
          refine ⟨⟨by simpa using hk, by simpa using h1⟩, fun j hj hlt => ?_⟩
          cases j with
          | zero => simpa using hb
          | succ j => simpa using h2 j (by simpa using hj) (by omega)

theorem byte_of {c : UInt8} (h : (c.toNat : Int) = 63) : c = 63 := by
  have h63 : (63 : UInt8).toNat = 63 := rfl
  exact UInt8.toNat_inj.1 (by omega)
theorem bytes_ext {a b : ByteArray} (h : a.data.toList = b.data.toList) : a = b := by
  obtain ⟨⟨a⟩⟩ := a; obtain ⟨⟨b⟩⟩ := b; simp at h; subst h; rfl

theorem cut_at (s : ByteArray) : ∃ k, k ≤ s.size ∧ (∀ j (hj : j < s.size), j < k → s[j] ≠ 63) ∧
    ((∃ h : k < s.size, s[k] = 63 ∧ cutVal (cutB s.data.toList 63) = .tuple #[.string (s.extract 0 k), .string (s.extract (k + 1) s.size), .bool true]) ∨
     (k = s.size ∧ cutVal (cutB s.data.toList 63) = .tuple #[.string (s.extract 0 s.size), .string ⟨#[]⟩, .bool false])) := by
  unfold cutB
  by_cases h : 0 ≤ Lib.indexByte s.data.toList 63
  · obtain ⟨k, hk⟩ := Int.eq_ofNat_of_zero_le h
    obtain ⟨⟨h1, h2⟩, h3⟩ := indexByte_found _ _ _ hk
    have h1' : k < s.size := by rw [← size_list]; exact h1
    refine ⟨k, by omega, fun j hj hlt => h3 j (by rw [size_list]; exact hj) hlt, .inl ⟨h1', h2, ?_⟩⟩
    rw [if_pos h, hk]
    unfold cutVal
    rw [show bs (s.data.toList.take ((k : Int).toNat)) = s.extract 0 k from bytes_ext (by rw [Lib.extract_data]; simp [bs]), show bs (s.data.toList.drop ((k : Int).toNat + 1)) = s.extract (k + 1) s.size from bytes_ext (by rw [Lib.extract_to_end]; simp [bs])]
  · refine ⟨s.size, Nat.le_refl _, fun j hj _ => indexByte_none _ _ (by omega) j (by rw [size_list]; exact hj), .inr ⟨rfl, ?_⟩⟩
    rw [if_neg h]
    unfold cutVal
    rw [show bs s.data.toList = s.extract 0 s.size from bytes_ext (by rw [Lib.extract_to_end]; simp [bs])]

end Go.Proofs.YtgmjkkiahanekaaGreatDoor

/- The contracts of the document's Plain, hex and Escapes, for every text. -/
set_option linter.unusedVariables false
set_option linter.unusedSimpArgs false
namespace Go.Proofs.YtgmjkkiahanekaaGreatDoor
open Go.RowKit Lex

def plainI (z : Int) : Bool := decide (z = 45 ∨ z = 46 ∨ z = 95 ∨ z = 126 ∨ (48 ≤ z ∧ z ≤ 57) ∨ (65 ≤ z ∧ z ≤ 90) ∨ (97 ≤ z ∧ z ≤ 122))
theorem plainB_int (n : UInt8) : plainB n = plainI n.toNat := by
  have key : ∀ n : Fin 256, plainB (UInt8.ofNat n.val) = plainI (UInt8.ofNat n.val).toNat := by decide +kernel
  have h := key ⟨n.toNat, n.toNat_lt⟩
  simpa using h

theorem rplain_c (n : UInt8) (w : World) : Calls Tryz.prog 187 #[.int .u8 n.toNat] w fun e w' => e = .returned (.bool (plainB n)) ∧ w = w' := by
  rw [plainB_int]
  have h0 : 0 ≤ (n.toNat : Int) := by omega
  have h1 : (n.toNat : Int) ≤ 255 := by have := n.toNat_lt; omega
  generalize (n.toNat : Int) = z at *
  have HP := Lib.hid (show plainI z = decide (z = 45 ∨ z = 46 ∨ z = 95 ∨ z = 126 ∨ (48 ≤ z ∧ z ≤ 57) ∨ (65 ≤ z ∧ z ≤ 90) ∨ (97 ≤ z ∧ z ≤ 122)) from rfl)
  generalize plainI z = q at *
  go_enter Tryz.func187, Tryz.ntmps187
  go_wp2
  all_goals go_ret
  all_goals exact ⟨ret_bool (by rw [HP.out]; (try simp only [beq_iff_eq, beq_eq_false_iff_ne, ne_eq] at *); first | exact (decide_eq_true (by omega)).symm | exact (decide_eq_false (by omega)).symm | (rw [Bool.eq_iff_iff]; simp only [Bool.or_eq_true, Bool.and_eq_true, decide_eq_true_eq]; omega)), rfl⟩

theorem rlarge_c (q : Nat) (hq : q < 16) (w : World) : Calls Tryz.prog 188 #[.int .i64 (q : Int)] w fun e w' => e = .returned (.int .u8 (large q).toNat) ∧ w = w' := by
  rcases (by omega : q = 0 ∨ q = 1 ∨ q = 2 ∨ q = 3 ∨ q = 4 ∨ q = 5 ∨ q = 6 ∨ q = 7 ∨ q = 8 ∨ q = 9 ∨ q = 10 ∨ q = 11 ∨ q = 12 ∨ q = 13 ∨ q = 14 ∨ q = 15) with rfl | rfl | rfl | rfl | rfl | rfl | rfl | rfl | rfl | rfl | rfl | rfl | rfl | rfl | rfl | rfl
  all_goals
    go_enter Tryz.func188, Tryz.ntmps188
    go_wp2
    go_ret
    exact ⟨rfl, rfl⟩

def escapes (l : List UInt8) : Option (List UInt8) := if l.head? = some 47 then unesc l else none

set_option maxRecDepth 100000 in
set_option maxHeartbeats 4000000 in
theorem escapes_c (s : ByteArray) (w : World) (hs : s.size ≤ 140737488351232) : Calls Tryz.prog 170 #[.string s] w fun e w' => e = .returned (optStr (escapes s.data.toList)) ∧ Below w.heap.size w w' := by
  obtain ⟨i0, hi, hz0, hz1, hz2⟩ := info_parts info_u8
  by_cases h0 : s.size = 0
  · have hn : escapes s.data.toList = none := by
      have : s.data.toList = [] := List.eq_nil_of_length_eq_zero (by rw [size_list]; exact h0)
      rw [this]; rfl
    rw [hn]
    have h0' : (s.size : Int) = 0 := by omega
    go_enter Tryz.func170, Tryz.ntmps170
    go_wp2
    go_ret2
    exact ⟨rfl, Below.refl _ _⟩
  have hp : 0 < s.size := by omega
  have hd0 : s.data.toList = s[0] :: s.data.toList.drop 1 := drop_at s 0 hp
  by_cases h47 : (s[0].toNat : Int) = 47
  rotate_left
  · have hn : escapes s.data.toList = none := by
      unfold escapes
      rw [if_neg]
      rw [hd0]
      intro h
      injection h with h
      rw [h] at h47
      exact h47 rfl
    rw [hn]
    clear hd0
    have g0 : ((s[0].toNat : Int) != 47) = true := by rw [bne_iff_ne]; exact h47
    go_enter Tryz.func170, Tryz.ntmps170
    go_wp2
    go_ret2
    exact ⟨rfl, Below.refl _ _⟩
  have hE : escapes s.data.toList = unesc s.data.toList := by
    unfold escapes
    rw [if_pos]
    have e : s[0] = 47 := UInt8.toNat_inj.1 (by have : (47 : UInt8).toNat = 47 := rfl; omega)
    rw [hd0, e]; rfl
  rw [hE]
  clear hE hd0
  have h0' : ¬ (s.size : Int) = 0 := by omega
  have h0'' : ((s.size : Int) == 0) = false := by rw [beq_eq_false_iff_ne]; exact h0'
  clear h0
  have g0 : ((s[0].toNat : Int) != 47) = false := by rw [bne_eq_false_iff_eq]; exact h47
  go_enter Tryz.func170, Tryz.ntmps170
  go_wp2
  go_loopw [4, 5] (fun v i wr => ∃ (k : Nat) (o : List UInt8), k ≤ s.size ∧ i = .int .i64 k ∧ wr.ownsRow w.heap.size 5 1 v o.length (nums8 (nat8 o)) ∧ Below w.heap.size w wr ∧ Gone badU encU s k o) (fun _ i _ => s.size - (intOf i).toNat)
  case atStart => exact ⟨0, [], Nat.zero_le _, rfl, World.ownsRow_nil _ _ _ _, Below.refl _ _, Gone.start s⟩
  case round =>
    clear h47 g0
    obtain ⟨k, o, hk, rfl, hown, hB, hG⟩ := hrel
    have HO := Lib.hid hown
    clear hown
    have HG := Lib.hid hG
    have hlen := hG.len
    clear hG
    have sw := hB.size
    by_cases hlt : k < s.size
    · have c255 : (s[k].toNat : Int) ≤ 255 := by have := s[k].toNat_lt; omega
      cases hbad : badU s[k] with
      | true =>
        have HN := Lib.hid (HG.out.bad hlt hbad)
        have hc := badU_cases hbad
        clear hbad
        rcases hc with h | ⟨h1, h⟩ | ⟨h1, h2, h⟩ | ⟨h1, h2, h3, h⟩
        · have h' : (s[k].toNat : Int) ≤ 32 := by omega
          go_wp2
          go_ret2
          exact ⟨by unfold unesc; rw [HN.out]; rfl, hB⟩
        · have h1' : ¬ (s[k].toNat : Int) ≤ 32 := by omega
          have h' : 127 ≤ (s[k].toNat : Int) := by omega
          go_wp2
          go_ret2
          exact ⟨by unfold unesc; rw [HN.out]; rfl, hB⟩
        · have h1' : ¬ (s[k].toNat : Int) ≤ 32 := by omega
          have h2' : ¬ 127 ≤ (s[k].toNat : Int) := by omega
          have g3 : ((s[k].toNat : Int) == 63) = true := by rw [beq_iff_eq]; exact h
          have HH := Lib.hid h
          clear h h1 h2
          go_wp2
          go_ret2
          exact ⟨by unfold unesc; rw [HN.out]; rfl, hB⟩
        · have h1' : ¬ (s[k].toNat : Int) ≤ 32 := by omega
          have h2' : ¬ 127 ≤ (s[k].toNat : Int) := by omega
          have g3 : ((s[k].toNat : Int) == 63) = false := by rw [beq_eq_false_iff_ne]; exact h3
          have g4 : ((s[k].toNat : Int) == 35) = true := by rw [beq_iff_eq]; exact h
          have HH := Lib.hid h
          clear h h1 h2 h3
          go_wp2
          go_ret2
          exact ⟨by unfold unesc; rw [HN.out]; rfl, hB⟩
      | false =>
        obtain ⟨h1, h2, h3, h4⟩ := badU_not hbad
        have h1' : ¬ (s[k].toNat : Int) ≤ 32 := by omega
        have h2' : ¬ 127 ≤ (s[k].toNat : Int) := by omega
        have HBAD := Lib.hid hbad
        have g3 : ((s[k].toNat : Int) == 63) = false := by rw [beq_eq_false_iff_ne]; exact h3
        have g4 : ((s[k].toNat : Int) == 35) = false := by rw [beq_eq_false_iff_ne]; exact h4
        clear hbad h1 h2 h3 h4
        by_cases h37 : (s[k].toNat : Int) = 37
        · have g5 : ((s[k].toNat : Int) != 37) = false := by rw [bne_eq_false_iff_eq]; exact h37
          have h37' : s[k] = 37 := by rw [← UInt8.toNat_inj]; simp; omega
          have H37 := Lib.hid h37'
          have K := fun w => Lib.hid (rat_c s k w (by omega) hlt h37')
          clear h37 h37'
          cases hok : (escB (s.data.toList.drop k)).2 with
          | false =>
            have HN := Lib.hid (HG.out.stop hlt H37.out hok)
            have e1 : atI (escB (s.data.toList.drop k)) = -1 := by unfold atI; rw [hok]; rfl
            rw [e1] at K
            clear e1
            go_wp2_with (go_at_call 186; refine (K _).out.mono ?_; rintro e w' ⟨rfl, rfl⟩)
            go_ret2
            exact ⟨by unfold unesc; rw [HN.out]; rfl, hB⟩
          | true =>
            obtain ⟨n, hn⟩ : ∃ n, (escB (s.data.toList.drop k)).1 = n := ⟨_, rfl⟩
            have he : escB (s.data.toList.drop k) = (n, true) := by rw [← hn, ← hok]
            have e1 : atI (escB (s.data.toList.drop k)) = n.toNat := by rw [he]; rfl
            rw [e1] at K
            obtain ⟨hk2, hE⟩ := HG.out.esc hlt (by decide) H37.out n he (by unfold encU; split <;> simp)
            have HE := Lib.hid hE
            have HQ := Lib.hid he
            have HQ2 := Lib.hid hok
            have HQ3 := Lib.hid hn
            clear hE he hok hn e1
            have P := fun w => Lib.hid (rplain_c n w)
            have n255 : (n.toNat : Int) ≤ 255 := by have := n.toNat_lt; omega
            have n0 : 0 ≤ (n.toNat : Int) := by omega
            have nm : (n.toNat : Int) % 256 = n.toNat := by omega
            cases hp : plainB n with
            | true =>
              rw [hp] at P
              have HEN := Lib.hid (show encU n = [n] from by unfold encU; rw [hp]; rfl)
              clear hp
              go_wp2_with (first | (go_at_call 186; refine (K _).out.mono ?_; rintro e w' ⟨rfl, rfl⟩) | (go_at_call 187; refine (P _).out.mono ?_; rintro e w' ⟨rfl, rfl⟩) | (at_builtin; refine wpList_append_own _ rfl (.tmp 61) (.tmp 64) 71 rfl w.heap.size 5 i0 (.int .u8 0) 1 1 Tryz.underlying71 hi hz0 hz1 hz2 rfl (by decide) _ o.length _ rfl (HO.out.alloc _) ⟨wr.heap.size, 0, none⟩ 1 1 [.int .u8 n.toNat] rfl rfl ?_ ?_ ?_ ?_ ?_ ?_))
              any_goals first | exact cell_one_new _ _ _ | (intro u hu; simp at hu; subst hu; rfl) | (show Value.oneCell' _ = true; rfl) | (unfold maxLen; omega) | omega | (simp; omega)
              intro v' w1 hown' hgrow _
              have hsn := nat8_snoc o [n]
              simp only [List.map_cons, List.map_nil] at hsn
              rw [← hsn, ← HEN.out] at hown'
              have hll : o.length + 1 = (o ++ encU n).length := by rw [HEN.out]; simp
              rw [hll] at hown'
              have HO' := Lib.hid hown'
              have hB' : Below w.heap.size w w1 := (hB.alloc sw _).grown hgrow (by simp; omega) (fun g hg => (HO.out.lt g hg).1)
              clear hown' hgrow hsn hll
              go_wp2
              go_roundw
              case rel => exact ⟨k + 3, _, by omega, by go_num, HO'.out, hB', HE.out⟩
              case measure => simp [intOf]; omega
            | false =>
              rw [hp] at P
              have HEN := Lib.hid (show encU n = [37, large (n.toNat / 16), large (n.toNat % 16)] from by unfold encU; rw [hp]; rfl)
              clear hp
              obtain ⟨q1, e1, hq1, r1⟩ : ∃ q1 : Nat, (n.toNat : Int).tdiv 16 = (q1 : Int) ∧ q1 < 16 ∧ n.toNat / 16 = q1 := ⟨n.toNat / 16, rfl, by have := n.toNat_lt; omega, rfl⟩
              obtain ⟨q2, e2, hq2, r2⟩ : ∃ q2 : Nat, (n.toNat : Int).tmod 16 = (q2 : Int) ∧ q2 < 16 ∧ n.toNat % 16 = q2 := ⟨n.toNat % 16, rfl, by omega, rfl⟩
              have L1 := fun w => Lib.hid (rlarge_c q1 hq1 w)
              have L2 := fun w => Lib.hid (rlarge_c q2 hq2 w)
              rw [r1, r2] at HEN
              clear r1 r2
              go_wp2_with (first | (go_at_call 186; refine (K _).out.mono ?_; rintro e w' ⟨rfl, rfl⟩) | (go_at_call 187; refine (P _).out.mono ?_; rintro e w' ⟨rfl, rfl⟩) | (at_builtin; refine wpList_append_own _ rfl (.tmp 66) (.tmp 67) 71 rfl w.heap.size 5 i0 (.int .u8 0) 1 1 Tryz.underlying71 hi hz0 hz1 hz2 rfl (by decide) _ (o.length) _ rfl (HO.out.alloc _) ⟨wr.heap.size, 0, none⟩ 1 1 [.int .u8 37] rfl rfl ?_ ?_ ?_ ?_ ?_ ?_))
              any_goals first | exact cell_one_new _ _ _ | (intro u hu; simp at hu; subst hu; rfl) | (show Value.oneCell' _ = true; rfl) | (unfold maxLen; omega) | omega | (simp; omega)
              intro v1 w1 hown1 hg1 _
              have HO1 := Lib.hid hown1
              have hB1 : Below w.heap.size w w1 := (hB.alloc sw _).grown hg1 (by simp; omega) (fun g hg => (HO.out.lt g hg).1)
              have sw1 := hB1.size
              clear hown1 hg1
              go_wp2_with (first | (go_at_call 188; refine (L1 _).out.mono ?_; rintro e w' ⟨rfl, rfl⟩) | (at_builtin; refine wpList_append_own _ rfl (.tmp 69) (.tmp 73) 71 rfl w.heap.size 5 i0 (.int .u8 0) 1 1 Tryz.underlying71 hi hz0 hz1 hz2 rfl (by decide) _ (o.length + 1) _ rfl (HO1.out.alloc _) ⟨w1.heap.size, 0, none⟩ 1 1 [.int .u8 (large q1).toNat] rfl rfl ?_ ?_ ?_ ?_ ?_ ?_))
              any_goals first | exact cell_one_new _ _ _ | (intro u hu; simp at hu; subst hu; rfl) | (show Value.oneCell' _ = true; rfl) | (unfold maxLen; omega) | omega | (simp; omega)
              intro v2 w2 hown2 hg2 _
              have HO2 := Lib.hid hown2
              have hB2 : Below w.heap.size w w2 := (hB1.alloc sw1 _).grown hg2 (by simp; omega) (fun g hg => (HO1.out.lt g hg).1)
              have sw2 := hB2.size
              clear hown2 hg2
              go_wp2_with (first | (go_at_call 188; refine (L2 _).out.mono ?_; rintro e w' ⟨rfl, rfl⟩) | (at_builtin; refine wpList_append_own _ rfl (.tmp 75) (.tmp 79) 71 rfl w.heap.size 5 i0 (.int .u8 0) 1 1 Tryz.underlying71 hi hz0 hz1 hz2 rfl (by decide) _ (o.length + 1 + 1) _ rfl (HO2.out.alloc _) ⟨w2.heap.size, 0, none⟩ 1 1 [.int .u8 (large q2).toNat] rfl rfl ?_ ?_ ?_ ?_ ?_ ?_))
              any_goals first | exact cell_one_new _ _ _ | (intro u hu; simp at hu; subst hu; rfl) | (show Value.oneCell' _ = true; rfl) | (unfold maxLen; omega) | omega | (simp; omega)
              intro v3 w3 hown3 hg3 _
              have hsn := nat8_snoc o [37, large q1, large q2]
              simp only [List.map_cons, List.map_nil] at hsn
              rw [show (((37 : UInt8).toNat : Int)) = 37 from rfl] at hsn
              rw [← hsn, ← HEN.out] at hown3
              have hll : o.length + 1 + 1 + 1 = (o ++ encU n).length := by rw [HEN.out]; simp
              rw [hll] at hown3
              have HO' := Lib.hid hown3
              have hB' : Below w.heap.size w w3 := (hB2.alloc sw2 _).grown hg3 (by simp; omega) (fun g hg => (HO2.out.lt g hg).1)
              clear hown3 hg3 hsn hll
              go_wp2
              go_roundw
              case rel => exact ⟨k + 3, _, by omega, by go_num, HO'.out, hB', HE.out⟩
              case measure => simp [intOf]; omega
        · have g5 : ((s[k].toNat : Int) != 37) = true := by rw [bne_iff_ne]; exact h37
          have HP := Lib.hid (HG.out.plain hlt HBAD.out (ne37.2 h37))
          go_wp2_with (at_builtin; refine wpList_append_own _ rfl (.tmp 47) (.tmp 51) 71 rfl w.heap.size 5 i0 (.int .u8 0) 1 1 Tryz.underlying71 hi hz0 hz1 hz2 rfl (by decide) _ o.length _ rfl (HO.out.alloc _) ⟨wr.heap.size, 0, none⟩ 1 1 [.int .u8 (s[k].toNat)] rfl rfl ?_ ?_ ?_ ?_ ?_ ?_)
          any_goals first | exact cell_one_new _ _ _ | (intro u hu; simp at hu; subst hu; rfl) | (show Value.oneCell' _ = true; rfl) | (unfold maxLen; omega) | omega | (simp; omega)
          intro v' w1 hown' hgrow _
          have hsn := nat8_snoc o [s[k]]
          simp only [List.map_cons, List.map_nil] at hsn
          rw [← hsn] at hown'
          have HO' := Lib.hid hown'
          have hB' : Below w.heap.size w w1 := (hB.alloc sw _).grown hgrow (by simp; omega) (fun g hg => (HO.out.lt g hg).1)
          clear hown' hgrow hsn
          go_wp2
          go_roundw
          case rel => exact ⟨k + 1, _, by omega, by go_num, by rw [List.length_append]; exact HO'.out, hB', HP.out⟩
          case measure => simp [intOf]; omega
    · have hcv2 := own_string8 HO.out
      rw [nat8_str] at hcv2
      have HN := Lib.hid (HG.out.whole (by omega))
      go_wp2
      go_ret2
      exact ⟨by unfold unesc; rw [HN.out]; rfl, hB⟩

end Go.Proofs.YtgmjkkiahanekaaGreatDoor

