/- The contracts of Authority, program and document. -/
import Derived.Test.YtjbmipbjlhcooaaDoorTgtC
import Derived.Test.YtjbmipbjlhcooaaDoorPathE
set_option linter.unusedVariables false
set_option linter.unusedSimpArgs false
namespace Go.Proofs.YtjbmipbjlhcooaaDoor
open Go.RowKit Lex

def authVal (o : Option (List UInt8 × Int)) : Value :=
  match o with
  | none => .tuple #[.string ⟨#[]⟩, .int .i64 0, .int .i64 61]
  | some (h, p) => .tuple #[.string (bs h), .int .i64 p, .int .i64 0]
theorem decimal_nil : decimal [] 5 = (0, false) := by decide
theorem decimal_nonneg (l : List UInt8) (d : Int) : 0 ≤ (decimal l d).1 := by
  unfold decimal number
  generalize (if 18 < d then 18 else d) = D
  by_cases h : l = [] ∨ D < l.length ∨ (l.all fun c => decide (worth c < 10)) = false
  · rw [if_pos h]; exact Int.le_refl _
  · rw [if_neg h]
    exact (num_bound 10 (by omega) l (by
      cases hh : l.all fun c => decide (worth c < 10) with
      | true => rfl
      | false => exact absurd (.inr (.inr hh)) h)).1
theorem cutB_len (l : List UInt8) (c : UInt8) : (cutB l c).1.length ≤ l.length ∧ (cutB l c).2.1.length ≤ l.length ∧ ((cutB l c).2.2 = false → (cutB l c).2.1 = []) := by
  rcases cutB_cases l c with ⟨a, r, rfl, h1, h2⟩ | ⟨h1, h2⟩
  · rw [h2]; simp; omega
  · rw [h2]; simp

set_option maxRecDepth 100000 in
set_option maxHeartbeats 4000000 in
theorem auth_c (s : ByteArray) (m : Int) (w : World) (hs : s.size ≤ 140737488351232) (hm : w.cell? ⟨0, 0, none⟩ = some (.int .i64 m)) : Calls Tryd.prog 17 #[.string s] w fun e w' => e = .returned (authVal (authB s.data.toList)) ∧ Below w.heap.size w w' := by
  have CU := fun w => Lib.hid (cut_c s 58 w hs)
  obtain ⟨hc1, hc2, hc3⟩ := cutB_len s.data.toList 58
  rw [size_list] at hc1 hc2
  unfold authB
  generalize cutB s.data.toList 58 = x at *
  obtain ⟨a, r, q⟩ := x
  simp only at hc1 hc2 hc3
  have LO := fun w => Lib.hid (lower_c (bs a) w (by rw [bs_size]; omega))
  rw [show (bs a).data.toList = a from rfl] at LO
  have DE := fun w => Lib.hid (decimal_c (bs r) 5 w)
  rw [show (bs r).data.toList = r from rfl] at DE
  have HO := fun w h => Lib.hid (host_c (bs (lower a)) m w (by rw [bs_size, lower_length]; omega) h)
  rw [show (bs (lower a)).data.toList = lower a from rfl] at HO
  have hq0 : q = false → decimal r 5 = (0, false) := fun h => by rw [hc3 h]; exact decimal_nil
  generalize lower a = n at *
  generalize decimal r 5 = dp at *
  obtain ⟨p, ok⟩ := dp
  simp only at DE hq0 ⊢
  have HM := Lib.hid hm
  clear hm hc3
  have key : ∀ (o : Option (List UInt8 × Int)), o = (if hostB n = false then none else if q = false then some (n, 0) else if ok = true ∧ 1 ≤ p ∧ p ≤ 65535 then some (n, p) else none) →
      Calls Tryd.prog 17 #[.string s] w fun e w' => e = .returned (authVal o) ∧ Below w.heap.size w w' := by
    intro o ho
    cases hh : hostB n with
    | false =>
      rw [hh, if_pos rfl] at ho
      subst ho
      rw [hh] at HO
      clear hq0
      go_enter Tryd.func17, Tryd.ntmps17
      go_wp2_with fail
      refine (CU _).out.mono ?_
      rintro e w1 ⟨rfl, hb1⟩
      have M1 := Lib.hid (cell_below hb1 HM.out)
      simp only [cutVal]
      go_wp2_with fail
      refine (LO _).out.mono ?_
      rintro e w2 ⟨rfl, hb2⟩
      have M2 := Lib.hid (cell_below hb2 M1.out)
      go_wp2_with fail
      refine (DE _).out.mono ?_
      rintro e w' ⟨rfl, rfl⟩
      go_wp2_with fail
      refine (HO _ M2.out).out.mono ?_
      rintro e w' ⟨rfl, rfl⟩
      go_wp2
      all_goals
        go_ret3
        exact ⟨rfl, below_then hb1 hb2⟩
    | true =>
      rw [hh, if_neg (by simp)] at ho
      rw [hh] at HO
      cases q with
      | false =>
        rw [if_pos rfl] at ho
        obtain ⟨rfl, rfl⟩ := Prod.mk.inj (hq0 rfl)
        subst ho
        clear hq0
        go_enter Tryd.func17, Tryd.ntmps17
        go_wp2_with fail
        refine (CU _).out.mono ?_
        rintro e w1 ⟨rfl, hb1⟩
        have M1 := Lib.hid (cell_below hb1 HM.out)
        simp only [cutVal]
        go_wp2_with fail
        refine (LO _).out.mono ?_
        rintro e w2 ⟨rfl, hb2⟩
        have M2 := Lib.hid (cell_below hb2 M1.out)
        go_wp2_with fail
        refine (DE _).out.mono ?_
        rintro e w' ⟨rfl, rfl⟩
        go_wp2_with fail
        refine (HO _ M2.out).out.mono ?_
        rintro e w' ⟨rfl, rfl⟩
        go_wp2
        all_goals
          go_ret3
          exact ⟨rfl, below_then hb1 hb2⟩
      | true =>
        rw [if_neg (by simp)] at ho
        clear hq0
        cases ok with
        | false =>
          rw [if_neg (by simp)] at ho
          subst ho
          go_enter Tryd.func17, Tryd.ntmps17
          go_wp2_with fail
          refine (CU _).out.mono ?_
          rintro e w1 ⟨rfl, hb1⟩
          have M1 := Lib.hid (cell_below hb1 HM.out)
          simp only [cutVal]
          go_wp2_with fail
          refine (LO _).out.mono ?_
          rintro e w2 ⟨rfl, hb2⟩
          have M2 := Lib.hid (cell_below hb2 M1.out)
          go_wp2_with fail
          refine (DE _).out.mono ?_
          rintro e w' ⟨rfl, rfl⟩
          go_wp2_with fail
          refine (HO _ M2.out).out.mono ?_
          rintro e w' ⟨rfl, rfl⟩
          go_wp2
          all_goals
            go_ret3
            exact ⟨rfl, below_then hb1 hb2⟩
        | true =>
          rcases (by omega : p < 1 ∨ (1 ≤ p ∧ 65535 < p) ∨ (1 ≤ p ∧ p ≤ 65535)) with hp | ⟨hp, hp2⟩ | ⟨hp, hp2⟩
          · rw [if_neg (by omega)] at ho
            subst ho
            go_enter Tryd.func17, Tryd.ntmps17
            go_wp2_with fail
            refine (CU _).out.mono ?_
            rintro e w1 ⟨rfl, hb1⟩
            have M1 := Lib.hid (cell_below hb1 HM.out)
            simp only [cutVal]
            go_wp2_with fail
            refine (LO _).out.mono ?_
            rintro e w2 ⟨rfl, hb2⟩
            have M2 := Lib.hid (cell_below hb2 M1.out)
            go_wp2_with fail
            refine (DE _).out.mono ?_
            rintro e w' ⟨rfl, rfl⟩
            go_wp2_with fail
            refine (HO _ M2.out).out.mono ?_
            rintro e w' ⟨rfl, rfl⟩
            go_wp2
            all_goals
              go_ret3
              exact ⟨rfl, below_then hb1 hb2⟩
          · rw [if_neg (by omega)] at ho
            subst ho
            go_enter Tryd.func17, Tryd.ntmps17
            go_wp2_with fail
            refine (CU _).out.mono ?_
            rintro e w1 ⟨rfl, hb1⟩
            have M1 := Lib.hid (cell_below hb1 HM.out)
            simp only [cutVal]
            go_wp2_with fail
            refine (LO _).out.mono ?_
            rintro e w2 ⟨rfl, hb2⟩
            have M2 := Lib.hid (cell_below hb2 M1.out)
            go_wp2_with fail
            refine (DE _).out.mono ?_
            rintro e w' ⟨rfl, rfl⟩
            go_wp2_with fail
            refine (HO _ M2.out).out.mono ?_
            rintro e w' ⟨rfl, rfl⟩
            go_wp2
            all_goals
              go_ret3
              exact ⟨rfl, below_then hb1 hb2⟩
          · rw [if_pos ⟨rfl, hp, hp2⟩] at ho
            subst ho
            go_enter Tryd.func17, Tryd.ntmps17
            go_wp2_with fail
            refine (CU _).out.mono ?_
            rintro e w1 ⟨rfl, hb1⟩
            have M1 := Lib.hid (cell_below hb1 HM.out)
            simp only [cutVal]
            go_wp2_with fail
            refine (LO _).out.mono ?_
            rintro e w2 ⟨rfl, hb2⟩
            have M2 := Lib.hid (cell_below hb2 M1.out)
            go_wp2_with fail
            refine (DE _).out.mono ?_
            rintro e w' ⟨rfl, rfl⟩
            go_wp2_with fail
            refine (HO _ M2.out).out.mono ?_
            rintro e w' ⟨rfl, rfl⟩
            go_wp2
            all_goals
              go_ret3
              exact ⟨rfl, below_then hb1 hb2⟩
  exact key _ rfl

set_option maxRecDepth 100000 in
set_option maxHeartbeats 4000000 in
theorem rauth_c (s : ByteArray) (w : World) (hs : s.size ≤ 140737488351232) : Calls Tryd.prog 18 #[.string s] w fun e w' => e = .returned (authVal (authB s.data.toList)) ∧ Below w.heap.size w w' := by
  generalize hA : authB s.data.toList = o
  have HAU := Lib.hid hA
  clear hA
  go_enter Tryd.func18, Tryd.ntmps18
  go_wp2
  go_loop [5] (fun i => ∃ k : Nat, k ≤ s.size ∧ i = .int .i64 k ∧ ∀ x ∈ s.data.toList.take k, x ≠ 58) (fun i => s.size - (intOf i).toNat)
  case atStart => exact ⟨0, Nat.zero_le _, rfl, by simp⟩
  case round =>
    obtain ⟨k, hk, rfl, ha⟩ := hrel
    have HA := Lib.hid ha
    clear ha
    have hx : (s.extract 0 k).data.toList = s.data.toList.take k := by rw [Lib.extract_data]; simp
    have LO := fun w => Lib.hid (rlower_c (s.extract 0 k) w (by rw [← size_list, hx, List.length_take]; omega))
    rw [hx] at LO
    have HO := fun w => Lib.hid (rhost_c (bs (lower (s.data.toList.take k))) w)
    rw [show (bs (lower (s.data.toList.take k))).data.toList = lower (s.data.toList.take k) from rfl] at HO
    by_cases hlt : k < s.size
    · by_cases h58 : s[k] = 58
      · have hcut : cutB s.data.toList 58 = (s.data.toList.take k, s.data.toList.drop (k + 1), true) := by
          have e : s.data.toList = s.data.toList.take k ++ 58 :: s.data.toList.drop (k + 1) := by
            have := List.drop_eq_getElem_cons (l := s.data.toList) (i := k) (by rw [size_list]; exact hlt)
            rw [sget_list s k hlt, h58] at this
            rw [← this, List.take_append_drop]
          conv => lhs; rw [e]
          exact cutB_at HA.out
        have hy : (s.extract (k + 1) s.size).data.toList = s.data.toList.drop (k + 1) := by rw [Lib.extract_to_end]
        have DE := fun w => Lib.hid (rdecimal_c (s.extract (k + 1) s.size) 5 w)
        rw [hy] at DE
        have hauth : authB s.data.toList = (if hostB (lower (s.data.toList.take k)) = false then none else if (decimal (s.data.toList.drop (k + 1)) 5).2 = true ∧ 1 ≤ (decimal (s.data.toList.drop (k + 1)) 5).1 ∧ (decimal (s.data.toList.drop (k + 1)) 5).1 ≤ 65535 then some (lower (s.data.toList.take k), (decimal (s.data.toList.drop (k + 1)) 5).1) else none) := by
          unfold authB; rw [hcut]; simp
        have HO2 := Lib.hid (HAU.out.symm.trans hauth)
        have hnn : 0 ≤ (decimal (s.data.toList.drop (k + 1)) 5).1 := decimal_nonneg _ _
        generalize decimal (s.data.toList.drop (k + 1)) 5 = dp at *
        obtain ⟨p, ok⟩ := dp
        generalize lower (s.data.toList.take k) = n at *
        have hb58 : ((s[k].toNat : Int) != 58) = false := by rw [h58]; rfl
        clear hauth hcut hx hy h58
        cases hh : hostB n with
        | false =>
          rw [hh] at HO
          obtain rfl : o = none := by rw [HO2.out, hh]; rfl
          clear HO2
          go_wp2_with fail
          refine (LO _).out.mono ?_
          rintro e w1 ⟨rfl, hb1⟩
          go_wp2_with fail
          refine (HO _).out.mono ?_
          rintro e w' ⟨rfl, rfl⟩
          go_wp2
          go_ret3
          exact ⟨rfl, hb1⟩
        | true =>
          rw [hh] at HO
          have HO3 := Lib.hid (show o = if ok = true ∧ 1 ≤ p ∧ p ≤ 65535 then some (n, p) else none by rw [HO2.out, hh, if_neg (by simp)])
          clear HO2
          go_wp2_with fail
          refine (LO _).out.mono ?_
          rintro e w1 ⟨rfl, hb1⟩
          go_wp2_with fail
          refine (HO _).out.mono ?_
          rintro e w' ⟨rfl, rfl⟩
          go_wp2_with fail
          refine (DE _).out.mono ?_
          rintro e w' ⟨rfl, rfl⟩
          cases ok with
          | false =>
            obtain rfl : o = none := by rw [HO3.out, if_neg (by simp)]
            go_wp2
            all_goals
              go_ret3
              exact ⟨rfl, hb1⟩
          | true =>
            rcases (by have hn2 : 0 ≤ p := hnn; omega : p = 0 ∨ (1 ≤ p ∧ 65535 < p) ∨ (1 ≤ p ∧ p ≤ 65535)) with rfl | ⟨hp, hp2⟩ | ⟨hp, hp2⟩
            · obtain rfl : o = none := by rw [HO3.out, if_neg (by omega)]
              go_wp2
              all_goals
                go_ret3
                exact ⟨rfl, hb1⟩
            · obtain rfl : o = none := by rw [HO3.out, if_neg (by omega)]
              have p0 : (p == 0) = false := by rw [beq_eq_false_iff_ne]; omega
              go_wp2
              all_goals
                go_ret3
                exact ⟨rfl, hb1⟩
            · obtain rfl : o = some (n, p) := by rw [HO3.out, if_pos ⟨rfl, hp, hp2⟩]
              have p0 : (p == 0) = false := by rw [beq_eq_false_iff_ne]; omega
              go_wp2
              all_goals
                go_ret3
                exact ⟨rfl, hb1⟩
      · have hb58 : ((s[k].toNat : Int) != 58) = true := by
          rw [bne_iff_ne]; intro e; apply h58; rw [← UInt8.toNat_inj]; simp only [UInt8.reduceToNat]; omega
        have hs : ∀ x ∈ s.data.toList.take (k + 1), x ≠ 58 := by
          intro x hx
          rw [take_snoc s k hlt] at hx
          rcases List.mem_append.1 hx with hx | hx
          · exact HA.out x hx
          · simp at hx; rw [hx]; exact h58
        have HS := Lib.hid hs
        clear hs hx h58
        go_wp2
        go_round
        case rel => exact ⟨k + 1, by omega, by go_num, HS.out⟩
        case measure => simp [intOf]; omega
    · obtain rfl : k = s.size := by omega
      have ht : s.data.toList.take s.size = s.data.toList := List.take_of_length_le (by rw [size_list]; exact Nat.le_refl _)
      have hauth : authB s.data.toList = (if hostB (lower s.data.toList) = false then none else some (lower s.data.toList, 0)) := by
        unfold authB; rw [cutB_no (by have h := HA.out; rw [ht] at h; exact h)]; simp
      have HO2 := Lib.hid (HAU.out.symm.trans hauth)
      clear LO
      have LO := fun w => Lib.hid (rlower_c s w hs)
      rw [ht] at HO
      obtain ⟨n, hn⟩ : ∃ n, lower s.data.toList = n := ⟨_, rfl⟩
      rw [hn] at LO HO HO2
      clear hauth ht hx hn
      cases hh : hostB n with
      | false =>
        rw [hh] at HO
        obtain rfl : o = none := by rw [HO2.out, hh]; rfl
        clear HO2
        go_wp2_with fail
        refine (LO _).out.mono ?_
        rintro e w1 ⟨rfl, hb1⟩
        go_wp2_with fail
        refine (HO _).out.mono ?_
        rintro e w' ⟨rfl, rfl⟩
        go_wp2
        go_ret3
        exact ⟨rfl, hb1⟩
      | true =>
        rw [hh] at HO
        obtain rfl : o = some (n, 0) := by rw [HO2.out, hh]; rfl
        clear HO2
        go_wp2_with fail
        refine (LO _).out.mono ?_
        rintro e w1 ⟨rfl, hb1⟩
        go_wp2_with fail
        refine (HO _).out.mono ?_
        rintro e w' ⟨rfl, rfl⟩
        go_wp2
        go_ret3
        exact ⟨rfl, hb1⟩
end Go.Proofs.YtjbmipbjlhcooaaDoor
