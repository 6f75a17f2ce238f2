/- The walk over TargetAbsolute. -/
import Derived.Test.YtjbmipbjlhcooaaDoorTgtS
set_option linter.unusedVariables false
set_option linter.unusedSimpArgs false
namespace Go.Proofs.YtjbmipbjlhcooaaDoor
open Go.RowKit Lex

theorem clean_snoc (host : ByteArray) (k : Nat) (hlt : k < host.size) (h : ∀ c ∈ host.data.toList.take k, c ≠ 47 ∧ c ≠ 63) (hc : host[k] ≠ 47 ∧ host[k] ≠ 63) : ∀ c ∈ host.data.toList.take (k + 1), c ≠ 47 ∧ c ≠ 63 := by
  intro x hx
  rw [take_snoc host k hlt] at hx
  rcases List.mem_append.1 hx with hx | hx
  · exact h x hx
  · simp at hx; rw [hx]; exact hc

set_option maxRecDepth 100000 in
set_option maxHeartbeats 4000000 in
theorem absolute_walk (host : ByteArray) (hh : host.size ≤ 1048576) (s : ByteArray) (hs : s.size ≤ 1048576) (m : Int) (W : World) {w : World} (hW : W = w) (hm : W.cell? ⟨0, 0, none⟩ = some (.int .i64 m)) :
    Calls Tryd.prog 4 #[.string host, .string s] W fun e w' => e = .returned (.bool true) ∧ Below W.heap.size W w' := by
  subst hW
  have AN := Lib.hid (anchor6_c m W hm)
  have AU := fun w hm => Lib.hid (auth_c host m w (by omega) hm)
  have z0 : (ByteArray.mk #[104, 116, 116, 112, 58, 47, 47]).size = 7 := rfl
  have z9 : (ByteArray.mk #[47]).size = 1 := rfl
  have z1 : (ByteArray.mk #[104, 116, 116, 112, 58, 47, 47]).size + host.size ≤ 1048583 := by omega
  have z2 : (ByteArray.mk #[104, 116, 116, 112, 58, 47, 47] ++ host).size + (ByteArray.mk #[47]).size ≤ 1048584 := by rw [ByteArray.size_append]; omega
  have z3 : (ByteArray.mk #[104, 116, 116, 112, 58, 47, 47] ++ host ++ ByteArray.mk #[47]).size + s.size ≤ 2097160 := by rw [ByteArray.size_append, ByteArray.size_append]; omega
  have z4 : (ByteArray.mk #[47]).size + s.size ≤ 1048577 := by omega
  have PA := fun w hm => Lib.hid (parse_c ⟨#[71, 69, 84]⟩ (ByteArray.mk #[104, 116, 116, 112, 58, 47, 47] ++ host ++ ByteArray.mk #[47] ++ s) m w (by rw [ByteArray.size_append]; omega) hm)
  have PB := fun w hm => Lib.hid (parse_c ⟨#[71, 69, 84]⟩ (ByteArray.mk #[47] ++ s) m w (by rw [ByteArray.size_append]; omega) hm)
  rw [show (ByteArray.mk #[71, 69, 84]).data.toList = [71, 69, 84] from rfl, show (ByteArray.mk #[104, 116, 116, 112, 58, 47, 47] ++ host ++ ByteArray.mk #[47] ++ s).data.toList = httpL ++ host.data.toList ++ 47 :: s.data.toList from by simp [httpL]] at PA
  rw [show (ByteArray.mk #[71, 69, 84]).data.toList = [71, 69, 84] from rfl, show (ByteArray.mk #[47] ++ s).data.toList = 47 :: s.data.toList from by simp] at PB
  have HM := Lib.hid hm
  clear hm z0 z9
  by_cases hcl : ∀ c ∈ host.data.toList, c ≠ 47 ∧ c ≠ 63
  · rw [parseT_absolute s.data.toList hcl] at PA
    have HCL : ∀ k (h : k < host.size), host[k] ≠ 47 ∧ host[k] ≠ 63 := fun k h => hcl _ (by rw [← sget_list host k h]; exact List.getElem_mem _)
    have HC := Lib.hid HCL
    clear hcl HCL
    generalize parseT [71, 69, 84] (47 :: s.data.toList) = u at *
    obtain ⟨u, n⟩ := u
    cases ha : authB host.data.toList with
    | none =>
      rw [ha] at AU PA
      simp only [authVal, tgOut, tgVal] at AU PA PB
      rw [show bs [] = ⟨#[]⟩ from rfl] at PA
      clear ha
      go_enter Tryd.func4, Tryd.ntmps4
      go_wp2_with fail
      refine AN.out.mono ?_
      rintro e w1 ⟨rfl, hb1⟩
      have M1 := Lib.hid (cell_below hb1 HM.out)
      have B1 := Lib.hid hb1
      clear hb1
      go_wp2_with fail
      refine (AU _ M1.out).out.mono ?_
      rintro e w2 ⟨rfl, hb2⟩
      have M2 := Lib.hid (cell_below hb2 M1.out)
      have B2 := Lib.hid (below_then B1.out hb2)
      clear hb2
      go_wp2_with fail
      refine (PA _ M2.out).out.mono ?_
      rintro e w3 ⟨rfl, hb3⟩
      have M3 := Lib.hid (cell_below hb3 M2.out)
      have B3 := Lib.hid (below_then B2.out hb3)
      clear hb3
      go_wp2_with fail
      refine (PB _ (cell_below ((Below.refl _ w3).alloc (Nat.le_refl _) _) M3.out)).out.mono ?_
      rintro e w4 ⟨rfl, hb4⟩
      have X1 := Lib.hid ((box6_new w3 _ _ _ _ _ _ _).below hb4)
      have B4 := Lib.hid (below_then B3.out (below_after hb4))
      have hlt3 : w3.heap.size < w4.heap.size := by have := hb4.size; simp at this; omega
      clear hb4
      go_wp2
      go_loop [12, 38] (fun _ i => ∃ k : Nat, k ≤ host.size ∧ i = .int .i64 k ∧ ∀ c ∈ host.data.toList.take k, c ≠ 47 ∧ c ≠ 63) (fun _ i => host.size - (intOf i).toNat)
      case atStart => exact ⟨0, Nat.zero_le _, rfl, by simp⟩
      case round =>
        obtain ⟨k, hk, rfl, ha⟩ := hrel
        have HA := Lib.hid ha
        clear ha
        by_cases hlt : k < host.size
        · have hc := HC.out k hlt
          have hc47 : ((host[k].toNat : Int) == 47) = false := by rw [beq_eq_false_iff_ne]; intro e; apply hc.1; rw [← UInt8.toNat_inj]; simp only [UInt8.reduceToNat]; omega
          have hc63 : ((host[k].toNat : Int) == 63) = false := by rw [beq_eq_false_iff_ne]; intro e; apply hc.2; rw [← UInt8.toNat_inj]; simp only [UInt8.reduceToNat]; omega
          have HS := Lib.hid (clean_snoc host k hlt HA.out hc)
          clear hc
          go_wp2
          go_round
          case rel => exact ⟨k + 1, by omega, by go_num, HS.out⟩
          case measure => simp [intOf]; omega
        · have BE := Lib.hid (B4.out.alloc B4.out.size (.cells #[.int .i64 u.form, .string (bs u.host), .int .i64 u.port, .string (bs u.path), .string (bs u.query), .bool u.has] 30))
          go_wp2
          go_ret
          exact ⟨rfl, by first | exact BE.out | (repeat refine Below.setCell ?_ (by simp; omega) _); exact BE.out⟩
    | some x =>
      obtain ⟨h, p⟩ := x
      rw [ha] at AU PA
      clear ha
      by_cases hn : n = 0
      · subst hn
        simp only [authVal, tgOut, tgVal, if_true] at AU PA PB
        go_enter Tryd.func4, Tryd.ntmps4
        go_wp2_with fail
        refine AN.out.mono ?_
        rintro e w1 ⟨rfl, hb1⟩
        have M1 := Lib.hid (cell_below hb1 HM.out)
        have B1 := Lib.hid hb1
        clear hb1
        go_wp2_with fail
        refine (AU _ M1.out).out.mono ?_
        rintro e w2 ⟨rfl, hb2⟩
        have M2 := Lib.hid (cell_below hb2 M1.out)
        have B2 := Lib.hid (below_then B1.out hb2)
        clear hb2
        go_wp2_with fail
        refine (PA _ M2.out).out.mono ?_
        rintro e w3 ⟨rfl, hb3⟩
        have M3 := Lib.hid (cell_below hb3 M2.out)
        have B3 := Lib.hid (below_then B2.out hb3)
        clear hb3
        go_wp2_with fail
        refine (PB _ (cell_below ((Below.refl _ w3).alloc (Nat.le_refl _) _) M3.out)).out.mono ?_
        rintro e w4 ⟨rfl, hb4⟩
        have X1 := Lib.hid ((box6_new w3 _ _ _ _ _ _ _).below hb4)
        have B4 := Lib.hid (below_then B3.out (below_after hb4))
        have hlt3 : w3.heap.size < w4.heap.size := by have := hb4.size; simp at this; omega
        clear hb4
        go_wp2
        go_loop [12, 38] (fun _ i => ∃ k : Nat, k ≤ host.size ∧ i = .int .i64 k ∧ ∀ c ∈ host.data.toList.take k, c ≠ 47 ∧ c ≠ 63) (fun _ i => host.size - (intOf i).toNat)
        case atStart => exact ⟨0, Nat.zero_le _, rfl, by simp⟩
        case round =>
          obtain ⟨k, hk, rfl, ha⟩ := hrel
          have HA := Lib.hid ha
          clear ha
          by_cases hlt : k < host.size
          · have hc := HC.out k hlt
            have hc47 : ((host[k].toNat : Int) == 47) = false := by rw [beq_eq_false_iff_ne]; intro e; apply hc.1; rw [← UInt8.toNat_inj]; simp only [UInt8.reduceToNat]; omega
            have hc63 : ((host[k].toNat : Int) == 63) = false := by rw [beq_eq_false_iff_ne]; intro e; apply hc.2; rw [← UInt8.toNat_inj]; simp only [UInt8.reduceToNat]; omega
            have HS := Lib.hid (clean_snoc host k hlt HA.out hc)
            clear hc
            go_wp2
            go_round
            case rel => exact ⟨k + 1, by omega, by go_num, HS.out⟩
            case measure => simp [intOf]; omega
          · obtain ⟨c0, c1, c2, c3, c4, c5, fz⟩ := X1.out
            have BE := Lib.hid (B4.out.alloc B4.out.size (.cells #[.int .i64 2, .string (bs h), .int .i64 p, .string (bs u.path), .string (bs u.query), .bool u.has] 30))
            clear fz
            go_wp2
            go_ret
            exact ⟨rfl, by first | exact BE.out | (repeat refine Below.setCell ?_ (by simp; omega) _); exact BE.out⟩
      · simp only [if_neg hn] at PA
        simp only [authVal, tgOut, tgVal] at AU PA PB
        rw [show bs [] = ⟨#[]⟩ from rfl] at PA
        have bn : (n != 0) = true := by rw [bne_iff_ne]; exact hn
        clear hn
        go_enter Tryd.func4, Tryd.ntmps4
        go_wp2_with fail
        refine AN.out.mono ?_
        rintro e w1 ⟨rfl, hb1⟩
        have M1 := Lib.hid (cell_below hb1 HM.out)
        have B1 := Lib.hid hb1
        clear hb1
        go_wp2_with fail
        refine (AU _ M1.out).out.mono ?_
        rintro e w2 ⟨rfl, hb2⟩
        have M2 := Lib.hid (cell_below hb2 M1.out)
        have B2 := Lib.hid (below_then B1.out hb2)
        clear hb2
        go_wp2_with fail
        refine (PA _ M2.out).out.mono ?_
        rintro e w3 ⟨rfl, hb3⟩
        have M3 := Lib.hid (cell_below hb3 M2.out)
        have B3 := Lib.hid (below_then B2.out hb3)
        clear hb3
        go_wp2_with fail
        refine (PB _ (cell_below ((Below.refl _ w3).alloc (Nat.le_refl _) _) M3.out)).out.mono ?_
        rintro e w4 ⟨rfl, hb4⟩
        have X1 := Lib.hid ((box6_new w3 _ _ _ _ _ _ _).below hb4)
        have B4 := Lib.hid (below_then B3.out (below_after hb4))
        have hlt3 : w3.heap.size < w4.heap.size := by have := hb4.size; simp at this; omega
        clear hb4
        go_wp2
        go_loop [12, 38] (fun _ i => ∃ k : Nat, k ≤ host.size ∧ i = .int .i64 k ∧ ∀ c ∈ host.data.toList.take k, c ≠ 47 ∧ c ≠ 63) (fun _ i => host.size - (intOf i).toNat)
        case atStart => exact ⟨0, Nat.zero_le _, rfl, by simp⟩
        case round =>
          obtain ⟨k, hk, rfl, ha⟩ := hrel
          have HA := Lib.hid ha
          clear ha
          by_cases hlt : k < host.size
          · have hc := HC.out k hlt
            have hc47 : ((host[k].toNat : Int) == 47) = false := by rw [beq_eq_false_iff_ne]; intro e; apply hc.1; rw [← UInt8.toNat_inj]; simp only [UInt8.reduceToNat]; omega
            have hc63 : ((host[k].toNat : Int) == 63) = false := by rw [beq_eq_false_iff_ne]; intro e; apply hc.2; rw [← UInt8.toNat_inj]; simp only [UInt8.reduceToNat]; omega
            have HS := Lib.hid (clean_snoc host k hlt HA.out hc)
            clear hc
            go_wp2
            go_round
            case rel => exact ⟨k + 1, by omega, by go_num, HS.out⟩
            case measure => simp [intOf]; omega
          · obtain ⟨c0, c1, c2, c3, c4, c5, fz⟩ := X1.out
            have BE := Lib.hid (B4.out.alloc B4.out.size (.cells #[.int .i64 2, .string (bs h), .int .i64 p, .string (bs u.path), .string (bs u.query), .bool u.has] 30))
            clear fz
            go_wp2
            go_ret
            exact ⟨rfl, by first | exact BE.out | (repeat refine Below.setCell ?_ (by simp; omega) _); exact BE.out⟩
  · have HCL := Lib.hid hcl
    clear hcl
    generalize parseT [71, 69, 84] (47 :: s.data.toList) = u at *
    generalize parseT [71, 69, 84] (httpL ++ host.data.toList ++ 47 :: s.data.toList) = v at *
    obtain ⟨u, n⟩ := u
    obtain ⟨v, q⟩ := v
    have AU2 : ∃ h p e, ∀ (w : World) (hm : w.cell? ⟨0, 0, none⟩ = some (.int .i64 m)), Hid (Calls Tryd.prog 17 #[.string host] w fun e' w' => e' = .returned (.tuple #[.string h, .int .i64 p, .int .i64 e]) ∧ Below w.heap.size w w') := by
      cases ha : authB host.data.toList with
      | none => rw [ha] at AU; exact ⟨_, _, _, AU⟩
      | some x => obtain ⟨h, p⟩ := x; rw [ha] at AU; exact ⟨_, _, _, AU⟩
    clear AU
    obtain ⟨h, p, er, AU⟩ := AU2
    simp only [tgOut, tgVal] at PA PB
    go_enter Tryd.func4, Tryd.ntmps4
    go_wp2_with fail
    refine AN.out.mono ?_
    rintro e w1 ⟨rfl, hb1⟩
    have M1 := Lib.hid (cell_below hb1 HM.out)
    have B1 := Lib.hid hb1
    clear hb1
    go_wp2_with fail
    refine (AU _ M1.out).out.mono ?_
    rintro e w2 ⟨rfl, hb2⟩
    have M2 := Lib.hid (cell_below hb2 M1.out)
    have B2 := Lib.hid (below_then B1.out hb2)
    clear hb2
    go_wp2_with fail
    refine (PA _ M2.out).out.mono ?_
    rintro e w3 ⟨rfl, hb3⟩
    have M3 := Lib.hid (cell_below hb3 M2.out)
    have B3 := Lib.hid (below_then B2.out hb3)
    clear hb3
    go_wp2_with fail
    refine (PB _ (cell_below ((Below.refl _ w3).alloc (Nat.le_refl _) _) M3.out)).out.mono ?_
    rintro e w4 ⟨rfl, hb4⟩
    have X1 := Lib.hid ((box6_new w3 _ _ _ _ _ _ _).below hb4)
    have B4 := Lib.hid (below_then B3.out (below_after hb4))
    have hlt3 : w3.heap.size < w4.heap.size := by have := hb4.size; simp at this; omega
    clear hb4
    go_wp2
    go_loop [12, 38] (fun _ i => ∃ k : Nat, k ≤ host.size ∧ i = .int .i64 k ∧ ∀ c ∈ host.data.toList.take k, c ≠ 47 ∧ c ≠ 63) (fun _ i => host.size - (intOf i).toNat)
    case atStart => exact ⟨0, Nat.zero_le _, rfl, by simp⟩
    case round =>
      obtain ⟨k, hk, rfl, ha⟩ := hrel
      have HA := Lib.hid ha
      clear ha
      by_cases hlt : k < host.size
      · by_cases h47 : host[k] = 47
        · have hc47 : ((host[k].toNat : Int) == 47) = true := by rw [h47]; rfl
          have BE := Lib.hid (B4.out.alloc B4.out.size (.cells #[.int .i64 u.form, .string (bs u.host), .int .i64 u.port, .string (bs u.path), .string (bs u.query), .bool u.has] 30))
          clear h47
          go_wp2
          go_ret
          exact ⟨rfl, by first | exact BE.out | (repeat refine Below.setCell ?_ (by simp; omega) _); exact BE.out⟩
        · by_cases h63 : host[k] = 63
          · have hc47 : ((host[k].toNat : Int) == 47) = false := by rw [h63]; rfl
            have hc63 : ((host[k].toNat : Int) == 63) = true := by rw [h63]; rfl
            have BE := Lib.hid (B4.out.alloc B4.out.size (.cells #[.int .i64 u.form, .string (bs u.host), .int .i64 u.port, .string (bs u.path), .string (bs u.query), .bool u.has] 30))
            clear h47 h63
            go_wp2
            go_ret
            exact ⟨rfl, by first | exact BE.out | (repeat refine Below.setCell ?_ (by simp; omega) _); exact BE.out⟩
          · have hc : host[k] ≠ 47 ∧ host[k] ≠ 63 := ⟨h47, h63⟩
            clear h47 h63
            have hc47 : ((host[k].toNat : Int) == 47) = false := by rw [beq_eq_false_iff_ne]; intro e; apply hc.1; rw [← UInt8.toNat_inj]; simp only [UInt8.reduceToNat]; omega
            have hc63 : ((host[k].toNat : Int) == 63) = false := by rw [beq_eq_false_iff_ne]; intro e; apply hc.2; rw [← UInt8.toNat_inj]; simp only [UInt8.reduceToNat]; omega
            have HS := Lib.hid (clean_snoc host k hlt HA.out hc)
            clear hc
            go_wp2
            go_round
            case rel => exact ⟨k + 1, by omega, by go_num, HS.out⟩
            case measure => simp [intOf]; omega
      · exact absurd (by have h := HA.out; rwa [take_all host k hlt] at h) HCL.out
end Go.Proofs.YtjbmipbjlhcooaaDoor
