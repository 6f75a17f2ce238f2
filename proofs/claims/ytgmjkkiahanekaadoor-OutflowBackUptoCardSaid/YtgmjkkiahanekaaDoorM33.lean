/- The texts OutL in one. -/
import Derived.Test.YtgmjkkiahanekaaDoorM28
import Derived.Test.YtgmjkkiahanekaaDoorM25
/- The walk over OutflowInterim. -/
set_option linter.unusedVariables false
set_option linter.unusedSimpArgs false
namespace Go.Proofs.YtgmjkkiahanekaaDoor
open Go.RowKit Lex

theorem told_one (w : World) (s : ByteArray) (x : List UInt8) (h : s.data.toList = x) (T : TypeId) : TextsO (w.alloc (.cells #[.string s] T)) (some ⟨w.heap.size, 0, none⟩) [x] := by
  subst h
  intro j hj
  have : j = 0 := by simpa using hj
  subst this
  exact ⟨w.heap.size, 0, rfl, by rw [World.cell?_alloc_new, List.getElem_cons_zero, list_bs]; rfl⟩
theorem ahead_len : ∀ ns : List Nat, (ns.map interL).flatten.length ≤ 30 * ns.length
  | [] => by simp
  | n :: r => by
    have h1 := ahead_len r
    have h2 := interL_len n
    rw [List.map_cons, List.flatten_cons, List.length_append, List.length_cons]; omega
set_option maxRecDepth 100000 in
set_option maxHeartbeats 8000000 in
theorem interim_walk {W : World} (me : ByteArray) (hme : me.size ≤ 1048576) (da : ByteArray) (hda : da.size ≤ 1048576) (a : Option Addr) (len cap : Nat) (z : List Int) (y : len * 8 ≤ 140737488351232) (wz : ∀ x ∈ z, (Lit.int .i64 x).wf = true) (hz : ∀ j, j < len → j < z.length ∧ ∃ ad, a = some ad ∧ W.cell? (ad.add j) = some (.int .i64 (z.getD j 0))) (c : Bool) (M : Int) (W2 : World) (hW : W2 = W) (hm : W2.cell? ⟨0, 0, none⟩ = some (.int .i64 M)) :
    Calls Tryd.prog 5 #[.string me, .string da, .slice a len cap, .bool c] W2 fun e w' => e = .returned (.bool true) ∧ Below W2.heap.size W2 w' := by
  subst hW
  have AN := Lib.hid (anchor12_c M W2 hm)
  have HM := Lib.hid hm
  have HZ : Hid (∀ j, j < len → ∃ ad, a = some ad ∧ W2.cell? (ad.add j) = some (.int .i64 (z.getD j 0))) := Lib.hid (fun j hj => (hz j hj).2)
  have hlen : (len : Int) ≤ 17592186044416 := by omega
  clear hm hz wz y
  go_enter Tryd.func5, Tryd.ntmps5
  go_wp2_with fail
  refine AN.out.mono ?_
  rintro e w1 ⟨rfl, hb1⟩
  have B1 := Lib.hid hb1
  have M1 := Lib.hid (cell_below hb1 HM.out)
  clear hb1
  by_cases hbig : 10000 < da.size
  · have hi : (10000 : Int) < (da.size : Int) := by omega
    go_wp2
    go_ret
    exact ⟨rfl, B1.out⟩
  · have hi : ¬ (10000 : Int) < (da.size : Int) := by omega
    by_cases hmany : 20 < len
    · have hi2 : (20 : Int) < (len : Int) := by omega
      go_wp2
      go_ret
      exact ⟨rfl, B1.out⟩
    · have hi2 : ¬ (20 : Int) < (len : Int) := by omega
      go_wp2_with fail
      go_loopw [9, 34] (fun ah i wr => ∃ (k : Nat) (ns : List Nat), k ≤ len ∧ i = .int .i64 k ∧ ah = .string (bs (ns.map interL).flatten) ∧ ns.length ≤ k ∧ (∀ n ∈ ns, Inter n) ∧ Below W2.heap.size W2 wr) (fun _ i _ => len - (intOf i).toNat)
      case atStart => exact ⟨0, [], Nat.zero_le _, rfl, rfl, Nat.le_refl _, fun n h => by simp at h, B1.out⟩
      case round =>
        obtain ⟨k, ns, hk, rfl, rfl, hns, hin, hbr⟩ := hrel
        have BR := Lib.hid hbr
        have NS := Lib.hid hin
        clear hbr hin
        by_cases hlt : k < len
        · obtain ⟨ad, rfl, hc⟩ := HZ.out k hlt
          have hc' := cell_below BR.out hc
          have k1 : (k : Int) < (len : Int) := by omega
          generalize z.getD k 0 = g at hc hc'
          clear hc
          by_cases g1 : g < 100
          · go_wp2
            go_roundw
            case rel => exact ⟨k + 1, ns, by omega, by go_num, rfl, by omega, NS.out, BR.out⟩
            case measure => simp [intOf]; omega
          by_cases g2 : 199 < g
          · go_wp2
            go_roundw
            case rel => exact ⟨k + 1, ns, by omega, by go_num, rfl, by omega, NS.out, BR.out⟩
            case measure => simp [intOf]; omega
          by_cases g3 : g = 101
          · subst g3
            go_wp2
            go_roundw
            case rel => exact ⟨k + 1, ns, by omega, by go_num, rfl, by omega, NS.out, BR.out⟩
            case measure => simp [intOf]; omega
          obtain ⟨n, rfl⟩ : ∃ n : Nat, g = (n : Int) := ⟨g.toNat, by omega⟩
          have hI : Inter n := ⟨by omega, by omega, by omega⟩
          have g4 : (n == 101) = false := by simp; omega
          have DG := Lib.hid (digits_c 2 n wr (by decide) (by omega) (by omega))
          have hal := ahead_len ns
          have hdl := dig_len 2 n
          have hnx : bs (ns.map interL).flatten ++ (⟨#[72, 84, 84, 80, 47, 49, 46, 49, 32]⟩ ++ bs (digF 2 n) ++ ⟨#[32, 87, 97, 105, 116, 13, 10, 88, 58, 32, 121, 13, 10, 13, 10]⟩) = bs ((ns ++ [n]).map interL).flatten := by
            rw [← list_bs (bs (ns.map interL).flatten ++ (⟨#[72, 84, 84, 80, 47, 49, 46, 49, 32]⟩ ++ bs (digF 2 n) ++ ⟨#[32, 87, 97, 105, 116, 13, 10, 88, 58, 32, 121, 13, 10, 13, 10]⟩))]
            congr 1
            simp [ByteArray.data_append, interL, bs]
          have s1 : (bs (ns.map interL).flatten).size ≤ 600 := by rw [bs_size]; omega
          have s2 : (bs (digF 2 n)).size ≤ 3 := by rw [bs_size]; omega
          have HNX := Lib.hid hnx
          have HN2 : Hid (∀ m ∈ ns ++ [n], Inter m) := Lib.hid (fun m hm => (List.mem_append.1 hm).elim (NS.out m) (fun h => by rw [List.mem_singleton.1 h]; exact hI))
          clear hal hdl hnx hI
          generalize bs (ns.map interL).flatten = A at *
          generalize bs (digF 2 n) = D at *
          go_wp2_with fail
          refine DG.out.mono ?_
          rintro e w5 ⟨rfl, hb5⟩
          have B5 := Lib.hid (below_then BR.out hb5)
          clear hb5
          go_wp2
          rw [HNX.out]
          go_roundw
          case rel => exact ⟨k + 1, ns ++ [n], by omega, by go_num, rfl, by simp; omega, HN2.out, B5.out⟩
          case measure => simp [intOf]; omega
        · obtain rfl : k = len := by omega
          have hz0 : bs (ns.map interL).flatten ++ da = bs ((ns.map interL).flatten ++ da.data.toList) := by
            rw [← list_bs (bs (ns.map interL).flatten ++ da)]
            congr 1
          have hal := ahead_len ns
          have s1 : (bs (ns.map interL).flatten).size + da.size ≤ 1048576 := by rw [bs_size]; omega
          have hl2 : ((ns.map interL).flatten ++ da.data.toList).length ≤ 4194304 := by rw [List.length_append]; have : da.data.toList.length = da.size := rfl; omega
          have TA := fun A w hT hm => Lib.hid (told_c me A 1 [da.data.toList] c M w hT (by rw [List.flatten_cons, List.flatten_nil, List.append_nil]; have : da.data.toList.length = da.size := rfl; omega) (by simp) hm)
          have TB := fun A w hT hm => Lib.hid (told_c me A 1 [(ns.map interL).flatten ++ da.data.toList] c M w hT (by rw [List.flatten_cons, List.flatten_nil, List.append_nil]; exact hl2) (by simp) hm)
          have IT := inter_told me.data.toList da.data.toList c ns NS.out
          rw [IT] at TB
          have HZ0 := Lib.hid hz0
          generalize hx : toldR me.data.toList [da.data.toList] c = x at *
          obtain ⟨s1', b1, r1⟩ := x
          simp only at TA TB
          generalize hxs : (ns.map interL).flatten ++ da.data.toList = xs at *
          generalize bs (ns.map interL).flatten = A at *
          have TX := fun w => Lib.hid (told_one w da da.data.toList rfl 9)
          have TY := fun w => Lib.hid (told_one w (bs xs) xs (bs_list _) 9)
          have TAA := Lib.hid TA
          have TBB := Lib.hid TB
          have MR := Lib.hid (cell_below BR.out HM.out)
          clear TA TB IT hz0 hal hl2 hx hxs
          generalize r1.ended = e1 at *
          generalize r1.err = q1 at *
          go_wp2_with fail
          have B2 := Lib.hid (BR.out.alloc BR.out.size (.cells #[.string da] 9))
          have M2 := Lib.hid (cell_below ((Below.refl _ wr).alloc (Nat.le_refl _) (.cells #[.string da] 9)) MR.out)
          refine (TAA.out _ _ (TX wr).out M2.out).out.mono ?_
          rintro e w3 ⟨rfl, hb3⟩
          have B3 := Lib.hid (below_then B2.out hb3)
          have M3 := Lib.hid (cell_below hb3 M2.out)
          clear hb3
          have B4 := Lib.hid (B3.out.alloc B3.out.size (.cells #[.string (bs xs)] 9))
          have M4 := Lib.hid (cell_below ((Below.refl _ w3).alloc (Nat.le_refl _) (.cells #[.string (bs xs)] 9)) M3.out)
          go_wp2_with fail
          rw [HZ0.out]
          refine (TBB.out _ _ (TY w3).out M4.out).out.mono ?_
          rintro e w5 ⟨rfl, hb5⟩
          have B5 := Lib.hid (below_then B4.out hb5)
          clear hb5
          go_wp2
          go_ret
          exact ⟨by simp, B5.out⟩
end Go.Proofs.YtgmjkkiahanekaaDoor

