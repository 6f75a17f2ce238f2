/- The texts InZ in one. -/
import Derived.Test.YtgmjkkiahanekaaGreatDoorM35
import Derived.Test.YtgmjkkiahanekaaGreatDoorM39
import Derived.Test.YtgmjkkiahanekaaGreatDoorM46
import Derived.Test.YtgmjkkiahanekaaGreatDoorM2
/- The walk over InflowHosts. -/
set_option linter.unusedVariables false
set_option linter.unusedSimpArgs false
namespace Go.Proofs.YtgmjkkiahanekaaGreatDoor
open Go.RowKit Lex

theorem texts_uno {w : World} {T : TypeId} {x : ByteArray} {s : List UInt8} {B : Nat} (hB : w.heap.size = B) (h : x = bs s) : TextsO (w.alloc (.cells #[.string x] T)) (some ⟨B, 0, none⟩) [s] := by
  subst hB h
  have := texts_one w (bs s) T
  rwa [bs_list] at this
theorem read_one (s : List UInt8) {l : List Rq} {r : List UInt8} {st : Int} (hd : docs 9 s = (l, r, st)) (hl : l.length ≤ 5000) (hs : s.length ≤ 4194000) (M : Int) (A : Option Addr) (w : World) (hT : TextsO w A [s]) (hm : w.cell? ⟨0, 0, none⟩ = some (.int .i64 M)) :
    Calls Tryz.prog 17 #[.int .i64 9, .slice A 1 1] w fun e w' => ∃ v As, e = .returned (.tuple #[v, .int .i64 st, .bool true]) ∧ OutAt w' w.heap.size (fun _ => False) v l As ∧ Below w.heap.size w w' := by
  have hf : [s].flatten = s := by simp
  have := read_c 9 (by decide) A 1 [s] M w hT (by rw [hf]; exact hs) (by simp) (by rw [hf, hd]; exact hl) hm
  rw [hf, hd] at this
  exact this
theorem host_t0 : (⟨#[71, 69, 84, 32, 47, 32, 72, 84, 84, 80, 47, 49, 46, 49, 13, 10]⟩ : ByteArray) ++ ⟨#[88, 58, 32, 121, 13, 10, 13, 10]⟩ = bs (getOf [47] [([88], [121])]) := by kernel_rfl
theorem host_t2 (a b : ByteArray) : ((((⟨#[71, 69, 84, 32, 47, 32, 72, 84, 84, 80, 47, 49, 46, 49, 13, 10]⟩ : ByteArray) ++ ⟨#[72, 111, 115, 116, 58, 32]⟩) ++ a ++ ⟨#[13, 10, 104, 111, 115, 116, 58, 32]⟩) ++ b) ++ ⟨#[13, 10, 13, 10]⟩ = bs (getOf [47] [(hostU, a.data.toList), (hostN, b.data.toList)]) := by
  refine bytes_ext ?_
  simp [getOf, wfirst, httpE, getW, flines1, fline1, hostU, hostN]
theorem host_t1 (a : ByteArray) : ((⟨#[71, 69, 84, 32, 47, 32, 72, 84, 84, 80, 47, 49, 46, 49, 13, 10]⟩ : ByteArray) ++ ⟨#[72, 111, 115, 116, 58, 32]⟩) ++ a ++ ⟨#[13, 10, 13, 10]⟩ = bs (getOf [47] [(hostU, a.data.toList)]) := by
  refine bytes_ext ?_
  simp [getOf, wfirst, httpE, getW, flines1, fline1, hostU]
theorem host_tz (a : ByteArray) : (⟨#[71, 69, 84, 32, 104, 116, 116, 112, 58, 47, 47, 122, 58, 56, 47, 32, 72, 84, 84, 80, 47, 49, 46, 49, 13, 10, 72, 111, 115, 116, 58, 32]⟩ : ByteArray) ++ a ++ ⟨#[13, 10, 13, 10]⟩ = bs (getOf absZ [(hostU, a.data.toList)]) := by
  refine bytes_ext ?_
  simp [getOf, wfirst, httpE, getW, flines1, fline1, hostU, absZ]
theorem getOf_len (t : List UInt8) (l : List Fd) : (getOf t l).length = t.length + 17 + (flines1 l).length := by
  unfold getOf
  rw [List.length_append, wfirst_length]
  simp only [getW, List.length_cons, List.length_append, List.length_nil]
  omega
theorem below_alo {W w : World} (h : Below W.heap.size W w) (o : Obj) : Below W.heap.size W (w.alloc o) := h.alloc h.size o
set_option maxRecDepth 100000 in
set_option maxHeartbeats 8000000 in
theorem hosts_walk11 {W : World} (a : ByteArray) (ha : a.size ≤ 1048576) (b : ByteArray) (hb : b.size ≤ 1048576) (M : Int) (W2 : World) (hW : W2 = W) (hm : W2.cell? ⟨0, 0, none⟩ = some (.int .i64 M)) :
    Calls Tryz.prog 10 #[.string a, .string b] W2 fun e w' => e = .returned (.bool true) ∧ Below W2.heap.size W2 w' := by
  subst hW
  have AN := Lib.hid (anchor11_c M W2 hm)
  have i0 : ∀ w : World, (Instr.index 73 (.agg #[.string a, .string b]) (.int .i64 0)).run Tryz.prog w = .ok (.string a) w := fun _ => by kernel_rfl
  have i1 : ∀ w : World, (Instr.index 73 (.agg #[.string a, .string b]) (.int .i64 1)).run Tryz.prog w = .ok (.string b) w := fun _ => by kernel_rfl
  have HM := Lib.hid hm
  have VA := fun w => Lib.hid (rvalue_c a w (by omega))
  have VB := fun w => Lib.hid (rvalue_c b w (by omega))
  clear hm
  go_enter Tryz.func10, Tryz.ntmps10
  go_wp2_with fail
  refine AN.out.mono ?_
  rintro e w1 ⟨rfl, hb1⟩
  have B1 := Lib.hid hb1
  clear hb1 AN
  go_wp2_with fail
  go_loop [25] (fun i => ∃ j : Nat, j ≤ 2 ∧ i = .int .i64 j ∧ (0 < j → value a.data.toList = true ∧ a.size ≤ 60) ∧ (1 < j → value b.data.toList = true ∧ b.size ≤ 60)) (fun i => 2 - (intOf i).toNat)
  case atStart => exact ⟨0, Nat.zero_le _, rfl, fun h => absurd h (Nat.lt_irrefl 0), fun h => absurd h (by omega)⟩
  case round =>
    obtain ⟨j, hj, rfl, h0, h1⟩ := hrel
    have hjc : j = 0 ∨ j = 1 ∨ j = 2 := by omega
    have H0 := Lib.hid h0
    have H1 := Lib.hid h1
    clear h0 h1
    rcases hjc with rfl | rfl | rfl
    · cases hv : value a.data.toList with
      | false =>
        rw [hv] at VA
        have VV := Lib.hid VA
        clear hv VA VB
        go_wp2_with fail
        refine (VV.out _).out.mono ?_
        rintro e w2 ⟨rfl, rfl⟩
        go_wp2_with fail
        go_ret
        exact ⟨rfl, B1.out⟩
      | true =>
        rw [hv] at VA
        have VV := Lib.hid VA
        have HVV := Lib.hid hv
        clear hv VA VB
        by_cases hsz : 60 < a.size
        · have hszi : (60 : Int) < (a.size : Int) := by omega
          go_wp2_with fail
          refine (VV.out _).out.mono ?_
          rintro e w2 ⟨rfl, rfl⟩
          go_wp2_with fail
          go_ret
          exact ⟨rfl, B1.out⟩
        · have hszi : ¬ (60 : Int) < (a.size : Int) := by omega
          go_wp2_with fail
          refine (VV.out _).out.mono ?_
          rintro e w2 ⟨rfl, rfl⟩
          go_wp2_with fail
          go_round
          case rel => exact ⟨1, by omega, by first | rfl | go_num, fun _ => ⟨by first | trivial | exact HVV.out, by omega⟩, fun h => absurd h (by omega)⟩
          case measure => simp [intOf]
    · cases hv : value b.data.toList with
      | false =>
        rw [hv] at VB
        have VV := Lib.hid VB
        clear hv VA VB
        go_wp2_with fail
        refine (VV.out _).out.mono ?_
        rintro e w2 ⟨rfl, rfl⟩
        go_wp2_with fail
        go_ret
        exact ⟨rfl, B1.out⟩
      | true =>
        rw [hv] at VB
        have VV := Lib.hid VB
        have HVV := Lib.hid hv
        clear hv VA VB
        by_cases hsz : 60 < b.size
        · have hszi : (60 : Int) < (b.size : Int) := by omega
          go_wp2_with fail
          refine (VV.out _).out.mono ?_
          rintro e w2 ⟨rfl, rfl⟩
          go_wp2_with fail
          go_ret
          exact ⟨rfl, B1.out⟩
        · have hszi : ¬ (60 : Int) < (b.size : Int) := by omega
          go_wp2_with fail
          refine (VV.out _).out.mono ?_
          rintro e w2 ⟨rfl, rfl⟩
          go_wp2_with fail
          go_round
          case rel => exact ⟨2, by omega, by first | rfl | go_num, fun _ => H0.out (by omega), fun _ => ⟨by first | trivial | exact HVV.out, by omega⟩⟩
          case measure => simp [intOf]
    · obtain ⟨va, sa⟩ := H0.out (by omega)
      obtain ⟨vb, sb⟩ := H1.out (by omega)
      have la : a.data.toList.length ≤ 60 := by rw [size_list]; exact sa
      have lb : b.data.toList.length ≤ 60 := by rw [size_list]; exact sb
      have D0 := Lib.hid docs_none
      have DD2 := Lib.hid (docs_two va la vb lb)
      have D1 := Lib.hid (docs_one va la)
      have L0 : (getOf [47] [([88], [121])]).length ≤ 4194000 := by decide
      have L2 : (getOf [47] [(hostU, a.data.toList), (hostN, b.data.toList)]).length ≤ 4194000 := by
        rw [getOf_len]
        simp only [flines1, List.length_append, List.length_cons, fline1_length, hostU, hostN, List.length_nil]
        omega
      have L1 : (getOf [47] [(hostU, a.data.toList)]).length ≤ 4194000 := by
        rw [getOf_len]
        simp only [flines1, List.length_append, List.length_cons, fline1_length, hostU, List.length_nil]
        omega
      have LZ : (getOf absZ [(hostU, a.data.toList)]).length ≤ 4194000 := by
        rw [getOf_len]
        simp only [flines1, List.length_append, List.length_cons, fline1_length, hostU, absZ, List.length_nil]
        omega
      have R0 := Lib.hid (read_one _ docs_none (Nat.zero_le _) L0 M)
      have R2 := Lib.hid (read_one _ DD2.out (Nat.zero_le _) L2 M)
      have T2 := Lib.hid (host_t2 a b)
      have T1 := Lib.hid (host_t1 a)
      have TZ := Lib.hid (host_tz a)
      have LL1 := Lib.hid L1
      have LLZ := Lib.hid LZ
      clear va vb la lb L0 L2 L1 LZ VA VB H0 H1
      go_wp2_with fail
      refine (R0.out _ _ (texts_uno rfl host_t0) (cell_below (below_alo B1.out _) HM.out)).mono ?_
      rintro e w3 ⟨v0, As0, rfl, ho0, hb3⟩
      have B3 := Lib.hid (below_then (below_alo B1.out _) hb3)
      clear ho0 hb3
      go_wp2_with fail
      refine (R2.out _ _ (texts_uno rfl T2.out) (cell_below (below_alo B3.out _) HM.out)).mono ?_
      rintro e w4 ⟨v2, As2, rfl, ho2, hb4⟩
      have B4 := Lib.hid (below_then (below_alo B3.out _) hb4)
      clear ho2 hb4
      rcases D1.out with ⟨-, e1, ez⟩ | ⟨q, q', e1, ez, hq1, hq2, hq3⟩
      · have R1 := Lib.hid (read_one _ e1 (Nat.zero_le _) LL1.out M)
        have RZ := Lib.hid (read_one _ ez (Nat.zero_le _) LLZ.out M)
        clear e1 ez
        go_wp2_with fail
        refine (R1.out _ _ (texts_uno rfl T1.out) (cell_below (below_alo B4.out _) HM.out)).mono ?_
        rintro e w5 ⟨v3, As3, rfl, ho3, hb5⟩
        have B5 := Lib.hid (below_then (below_alo B4.out _) hb5)
        obtain ⟨A3, c3, rfl⟩ := own_form ho3.own
        clear ho3 hb5
        go_wp2_with fail
        refine (RZ.out _ _ (texts_uno rfl TZ.out) (cell_below (below_alo B5.out _) HM.out)).mono ?_
        rintro e w6 ⟨v4, As4, rfl, ho4, hb6⟩
        have B6 := Lib.hid (below_then (below_alo B5.out _) hb6)
        obtain ⟨A4, c4, rfl⟩ := own_form ho4.own
        clear ho4 hb6
        go_wp2_with fail
        go_ret
        exact ⟨by first | rfl | simp, B6.out⟩
      · have R1 := Lib.hid (read_one _ e1 (by simp) LL1.out M)
        have RZ := Lib.hid (read_one _ ez (by simp) LLZ.out M)
        have HQ1 := Lib.hid hq1
        have HQ2 := Lib.hid hq2
        have HQ3 := Lib.hid hq3
        clear e1 ez hq1 hq2 hq3
        go_wp2_with fail
        refine (R1.out _ _ (texts_uno rfl T1.out) (cell_below (below_alo B4.out _) HM.out)).mono ?_
        rintro e w5 ⟨v3, As3, rfl, ho3, hb5⟩
        have B5 := Lib.hid (below_then (below_alo B4.out _) hb5)
        have O5 := Lib.hid ho3
        clear ho3 hb5
        go_wp2_with fail
        refine (RZ.out _ _ (texts_uno rfl TZ.out) (cell_below (below_alo B5.out _) HM.out)).mono ?_
        rintro e w6 ⟨v4, As4, rfl, ho4, hb6⟩
        have B6 := Lib.hid (below_then (below_alo B5.out _) hb6)
        have O6 := (O5.out.more ((Below.refl _ w5).alloc (Nat.le_refl _) _)).more hb6
        obtain ⟨g, cp, rfl, hg⟩ := O6.range (k := 0) (by simp) (by rw [O6.len]; simp)
        obtain ⟨g', cp', rfl, hg'⟩ := ho4.range (k := 0) (by simp) (by rw [ho4.len]; simp)
        have m12 := hg' 12 _ rfl
        have m13 := hg' 13 _ rfl
        have n12 := hg 12 _ rfl
        simp only [List.getElem_cons_zero, Nat.zero_mul, Nat.zero_add] at m12 m13 n12
        rw [HQ2.out, show bs [122] = ⟨#[122]⟩ from rfl] at m12
        rw [HQ3.out] at m13
        have hne : q.host.isEmpty = false := by
          cases hq : q.host with
          | nil => exact absurd hq HQ1.out
          | cons a b => rfl
        clear ho4 hb6 O6 hg hg'
        go_wp2_with fail
        go_ret
        exact ⟨by first | rfl | simp [hne], B6.out⟩
end Go.Proofs.YtgmjkkiahanekaaGreatDoor

