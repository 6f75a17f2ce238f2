/- The walk over FieldsBounds, for every two numbers. -/
import Derived.Test.YtnoolehpooidjaaDoorFldL
import Derived.OpenShut
set_option linter.unusedVariables false
set_option linter.unusedSimpArgs false
namespace Go.Proofs.YtnoolehpooidjaaDoor
open Go.RowKit Lex

def rep (n : Nat) (c : UInt8) : List UInt8 := List.replicate n c
theorem rep_snoc (n : Nat) (c : UInt8) : rep (n + 1) c = rep n c ++ [c] := List.replicate_succ'
theorem rep_length (n : Nat) (c : UInt8) : (rep n c).length = n := List.length_replicate
theorem rep_all {n : Nat} {c : UInt8} {p : UInt8 → Bool} (h : p c = true) : (rep n c).all p = true := by
  rw [List.all_eq_true]; intro x hx; rw [List.eq_of_mem_replicate hx]; exact h
theorem rep_token {n : Nat} (h : 1 ≤ n) : token (rep n 110) = true := by
  unfold token
  rw [rep_all (by decide +kernel)]
  cases n with
  | zero => omega
  | succ n => rfl
theorem rep_value (n : Nat) : value (rep n 118) = true := by
  unfold value
  rw [rep_all (by decide +kernel), Bool.true_and, beq_iff_eq, trim_self]
  refine ⟨fun x hx => ?_, fun x hx => ?_⟩
  · rw [List.eq_of_mem_replicate (List.mem_of_mem_head? hx)]; decide +kernel
  · rw [List.eq_of_mem_replicate (List.mem_of_getLast? hx)]; decide +kernel
theorem check_fit {n k : Nat} (h : 1 ≤ n) : checkF [(rep n 110, rep k 118)] = if n + k ≤ 512 then 0 else 70 := by
  unfold checkF badF
  simp only [List.any_cons, List.any_nil, Bool.or_false, rep_token h, rep_value, Bool.not_true, Bool.false_or, rep_length, decide_eq_true_eq, List.length_cons, List.length_nil]
  by_cases h5 : n + k ≤ 512
  · rw [if_pos h5, if_neg (by omega), if_neg (by omega)]
  · rw [if_neg h5, if_pos (by omega)]
def many (c : Nat) : List Fd := List.replicate c ([97], [])
theorem many_snoc (c : Nat) : many (c + 1) = many c ++ [([97], [])] := List.replicate_succ'
theorem many_length (c : Nat) : (many c).length = c := List.length_replicate
theorem many_good (c : Nat) : ∀ f ∈ many c, badF f = false := by
  intro f hf; rw [List.eq_of_mem_replicate hf]; decide +kernel
theorem check_many (c : Nat) : checkF (many c) = if c ≤ 32 then 0 else 71 := by
  by_cases h : c ≤ 32
  · rw [if_pos h, checkF_ok (many_good c) (by rw [many_length]; omega)]
  · rw [if_neg h, checkF_many (many_good c) (by rw [many_length]; omega)]
theorem check_past {c n k : Nat} (h : 1 ≤ n) (h5 : 512 < n + k) : checkF (many c ++ [(rep n 110, rep k 118)]) = 70 := by
  unfold checkF
  rw [if_pos]
  refine List.any_eq_true.2 ⟨(rep n 110, rep k 118), List.mem_append.2 (.inr (by simp)), ?_⟩
  unfold badF
  simp only [rep_length]
  rw [decide_eq_true h5, Bool.or_true]
theorem many_fb {c : Nat} (h : c ≤ 100) : FB (many c) :=
  ⟨by rw [many_length]; omega, fun f hf => by rw [List.eq_of_mem_replicate hf]; decide, fun f hf => by rw [List.eq_of_mem_replicate hf]; decide⟩
theorem fit_fb {n k : Nat} (h : n ≤ 600) (hk : k ≤ 600) : FB [(rep n 110, rep k 118)] :=
  ⟨by simp, fun f hf => by simp at hf; subst hf; simp only [rep_length]; omega, fun f hf => by simp at hf; subst hf; simp only [rep_length]; omega⟩
theorem past_fb {c n k : Nat} (hc : c ≤ 100) (h : n ≤ 600) (hk : k ≤ 600) : FB (many c ++ [(rep n 110, rep k 118)]) :=
  ⟨by rw [List.length_append, many_length]; show c + 1 ≤ _; omega, fun f hf => by
    rcases List.mem_append.1 hf with hf | hf
    · exact (many_fb hc).nm f hf
    · exact (fit_fb h hk).nm f hf, fun f hf => by
    rcases List.mem_append.1 hf with hf | hf
    · exact (many_fb hc).vl f hf
    · exact (fit_fb h hk).vl f hf⟩

set_option maxRecDepth 100000 in
set_option maxHeartbeats 8000000 in
theorem bounds_walk (name : Int) (hn : (Lit.int .i64 name).wf = true) (count : Int) (hc : (Lit.int .i64 count).wf = true) (m : Int) (W : World) {w : World} (hW : W = w) (hm : W.cell? ⟨0, 0, none⟩ = some (.int .i64 m)) :
    Calls Tryd.prog 7 #[.int .i64 name, .int .i64 count] W fun e w' => e = .returned (.bool true) ∧ Below W.heap.size W w' := by
  subst hW
  obtain ⟨i0, hi, hz0, hz1, hz2⟩ := info_parts info_field
  have AN := Lib.hid (anchor7_c m W hm)
  clear hm hn hc
  by_cases ha : name < 1
  · go_enter Tryd.func7, Tryd.ntmps7
    go_wp2_with fail
    refine AN.out.mono ?_
    rintro e w1 ⟨rfl, hb1⟩
    go_wp2
    go_ret
    exact ⟨rfl, hb1⟩
  by_cases hb : 600 < name
  · go_enter Tryd.func7, Tryd.ntmps7
    go_wp2_with fail
    refine AN.out.mono ?_
    rintro e w1 ⟨rfl, hb1⟩
    go_wp2
    go_ret
    exact ⟨rfl, hb1⟩
  by_cases hc : count < 0
  · go_enter Tryd.func7, Tryd.ntmps7
    go_wp2_with fail
    refine AN.out.mono ?_
    rintro e w1 ⟨rfl, hb1⟩
    go_wp2
    go_ret
    exact ⟨rfl, hb1⟩
  by_cases hd : 100 < count
  · go_enter Tryd.func7, Tryd.ntmps7
    go_wp2_with fail
    refine AN.out.mono ?_
    rintro e w1 ⟨rfl, hb1⟩
    go_wp2
    go_ret
    exact ⟨rfl, hb1⟩
  obtain ⟨n, rfl⟩ : ∃ n : Nat, name = n := ⟨name.toNat, by omega⟩
  obtain ⟨c, rfl⟩ : ∃ c : Nat, count = c := ⟨count.toNat, by omega⟩
  have n1 : 1 ≤ n := by omega
  have n2 : n ≤ 600 := by omega
  have c1 : c ≤ 100 := by omega
  clear ha hb hc hd
  obtain ⟨L, hL, hL2⟩ : ∃ L : Nat, 512 - n = L ∧ L ≤ 512 := ⟨_, rfl, by omega⟩
  have K1 := fun a cp w h => Lib.hid (checkf_c a cp [(rep n 110, rep L 118)] w (fit_fb n2 (by omega)) h)
  have K2 := fun a cp w h => Lib.hid (checkf_c a cp [(rep n 110, rep (L + 1) 118)] w (fit_fb n2 (by omega)) h)
  have K3 := fun a cp w h => Lib.hid (checkf_c a cp (many c) w (many_fb c1) h)
  have K4 := fun a cp w h => Lib.hid (checkf_c a cp (many c ++ [(rep n 110, rep (L + 1) 118)]) w (past_fb c1 n2 (by omega)) h)
  rw [check_fit n1] at K1
  rw [check_fit n1, if_neg (by omega)] at K2
  rw [check_many, many_length] at K3
  rw [check_past n1 (by omega), List.length_append, many_length] at K4
  have FL := fun (w : World) => Lib.hid (flds_new w #[.string (bs (rep n 110)), .string (bs (rep L 118))] 30 [(rep n 110, rep L 118)] rfl)
  have FP := fun (w : World) => Lib.hid (flds_new w #[.string (bs (rep n 110)), .string (bs (rep (L + 1) 118))] 30 [(rep n 110, rep (L + 1) 118)] rfl)
  have HL := Lib.hid hL
  clear hL
  go_enter Tryd.func7, Tryd.ntmps7
  go_wp2_with fail
  refine AN.out.mono ?_
  rintro e w1 ⟨rfl, hb1⟩
  go_wp2
  go_loop [5, 6] (fun s i => ∃ k : Nat, k ≤ L ∧ i = .int .i64 k ∧ s = .string (bs (rep k 118))) (fun _ i => L - (intOf i).toNat)
  case atStart => exact ⟨0, Nat.zero_le _, rfl, rfl⟩
  case round =>
    obtain ⟨k, hk, rfl, rfl⟩ := hrel
    by_cases hlt : k < L
    · have h5 : (k : Int) < 512 - (n : Int) := by have := HL.out; omega
      have hlen : (rep k 118).length + 1 ≤ 9223372036854775807 := by rw [rep_length]; omega
      have HSN := Lib.hid (show (bs (rep (k + 1) 118)) = bs (rep k 118) ++ ⟨#[118]⟩ by rw [rep_snoc]; exact bytes_ext (by simp [bs, ByteArray.data_append]))
      go_wp2
      go_round
      case rel => exact ⟨k + 1, by omega, by go_num, by rw [HSN.out]⟩
      case measure => simp [intOf]; omega
    · obtain rfl : k = L := by omega
      have h5 : ¬ (k : Int) < 512 - (n : Int) := by have := HL.out; omega
      go_wp2
      go_loop [7, 8] (fun s i => ∃ q : Nat, q ≤ n ∧ i = .int .i64 q ∧ s = .string (bs (rep q 110))) (fun _ i => n - (intOf i).toNat)
      case atStart => exact ⟨0, Nat.zero_le _, rfl, rfl⟩
      case round =>
        obtain ⟨q, hq, rfl, rfl⟩ := hrel
        by_cases hqt : q < n
        · have hlen : (rep q 110).length + 1 ≤ 9223372036854775807 := by rw [rep_length]; omega
          have HSN := Lib.hid (show (bs (rep (q + 1) 110)) = bs (rep q 110) ++ ⟨#[110]⟩ by rw [rep_snoc]; exact bytes_ext (by simp [bs, ByteArray.data_append]))
          go_wp2
          go_round
          case rel => exact ⟨q + 1, by omega, by go_num, by rw [HSN.out]⟩
          case measure => simp [intOf]; omega
        · obtain rfl : q = n := by omega
          have hlen : (rep k 118).length + 1 ≤ 9223372036854775807 := by rw [rep_length]; omega
          have hpast : bs (rep k 118) ++ ⟨#[118]⟩ = bs (rep (k + 1) 118) := by rw [rep_snoc]; exact bytes_ext (by simp [bs, ByteArray.data_append])
          clear hqt hlt
          by_cases h512 : q ≤ 512
          · rw [if_pos (by have := HL.out; omega)] at K1
            have h512' : (q : Int) ≤ 512 := by omega
            go_wp2_with fail
            refine (K1 _ _ _ (by have h := (FL ((w1.alloc (.cells #[.string (bs (rep q 110)), .string (bs (rep k 118))] 30)).alloc (.cells #[.string (bs (rep q 110)), .string (bs (rep (k + 1) 118))] 30))).out; simp only [World.size_alloc] at h; exact h)).out.mono ?_
            rintro e w2 ⟨rfl, hb2⟩
            have d1 := held1 hb2 (cell_alloc_l (.cells #[.string (bs (rep q 110)), .string (bs (rep k 118))] 30) (cell_first (w1.alloc (.cells #[.string (bs (rep q 110)), .string (bs (rep k 118))] 30)) (.string (bs (rep q 110))) (.string (bs (rep (k + 1) 118))) 30))
            have d2 := held1 hb2 (cell_alloc_l (.cells #[.string (bs (rep q 110)), .string (bs (rep k 118))] 30) (cell_second (w1.alloc (.cells #[.string (bs (rep q 110)), .string (bs (rep k 118))] 30)) (.string (bs (rep q 110))) (.string (bs (rep (k + 1) 118))) 30))
            simp only [World.size_alloc] at d1 d2
            have HB2 := Lib.hid (below_then hb1 (belowA (belowA (belowA hb2))))
            clear hb2
            go_wp2_with fail
            refine (K2 _ _ _ (FP w2).out).out.mono ?_
            rintro e w3 ⟨rfl, hb3⟩
            have D1 := Lib.hid (held1 hb3 (cell_alloc_l (.cells #[.string (bs (rep q 110)), .string (bs (rep (k + 1) 118))] 30) d1))
            have D2 := Lib.hid (held1 hb3 (cell_alloc_l (.cells #[.string (bs (rep q 110)), .string (bs (rep (k + 1) 118))] 30) d2))
            have HB3 := Lib.hid (below_then HB2.out (belowA hb3))
            clear hb3 d1 d2 HB2
            go_wp2
            go_loopw [11, 12] (fun v i wr => ∃ j : Nat, j ≤ c ∧ i = .int .i64 j ∧ wr.ownsRow w3.heap.size 30 2 v (many j).length (fvals (many j)) ∧ Below w3.heap.size w3 wr) (fun _ i _ => c - (intOf i).toNat)
            case atStart => exact ⟨0, Nat.zero_le _, rfl, World.ownsRow_nil _ _ _ _, Below.refl _ _⟩
            case round =>
              obtain ⟨j, hj, rfl, ho, hbj⟩ := hrel
              have hjl := many_length j
              have HJL := Lib.hid hjl
              have HO := Lib.hid ho
              have hzj := hbj.size
              clear ho hjl
              by_cases hjc : j < c
              · have HMS := Lib.hid (many_snoc j)
                have hjn : (many j).length ≤ 100 := by rw [many_length]; omega
                generalize many j = R at *
                go_wp2_with (at_builtin; refine wpList_append_own _ rfl (.tmp 69) (.tmp 71) 22 rfl w3.heap.size 30 i0 (.agg #[.string ByteArray.empty, .string ByteArray.empty]) 2 32 Tryd.underlying22 hi hz0 hz1 hz2 rfl (by decide) _ R.length _ rfl (HO.out.alloc _) ⟨wr.heap.size, 0, none⟩ 1 1 [.string ⟨#[97]⟩, .string ⟨#[]⟩] rfl rfl (news2 _ _ _ _) (ones_field ([97], [])) (by unfold maxLen; omega) (by omega) (by simp; omega) ?_; intro v' w5 ho' hg' _)
                have HO' := Lib.hid (show w5.ownsRow w3.heap.size 30 2 v' (R ++ [([97], [])]).length (fvals (R ++ [([97], [])])) by rw [List.length_append, fvals_append, fvals_one]; exact ho')
                have HB' := Lib.hid ((hbj.alloc hzj _).grown hg' (by simp; omega) (fun g hg => (HO.out.lt g hg).1))
                clear ho' hg'
                go_wp2
                go_roundw
                case rel => exact ⟨j + 1, by omega, by go_num, by rw [HMS.out]; exact HO'.out, HB'.out⟩
                case measure => simp [intOf]; omega
              · obtain rfl : j = c := by omega
                obtain ⟨av, cv, rfl, _, hFv⟩ := own_flds HO.out
                have HFV := Lib.hid hFv
                have HO2 := Lib.hid HO.out
                rw [HJL.out] at HO2
                rw [HJL.out]
                have D1' := Lib.hid (held1 hbj D1.out)
                have D2' := Lib.hid (held1 hbj D2.out)
                have HBJ := Lib.hid hbj
                clear hFv hbj hjc HO
                by_cases h32 : j ≤ 32
                · rw [if_pos h32] at K3
                  have h32' : (j : Int) ≤ 32 := by omega
                  go_wp2_with fail
                  refine (K3 _ _ _ HFV.out).out.mono ?_
                  rintro e w6 ⟨rfl, hb6⟩
                  have FV6 := Lib.hid (HFV.out.below hb6)
                  have E1 := Lib.hid (held1 hb6 D1'.out)
                  have E2 := Lib.hid (held1 hb6 D2'.out)
                  have O6 := Lib.hid (own_below HO2.out hb6)
                  have HB6 := Lib.hid (below_then HBJ.out hb6)
                  clear hb6
                  go_wp2_with fail
                  refine (K3 _ _ _ FV6.out).out.mono ?_
                  rintro e w7 ⟨rfl, hb7⟩
                  have e1 := held1 hb7 E1.out
                  have e2 := held1 hb7 E2.out
                  have O7 := Lib.hid (own_below O6.out hb7)
                  have hb8 := below_then HB6.out hb7
                  have hz8 := hb8.size
                  clear hb7
                  go_wp2_with (at_builtin; refine wpList_append_own _ rfl (.tmp 87) (.tmp 89) 22 rfl w3.heap.size 30 i0 (.agg #[.string ByteArray.empty, .string ByteArray.empty]) 2 32 Tryd.underlying22 hi hz0 hz1 hz2 rfl (by decide) _ j _ rfl (O7.out.alloc _) ⟨w7.heap.size, 0, none⟩ 1 1 [.string (bs (rep q 110)), .string (bs (rep (k + 1) 118))] rfl rfl (news2 _ _ _ _) (ones_field (rep q 110, rep (k + 1) 118)) (by unfold maxLen; omega) (by omega) (by simp; omega) ?_; intro v' w9 ho' hg' _; obtain ⟨a9, c9, rfl⟩ := own_slice' ho')
                  have HF9 := Lib.hid (flds_own (l := many j ++ [(rep q 110, rep (k + 1) 118)]) (cap := c9) (by rw [List.length_append, fvals_append, fvals_one, many_length]; exact ho'))
                  have HB9 := Lib.hid ((hb8.alloc hz8 _).grown hg' (by simp; omega) (fun g hg => (O7.out.lt g hg).1))
                  clear ho' hg' hb8
                  go_wp2_with fail
                  refine (K4 _ _ _ HF9.out).out.mono ?_
                  rintro e w10 ⟨rfl, hb10⟩
                  go_wp2
                  go_ret
                  exact ⟨rfl, below_then HB3.out (below_then HB9.out hb10)⟩
                · rw [if_neg h32] at K3
                  have h32' : (32 : Int) < (j : Int) := by omega
                  go_wp2_with fail
                  refine (K3 _ _ _ HFV.out).out.mono ?_
                  rintro e w6 ⟨rfl, hb6⟩
                  have FV6 := Lib.hid (HFV.out.below hb6)
                  have E1 := Lib.hid (held1 hb6 D1'.out)
                  have E2 := Lib.hid (held1 hb6 D2'.out)
                  have O6 := Lib.hid (own_below HO2.out hb6)
                  have HB6 := Lib.hid (below_then HBJ.out hb6)
                  clear hb6
                  go_wp2_with fail
                  refine (K3 _ _ _ FV6.out).out.mono ?_
                  rintro e w7 ⟨rfl, hb7⟩
                  have e1 := held1 hb7 E1.out
                  have e2 := held1 hb7 E2.out
                  have O7 := Lib.hid (own_below O6.out hb7)
                  have hb8 := below_then HB6.out hb7
                  have hz8 := hb8.size
                  clear hb7
                  go_wp2_with (at_builtin; refine wpList_append_own _ rfl (.tmp 87) (.tmp 89) 22 rfl w3.heap.size 30 i0 (.agg #[.string ByteArray.empty, .string ByteArray.empty]) 2 32 Tryd.underlying22 hi hz0 hz1 hz2 rfl (by decide) _ j _ rfl (O7.out.alloc _) ⟨w7.heap.size, 0, none⟩ 1 1 [.string (bs (rep q 110)), .string (bs (rep (k + 1) 118))] rfl rfl (news2 _ _ _ _) (ones_field (rep q 110, rep (k + 1) 118)) (by unfold maxLen; omega) (by omega) (by simp; omega) ?_; intro v' w9 ho' hg' _; obtain ⟨a9, c9, rfl⟩ := own_slice' ho')
                  have HF9 := Lib.hid (flds_own (l := many j ++ [(rep q 110, rep (k + 1) 118)]) (cap := c9) (by rw [List.length_append, fvals_append, fvals_one, many_length]; exact ho'))
                  have HB9 := Lib.hid ((hb8.alloc hz8 _).grown hg' (by simp; omega) (fun g hg => (O7.out.lt g hg).1))
                  clear ho' hg' hb8
                  go_wp2_with fail
                  refine (K4 _ _ _ HF9.out).out.mono ?_
                  rintro e w10 ⟨rfl, hb10⟩
                  go_wp2
                  go_ret
                  exact ⟨rfl, below_then HB3.out (below_then HB9.out hb10)⟩
          · rw [if_neg (by have := HL.out; omega)] at K1
            have h512' : (512 : Int) < (q : Int) := by omega
            go_wp2_with fail
            refine (K1 _ _ _ (by have h := (FL ((w1.alloc (.cells #[.string (bs (rep q 110)), .string (bs (rep k 118))] 30)).alloc (.cells #[.string (bs (rep q 110)), .string (bs (rep (k + 1) 118))] 30))).out; simp only [World.size_alloc] at h; exact h)).out.mono ?_
            rintro e w2 ⟨rfl, hb2⟩
            have d1 := held1 hb2 (cell_alloc_l (.cells #[.string (bs (rep q 110)), .string (bs (rep k 118))] 30) (cell_first (w1.alloc (.cells #[.string (bs (rep q 110)), .string (bs (rep k 118))] 30)) (.string (bs (rep q 110))) (.string (bs (rep (k + 1) 118))) 30))
            have d2 := held1 hb2 (cell_alloc_l (.cells #[.string (bs (rep q 110)), .string (bs (rep k 118))] 30) (cell_second (w1.alloc (.cells #[.string (bs (rep q 110)), .string (bs (rep k 118))] 30)) (.string (bs (rep q 110))) (.string (bs (rep (k + 1) 118))) 30))
            simp only [World.size_alloc] at d1 d2
            have HB2 := Lib.hid (below_then hb1 (belowA (belowA (belowA hb2))))
            clear hb2
            go_wp2_with fail
            refine (K2 _ _ _ (FP w2).out).out.mono ?_
            rintro e w3 ⟨rfl, hb3⟩
            have D1 := Lib.hid (held1 hb3 (cell_alloc_l (.cells #[.string (bs (rep q 110)), .string (bs (rep (k + 1) 118))] 30) d1))
            have D2 := Lib.hid (held1 hb3 (cell_alloc_l (.cells #[.string (bs (rep q 110)), .string (bs (rep (k + 1) 118))] 30) d2))
            have HB3 := Lib.hid (below_then HB2.out (belowA hb3))
            clear hb3 d1 d2 HB2
            go_wp2
            go_loopw [11, 12] (fun v i wr => ∃ j : Nat, j ≤ c ∧ i = .int .i64 j ∧ wr.ownsRow w3.heap.size 30 2 v (many j).length (fvals (many j)) ∧ Below w3.heap.size w3 wr) (fun _ i _ => c - (intOf i).toNat)
            case atStart => exact ⟨0, Nat.zero_le _, rfl, World.ownsRow_nil _ _ _ _, Below.refl _ _⟩
            case round =>
              obtain ⟨j, hj, rfl, ho, hbj⟩ := hrel
              have hjl := many_length j
              have HJL := Lib.hid hjl
              have HO := Lib.hid ho
              have hzj := hbj.size
              clear ho hjl
              by_cases hjc : j < c
              · have HMS := Lib.hid (many_snoc j)
                have hjn : (many j).length ≤ 100 := by rw [many_length]; omega
                generalize many j = R at *
                go_wp2_with (at_builtin; refine wpList_append_own _ rfl (.tmp 69) (.tmp 71) 22 rfl w3.heap.size 30 i0 (.agg #[.string ByteArray.empty, .string ByteArray.empty]) 2 32 Tryd.underlying22 hi hz0 hz1 hz2 rfl (by decide) _ R.length _ rfl (HO.out.alloc _) ⟨wr.heap.size, 0, none⟩ 1 1 [.string ⟨#[97]⟩, .string ⟨#[]⟩] rfl rfl (news2 _ _ _ _) (ones_field ([97], [])) (by unfold maxLen; omega) (by omega) (by simp; omega) ?_; intro v' w5 ho' hg' _)
                have HO' := Lib.hid (show w5.ownsRow w3.heap.size 30 2 v' (R ++ [([97], [])]).length (fvals (R ++ [([97], [])])) by rw [List.length_append, fvals_append, fvals_one]; exact ho')
                have HB' := Lib.hid ((hbj.alloc hzj _).grown hg' (by simp; omega) (fun g hg => (HO.out.lt g hg).1))
                clear ho' hg'
                go_wp2
                go_roundw
                case rel => exact ⟨j + 1, by omega, by go_num, by rw [HMS.out]; exact HO'.out, HB'.out⟩
                case measure => simp [intOf]; omega
              · obtain rfl : j = c := by omega
                obtain ⟨av, cv, rfl, _, hFv⟩ := own_flds HO.out
                have HFV := Lib.hid hFv
                have HO2 := Lib.hid HO.out
                rw [HJL.out] at HO2
                rw [HJL.out]
                have D1' := Lib.hid (held1 hbj D1.out)
                have D2' := Lib.hid (held1 hbj D2.out)
                have HBJ := Lib.hid hbj
                clear hFv hbj hjc HO
                by_cases h32 : j ≤ 32
                · rw [if_pos h32] at K3
                  have h32' : (j : Int) ≤ 32 := by omega
                  go_wp2_with fail
                  refine (K3 _ _ _ HFV.out).out.mono ?_
                  rintro e w6 ⟨rfl, hb6⟩
                  have FV6 := Lib.hid (HFV.out.below hb6)
                  have E1 := Lib.hid (held1 hb6 D1'.out)
                  have E2 := Lib.hid (held1 hb6 D2'.out)
                  have O6 := Lib.hid (own_below HO2.out hb6)
                  have HB6 := Lib.hid (below_then HBJ.out hb6)
                  clear hb6
                  go_wp2_with fail
                  refine (K3 _ _ _ FV6.out).out.mono ?_
                  rintro e w7 ⟨rfl, hb7⟩
                  have e1 := held1 hb7 E1.out
                  have e2 := held1 hb7 E2.out
                  have O7 := Lib.hid (own_below O6.out hb7)
                  have hb8 := below_then HB6.out hb7
                  have hz8 := hb8.size
                  clear hb7
                  go_wp2_with (at_builtin; refine wpList_append_own _ rfl (.tmp 87) (.tmp 89) 22 rfl w3.heap.size 30 i0 (.agg #[.string ByteArray.empty, .string ByteArray.empty]) 2 32 Tryd.underlying22 hi hz0 hz1 hz2 rfl (by decide) _ j _ rfl (O7.out.alloc _) ⟨w7.heap.size, 0, none⟩ 1 1 [.string (bs (rep q 110)), .string (bs (rep (k + 1) 118))] rfl rfl (news2 _ _ _ _) (ones_field (rep q 110, rep (k + 1) 118)) (by unfold maxLen; omega) (by omega) (by simp; omega) ?_; intro v' w9 ho' hg' _; obtain ⟨a9, c9, rfl⟩ := own_slice' ho')
                  have HF9 := Lib.hid (flds_own (l := many j ++ [(rep q 110, rep (k + 1) 118)]) (cap := c9) (by rw [List.length_append, fvals_append, fvals_one, many_length]; exact ho'))
                  have HB9 := Lib.hid ((hb8.alloc hz8 _).grown hg' (by simp; omega) (fun g hg => (O7.out.lt g hg).1))
                  clear ho' hg' hb8
                  go_wp2_with fail
                  refine (K4 _ _ _ HF9.out).out.mono ?_
                  rintro e w10 ⟨rfl, hb10⟩
                  go_wp2
                  go_ret
                  exact ⟨rfl, below_then HB3.out (below_then HB9.out hb10)⟩
                · rw [if_neg h32] at K3
                  have h32' : (32 : Int) < (j : Int) := by omega
                  go_wp2_with fail
                  refine (K3 _ _ _ HFV.out).out.mono ?_
                  rintro e w6 ⟨rfl, hb6⟩
                  have FV6 := Lib.hid (HFV.out.below hb6)
                  have E1 := Lib.hid (held1 hb6 D1'.out)
                  have E2 := Lib.hid (held1 hb6 D2'.out)
                  have O6 := Lib.hid (own_below HO2.out hb6)
                  have HB6 := Lib.hid (below_then HBJ.out hb6)
                  clear hb6
                  go_wp2_with fail
                  refine (K3 _ _ _ FV6.out).out.mono ?_
                  rintro e w7 ⟨rfl, hb7⟩
                  have e1 := held1 hb7 E1.out
                  have e2 := held1 hb7 E2.out
                  have O7 := Lib.hid (own_below O6.out hb7)
                  have hb8 := below_then HB6.out hb7
                  have hz8 := hb8.size
                  clear hb7
                  go_wp2_with (at_builtin; refine wpList_append_own _ rfl (.tmp 87) (.tmp 89) 22 rfl w3.heap.size 30 i0 (.agg #[.string ByteArray.empty, .string ByteArray.empty]) 2 32 Tryd.underlying22 hi hz0 hz1 hz2 rfl (by decide) _ j _ rfl (O7.out.alloc _) ⟨w7.heap.size, 0, none⟩ 1 1 [.string (bs (rep q 110)), .string (bs (rep (k + 1) 118))] rfl rfl (news2 _ _ _ _) (ones_field (rep q 110, rep (k + 1) 118)) (by unfold maxLen; omega) (by omega) (by simp; omega) ?_; intro v' w9 ho' hg' _; obtain ⟨a9, c9, rfl⟩ := own_slice' ho')
                  have HF9 := Lib.hid (flds_own (l := many j ++ [(rep q 110, rep (k + 1) 118)]) (cap := c9) (by rw [List.length_append, fvals_append, fvals_one, many_length]; exact ho'))
                  have HB9 := Lib.hid ((hb8.alloc hz8 _).grown hg' (by simp; omega) (fun g hg => (O7.out.lt g hg).1))
                  clear ho' hg' hb8
                  go_wp2_with fail
                  refine (K4 _ _ _ HF9.out).out.mono ?_
                  rintro e w10 ⟨rfl, hb10⟩
                  go_wp2
                  go_ret
                  exact ⟨rfl, below_then HB3.out (below_then HB9.out hb10)⟩
end Go.Proofs.YtnoolehpooidjaaDoor
