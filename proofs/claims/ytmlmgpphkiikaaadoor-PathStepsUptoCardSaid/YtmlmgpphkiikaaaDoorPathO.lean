/- The walk over PathFixed. -/
import Derived.Test.YtmlmgpphkiikaaaDoorPathN
set_option linter.unusedVariables false
set_option linter.unusedSimpArgs false
namespace Go.Proofs.YtmlmgpphkiikaaaDoor
open Go.RowKit Lex

theorem At.some {pb : ByteArray} {ps : List (List UInt8)} {f i : Nat} {R : List (List UInt8)} {last : List UInt8} (h : At pb ps f i R last) (hi : i ≤ pb.size) : R ≠ [] := by
  rcases h with ⟨_, _, _, _, h5, _⟩ | ⟨h, _⟩
  · rw [h5]; exact pieces_ne _ _
  · omega
theorem good_head {x : List UInt8} {R : List (List UInt8)} (h : good (x :: R)) : x ≠ [46] ∧ x ≠ [46, 46] := by
  cases R with
  | nil => exact h
  | cons y r => exact good_one h.1
theorem good_tail {x : List UInt8} {R : List (List UInt8)} (h : good (x :: R)) : good R := by
  cases R with
  | nil => trivial
  | cons y r => exact h.2
theorem good_more {x : List UInt8} {R : List (List UInt8)} (h : good (x :: R)) (hR : R ≠ []) : x ≠ [] := by
  cases R with
  | nil => exact absurd rfl hR
  | cons y r => intro e; have := h.1; rw [e] at this; revert this; decide

set_option maxRecDepth 100000 in
set_option maxHeartbeats 4000000 in
theorem fixed_walk (s : ByteArray) (hs : s.size ≤ 1048576) (m : Int) (W : World) {w : World} (hW : W = w) (hm : W.cell? ⟨0, 0, none⟩ = some (.int .i64 m)) :
    Calls Tryd.prog 8 #[.string s] W fun e w' => e = .returned (.bool true) ∧ Below W.heap.size W w' := by
  subst hW
  have A := Lib.hid (anchor5_c m W hm)
  have N1 := fun w hm => Lib.hid (normal_c s m w (by omega) hm)
  cases hn : normal s.data.toList with
  | none =>
    rw [hn] at N1
    simp only [normVal] at N1
    clear hn
    go_enter Tryd.func8, Tryd.ntmps8
    go_wp2_with fail
    refine A.out.mono ?_
    rintro e w1 ⟨rfl, hb1⟩
    have hm1 := cell_after hb1 hm
    go_wp2_with fail
    refine (N1 _ hm1).out.mono ?_
    rintro e w2 ⟨rfl, hb2⟩
    go_wp2
    go_ret
    exact ⟨rfl, below_then hb1 hb2⟩
  | some p =>
    have hfix := normal_fixed hn
    obtain ⟨kept, op, hpk, hk, hl⟩ := normal_form hn
    have hlen : p.length ≤ s.size + 1 := by
      rw [size_list] at hl
      rw [hpk, build_eq]
      split
      · simp
      · rw [List.length_append]; split <;> simp <;> omega
    obtain ⟨tl, e1, e2, _, _, hgood⟩ := nf_parts op hk
    rw [← hpk] at e1
    have hF : Fix p := by rw [e1]; exact Fix.cons (by decide) (by decide) e2
    obtain ⟨pb, hpb⟩ : ∃ pb, bs p = pb := ⟨_, rfl⟩
    have hpd : pb.data.toList = p := by rw [← hpb, bs_list]
    have hps : pb.size ≤ 1048577 := by rw [← size_list, hpd]; omega
    have hp0 : 0 < pb.size := by rw [← size_list, hpd, e1]; simp
    have N2 := fun w hm => Lib.hid (normal_c pb m w (by omega) hm)
    rw [hpd, hfix] at N2
    rw [hn] at N1
    simp only [normVal, Option.getD_some, Option.isSome_some, if_true, hpb] at N1 N2
    have hst := At.start (pb := pb) (t := tl) (by rw [hpd, e1])
    have h47 : pb[0] = 47 := by
      have h := drop_at pb 0 hp0
      rw [List.drop_zero, hpd, e1] at h
      injection h with h _
      exact h.symm
    have g0 : ((pb[0].toNat : Int) != 47) = false := by rw [h47]; rfl
    have hre : pb.toList.isEmpty = false := nonempty_toList (by omega)
    rw [← hpd] at hF
    have HF := Lib.hid hF
    have ST := Lib.hid hst
    have GO := Lib.hid hgood
    clear hF hst hgood e1 e2 hpk hk hl hlen hfix hn hpb hpd h47
    generalize pieces 47 tl = ps at *
    go_enter Tryd.func8, Tryd.ntmps8
    go_wp2_with fail
    refine A.out.mono ?_
    rintro e w1 ⟨rfl, hb1⟩
    have hm1 := cell_after hb1 hm
    go_wp2_with fail
    refine (N1 _ hm1).out.mono ?_
    rintro e w2 ⟨rfl, hb2⟩
    have hm2 := cell_after hb2 hm1
    go_wp2_with fail
    refine (N2 _ hm2).out.mono ?_
    rintro e w3 ⟨rfl, hb3⟩
    have hB := below_then (below_then hb1 hb2) hb3
    clear hb1 hb2 hb3 A N1 N2 hm1 hm2
    go_wp2
    go_loopw [7, 8] (fun f i wr => ∃ (F I : Nat) (R : List (List UInt8)) (last : List UInt8), I ≤ pb.size + 1 ∧ i = .int .i64 I ∧ f = .int .i64 F ∧ wr = w3 ∧ At pb ps F I R last ∧ good R) (fun _ i _ => pb.size + 1 - (intOf i).toNat)
    case atStart => exact ⟨1, 1, ps, [], by omega, rfl, rfl, rfl, ST.out, GO.out⟩
    case round =>
      clear hre g0
      obtain ⟨F, I, R, last, hI, rfl, rfl, rfl, hA, hG⟩ := hrel
      have HA := Lib.hid hA
      have HG := Lib.hid hG
      clear hA hG
      by_cases hle : I ≤ pb.size
      · have hfi := HA.out.from_le hle
        by_cases hgo : ∃ h : I < pb.size, pb[I] ≠ 47
        · obtain ⟨hlt, hc⟩ := hgo
          have HN := Lib.hid (HA.out.next hlt hc)
          have g : ((pb[I].toNat : Int) != 47) = true := by
            rw [bne_iff_ne]; intro h; apply hc
            exact UInt8.toNat_inj.1 (by have : (47 : UInt8).toNat = 47 := rfl; omega)
          clear hc
          go_wp2
          go_roundw
          case rel => exact ⟨F, I + 1, R, last, by omega, by go_num, rfl, by first | rfl | trivial, HN.out, HG.out⟩
          case measure => simp [intOf]; omega
        · have hc : ∀ h : I < pb.size, pb[I] = 47 := fun h => Classical.byContradiction fun hh => hgo ⟨h, hh⟩
          obtain ⟨R', hR, hA'⟩ := HA.out.cut hle hc
          obtain ⟨x, hx⟩ : ∃ x, (pb.extract F I).data.toList = x := ⟨_, rfl⟩
          have hext : pb.extract F I = bs x := by rw [← hx, list_bs]
          rw [hx] at hR hA'
          have hG := HG.out
          rw [hR] at hG
          obtain ⟨n1, n2⟩ := good_head hG
          have f1 : (x == [46]) = false := by rw [beq_eq_false_iff_ne]; exact n1
          have f2 : (x == [46, 46]) = false := by rw [beq_eq_false_iff_ne]; exact n2
          have HA' := Lib.hid hA'
          have HG' := Lib.hid (good_tail hG)
          by_cases hlt : I < pb.size
          · have hne : x ≠ [] := good_more hG (hA'.some (by omega))
            have f3 : x.isEmpty = false := by
              cases hl : x with
              | nil => exact absurd hl hne
              | cons => rfl
            have g : ((pb[I].toNat : Int) != 47) = false := by rw [hc hlt]; rfl
            clear hgo hc hR hA' hG n1 n2 hne hx
            go_wp2
            go_roundw
            case rel => exact ⟨I + 1, I + 1, R', x, by omega, by go_num, by go_num, by first | rfl | trivial, HA'.out, HG'.out⟩
            case measure => simp [intOf]; omega
          · obtain rfl : I = pb.size := by omega
            clear hgo hc hR hA' hG n1 n2 hx
            cases f3 : x.isEmpty with
            | true =>
              go_wp2
              go_roundw
              case rel => exact ⟨pb.size + 1, pb.size + 1, R', x, by omega, by go_num, by go_num, by first | rfl | trivial, HA'.out, HG'.out⟩
              case measure => simp [intOf]
            | false =>
              go_wp2
              go_roundw
              case rel => exact ⟨pb.size + 1, pb.size + 1, R', x, by omega, by go_num, by go_num, by first | rfl | trivial, HA'.out, HG'.out⟩
              case measure => simp [intOf]
      · clear HA HG
        go_wp2
        go_loopw [88] (fun i wr' => ∃ k : Nat, k ≤ pb.size ∧ i = .int .i64 k ∧ wr' = wr) (fun i _ => pb.size - (intOf i).toNat)
        case atStart => exact ⟨0, Nat.zero_le _, rfl, rfl⟩
        case round =>
          obtain ⟨k, hk, rfl, rfl⟩ := hrel
          by_cases hlt : k < pb.size
          · by_cases h37 : (pb[k].toNat : Int) = 37
            · have g5 : ((pb[k].toNat : Int) == 37) = true := by rw [beq_iff_eq]; exact h37
              have h37' : pb[k] = 37 := by rw [← UInt8.toNat_inj]; simp; omega
              obtain ⟨n, hn1, hn2⟩ := HF.out.at_escape k (by rw [size_list]; exact hlt) h37'
              have K := fun w => Lib.hid (rat_c pb k w (by omega) hlt h37')
              rw [hn1] at K
              have P := fun w => Lib.hid (rplain_c n w)
              rw [hn2] at P
              have n255 : (n.toNat : Int) ≤ 255 := by have := n.toNat_lt; omega
              have n0 : 0 ≤ (n.toNat : Int) := by omega
              have nm : (n.toNat : Int) % 256 = n.toNat := by omega
              simp only [atI, if_true] at K
              clear h37 h37' hn1 hn2
              go_wp2_with (first | (go_at_call 31; refine (K _).out.mono ?_; rintro e w' ⟨rfl, rfl⟩) | (go_at_call 32; refine (P _).out.mono ?_; rintro e w' ⟨rfl, rfl⟩))
              go_roundw
              case rel => exact ⟨k + 1, by omega, by go_num, by first | rfl | trivial⟩
              case measure => simp [intOf]; omega
            · have g5 : ((pb[k].toNat : Int) == 37) = false := by rw [beq_eq_false_iff_ne]; exact h37
              clear h37
              go_wp2
              go_roundw
              case rel => exact ⟨k + 1, by omega, by go_num, by first | rfl | trivial⟩
              case measure => simp [intOf]; omega
          · go_wp2
            go_ret
            exact ⟨rfl, hB⟩
end Go.Proofs.YtmlmgpphkiikaaaDoor
