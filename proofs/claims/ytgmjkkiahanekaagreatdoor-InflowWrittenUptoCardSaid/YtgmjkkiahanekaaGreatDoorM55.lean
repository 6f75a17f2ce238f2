/- The texts InWr in one. -/
import Derived.Test.YtgmjkkiahanekaaGreatDoorM35
import Derived.Test.YtgmjkkiahanekaaGreatDoorM39
import Derived.Test.YtgmjkkiahanekaaGreatDoorM50
import Derived.Test.YtgmjkkiahanekaaGreatDoorM54
import Derived.Test.YtgmjkkiahanekaaGreatDoorM6
import Derived.Deep.DeepCutAuto
/- The walk over InflowWritten. -/
set_option linter.unusedVariables false
set_option linter.unusedSimpArgs false
namespace Go.Proofs.YtgmjkkiahanekaaGreatDoor
open Go.RowKit Lex

theorem chunksH_len (z : Nat) (hz : 0 < z) : ∀ (f : Nat) (r : List UInt8), r.length ≤ f → (chunksF z f r).length ≤ 13 * r.length := by
  intro f
  induction f with
  | zero => intro r h; rw [chunksF]; simp
  | succ f ih =>
    intro r h
    by_cases h0 : r = []
    · subst h0; rw [chunks_nil]; simp
    · have hp := List.length_pos_iff.2 h0
      have := ih (r.drop z) (by rw [List.length_drop]; omega)
      have he := enc11_len (r.take z)
      rw [List.length_take] at he
      rw [List.length_drop] at this
      rw [chunksF, if_neg h0, List.length_append]
      omega
theorem wrH_len {me pa body : List UInt8} {size : Int} : (wrL me pa body size).length ≤ me.length + pa.length + 100 + 13 * body.length := by
  by_cases h : size < 1
  · rw [wr_len h]
    have := dig_len 5 body.length
    have h2 := headT_len me pa
    simp only [List.length_append, List.length_cons, List.length_nil, clU] at *
    omega
  · rw [wr_ch h]
    have := chunksH_len size.toNat (by omega) body.length body (Nat.le_refl _)
    have h2 := headT_len me pa
    simp only [List.length_append, List.length_cons, List.length_nil, teU, chV] at *
    omega
theorem wone_len {size : Int} {i : Nat} {b : List UInt8} (hi : i < 40) (hb : b.length ≤ 500) : (wone size i b).length ≤ 7000 := by
  have h1 := wrH_len (me := postW) (pa := pth i) (body := b) (size := kOf size i)
  have h2 := (pth_ok hi).2.2.2.2
  have e1 : postW.length = 4 := rfl
  unfold wone
  omega
theorem wfrom_len (size : Int) : ∀ (l : List (List UInt8)) (i : Nat), i + l.length ≤ 40 → (∀ b ∈ l, b.length ≤ 500) → (wfrom size i l).length ≤ 7000 * l.length
  | [], _, _, _ => Nat.le_refl _
  | b :: l, i, hi, hb => by
    simp only [List.length_cons] at hi
    have h1 := wone_len (size := size) (i := i) (b := b) (by omega) (hb b List.mem_cons_self)
    have h2 := wfrom_len size l (i + 1) (by omega) (fun x hx => hb x (List.mem_cons_of_mem _ hx))
    rw [wfrom, List.length_append, List.length_cons]
    omega
theorem texts_own {w : World} {base : Nat} {v : Value} {l : List (List UInt8)} (h : w.ownsRow base 9 1 v l.length (strs l)) : ∃ A c, v = .slice A l.length c ∧ TextsO w A l := by
  rcases h.2 with ⟨h1, h2⟩ | ⟨g, cap, cur, hv, _⟩
  · exact ⟨none, 0, by rw [h1, h2], fun j hj => by omega⟩
  · refine ⟨_, cap, hv, fun j hj => ⟨g, 0, rfl, ?_⟩⟩
    have := h.cells (g := g) (by rw [hv]; rfl) j (.string (bs l[j])) (by unfold strs; rw [List.getElem?_map, List.getElem?_eq_getElem hj]; rfl)
    rwa [Addr.add_mid] at this
theorem keep5w {w w' : World} {a0 a1 a2 a3 a4 : Addr} {v0 v1 v2 v3 v4 : Value} (h : w.cell? a0 = some v0 ∧ w.cell? a1 = some v1 ∧ w.cell? a2 = some v2 ∧ w.cell? a3 = some v3 ∧ w.cell? a4 = some v4) (hb : Below w.heap.size w w') :
    w'.cell? a0 = some v0 ∧ w'.cell? a1 = some v1 ∧ w'.cell? a2 = some v2 ∧ w'.cell? a3 = some v3 ∧ w'.cell? a4 = some v4 :=
  ⟨cell_below hb h.1, cell_below hb h.2.1, cell_below hb h.2.2.1, cell_below hb h.2.2.2.1, cell_below hb h.2.2.2.2⟩
theorem ones1S (s : ByteArray) : ∀ u ∈ [Value.string s], u.oneCell' = true := by
  intro u hu
  rw [List.mem_singleton] at hu
  subst hu
  rfl
theorem strs_app (a b : List (List UInt8)) : strs (a ++ b) = strs a ++ strs b := by unfold strs; rw [List.map_append]
set_option maxRecDepth 100000 in
set_option maxHeartbeats 8000000 in
theorem written_walk {W : World} (A : Option Addr) (cap : Nat) (l : List (List UInt8)) (hT : TextsO W A l) (hl : l.length ≤ 1048576) (hs : l.flatten.length ≤ 1048576) (size : Int) (hsw : (Lit.int .i64 size).wf = true) (cut : Int) (hcw : (Lit.int .i64 cut).wf = true) (M : Int) (W2 : World) (hW : W2 = W) (hm : W2.cell? ⟨0, 0, none⟩ = some (.int .i64 M)) :
    Calls Tryz.prog 8 #[.slice A l.length cap, .int .i64 size, .int .i64 cut] W2 fun e w' => e = .returned (.bool true) ∧ Below W2.heap.size W2 w' := by
  subst hW
  have AN := Lib.hid (anchor11_c M W2 hm)
  have HM := Lib.hid hm
  have HT := Lib.hid hT
  have hsz : size ≤ 9223372036854775807 := by
    simp [Lit.wf, IntKind.min, IntKind.max, IntKind.signed, IntKind.bits] at hsw
    omega
  have hct : cut ≤ 9223372036854775807 := by
    simp [Lit.wf, IntKind.min, IntKind.max, IntKind.signed, IntKind.bits] at hcw
    omega
  clear hm hsw hcw hT hs
  go_enter Tryz.func8, Tryz.ntmps8
  go_wp2_with fail
  refine AN.out.mono ?_
  rintro e w1 ⟨rfl, hb1⟩
  have B1 := Lib.hid hb1
  clear hb1 AN
  by_cases c1 : cut < 1
  · go_wp2_with fail
    go_ret
    exact ⟨rfl, B1.out⟩
  by_cases c2 : (40 : Int) < (l.length : Int)
  · go_wp2_with fail
    go_ret
    exact ⟨rfl, B1.out⟩
  obtain ⟨c, rfl⟩ : ∃ c : Nat, cut = (c : Int) := ⟨cut.toNat, by omega⟩
  have hl40 : l.length ≤ 40 := by omega
  have hc1 : (1 : Int) ≤ (c : Int) := by omega
  clear c1 c2
  go_wp2_with fail
  go_loopw [7, 30] (fun s i wr => ∃ k : Nat, k ≤ l.length ∧ i = .int .i64 k ∧ s = .string (bs (wfrom size 0 (l.take k))) ∧ (∀ b ∈ l.take k, b.length ≤ 500) ∧ Below W2.heap.size W2 wr) (fun _ i _ => l.length - (intOf i).toNat)
  case atStart => exact ⟨0, Nat.zero_le _, rfl, rfl, fun b hb => by simp at hb, B1.out⟩
  case round =>
    obtain ⟨k, hk, rfl, rfl, hall, hB⟩ := hrel
    have HB := Lib.hid hB
    have HALL := Lib.hid hall
    clear hB hall
    by_cases hlt : k < l.length
    · obtain ⟨g, o, hA, hcl⟩ := HT.out k hlt
      have hcl2 := (HB.out.cell (p := ⟨g, o + k, none⟩) (World.block_lt_of_cell? W2 _ hcl)).trans hcl
      have hsn := wfrom_snoc size (l.take k) 0 l[k]
      have htk : (l.take k).length = k := by rw [List.length_take]; omega
      rw [← List.take_succ_eq_append_getElem hlt, htk, Nat.zero_add] at hsn
      have hlen := wfrom_len size (l.take k) 0 (by rw [htk]; omega) HALL.out
      rw [htk] at hlen
      obtain ⟨b, hb⟩ : ∃ b, l[k] = b := ⟨_, rfl⟩
      rw [hb] at hcl2 hsn
      have HSN := Lib.hid hsn
      have HBE := Lib.hid hb
      have HK := Lib.hid hlt
      have hbz : (bs b).size = b.length := bs_size b
      have k0 : (0 : Int) ≤ (k : Int) := by omega
      have k1 : (k : Int) < (l.length : Int) := by omega
      subst hA
      clear hcl hsn hb
      by_cases hbig : (500 : Int) < (b.length : Int)
      · go_wp2_with fail
        go_ret
        exact ⟨rfl, HB.out⟩
      have hbl : b.length ≤ 500 := by omega
      obtain ⟨X, hX⟩ : ∃ X, wfrom size 0 (l.take k) = X := ⟨_, rfl⟩
      rw [hX] at hlen HSN
      rw [hX]
      have hXz : X.length ≤ 280000 := by omega
      have DG := fun w => Lib.hid (digits11_c 5 k w (by decide) (by omega) (by omega))
      have hdz : (digF 5 k).length ≤ 6 := dig_len 5 k
      have EP : Hid (⟨#[47, 112]⟩ ++ bs (digF 5 k) = bs (pth k)) := Lib.hid (bs_cat [47, 112] (digF 5 k))
      have hpl := (pth_ok (i := k) (by omega)).2.2.2.2
      have WR := fun w => Lib.hid (written_c (bs postW) (bs (pth k)) (bs b) (kOf size k) w (by decide) (by rw [bs_size]; omega) (by rw [bs_size]; omega) (by unfold kOf; split <;> omega))
      simp only [bs_list] at WR
      have hwl := wone_len (size := size) (i := k) (b := b) (by omega) hbl
      unfold wone at hwl HSN
      obtain ⟨Y, hY⟩ : ∃ Y, wrL postW (pth k) b (kOf size k) = Y := ⟨_, rfl⟩
      rw [hY] at hwl HSN
      simp only [hY] at WR
      have hYz : Y.length ≤ 7000 := hwl
      have EXY := Lib.hid (bs_cat X Y)
      have HALL2 : Hid (∀ b ∈ l.take (k + 1), b.length ≤ 500) := Lib.hid (fun x hx => by
        rw [List.take_succ_eq_append_getElem HK.out] at hx
        rcases List.mem_append.1 hx with h | h
        · exact HALL.out x h
        · rw [List.mem_singleton] at h; rw [h, HBE.out]; exact hbl)
      have hmod : (k : Int).tmod 2 = ((k % 2 : Nat) : Int) := by rw [Int.tmod_eq_emod_of_nonneg (by omega)]; omega
      clear hX hlen hpl hY hwl hbl
      by_cases hodd : k % 2 = 1
      · have hk1 : kOf size k = 0 := by unfold kOf; rw [if_pos hodd]
        rw [hk1] at WR
        have hq : (k : Int).tmod 2 = 1 := by rw [hmod, hodd]; rfl
        clear hmod hodd hk1
        go_wp2_with fail
        refine (DG _).out.mono ?_
        rintro e w4 ⟨rfl, hb4⟩
        have B4 := Lib.hid (below_then HB.out hb4)
        clear hb4
        go_wp2_with fail
        rw [EP.out, show (⟨#[80, 79, 83, 84]⟩ : ByteArray) = bs postW from rfl]
        refine (WR _).out.mono ?_
        rintro e w5 ⟨rfl, hb5⟩
        have B5 := Lib.hid (below_then B4.out hb5)
        clear hb5
        go_wp2_with fail
        go_roundw
        case rel => exact ⟨k + 1, HK.out, by go_num, by rw [EXY.out, HSN.out], HALL2.out, B5.out⟩
        case measure =>
          have := HK.out
          simp [intOf]; omega
      · have hk1 : kOf size k = size := by unfold kOf; rw [if_neg hodd]
        rw [hk1] at WR
        have hq : (k : Int).tmod 2 = 0 := by rw [hmod, show k % 2 = 0 by omega]; rfl
        clear hmod hodd hk1
        go_wp2_with fail
        refine (DG _).out.mono ?_
        rintro e w4 ⟨rfl, hb4⟩
        have B4 := Lib.hid (below_then HB.out hb4)
        clear hb4
        go_wp2_with fail
        rw [EP.out, show (⟨#[80, 79, 83, 84]⟩ : ByteArray) = bs postW from rfl]
        refine (WR _).out.mono ?_
        rintro e w5 ⟨rfl, hb5⟩
        have B5 := Lib.hid (below_then B4.out hb5)
        clear hb5
        go_wp2_with fail
        go_roundw
        case rel => exact ⟨k + 1, HK.out, by go_num, by rw [EXY.out, HSN.out], HALL2.out, B5.out⟩
        case measure =>
          have := HK.out
          simp [intOf]; omega
    · obtain rfl : k = l.length := by omega
      rw [List.take_length]
      have hall := HALL.out
      rw [List.take_length] at hall
      obtain ⟨qs, q1, q2, q3⟩ := wfrom_docs size l 0 (by omega) hall
      have hlen := wfrom_len size l 0 (by omega) hall
      obtain ⟨S, hS⟩ : ∃ S, wfrom size 0 l = S := ⟨_, rfl⟩
      rw [hS] at q1 hlen ⊢
      have hSz : (bs S).size = S.length := bs_size S
      have Q1 := Lib.hid q1
      have Q2 := Lib.hid q2
      have Q3 := Lib.hid q3
      clear q1 q2 q3 hS hall HALL
      have hc0 : ((c : Int) == 0) = false := by rw [beq_eq_false_iff_ne]; omega
      go_upto_if 55 with fail
      go_cut [] (fun wx => wx = wr)
      case first =>
        go_wp2_with fail
        all_goals first
          | (go_ret
             exact ⟨rfl, HB.out⟩)
          | (go_meet
             exact rfl)
      case rest =>
        have hwc' := hcut.symm
        subst hwc'
        clear hcut
        obtain ⟨i0, hi, hz0, hz1, hz2⟩ := info_parts info_str
        go_wp2_with fail
        go_loopw [11, 12] (fun v r wx => ∃ (ps : List (List UInt8)) (R : List UInt8), r = .string (bs R) ∧ ps.flatten ++ R = S ∧ wx.ownsRow W2.heap.size 9 1 v ps.length (strs ps) ∧ ps.length + R.length ≤ S.length ∧ Below W2.heap.size W2 wx) (fun _ r _ => match r with | .string x => x.size | _ => 0)
        case atStart => exact ⟨[], S, rfl, rfl, World.ownsRow_nil _ _ _ _, by simp, HB.out⟩
        case round =>
          obtain ⟨ps, R, rfl, hcat, hov, hln, hbr⟩ := hrel
          obtain ⟨Av, cv, rfl⟩ := own_form hov
          have OV := Lib.hid hov
          have HBR := Lib.hid hbr
          have HCT := Lib.hid hcat
          clear hov hbr hcat
          have hRz : (bs R).size = R.length := bs_size R
          by_cases h0 : R = []
          · subst h0
            have hfl : ps.flatten = S := by have := HCT.out; rwa [List.append_nil] at this
            obtain ⟨A', c', he, hTp⟩ := texts_own OV.out
            injection he with h1 _ h2
            subst h1 h2
            have hql : qs.length = l.length := Q2.out
            have RD := read_c 1000 (by decide) Av cv ps M wr hTp (by rw [hfl]; omega) (by simp at hln; omega) (by rw [hfl, Q1.out]; show qs.length ≤ 5000; omega) (cell_below HBR.out HM.out)
            rw [hfl, Q1.out] at RD
            have RDD := Lib.hid RD
            have hqn : ((qs.length : Int) != (l.length : Int)) = false := by rw [hql, bne_self_eq_false]
            have HQL := Lib.hid hql
            have hq40 : qs.length ≤ 40 := by omega
            clear RD hfl hTp hql hRz
            go_wp2_with fail
            refine RDD.out.mono ?_
            rintro e w6 ⟨v, As, rfl, ho, hb6⟩
            have B6 := Lib.hid (below_then HBR.out hb6)
            obtain ⟨Ao, co, rfl⟩ := own_form ho.own
            have O6 := Lib.hid ho
            clear ho hb6 RDD
            go_wp2_with fail
            go_loopw [93] (fun i wx => ∃ k : Nat, k ≤ qs.length ∧ i = .int .i64 k ∧ Below W2.heap.size W2 wx ∧ Below w6.heap.size w6 wx) (fun i _ => qs.length - (intOf i).toNat)
            case atStart => exact ⟨0, Nat.zero_le _, rfl, B6.out, Below.refl _ _⟩
            case round =>
              obtain ⟨k, hk, rfl, hbx, hbx'⟩ := hrel
              have BX := Lib.hid hbx
              have BX' := Lib.hid hbx'
              by_cases hlt : k < qs.length
              · have hka : k < As.length := by rw [O6.out.len]; exact hlt
                have hkl : k < l.length := by rw [← HQL.out]; exact hlt
                obtain ⟨g', cap', hv, hrg⟩ := (O6.out.more hbx').range hlt hka
                injection hv with hv1 _ hv2
                subst hv1 hv2
                obtain ⟨w1', w2', w3', w4'⟩ := Q3.out k hkl hlt
                rw [Nat.zero_add] at w3'
                obtain ⟨g, o, hA, hcl⟩ := HT.out k hkl
                have hcl2 := (hbx.cell (p := ⟨g, o + k, none⟩) (World.block_lt_of_cell? W2 _ hcl)).trans hcl
                have HK := Lib.hid hlt
                have RG := Lib.hid hrg
                generalize As[k] = a at *
                obtain ⟨Aq, cq⟩ := a
                simp only at RG
                obtain ⟨b, hb⟩ : ∃ b, l[k] = b := ⟨_, rfl⟩
                rw [hb] at hcl2 w1'
                generalize qs[k] = q at *
                obtain ⟨V1, hV1⟩ : ∃ V1, wr.alloc (.cells #[.string ⟨#[]⟩, .string ⟨#[]⟩, .int .i64 0, .string ⟨#[]⟩, .int .i64 0, .slice none 0 0, .int .i64 0, .string ⟨#[]⟩, .int .i64 0, .string ⟨#[]⟩, .string ⟨#[]⟩, .bool false, .string ⟨#[]⟩, .int .i64 0, .string ⟨#[]⟩, .bool false, .bool false, .string ⟨#[]⟩] 46) = V1 := ⟨_, rfl⟩
                obtain ⟨V, hV⟩ : ∃ V, V1.setCells wr.heap.size 0 (rqVs q Aq cq) = V := ⟨_, rfl⟩
                obtain ⟨th, xb, bV, hVz⟩ := newq_facts wr _ q Aq cq hV1 hV
                have TH := Lib.hid th
                have HV1 := Lib.hid hV1
                have HV := Lib.hid hV
                have EP : bs (pth k) = ⟨#[47, 112]⟩ ++ bs (digF 5 k) := (bs_cat [47, 112] (digF 5 k)).symm
                have m14 : V.cell? ⟨wr.heap.size, 14, none⟩ = some (.string (bs q.body)) := xb.c 14 _ rfl
                have m15 : V.cell? ⟨wr.heap.size, 15, none⟩ = some (.bool q.sized) := xb.c 15 _ rfl
                have m9 : V.cell? ⟨wr.heap.size, 9, none⟩ = some (.string (bs q.tg.path)) := xb.c 9 _ rfl
                have m0 : V.cell? ⟨wr.heap.size, 0, none⟩ = some (.string (bs q.head.method)) := xb.c 0 _ rfl
                rw [w1'] at m14
                rw [w2'] at m15
                rw [w3', EP] at m9
                rw [w4', show bs postW = ⟨#[80, 79, 83, 84]⟩ from rfl] at m0
                have QQ := Lib.hid (And.intro m14 (And.intro m15 (And.intro m9 (And.intro m0 (cell_below bV hcl2)))))
                have BV := Lib.hid (below_then BX.out bV)
                have BV' := Lib.hid (below_then BX'.out bV)
                have DG := fun w => Lib.hid (digits11_c 5 k w (by decide) (by omega) (by omega))
                have hdz : (digF 5 k).length ≤ 6 := dig_len 5 k
                obtain ⟨Dk, hDk⟩ : ∃ Dk, bs (digF 5 k) = Dk := ⟨_, rfl⟩
                have hszD : (⟨#[47, 112]⟩ : ByteArray).size + Dk.size ≤ 1048576 := by
                  have h1 : Dk.size ≤ 6 := by rw [← hDk, bs_size]; exact hdz
                  have h2 : (⟨#[47, 112]⟩ : ByteArray).size = 2 := rfl
                  omega
                have hszE : Dk.size ≤ 6 := by rw [← hDk, bs_size]; exact hdz
                have hadd : ∀ w : World, (Op.stringOp .add (⟨#[47, 112]⟩ : ByteArray) Dk).run Tryz.prog w = .ok (.string ((⟨#[47, 112]⟩ : ByteArray) ++ Dk)) w := fun w => run_string_add_sum w _ _ (by omega)
                rw [hDk] at QQ
                simp only [hDk] at DG
                have k0 : (0 : Int) ≤ (k : Int) := by omega
                have k1 : (k : Int) < (qs.length : Int) := by omega
                have k2 : (k : Int) < (l.length : Int) := by omega
                have ql : qs.length ≤ 40 := hq40
                subst hA
                clear hrg hcl hcl2 hb th xb bV hVz hV hV1 m14 m15 m9 m0 w1' w2' w3' w4' EP hbx hbx'
                go_upto_region 30 with (first | (refine wpList_store_mid rfl 46 (.tmp 18) (.tmp 97) rfl wr.heap.size 0 (rqVs q Aq cq).toArray rfl rfl (by rw [HV1.out]; exact TH.out) info_rq (one_rq q Aq cq) ?_; rw [HV1.out, HV.out]; try simp only [Act.put]) | (refine wpList_load_mid rfl 46 (.tmp 96) rfl g' (k * 18) rfl (rqVs q Aq cq) _ RG.out Tryz.underlying46 rfl info_rq ?_; simp only [Act.put]))
                clear HV HV1 TH RG hdz hDk
                go_region_held3 (fun w' => w'.cell? ⟨wr.heap.size, 14, none⟩ = some (.string (bs b)) ∧ w'.cell? ⟨wr.heap.size, 15, none⟩ = some (.bool true) ∧ w'.cell? ⟨wr.heap.size, 9, none⟩ = some (.string (⟨#[47, 112]⟩ ++ Dk)) ∧ w'.cell? ⟨wr.heap.size, 0, none⟩ = some (.string ⟨#[80, 79, 83, 84]⟩) ∧ w'.cell? ⟨g, o + k, none⟩ = some (.string (bs b)))
                  (first | assumption | exact keep5w QQ.out (Below.drew (Below.refl _ _)) | exact keep5w QQ.out hb8)
                  (first | (go_at_call 28; refine (DG _).out.mono ?_; rintro e8 w8 ⟨rfl, hb8'⟩; have hb8 : Below V.heap.size V w8 := below_then (Below.drew (Below.refl _ _)) hb8'))
                all_goals
                  go_wp2_with fail
                  go_roundw
                  case rel => exact ⟨k + 1, HK.out, by go_num, below_then BV.out hb8, below_then BV'.out hb8⟩
                  case measure =>
                    have := HK.out
                    simp [intOf]; omega
              · obtain rfl : k = qs.length := by omega
                go_wp2_with fail
                go_ret
                exact ⟨rfl, BX.out⟩
          · have hie : R.isEmpty = false := by
              cases hR : R with
              | nil => exact absurd hR h0
              | cons a b => rfl
            have hp : 0 < R.length := List.length_pos_iff.2 h0
            have HCAT : Hid ((ps ++ [R.take c]).flatten ++ R.drop c = S) := Lib.hid (by
              rw [List.flatten_append, List.flatten_cons, List.flatten_nil, List.append_nil, List.append_assoc, List.take_append_drop]; exact HCT.out)
            have HLN : Hid ((ps ++ [R.take c]).length + (R.drop c).length ≤ S.length) := Lib.hid (by rw [List.length_append, List.length_drop, List.length_singleton]; omega)
            have HMS : Hid ((bs (R.drop c)).size < (bs R).size) := Lib.hid (by rw [bs_size, bs_size, List.length_drop]; omega)
            clear h0
            by_cases hzl : c ≤ R.length
            · have hzi : (c : Int) ≤ (R.length : Int) := by omega
              have hzm : min (c : Int) (R.length : Int) = (c : Int) := by omega
              have hxe : (bs R).extract 0 c = bs (R.take c) := bs_takex R c
              have hxd : (bs R).extract c R.length = bs (R.drop c) := bs_dropx R c
              have HXE := Lib.hid hxe
              have HXD := Lib.hid hxd
              clear hxe hxd
              go_wp2_with (first | (rw [HXE.out]; fail) | (at_builtin; refine wpList_append_own_at _ rfl (.tmp 63) (.tmp 67) 33 rfl W2.heap.size 9 i0 (.string ByteArray.empty) 1 16 Tryz.underlying33 hi hz0 hz1 hz2 rfl (by decide) _ ps.length _ rfl (OV.out.alloc _) ⟨wr.heap.size, 0, none⟩ 1 1 [.string ((bs R).extract 0 c)] rfl rfl (cell_one_new _ _ _) (ones1S _) (by unfold maxLen; omega) (by omega) (by simp; have := HBR.out.size; omega) ?_; intro v' w5 hown' hgrow _ _; rw [HXE.out, show [Value.string (bs (R.take c))] = strs [R.take c] from rfl, ← strs_app, show ps.length + 1 = (ps ++ [R.take c]).length from by simp] at hown'; have OV5 := Lib.hid hown'; have B5 := Lib.hid (below_app HBR.out HBR.out.size OV.out hgrow); clear hown' hgrow))
              go_roundw
              case rel => exact ⟨ps ++ [R.take c], R.drop c, by rw [HXD.out], HCAT.out, OV5.out, HLN.out, B5.out⟩
              case measure =>
                rw [HXD.out]
                exact HMS.out
            · have hzi : ¬ (c : Int) ≤ (R.length : Int) := by omega
              have hzm : min (c : Int) (R.length : Int) = (R.length : Int) := by omega
              have hxe : (bs R).extract 0 R.length = bs (R.take c) := by rw [bs_takex, List.take_of_length_le (Nat.le_refl _), List.take_of_length_le (by omega)]
              have hxd : ByteArray.empty = bs (R.drop c) := by rw [List.drop_of_length_le (by omega)]; rfl
              have HXE := Lib.hid hxe
              have HXD := Lib.hid hxd
              clear hxe hxd
              go_wp2_with (first | (rw [HXE.out]; fail) | (at_builtin; refine wpList_append_own_at _ rfl (.tmp 63) (.tmp 67) 33 rfl W2.heap.size 9 i0 (.string ByteArray.empty) 1 16 Tryz.underlying33 hi hz0 hz1 hz2 rfl (by decide) _ ps.length _ rfl (OV.out.alloc _) ⟨wr.heap.size, 0, none⟩ 1 1 [.string ((bs R).extract 0 R.length)] rfl rfl (cell_one_new _ _ _) (ones1S _) (by unfold maxLen; omega) (by omega) (by simp; have := HBR.out.size; omega) ?_; intro v' w5 hown' hgrow _ _; rw [HXE.out, show [Value.string (bs (R.take c))] = strs [R.take c] from rfl, ← strs_app, show ps.length + 1 = (ps ++ [R.take c]).length from by simp] at hown'; have OV5 := Lib.hid hown'; have B5 := Lib.hid (below_app HBR.out HBR.out.size OV.out hgrow); clear hown' hgrow))
              go_roundw
              case rel => exact ⟨ps ++ [R.take c], R.drop c, by rw [HXD.out], HCAT.out, OV5.out, HLN.out, B5.out⟩
              case measure =>
                rw [HXD.out]
                exact HMS.out
end Go.Proofs.YtgmjkkiahanekaaGreatDoor

