/- The texts InY in one. -/
import Derived.Test.YtgmjkkiahanekaaGreatDoorM35
import Derived.Test.YtgmjkkiahanekaaGreatDoorM39
import Derived.Test.YtgmjkkiahanekaaGreatDoorM41
import Derived.Test.YtgmjkkiahanekaaGreatDoorM44
import Derived.Deep.DeepCutAuto
/- The walk over InflowWhole. -/
set_option linter.unusedVariables false
set_option linter.unusedSimpArgs false
namespace Go.Proofs.YtgmjkkiahanekaaGreatDoor
open Go.RowKit Lex

theorem docs_fb (m : Int) {s : List UInt8} {q : Rq} (hq : q ∈ (docs m s).1) : FB q.head.fields ∧ 0 ≤ q.head.minor := by
  obtain ⟨s', n, e, h⟩ := docs_mem m _ s (Nat.lt_succ_self _) q hq
  obtain ⟨b, hb⟩ := doc_head h
  rw [hb]
  exact ⟨start_fb b, readL_minor b⟩
theorem wf_range {n : Int} (h : (Lit.int .i64 n).wf = true) : -9223372036854775808 ≤ n ∧ n ≤ 9223372036854775807 := by
  simp [Lit.wf, IntKind.min, IntKind.max, IntKind.signed, IntKind.bits] at h
  omega
set_option maxRecDepth 100000 in
set_option maxHeartbeats 8000000 in
theorem whole_walk {W : World} (m : Int) (hmw : (Lit.int .i64 m).wf = true) (s : ByteArray) (hs : s.size ≤ 1048576) (M : Int) (W2 : World) (hW : W2 = W) (hm : W2.cell? ⟨0, 0, none⟩ = some (.int .i64 M)) :
    Calls Tryz.prog 6 #[.int .i64 m, .string s] W2 fun e w' => e = .returned (.bool true) ∧ Below W2.heap.size W2 w' := by
  subst hW
  have hmb : -9223372036854775808 ≤ m ∧ m ≤ 9223372036854775807 := wf_range hmw
  have AN := Lib.hid (anchor11_c M W2 hm)
  have HM := Lib.hid hm
  clear hm hmw
  by_cases hbig : 20000 < s.size
  · have hi : (20000 : Int) < (s.size : Int) := by omega
    go_enter Tryz.func6, Tryz.ntmps6
    go_wp2_with fail
    refine AN.out.mono ?_
    rintro e w1 ⟨rfl, hb1⟩
    have B1 := Lib.hid hb1
    clear hb1
    go_wp2
    go_ret
    exact ⟨rfl, B1.out⟩
  have hi : ¬ (20000 : Int) < (s.size : Int) := by omega
  have hsl : s.data.toList.length ≤ 20000 := by rw [size_list]; omega
  have RD := fun A w hT hm0 => Lib.hid (read_c m hmb A 1 [s.data.toList] M w hT (by simp; omega) (by simp) (by
    have := docs_count m _ [s.data.toList].flatten (Nat.lt_succ_self _)
    simp at this ⊢
    omega) hm0)
  have hfl : [s.data.toList].flatten = s.data.toList := by simp
  rw [hfl] at RD
  have WQ := Lib.hid (fun q hq => @docs_whole m hmb s.data.toList q hq)
  have FQ := Lib.hid (fun q hq => @docs_fb m s.data.toList q hq)
  have TX := fun w => Lib.hid (texts_one w s 9)
  have hll : (docs m s.data.toList).1.length ≤ 20000 := by
    have := docs_count m _ s.data.toList (Nat.lt_succ_self _)
    omega
  generalize docs m s.data.toList = X at *
  obtain ⟨l, bf, st⟩ := X
  simp only at RD WQ FQ hll
  have RDD := Lib.hid RD
  clear RD hfl hsl hbig
  go_enter Tryz.func6, Tryz.ntmps6
  go_wp2_with fail
  refine AN.out.mono ?_
  rintro e w1 ⟨rfl, hb1⟩
  have B2 := Lib.hid (hb1.alloc hb1.size (.cells #[.string s] 9))
  have M2 := Lib.hid (cell_below B2.out HM.out)
  have T2 := Lib.hid (TX w1).out
  clear hb1 AN
  go_wp2_with fail
  refine (RDD.out _ _ T2.out M2.out).out.mono ?_
  rintro e w3 ⟨v, As, rfl, ho, hb3⟩
  have B3 := Lib.hid (below_then B2.out hb3)
  obtain ⟨Ao, co, rfl⟩ := own_form ho.own
  have O3 := Lib.hid ho
  clear ho hb3 RDD T2 M2 B2 TX
  go_wp2_with fail
  go_loopw [32] (fun i wr => ∃ k : Nat, k ≤ l.length ∧ i = .int .i64 k ∧ Below W2.heap.size W2 wr ∧ Below w3.heap.size w3 wr) (fun i _ => l.length - (intOf i).toNat)
  case atStart => exact ⟨0, Nat.zero_le _, rfl, B3.out, Below.refl _ _⟩
  case round =>
    obtain ⟨k, hk, rfl, hb, hb'⟩ := hrel
    have BR := Lib.hid hb
    by_cases hlt : k < l.length
    · have hka : k < As.length := by rw [O3.out.len]; exact hlt
      have OR := O3.out.more hb'
      obtain ⟨g, cap, hv, hrg⟩ := OR.range hlt hka
      injection hv with hv1 _ hv2
      subst hv1 hv2
      have hfl := OR.fl k hlt hka
      have hw := WQ.out l[k] (List.getElem_mem hlt)
      have hfq := FQ.out l[k] (List.getElem_mem hlt)
      have RG := Lib.hid hrg
      generalize As[k] = a at *
      obtain ⟨A, c⟩ := a
      simp only at RG hfl
      generalize l[k] = q at *
      have FL := Lib.hid hfl
      have WW := Lib.hid hw
      have FF := Lib.hid hfq
      have k0 : (0 : Int) ≤ (k : Int) := by omega
      have k1 : (k : Int) < (l.length : Int) := by omega
      have HK := Lib.hid hlt
      obtain ⟨V1, hV1⟩ : ∃ V1, wr.alloc (.cells #[.string ⟨#[]⟩, .string ⟨#[]⟩, .int .i64 0, .string ⟨#[]⟩, .int .i64 0, .slice none 0 0, .int .i64 0, .string ⟨#[]⟩, .int .i64 0, .string ⟨#[]⟩, .string ⟨#[]⟩, .bool false, .string ⟨#[]⟩, .int .i64 0, .string ⟨#[]⟩, .bool false, .bool false, .string ⟨#[]⟩] 46) = V1 := ⟨_, rfl⟩
      obtain ⟨V, hV⟩ : ∃ V, V1.setCells wr.heap.size 0 (rqVs q A c) = V := ⟨_, rfl⟩
      obtain ⟨th, xb, bV, hVz⟩ := newq_facts wr _ q A c hV1 hV
      have TH := Lib.hid th
      have X1 := Lib.hid xb
      have HV1 := Lib.hid hV1
      have HV := Lib.hid hV
      have BV := Lib.hid (below_then BR.out bV)
      have BV' := Lib.hid (below_then hb' bV)
      have FV := Lib.hid (hfl.below bV)
      have hzV : wr.heap.size < V.heap.size := xb.lt
      clear hb hb' hrg hfl hw hfq OR hV hV1 th xb bV hVz
      go_upto_region 11 with (first | (refine wpList_store_mid rfl 46 (.tmp 9) (.tmp 35) rfl wr.heap.size 0 (rqVs q A c).toArray rfl rfl (by rw [HV1.out]; exact TH.out) info_rq (one_rq q A c) ?_; rw [HV1.out, HV.out]; try simp only [Act.put]) | (refine wpList_load_mid rfl 46 (.tmp 34) rfl g (k * 18) rfl (rqVs q A c) _ RG.out Tryz.underlying46 rfl info_rq ?_; simp only [Act.put]))
      have d0 := X1.out.c 0 _ rfl
      have d1 := X1.out.c 1 _ rfl
      have d2 := X1.out.c 2 _ rfl
      have d3 := X1.out.c 3 _ rfl
      have d4 := X1.out.c 4 _ rfl
      have d5 := X1.out.c 5 _ rfl
      have RS := Lib.hid (rrequest_c (bs q.head.method) (bs q.head.target) q.head.status (bs q.head.reason) q.head.minor A c q.head.fields m V FF.out.1 FV.out)
      obtain ⟨q1, q2, q3, q4, q5, q6, q7, q8⟩ := WW.out
      obtain ⟨y, hy⟩ : ∃ y, reqF q.head.minor q.head.fields m = y := ⟨_, rfl⟩
      rw [hy] at RS q1 q2 q3 q4
      obtain ⟨kd, ln, fe⟩ := y
      simp only [hv, fr3] at RS q1 q2 q3 q4
      subst q1
      have Q2 := Lib.hid q2
      have Q3 := Lib.hid q3
      have Q4 := Lib.hid q4
      have Q5 := Lib.hid q5
      have Q6 := Lib.hid q6
      have Q7 := Lib.hid q7
      have Q8 := Lib.hid q8
      clear hy q2 q3 q4 q5 q6 q7 q8
      go_wp2_with fail
      refine RS.out.mono ?_
      rintro e4 w4 ⟨rfl, hb4⟩
      have X4 := Lib.hid (X1.out.below hzV hb4)
      have B4 := Lib.hid (below_then BV.out hb4)
      have B4' := Lib.hid (below_then BV'.out hb4)
      have F4 := Lib.hid (FV.out.below hb4)
      clear hb4 RS d0 d1 d2 d3 d4 d5 X1 FV BV BV'
      have m14 : w4.cell? ⟨wr.heap.size, 14, none⟩ = some (.string (bs q.body)) := X4.out.c 14 _ rfl
      have m15 : w4.cell? ⟨wr.heap.size, 15, none⟩ = some (.bool q.sized) := X4.out.c 15 _ rfl
      go_upto_region 12 with fail
      go_cut [85] (fun t wx => t = .bool false ∧ wx = w4)
      case first =>
        rw [Q2.out] at m15
        by_cases h1 : kd = 1
        · subst h1
          rw [Q4.out rfl] at m14
          rw [show decide ((1 : Int) ≠ 1) = false from rfl] at m15
          by_cases hneg : m < 0
          · go_wp2_with fail
            go_meet
            exact ⟨by first | rfl | simp, rfl⟩
          · go_wp2_with fail
            go_meet
            exact ⟨by first | rfl | simp, rfl⟩
        · have k1 : (kd == 1) = false := by rw [beq_eq_false_iff_ne]; exact h1
          have k1' : (kd != 1) = true := by rw [bne_iff_ne]; exact h1
          rw [decide_eq_true h1] at m15
          by_cases hmb : m < (q.body.length : Int)
          · have hnil : q.body = [] := List.eq_nil_of_length_eq_zero (by have h5 := Q5.out; omega)
            have h3 := Q3.out
            rw [hnil] at m14 h3
            by_cases h2 : kd = 2
            · have h0 : ((0 : Nat) : Int) = ln := h3 h2
              have h0' : ln = 0 := h0.symm
              subst h2 h0'
              clear h3 h0 h1 hmb hnil
              by_cases hneg : m < 0
              · go_wp2_with fail
                go_meet
                exact ⟨by first | rfl | simp, rfl⟩
              · go_wp2_with fail
                go_meet
                exact ⟨by first | rfl | simp, rfl⟩
            · have k2 : (kd == 2) = false := by rw [beq_eq_false_iff_ne]; exact h2
              clear h3 hmb hnil
              by_cases hneg : m < 0
              · go_wp2_with fail
                go_meet
                exact ⟨by first | rfl | simp, rfl⟩
              · go_wp2_with fail
                go_meet
                exact ⟨by first | rfl | simp, rfl⟩
          · have hbz : (bs q.body).size = q.body.length := bs_size _
            have h3 := Q3.out
            generalize bs q.body = bd at *
            generalize q.body.length = bn at *
            have a1 : ¬ m < (bd.size : Int) := by rw [hbz]; exact hmb
            have HBZ := Lib.hid hbz
            clear hbz hmb
            by_cases h2 : kd = 2
            · have kl : ((bd.size : Int) != ln) = false := by rw [HBZ.out, bne_eq_false_iff_eq]; exact h3 h2
              subst h2
              clear h3 h1
              go_wp2_with fail
              go_meet
              exact ⟨by first | rfl | simp, rfl⟩
            · have k2 : (kd == 2) = false := by rw [beq_eq_false_iff_ne]; exact h2
              clear h3
              go_wp2_with fail
              go_meet
              exact ⟨by first | rfl | simp, rfl⟩
      case rest =>
        obtain ⟨rfl, hwc⟩ := hcut
        have hwc' := hwc.symm
        subst hwc'
        clear m14 hwc
        have m4 : w4.cell? ⟨wr.heap.size, 4, none⟩ = some (.int .i64 q.head.minor) := X4.out.c 4 _ rfl
        have m12 : w4.cell? ⟨wr.heap.size, 12, none⟩ = some (.string (bs q.host)) := X4.out.c 12 _ rfl
        go_upto_region 14 with fail
        go_cut [94] (fun t wx => t = .bool false ∧ wx = w4)
        case first =>
          by_cases hmi : q.head.minor = 0
          · rw [hmi] at m4
            go_wp2_with fail
            go_meet
            exact ⟨by first | rfl | simp, rfl⟩
          · have hmp : 0 < q.head.minor := by have := FF.out.2; omega
            have hhe : q.host.isEmpty = false := by
              cases hq : q.host with
              | nil => exact absurd hq (Q6.out hmi)
              | cons a b => rfl
            go_wp2_with fail
            go_meet
            exact ⟨by first | rfl | (simp [hhe]), rfl⟩
        case rest =>
          obtain ⟨rfl, hwc⟩ := hcut
          have hwc' := hwc.symm
          subst hwc'
          clear hwc m4 m12 m15
          have m5 : w4.cell? ⟨wr.heap.size, 5, none⟩ = some (.slice A q.head.fields.length c) := X4.out.c 5 _ rfl
          have GX := Lib.hid (rget_c A c q.head.fields ⟨#[69, 120, 112, 101, 99, 116]⟩ w4 (by decide) FF.out.1 F4.out)
          rw [show (⟨#[69, 120, 112, 101, 99, 116]⟩ : ByteArray).data.toList = expectU from rfl, expect_low, Q7.out] at GX
          go_wp2_with fail
          refine GX.out.mono ?_
          rintro e5 w5 ⟨rfl, hb5⟩
          have hz5 : wr.heap.size < w4.heap.size := X4.out.lt
          have X5 := X4.out.below hz5 hb5
          have B5 := Lib.hid (below_then B4.out hb5)
          have B5' := Lib.hid (below_then B4'.out hb5)
          have m0 : w5.cell? ⟨wr.heap.size, 0, none⟩ = some (.string (bs q.head.method)) := X5.c 0 _ rfl
          have m15 : w5.cell? ⟨wr.heap.size, 15, none⟩ = some (.bool q.sized) := X5.c 15 _ rfl
          have m17 : w5.cell? ⟨wr.heap.size, 17, none⟩ = some (.string (bs q.upg)) := X5.c 17 _ rfl
          clear GX hb5 X5 m5
          by_cases hup : q.upg = []
          · rw [hup] at m17
            go_wp2_with fail
            go_roundw
            case rel => exact ⟨k + 1, HK.out, by go_num, B5.out, B5'.out⟩
            case measure =>
                have hk2 := HK.out
                simp [intOf]; omega
          · obtain ⟨hs0, hm0⟩ := Q8.out hup
            have hue : q.upg.isEmpty = false := by
              cases hq : q.upg with
              | nil => exact absurd hq hup
              | cons a b => rfl
            rw [hs0] at m15
            rw [hm0] at m0
            clear hup hs0 hm0
            go_wp2_with fail
            go_roundw
            case rel => exact ⟨k + 1, HK.out, by go_num, B5.out, B5'.out⟩
            case measure =>
                have hk2 := HK.out
                simp [intOf]; omega
    · obtain rfl : k = l.length := by omega
      go_wp2
      go_ret
      exact ⟨rfl, BR.out⟩
end Go.Proofs.YtgmjkkiahanekaaGreatDoor

