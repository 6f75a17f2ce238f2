/- The texts InRs in one. -/
import Derived.Test.YtgmjkkiahanekaaGreatDoorM39
import Derived.Test.YtgmjkkiahanekaaGreatDoorM50
import Derived.Test.YtgmjkkiahanekaaGreatDoorM52
import Derived.Test.YtgmjkkiahanekaaGreatDoorM32
import Derived.Deep.DeepCutAuto
/- The walk over InflowRest. -/
set_option linter.unusedVariables false
set_option linter.unusedSimpArgs false
namespace Go.Proofs.YtgmjkkiahanekaaGreatDoor
open Go.RowKit Lex

theorem next_one {m : Int} {r : In} (hok : r.Ok) (hs : r.status = 0) (hm : r.most = m) {t tail : List UInt8} {q : Rq} (hb : r.buf = t ++ tail) (hd : docR m (t ++ tail) = (some (q, t.length), 0)) :
    ∃ r', nextI r = (q, true, 0, r') ∧ r'.Ok ∧ r'.most = m ∧ r'.buf = tail ∧ r'.status = 0 := by
  obtain ⟨n1, n2, n3⟩ := next_doc hok hs
  rw [hm, hb, hd] at n3
  obtain ⟨a1, a2, a3, a4, a5, a6⟩ := n3
  refine ⟨(nextI r).2.2.2, ?_, n1, n2.trans hm, by rw [a4, hb, List.drop_left], a5⟩
  rw [← a1, ← a2, ← a3]
theorem parse_pa : parseT postM [47, 97] = ({ form := 1, path := [47, 97] }, 0) := by kernel_rfl
theorem parse_pb : parseT postM [47, 98] = ({ form := 1, path := [47, 98] }, 0) := by kernel_rfl
theorem chunksG_len (z : Nat) (hz : 0 < z) : ∀ (f : Nat) (r : List UInt8), r.length ≤ f → (chunksF z f r).length ≤ 13 * r.length := by
  intro f
  induction f with
  | zero => intro r h; rw [chunksF]; simp
  | succ f ih =>
    intro r h
    by_cases h0 : r = []
    · subst h0; rw [chunks_nil]; simp
    · have hp := List.length_pos_iff.2 h0
      have := ih (r.drop z) (by rw [List.length_drop]; omega)
      have he := enc11_len (r.take z)
      rw [List.length_take] at he
      rw [List.length_drop] at this
      rw [chunksF, if_neg h0, List.length_append]
      omega
theorem wrG_len {me pa body : List UInt8} {size : Int} : (wrL me pa body size).length ≤ me.length + pa.length + 100 + 13 * body.length := by
  by_cases h : size < 1
  · rw [wr_len h]
    have := dig_len 5 body.length
    have h2 := headT_len me pa
    simp only [List.length_append, List.length_cons, List.length_nil, clU] at *
    omega
  · rw [wr_ch h]
    have := chunksG_len size.toNat (by omega) body.length body (Nat.le_refl _)
    have h2 := headT_len me pa
    simp only [List.length_append, List.length_cons, List.length_nil, teU, chV] at *
    omega
theorem rq_cells (q : Rq) (A : Option Addr) (c : Nat) : (rqVs q A c)[9]? = some (.string (bs q.tg.path)) ∧ (rqVs q A c)[14]? = some (.string (bs q.body)) := ⟨rfl, rfl⟩
set_option maxRecDepth 100000 in
set_option maxHeartbeats 8000000 in
theorem rest_walk {W : World} (tail : ByteArray) (htl : tail.size ≤ 1048576) (body : ByteArray) (hbd : body.size ≤ 1048576) (size : Int) (hsw : (Lit.int .i64 size).wf = true) (M : Int) (W2 : World) (hW : W2 = W) (hm : W2.cell? ⟨0, 0, none⟩ = some (.int .i64 M)) :
    Calls Tryz.prog 12 #[.string tail, .string body, .int .i64 size] W2 fun e w' => e = .returned (.bool true) ∧ Below W2.heap.size W2 w' := by
  subst hW
  have AN := Lib.hid (anchor11_c M W2 hm)
  have HM := Lib.hid hm
  have hsz : size ≤ 9223372036854775807 := by
    simp [Lit.wf, IntKind.min, IntKind.max, IntKind.signed, IntKind.bits] at hsw
    omega
  clear hm hsw
  go_enter Tryz.func12, Tryz.ntmps12
  go_wp2_with fail
  refine AN.out.mono ?_
  rintro e w1 ⟨rfl, hb1⟩
  have B1 := Lib.hid hb1
  clear hb1 AN
  by_cases c1 : (500 : Int) < (body.size : Int)
  · go_wp2
    go_ret
    exact ⟨rfl, B1.out⟩
  by_cases c2 : (5000 : Int) < (tail.size : Int)
  · go_wp2
    go_ret
    exact ⟨rfl, B1.out⟩
  obtain ⟨T, hT⟩ : ∃ T, tail.data.toList = T := ⟨_, rfl⟩
  obtain ⟨D, hD⟩ : ∃ D, body.data.toList = D := ⟨_, rfl⟩
  obtain rfl : tail = bs T := bytes_ext hT
  obtain rfl : body = bs D := bytes_ext hD
  have hTs : (bs T).size = T.length := bs_size T
  have hDs : (bs D).size = D.length := bs_size D
  have hTl : T.length ≤ 5000 := by omega
  have hDl : D.length ≤ 500 := by omega
  obtain ⟨A1, hA1⟩ : ∃ A1, wrL postM [47, 97] D size = A1 := ⟨_, rfl⟩
  obtain ⟨A2, hA2⟩ : ∃ A2, wrL postM [47, 98] D 0 = A2 := ⟨_, rfl⟩
  have l1 : A1.length ≤ 7000 := by have := wrG_len (me := postM) (pa := [47, 97]) (body := D) (size := size); rw [hA1] at this; have e1 : postM.length = 4 := rfl; have e2 : ([47, 97] : List UInt8).length = 2 := rfl; omega
  have l2 : A2.length ≤ 7000 := by have := wrG_len (me := postM) (pa := [47, 98]) (body := D) (size := 0); rw [hA2] at this; have e1 : postM.length = 4 := rfl; have e2 : ([47, 98] : List UInt8).length = 2 := rfl; omega
  obtain ⟨q1, d1, d2, -⟩ := (wr_doc (me := postM) (t := [47, 97]) (by decide) (by decide) (by decide) (by decide) (by simp) (by decide) parse_pa rfl (body := D) (by omega) 1000 size (by decide) T).1 (by omega)
  obtain ⟨q2, d3, d4, -, d5, -⟩ := (wr_doc (me := postM) (t := [47, 98]) (by decide) (by decide) (by decide) (by decide) (by simp) (by decide) parse_pb rfl (body := D) (by omega) 1000 0 (by decide) []).1 (by omega)
  rw [hA1] at d1
  rw [hA2] at d3
  have WA := fun w => Lib.hid (written_c (bs postM) (bs [47, 97]) (bs D) size w (by decide) (by decide) (by omega) hsz)
  have WB := fun w => Lib.hid (written_c (bs postM) (bs [47, 98]) (bs D) 0 w (by decide) (by decide) (by omega) (by decide))
  simp only [bs_list, hA1, hA2] at WA WB
  have D1 := Lib.hid d1
  have D2 := Lib.hid d2
  have D3 := Lib.hid d3
  have D4 := Lib.hid d4
  have D5 := Lib.hid d5
  have ET := Lib.hid (bs_cat A1 T)
  have NW := Lib.hid (inew_to 1000 (by decide) W2 w1 B1.out)
  clear d1 d2 d3 d4 d5 hA1 hA2 hT hD c1 c2 hbd htl
  go_wp2_with fail
  refine NW.out.mono ?_
  rintro e w2 ⟨rfl, ht2, hz2, hb2⟩
  have T2 := Lib.hid ht2
  clear ht2 hz2 hb2 NW
  go_wp2_with fail
  rw [show (⟨#[80, 79, 83, 84]⟩ : ByteArray) = bs postM from rfl, show (⟨#[47, 97]⟩ : ByteArray) = bs [47, 97] from rfl]
  refine (WA _).out.mono ?_
  rintro e w3 ⟨rfl, hb3⟩
  have T3 := T2.out.more hb3
  have hA1z : (bs A1).size ≤ 7000 := by rw [bs_size]; exact l1
  have FE := Lib.hid (ifeed_to W2 w1.heap.size { most := 1000 } _ (bs (A1 ++ T)) w3 T3 (by decide) (by rw [bs_size, List.length_append]; omega))
  rw [bs_list] at FE
  clear hb3 T3
  go_wp2_with fail
  rw [ET.out]
  refine FE.out.mono ?_
  rintro e w4 ⟨rfl, ht4, ha4, hz4⟩
  obtain ⟨r2, hn, r2o, r2m, r2b, r2s⟩ := next_one (r := feedI { most := 1000 } (A1 ++ T)) (m := 1000) ht4.ok rfl rfl (t := A1) (tail := T) rfl D1.out
  have NX := inext_to W2 w1.heap.size _ _ M w4 ht4 (fun _ => by show ([] ++ (A1 ++ T)).length ≤ _; rw [List.nil_append, List.length_append]; omega) HM.out
  rw [hn] at NX
  simp only [rqV] at NX
  have NXX := Lib.hid NX
  have R2M := Lib.hid r2m
  have R2B := Lib.hid r2b
  have R2S := Lib.hid r2s
  clear NX ht4 ha4 hz4 hn r2o r2m r2b r2s
  go_wp2_with fail
  refine NXX.out.mono ?_
  rintro e w5 ⟨P, c5, F5, rfl, hn⟩
  obtain ⟨V1, hV1⟩ : ∃ V1, w5.alloc (.cells #[.string ⟨#[]⟩, .string ⟨#[]⟩, .int .i64 0, .string ⟨#[]⟩, .int .i64 0, .slice none 0 0, .int .i64 0, .string ⟨#[]⟩, .int .i64 0, .string ⟨#[]⟩, .string ⟨#[]⟩, .bool false, .string ⟨#[]⟩, .int .i64 0, .string ⟨#[]⟩, .bool false, .bool false, .string ⟨#[]⟩] 46) = V1 := ⟨_, rfl⟩
  obtain ⟨V, hV⟩ : ∃ V, V1.setCells w5.heap.size 0 (rqVs q1 P c5) = V := ⟨_, rfl⟩
  obtain ⟨th, xb, bV, hVz⟩ := newq_facts w5 _ q1 P c5 hV1 hV
  have TH := Lib.hid th
  have HV1 := Lib.hid hV1
  have HV := Lib.hid hV
  have tv := hn.rd.more bV
  have TV := Lib.hid tv
  have m14 := xb.c 14 _ (rq_cells q1 P c5).2
  rw [D2.out] at m14
  have LN := Lib.hid (ilen_c w1.heap.size r2 F5 V tv.rd)
  have BG := Lib.hid (ibegun_c w1.heap.size r2 F5 V tv.rd (by rw [R2B.out]; omega))
  have TR := Lib.hid (trimmed_c T V (by omega))
  have RT := Lib.hid (irest_to W2 w1.heap.size r2 F5 V tv)
  rw [R2B.out] at LN BG RT
  rw [begun_trim] at BG
  clear hn bV hV hV1 th xb hVz tv
  go_upto_region 10 with (refine wpList_store_mid rfl 46 (.tmp 8) (.tmp 37) rfl w5.heap.size 0 (rqVs q1 P c5).toArray rfl rfl (by rw [HV1.out]; exact TH.out) info_rq (one_rq q1 P c5) ?_; rw [HV1.out, HV.out]; try simp only [Act.put])
  go_cut [62] (fun s62 wx => s62 = .bool false ∧ wx = V)
  case first =>
    by_cases ht0 : trimL T = []
    · rw [ht0] at BG TR
      rw [show decide (([] : List UInt8) ≠ []) = false from rfl] at BG
      clear ht0
      go_wp2_with fail
      refine LN.out.mono ?_
      rintro e w6 ⟨rfl, rfl⟩
      go_wp2_with fail
      refine BG.out.mono ?_
      rintro e w6 ⟨rfl, rfl⟩
      go_wp2_with fail
      refine TR.out.mono ?_
      rintro e w6 ⟨rfl, rfl⟩
      go_wp2_with fail
      go_meet
      exact ⟨by first | rfl | simp, rfl⟩
    · have hie : (trimL T).isEmpty = false := by
        cases hq : trimL T with
        | nil => exact absurd hq ht0
        | cons a b => rfl
      rw [decide_eq_true ht0] at BG
      clear ht0
      generalize trimL T = Y at *
      go_wp2_with fail
      refine LN.out.mono ?_
      rintro e w6 ⟨rfl, rfl⟩
      go_wp2_with fail
      refine BG.out.mono ?_
      rintro e w6 ⟨rfl, rfl⟩
      go_wp2_with fail
      refine TR.out.mono ?_
      rintro e w6 ⟨rfl, rfl⟩
      go_wp2_with fail
      go_meet
      exact ⟨by first | rfl | simp [hie], rfl⟩
  case rest =>
    obtain ⟨rfl, hwc⟩ := hcut
    have hwc' := hwc.symm
    subst hwc'
    clear hwc m14 LN BG TR
    go_wp2_with fail
    refine RT.out.mono ?_
    rintro e w8 ⟨rfl, ht8, ha8, hz8⟩
    have LN2 := Lib.hid (ilen_c w1.heap.size (restI r2) _ w8 ht8.rd)
    have BG2 := Lib.hid (ibegun_c w1.heap.size (restI r2) _ w8 ht8.rd (Nat.zero_le _))
    have RT2 := Lib.hid (irest_to W2 w1.heap.size (restI r2) _ w8 ht8)
    rw [show begunL (restI r2).buf = false from rfl] at BG2
    rw [show ((restI r2).buf.length : Int) = 0 from rfl] at LN2
    rw [show bs (restI r2).buf = ⟨#[]⟩ from rfl] at RT2
    clear ha8 hz8 ht8
    go_wp2_with fail
    refine LN2.out.mono ?_
    rintro e w9 ⟨rfl, rfl⟩
    go_wp2_with fail
    refine BG2.out.mono ?_
    rintro e w9 ⟨rfl, rfl⟩
    go_wp2_with fail
    refine RT2.out.mono ?_
    rintro e w9 ⟨rfl, ht9, ha9, hz9⟩
    have T9 := Lib.hid ht9
    clear ht9 ha9 hz9
    go_wp2_with fail
    rw [show (⟨#[80, 79, 83, 84]⟩ : ByteArray) = bs postM from rfl, show (⟨#[47, 98]⟩ : ByteArray) = bs [47, 98] from rfl]
    refine (WB _).out.mono ?_
    rintro e w10 ⟨rfl, hb10⟩
    have T10 := T9.out.more hb10
    have FE2 := Lib.hid (ifeed_to W2 w1.heap.size (restI (restI r2)) _ (bs A2) w10 T10 (Nat.zero_le _) (by rw [bs_size]; omega))
    rw [bs_list] at FE2
    clear hb10 T10
    go_wp2_with fail
    refine FE2.out.mono ?_
    rintro e w11 ⟨rfl, ht11, ha11, hz11⟩
    obtain ⟨r6, hn6, -, -, r6b, -⟩ := next_one (r := feedI (restI (restI r2)) A2) (m := 1000) ht11.ok R2S.out R2M.out (t := A2) (tail := []) (by show [] ++ A2 = A2 ++ []; simp) D3.out
    have NX := inext_to W2 w1.heap.size _ _ M w11 ht11 (fun _ => by show ([] ++ A2).length ≤ _; rw [List.nil_append]; omega) HM.out
    rw [hn6] at NX
    simp only [rqV] at NX
    have NYY := Lib.hid NX
    have R6B := Lib.hid r6b
    clear NX ht11 ha11 hz11 hn6 r6b
    go_wp2_with fail
    refine NYY.out.mono ?_
    rintro e w12 ⟨P2, c12, F12, rfl, hn⟩
    obtain ⟨U1, hU1⟩ : ∃ V1, w12.alloc (.cells #[.string ⟨#[]⟩, .string ⟨#[]⟩, .int .i64 0, .string ⟨#[]⟩, .int .i64 0, .slice none 0 0, .int .i64 0, .string ⟨#[]⟩, .int .i64 0, .string ⟨#[]⟩, .string ⟨#[]⟩, .bool false, .string ⟨#[]⟩, .int .i64 0, .string ⟨#[]⟩, .bool false, .bool false, .string ⟨#[]⟩] 46) = V1 := ⟨_, rfl⟩
    obtain ⟨U, hU⟩ : ∃ V, U1.setCells w12.heap.size 0 (rqVs q2 P2 c12) = V := ⟨_, rfl⟩
    obtain ⟨th, xb, bU, hUz⟩ := newq_facts w12 _ q2 P2 c12 hU1 hU
    have TU := Lib.hid th
    have HU1 := Lib.hid hU1
    have HU := Lib.hid hU
    have tu := hn.rd.more bU
    have n14 := xb.c 14 _ (rq_cells q2 P2 c12).2
    have n9 := xb.c 9 _ (rq_cells q2 P2 c12).1
    rw [D4.out] at n14
    rw [D5.out, show bs ({ form := 1, path := [47, 98] } : Tg).path = ⟨#[47, 98]⟩ from rfl] at n9
    have LN3 := Lib.hid (ilen_c w1.heap.size r6 F12 U tu.rd)
    rw [R6B.out, show ((([] : List UInt8).length : Nat) : Int) = 0 from rfl] at LN3
    have BU := Lib.hid tu.below
    clear hn bU hU hU1 th xb hUz tu
    go_wp2_with (first | (refine wpList_store_mid rfl 46 (.tmp 11) (.tmp 88) rfl w12.heap.size 0 (rqVs q2 P2 c12).toArray rfl rfl (by rw [HU1.out]; exact TU.out) info_rq (one_rq q2 P2 c12) ?_; rw [HU1.out, HU.out]; try simp only [Act.put]) | fail)
    refine LN3.out.mono ?_
    rintro e w13 ⟨rfl, rfl⟩
    go_wp2
    go_ret
    exact ⟨by first | rfl | simp, BU.out⟩
end Go.Proofs.YtgmjkkiahanekaaGreatDoor

