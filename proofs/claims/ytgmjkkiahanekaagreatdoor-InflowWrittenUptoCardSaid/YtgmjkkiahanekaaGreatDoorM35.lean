/- The texts InQ in one. -/
import Derived.Test.YtgmjkkiahanekaaGreatDoorM34
/- The contract of the laws' read (layer 11): the walk. -/
set_option linter.unusedVariables false
set_option linter.unusedSimpArgs false
namespace Go.Proofs.YtgmjkkiahanekaaGreatDoor
open Go.RowKit Lex

theorem take_flat {l : List (List UInt8)} {k : Nat} (h : k < l.length) : (l.take (k + 1)).flatten = (l.take k).flatten ++ l[k] := by
  rw [List.take_succ_eq_append_getElem h, List.flatten_append]; simp
theorem take_len (l : List (List UInt8)) (k : Nat) : (l.take k).flatten.length ≤ l.flatten.length := by
  conv => rhs; rw [← List.take_append_drop k l, List.flatten_append, List.length_append]
  omega
theorem take_docs (m : Int) (l : List (List UInt8)) (k : Nat) : (docs m (l.take k).flatten).1.length ≤ (docs m l.flatten).1.length := by
  conv => rhs; rw [← List.take_append_drop k l, List.flatten_append]
  exact docs_le m _ _
theorem ret_read11 {w : World} {a b c : Value} {tmps : Array Value} (h4 : tmps[4]?.getD undef = a) (h5 : tmps[5]?.getD undef = b) (h6 : tmps[6]?.getD undef = c) :
    (results Tryz.f17 tmps).run Tryz.prog w = .ok (.tuple #[a, b, c]) w := by
  simp [results, Tryz.results17, go_sem, h4, h5, h6]
set_option maxRecDepth 100000 in
set_option maxHeartbeats 8000000 in
theorem read_c (m : Int) (hm : -9223372036854775808 ≤ m ∧ m ≤ 9223372036854775807) (A : Option Addr) (cap : Nat) (l : List (List UInt8)) (M : Int) (w : World) (hT : TextsO w A l) (hsum : l.flatten.length ≤ 4194000) (hl : l.length ≤ 4194304) (hc : (docs m l.flatten).1.length ≤ 5000) (hmx : w.cell? ⟨0, 0, none⟩ = some (.int .i64 M)) :
    Calls Tryz.prog 17 #[.int .i64 m, .slice A l.length cap] w fun e w' => ∃ v As, e = .returned (.tuple #[v, .int .i64 (docs m l.flatten).2.2, .bool true]) ∧ OutAt w' w.heap.size (fun _ => False) v (docs m l.flatten).1 As ∧ Below w.heap.size w w' := by
  have hw0 := World.block_lt_of_cell? w _ hmx
  obtain ⟨i0, hi, hz0, hz1, hz2⟩ := info_parts info_rqs
  have NW := Lib.hid (inew_to m hm w w (Below.refl _ w))
  have HM := Lib.hid hmx
  have HT := Lib.hid hT
  have HS := Lib.hid hsum
  have HC := Lib.hid hc
  have ZERO : docs m ((l.take 0).flatten) = ([], [], 0) := docs_nil m
  have ZR := Lib.hid ZERO
  clear hmx hT hsum hc ZERO
  go_enter Tryz.func17, Tryz.ntmps17
  go_wp2_with fail
  refine NW.out.mono ?_
  rintro e w1 ⟨rfl, ht1, hz1', hb1⟩
  have T1 := Lib.hid ht1
  clear ht1 hb1 hz1'
  go_wp2_with fail
  go_loopw [8, 9, 21] (fun o s i wr => ∃ (k : Nat) (r : In) (F : Nat → Prop) (As : List (Option Addr × Nat)), i = .int .i64 k ∧ k ≤ l.length ∧ s = .int .i64 (docs m (l.take k).flatten).2.2 ∧ OutAt wr w.heap.size F o (docs m (l.take k).flatten).1 As ∧ InTo w wr w.heap.size r F ∧ Done m r (docs m (l.take k).flatten)) (fun _ _ i _ => l.length - (intOf i).toNat)
  case atStart => exact ⟨0, { most := m }, _, [], rfl, Nat.zero_le _, by rw [ZR.out], by rw [ZR.out]; exact OutAt.nil _ _ _, T1.out, by rw [List.take_zero]; exact Done.new hm⟩
  case round =>
    clear T1
    obtain ⟨k, r, F, As, rfl, hk, rfl, ho, ht, hd⟩ := hrel
    obtain ⟨X, hX⟩ : ∃ X, docs m (l.take k).flatten = X := ⟨_, rfl⟩
    have HD := Lib.hid hd
    rw [hX] at ho
    have HX := Lib.hid hX
    rw [hX]
    obtain ⟨Ao, co, rfl⟩ := own_form ho.own
    have HO := Lib.hid ho
    have TO := Lib.hid ht
    clear ho ht hd hX
    by_cases hlt : k < l.length
    · obtain ⟨g, o', hA, hcl⟩ := HT.out k hlt
      have hcl2 := (TO.out.below.cell (p := ⟨g, o' + k, none⟩) (World.block_lt_of_cell? w _ hcl)).trans hcl
      have hcnt := docs_count m _ (l.take k).flatten (Nat.lt_succ_self _)
      rw [← HD.out.buf] at hcnt
      have htl : (l.take (k + 1)).flatten.length = (l.take k).flatten.length + l[k].length := by rw [take_flat hlt, List.length_append]
      have hle := take_len l (k + 1)
      have hs := HS.out
      have hbl : r.buf.length + l[k].length ≤ 4194000 := by omega
      have IN := HD.out.feed l[k]
      rw [← take_flat hlt, HX.out] at IN
      obtain ⟨Y, hY⟩ : ∃ Y, docs m (l.take (k + 1)).flatten = Y := ⟨_, rfl⟩
      rw [hY] at IN
      have hYl : Y.1.length ≤ 5000 := by rw [← hY]; exact Nat.le_trans (take_docs m l (k + 1)) HC.out
      have INN := Lib.hid IN
      have HY := Lib.hid hY
      have HBL := Lib.hid hbl
      have FE := Lib.hid (ifeed_to w w.heap.size r F (bs l[k]) wr TO.out (by omega) (by rw [bs_size]; omega))
      rw [bs_list] at FE
      have k0 : (0 : Int) ≤ (k : Int) := by omega
      have k1 : (k : Int) < (l.length : Int) := by omega
      subst hA
      clear hcl htl hle hs hbl IN hY hcnt HD HX
      generalize hlk : l[k] = pk at *
      clear hlk
      go_wp2_with fail
      refine FE.out.mono ?_
      rintro e w5 ⟨rfl, ht5, ha5, hz5⟩
      have O5 := Lib.hid (HO.out.keep (F' := F) ha5 (fun k hk => by rw [hk]; exact TO.out.rd.self) (fun k hk => .inl hk))
      have T5 := Lib.hid ht5
      have hb5 : (feedI r pk).buf.length ≤ 4194000 := by show (r.buf ++ pk).length ≤ _; rw [List.length_append]; exact HBL.out
      have B5 := Lib.hid hb5
      clear ht5 ha5 hz5 hb5 HBL
      go_wp2_with fail
      go_loopw [8, 9] (fun o s wx => ∃ (r : In) (F : Nat → Prop) (As : List (Option Addr × Nat)) (out : List Rq) (q : Int), s = .int .i64 q ∧ OutAt wx w.heap.size F o out As ∧ InTo w wx w.heap.size r F ∧ Inner m r out Y ∧ r.buf.length ≤ 4194000) (fun _ _ wx => bufOf wx w.heap.size)
      case atStart => exact ⟨_, F, As, X.1, _, rfl, O5.out, T5.out, INN.out, B5.out⟩
      case round =>
        clear O5 T5 B5 INN HO TO
        obtain ⟨r, F, As, out, sq, rfl, ho, ht, hi2, hb⟩ := hrel
        obtain ⟨Ao, co, rfl⟩ := own_form ho.own
        have NX := inext_to w w.heap.size r F M wr ht (fun _ => hb) HM.out
        have hin := hi2.next
        have hbuf := buf_of ht.rd
        obtain ⟨z, hz⟩ : ∃ z, nextI r = z := ⟨_, rfl⟩
        rw [hz] at NX hin
        obtain ⟨q, ok, st, r'⟩ := z
        simp only [rqV] at NX hin
        have NXX := Lib.hid NX
        have HO := Lib.hid ho
        have TO := Lib.hid ht
        have HB := Lib.hid hbuf
        clear NX ho ht hz hi2 hbuf
        rcases hin with ⟨rfl, hi2, hlt2, hcnt⟩ | ⟨rfl, rfl, hout, rfl, hdn⟩
        · have II := Lib.hid hi2
          clear hi2
          go_wp2_with fail
          refine NXX.out.mono ?_
          rintro e w6 ⟨Aq, cq, F', rfl, hn⟩
          obtain ⟨V1, hV1⟩ : ∃ V1, w6.alloc (.cells #[.string ⟨#[]⟩, .string ⟨#[]⟩, .int .i64 0, .string ⟨#[]⟩, .int .i64 0, .slice none 0 0, .int .i64 0, .string ⟨#[]⟩, .int .i64 0, .string ⟨#[]⟩, .string ⟨#[]⟩, .bool false, .string ⟨#[]⟩, .int .i64 0, .string ⟨#[]⟩, .bool false, .bool false, .string ⟨#[]⟩] 46) = V1 := ⟨_, rfl⟩
          obtain ⟨V, hV⟩ : ∃ V, V1.setCells w6.heap.size 0 (rqVs q Aq cq) = V := ⟨_, rfl⟩
          obtain ⟨th, xb, bV, hVz⟩ := newq_facts w6 _ q Aq cq hV1 hV
          have XB := Lib.hid xb
          have TH := Lib.hid th
          have HV1 := Lib.hid hV1
          have O7 := Lib.hid ((HO.out.keep hn.away (fun _ h => h) (fun k h => (hn.foot k h).imp id (fun h => h.1))).more bV)
          have T7 := Lib.hid (hn.rd.more bV)
          have L7 := Lib.hid (hn.flds.below bV)
          have hlow : ∀ k, F' k → k < V.heap.size := fun k hk => by have := hn.rd.rd.lt k hk; have := bV.size; omega
          have HLOW := Lib.hid hlow
          have hAt : ∀ g o, Aq = some ⟨g, o, none⟩ → g < V.heap.size ∧ ¬ F' g ∧ (Value.slice Ao out.length co).ownBlock ≠ some g := fun g o hg => by
            obtain ⟨h1, h2, h3, h4⟩ := hn.at' g o hg
            refine ⟨by have := bV.size; omega, h1, fun e => ?_⟩
            rcases h4 with h5 | h5
            · exact HO.out.vf g e h5
            · have := (HO.out.own.lt g e).2; omega
          have HAT := Lib.hid hAt
          have HV := Lib.hid hV
          have RG : Hid (V.rangeAt w6.heap.size 0 [.string (bs q.head.method), .string (bs q.head.target), .int .i64 q.head.status, .string (bs q.head.reason), .int .i64 q.head.minor, .slice Aq q.head.fields.length cq, .int .i64 q.tg.form, .string (bs q.tg.host), .int .i64 q.tg.port, .string (bs q.tg.path), .string (bs q.tg.query), .bool q.tg.has, .string (bs q.host), .int .i64 q.port, .string (bs q.body), .bool q.sized, .bool q.keep, .string (bs q.upg)]) := Lib.hid XB.out.range
          have cn1 : ¬ (5000 : Int) < (out.length : Int) := by omega
          have hzV : w6.heap.size < V.heap.size := XB.out.lt
          have hbase : w.heap.size ≤ V.heap.size := T7.out.below.size
          have b9 : Below V.heap.size V (V.alloc (.cells #[.string (bs q.head.method), .string (bs q.head.target), .int .i64 q.head.status, .string (bs q.head.reason), .int .i64 q.head.minor, .slice Aq q.head.fields.length cq, .int .i64 q.tg.form, .string (bs q.tg.host), .int .i64 q.tg.port, .string (bs q.tg.path), .string (bs q.tg.query), .bool q.tg.has, .string (bs q.host), .int .i64 q.port, .string (bs q.body), .bool q.sized, .bool q.keep, .string (bs q.upg)] 46)) := (Below.refl _ V).alloc (Nat.le_refl _) _
          have O9 := Lib.hid (O7.out.more b9)
          have T9 := Lib.hid (T7.out.more b9)
          have L9 := Lib.hid (L7.out.below b9)
          have HLOW9 := Lib.hid (fun k hk => Nat.lt_of_lt_of_le (HLOW.out k hk) b9.size)
          have HAT9 := Lib.hid (fun g o hg => And.intro (Nat.lt_of_lt_of_le (HAT.out g o hg).1 b9.size) (HAT.out g o hg).2)
          have ol : out.length ≤ 5000 := by omega
          clear hn bV hlow hAt hV hV1 xb th b9 O7 T7 L7 HLOW HAT hVz
          go_wp2_with (first | (refine wpList_store_mid rfl 46 (.tmp 12) (.tmp 31) rfl w6.heap.size 0 (rqVs q Aq cq).toArray rfl rfl (by rw [HV1.out]; exact TH.out) info_rq (one_rq q Aq cq) ?_; rw [HV1.out, HV.out]; try simp only [Act.put]) | (refine wpList_load_mid rfl 46 (.tmp 12) rfl w6.heap.size 0 rfl [.string (bs q.head.method), .string (bs q.head.target), .int .i64 q.head.status, .string (bs q.head.reason), .int .i64 q.head.minor, .slice Aq q.head.fields.length cq, .int .i64 q.tg.form, .string (bs q.tg.host), .int .i64 q.tg.port, .string (bs q.tg.path), .string (bs q.tg.query), .bool q.tg.has, .string (bs q.host), .int .i64 q.port, .string (bs q.body), .bool q.sized, .bool q.keep, .string (bs q.upg)] _ RG.out Tryz.underlying46 rfl info_rq ?_; simp only [Act.put]) | (at_builtin; refine wpList_append_own_at _ rfl (.tmp 40) (.tmp 42) 34 rfl w.heap.size 46 i0 zeroRq 18 224 Tryz.underlying34 hi hz0 hz1 hz2 rfl (by decide) _ out.length _ rfl O9.out.own ⟨V.heap.size, 0, none⟩ 1 1 (rqVs q Aq cq) rfl rfl (news_rq _ _ _ _ _) (ones_rq q Aq cq) (by unfold maxLen; omega) (by omega) (by simp; omega) ?_; intro v' w7 hown' hgrow _ hat'; have O10 := Lib.hid (O9.out.push L9.out HAT9.out HLOW9.out hown' hgrow hat'); have T10 := Lib.hid (T9.out.keep ((Away.refl (fun k => (Value.slice Ao out.length co).ownBlock = some k) _).grown hgrow (fun k hk _ => hk)) (fun k hk e => O9.out.vf k e hk) (fun k e => (O9.out.own.lt k e).1)); clear hown' hgrow hat'))
          go_roundw
          case rel => exact ⟨r', F', As ++ [(Aq, cq)], out ++ [q], st, rfl, O10.out, T10.out, II.out, by omega⟩
          case measure =>
            rw [buf_of T10.out.rd, HB.out]; exact hlt2
        · have DD := Lib.hid hdn
          have HOUT := Lib.hid hout
          clear hdn hout
          go_wp2_with fail
          refine NXX.out.mono ?_
          rintro e w6 ⟨Aq, cq, F', rfl, hn⟩
          obtain ⟨V1, hV1⟩ : ∃ V1, w6.alloc (.cells #[.string ⟨#[]⟩, .string ⟨#[]⟩, .int .i64 0, .string ⟨#[]⟩, .int .i64 0, .slice none 0 0, .int .i64 0, .string ⟨#[]⟩, .int .i64 0, .string ⟨#[]⟩, .string ⟨#[]⟩, .bool false, .string ⟨#[]⟩, .int .i64 0, .string ⟨#[]⟩, .bool false, .bool false, .string ⟨#[]⟩] 46) = V1 := ⟨_, rfl⟩
          obtain ⟨V, hV⟩ : ∃ V, V1.setCells w6.heap.size 0 (rqVs {} Aq cq) = V := ⟨_, rfl⟩
          obtain ⟨th, xb, bV, hVz⟩ := newq_facts w6 _ {} Aq cq hV1 hV
          have TH := Lib.hid th
          have HV1 := Lib.hid hV1
          have O7 := Lib.hid ((HO.out.keep hn.away (fun _ h => h) (fun k h => (hn.foot k h).imp id (fun h => h.1))).more bV)
          have T7 := Lib.hid (hn.rd.more bV)
          have HV := Lib.hid hV
          clear hn bV hV hV1 xb th hVz
          go_wp2_with (refine wpList_store_mid rfl 46 (.tmp 12) (.tmp 31) rfl w6.heap.size 0 (rqVs {} Aq cq).toArray rfl rfl (by rw [HV1.out]; exact TH.out) info_rq (one_rq {} Aq cq) ?_; rw [HV1.out, HV.out]; try simp only [Act.put])
          go_roundw
          case rel => exact ⟨k + 1, r', F', As, by go_num, by omega, by rw [HY.out], by rw [HY.out, ← HOUT.out]; exact O7.out, T7.out, by rw [HY.out]; exact DD.out⟩
          case measure => simp [intOf]; omega
    · obtain rfl : k = l.length := by omega
      have hx : docs m l.flatten = X := by rw [← HX.out, List.take_length]
      have HXX := Lib.hid hx
      clear hx
      go_wp2
      refine bodyPost_ret (ret_read11 rfl rfl rfl) rfl ?_
      rw [HXX.out]
      exact ⟨_, As, rfl, HO.out.free, TO.out.below⟩
end Go.Proofs.YtgmjkkiahanekaaGreatDoor

