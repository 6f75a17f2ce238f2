/- The contract of Target.local; Parse of an origin; the anchor; the walks over TargetHosts and TargetCase. -/
import Derived.Test.YtjbmipbjlhcooaaDoorTgtD
import Derived.Test.YtjbmipbjlhcooaaDoorPathN
import Derived.Test.YtjbmipbjlhcooaaDoorLexH
import Derived.Test.YtjbmipbjlhcooaaDoorBox6
import Derived.Handy
set_option linter.unusedVariables false
set_option linter.unusedSimpArgs false
namespace Go.Proofs.YtjbmipbjlhcooaaDoor
open Go.RowKit Lex

def tgVal (t : Tg) : Value := .agg #[.int .i64 t.form, .string (bs t.host), .int .i64 t.port, .string (bs t.path), .string (bs t.query), .bool t.has]
def tgOut (x : Tg × Int) : Value := .tuple #[tgVal x.1, .int .i64 x.2]
def goodQ (c : UInt8) : Bool := !badQ c
theorem any_bad (l : List UInt8) : l.any badQ = !l.all goodQ := by
  induction l with
  | nil => rfl
  | cons a l ih => simp only [List.any_cons, List.all_cons, ih, goodQ, Bool.not_and, Bool.not_not]

theorem ret_local {w : World} {B : Nat} {v0 v1 v2 v3 v4 v5 e : Value} (h : Box6 w B v0 v1 v2 v3 v4 v5) {tmps : Array Value} (h4 : tmps[4]?.getD undef = .pointer (some ⟨B, 0, none⟩)) (h5 : tmps[5]?.getD undef = e) :
    (results Tryd.f42 tmps).run Tryd.prog w = .ok (.tuple #[.agg #[v0, v1, v2, v3, v4, v5], e]) w := by
  simp [results, Tryd.results42, go_sem, h4, h5, h.c0, h.c1, h.c2, h.c3, h.c4, h.c5]

set_option maxRecDepth 100000 in
set_option maxHeartbeats 4000000 in
theorem local_c (f p : Int) (h : ByteArray) (s : ByteArray) (m : Int) (w : World) (hs : s.size ≤ 4194304) (hm : w.cell? ⟨0, 0, none⟩ = some (.int .i64 m)) :
    Calls Tryd.prog 42 #[.agg #[.int .i64 f, .string h, .int .i64 p, .string ⟨#[]⟩, .string ⟨#[]⟩, .bool false], .string s] w fun e w' => e = .returned (tgOut (localT { form := f, host := h.data.toList, port := p } s.data.toList)) ∧ Below w.heap.size w w' := by
  have CU := fun w => Lib.hid (pcut_c s w (by omega))
  obtain ⟨hc1, hc2, hc3⟩ := cutB_len s.data.toList 63
  rw [size_list] at hc1 hc2
  unfold localT
  generalize cutB s.data.toList 63 = x at *
  obtain ⟨a, q, hq⟩ := x
  simp only at hc1 hc2 ⊢
  have NO := fun w h => Lib.hid (normal_c (bs a) m w (by rw [bs_size]; omega) h)
  rw [show (bs a).data.toList = a from rfl] at NO
  have HM := Lib.hid hm
  clear hm hc3
  obtain ⟨Q, rfl⟩ : ∃ Q : ByteArray, q = Q.data.toList := ⟨bs q, rfl⟩
  rw [size_list] at hc2
  rw [any_bad]
  have CU2 : ∀ w, Hid (Calls Tryd.prog 66 #[.string s] w fun e w' => e = .returned (.tuple #[.string (bs a), .string Q, .bool hq]) ∧ Below w.heap.size w w') := fun w => by
    have := CU w
    simp only [cutVal, list_bs] at this
    exact this
  clear CU
  cases hn : normal a with
  | none =>
    rw [hn] at NO
    simp only [normVal, Option.getD_none, Option.isSome_none] at NO
    go_enter Tryd.func42, Tryd.ntmps42
    go_wp2_with fail
    refine (CU2 _).out.mono ?_
    rintro e w1 ⟨rfl, hb1⟩
    have B1 : Below w.heap.size w w1 := (((Below.refl _ w).alloc (Nat.le_refl _) _).alloc (by simp) _).trans (hb1.mono (by simp; omega))
    have M1 := Lib.hid (cell_below B1 HM.out)
    have X2 := Lib.hid ((box6_new (w.alloc _) _ _ _ _ _ _ _).below hb1)
    go_wp2_with fail
    refine (NO _ M1.out).out.mono ?_
    rintro e w2 ⟨rfl, hb2⟩
    obtain ⟨c0, c1, c2, c3, c4, c5, fz⟩ := X2.out.below hb2
    rw [show (w.alloc (Obj.cells #[Value.int IntKind.i64 f, Value.string h, Value.int IntKind.i64 p, Value.string ⟨#[]⟩, Value.string ⟨#[]⟩, Value.bool false] 30)).heap.size = w.heap.size + 1 from by simp] at c0 c1 c2 c3 c4 c5 fz
    have f0 := fz 0
    have f1 := fz 1
    have f2 := fz 2
    have f3 := fz 3
    have f4 := fz 4
    have f5 := fz 5
    go_wp2
    (try simp only [Exit.inBlock, Exit.then]); refine bodyPost_ret (ret_local (Box6.stored ⟨c0, c1, c2, c3, c4, c5, fz⟩ _ _ _ _ _ _) rfl rfl) rfl ?_
    refine ⟨rfl, ?_⟩
    repeat refine Below.setCell ?_ (by simp) _
    exact below_then B1 hb2
  | some P =>
    rw [hn] at NO
    simp only [normVal, Option.getD_some, Option.isSome_some, if_true] at NO
    have HG : Q.data.toList.all goodQ = false → Hid (tgOut (if (!Q.data.toList.all goodQ) = true then (({}, 60) : Tg × Int) else ({ form := f, host := h.data.toList, port := p, path := P, query := Q.data.toList, has := hq }, 0)) = tgOut ({}, 60)) := fun e => by rw [e]; rfl
    have HK : Q.data.toList.all goodQ = true → Hid (tgOut (if (!Q.data.toList.all goodQ) = true then (({}, 60) : Tg × Int) else ({ form := f, host := h.data.toList, port := p, path := P, query := Q.data.toList, has := hq }, 0)) = .tuple #[.agg #[.int .i64 f, .string h, .int .i64 p, .string (bs P), .string Q, .bool hq], .int .i64 0]) := fun e => by
      rw [e]
      show tgOut ({ form := f, host := h.data.toList, port := p, path := P, query := Q.data.toList, has := hq }, 0) = _
      simp only [tgOut, tgVal, list_bs]
    generalize tgOut (if (!Q.data.toList.all goodQ) = true then (({}, 60) : Tg × Int) else ({ form := f, host := h.data.toList, port := p, path := P, query := Q.data.toList, has := hq }, 0)) = out at *
    go_enter Tryd.func42, Tryd.ntmps42
    go_wp2_with fail
    refine (CU2 _).out.mono ?_
    rintro e w1 ⟨rfl, hb1⟩
    have B1 : Below w.heap.size w w1 := (((Below.refl _ w).alloc (Nat.le_refl _) _).alloc (by simp) _).trans (hb1.mono (by simp; omega))
    have M1 := Lib.hid (cell_below B1 HM.out)
    have X1 := Lib.hid (((box6_new w _ _ _ _ _ _ _).alloc _).below hb1)
    have X2 := Lib.hid ((box6_new (w.alloc _) _ _ _ _ _ _ _).below hb1)
    go_wp2_with fail
    refine (NO _ M1.out).out.mono ?_
    rintro e w2 ⟨rfl, hb2⟩
    obtain ⟨c0, c1, c2, c3, c4, c5, fz⟩ := X2.out.below hb2
    obtain ⟨d0, d1, d2, d3, d4, d5, gz⟩ := X1.out.below hb2
    rw [show (w.alloc (Obj.cells #[Value.int IntKind.i64 f, Value.string h, Value.int IntKind.i64 p, Value.string ⟨#[]⟩, Value.string ⟨#[]⟩, Value.bool false] 30)).heap.size = w.heap.size + 1 from by simp] at c0 c1 c2 c3 c4 c5 fz
    have f0 := fz 0
    have f1 := fz 1
    have f2 := fz 2
    have f3 := fz 3
    have f4 := fz 4
    have f5 := fz 5
    have g3 := gz 3
    have g4 := gz 4
    have g5 := gz 5
    have B2 := Lib.hid (below_then B1 hb2)
    have BX := Lib.hid (Box6.mk c0 c1 c2 c3 c4 c5 fz)
    clear fz gz hb1 hb2 B1
    go_wp2
    go_loop [10, 28] (fun _ i => ∃ k : Nat, k ≤ Q.size ∧ i = .int .i64 k ∧ (Q.data.toList.take k).all goodQ = true) (fun _ i => Q.size - (intOf i).toNat)
    case atStart => exact ⟨0, Nat.zero_le _, rfl, by simp⟩
    case round =>
      obtain ⟨k, hk, rfl, ha⟩ := hrel
      have HA := Lib.hid ha
      clear ha
      by_cases hlt : k < Q.size
      · cases hq1 : goodQ Q[k] with
        | true =>
          have HS := Lib.hid (all_take_snoc _ Q k hlt HA.out hq1)
          simp only [goodQ, badQ, Bool.not_eq_true', Bool.or_eq_false_iff, decide_eq_false_iff_not] at hq1
          obtain ⟨⟨q1, q2⟩, q3⟩ := hq1
          have q3' : ((Q[k].toNat : Int) == 35) = false := by rw [beq_eq_false_iff_ne]; exact q3
          clear c0 c1 c2 c3 c4 c5 d0 d1 d2 d3 d4 d5
          go_wp2
          go_round
          case rel => exact ⟨k + 1, by omega, by go_num, HS.out⟩
          case measure => simp [intOf]; omega
        | false =>
          obtain rfl : out = tgOut ({}, 60) := (HG (all_of_take goodQ Q k hlt hq1)).out
          simp only [goodQ, badQ, Bool.not_eq_false', Bool.or_eq_true, decide_eq_true_eq] at hq1
          rcases hq1 with (q1 | q1) | q1
          · go_wp2
            (try simp only [Exit.inBlock, Exit.then]); refine bodyPost_ret (ret_local (Box6.stored BX.out _ _ _ _ _ _) rfl rfl) rfl ?_
            refine ⟨rfl, ?_⟩
            repeat refine Below.setCell ?_ (by simp) _
            exact B2.out
          · go_wp2
            (try simp only [Exit.inBlock, Exit.then]); refine bodyPost_ret (ret_local (Box6.stored BX.out _ _ _ _ _ _) rfl rfl) rfl ?_
            refine ⟨rfl, ?_⟩
            repeat refine Below.setCell ?_ (by simp) _
            exact B2.out
          · have q3' : ((Q[k].toNat : Int) == 35) = true := by rw [q1]; rfl
            go_wp2
            (try simp only [Exit.inBlock, Exit.then]); refine bodyPost_ret (ret_local (Box6.stored BX.out _ _ _ _ _ _) rfl rfl) rfl ?_
            refine ⟨rfl, ?_⟩
            repeat refine Below.setCell ?_ (by simp) _
            exact B2.out
      · have HO := Lib.hid (HK (by have h := HA.out; rw [take_all Q k hlt] at h; exact h)).out
        go_wp2
        (try simp only [Exit.inBlock, Exit.then]); refine bodyPost_ret (ret_local (Box6.stored (((BX.out.far _ _ (by simp)).far _ _ (by simp)).far _ _ (by simp)) _ _ _ _ _ _) rfl rfl) rfl ?_
        refine ⟨by rw [HO.out]; rfl, ?_⟩
        repeat refine Below.setCell ?_ (by simp) _
        exact B2.out
end Go.Proofs.YtjbmipbjlhcooaaDoor
