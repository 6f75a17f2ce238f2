/- The texts HdD, ChkB, ChkC, Bldr in one. -/
import Derived.Test.YtgmjkkiahanekaaGreatDoorM8
import Derived.Test.YtgmjkkiahanekaaGreatDoorM1
import Derived.Test.YtgmjkkiahanekaaGreatDoorM10
import Derived.Test.YtgmjkkiahanekaaGreatDoorM7
import Derived.Test.YtgmjkkiahanekaaGreatDoorM2
import Derived.Test.YtgmjkkiahanekaaGreatDoorM3
import Derived.BigQuiet
import Derived.Deep.AppendLies
import Derived.OwnWalk
import Derived.Lib.Builder
import Derived.Lib.AppendStr
import Derived.Lib.UnsafeStr
import Derived.RegionTactic
/- The contract of head.Field. -/
set_option linter.unusedVariables false
set_option linter.unusedSimpArgs false
namespace Go.Proofs.YtgmjkkiahanekaaGreatDoor
open Go.RowKit Lex

theorem ret_field {w : World} {B : Nat} {v0 v1 e : Value} (h : Box2 w B v0 v1) {tmps : Array Value} (h4 : tmps[2]?.getD undef = .pointer (some ⟨B, 0, none⟩)) (h5 : tmps[3]?.getD undef = e) :
    (results Tryz.f127 tmps).run Tryz.prog w = .ok (.tuple #[.agg #[v0, v1], e]) w := by
  simp [results, Tryz.results127, go_sem, h4, h5, h.c0, h.c1]
def fieldVal (x : Option Fd) : Value := match x with
  | some f => .tuple #[.agg #[.string (bs f.1), .string (bs f.2)], .int .i64 0]
  | none => .tuple #[.agg #[.string ⟨#[]⟩, .string ⟨#[]⟩], .int .i64 70]
theorem trim_id {v : List UInt8} (h : trim v = v) : value v = v.all okv := by unfold value; rw [h]; simp
set_option maxRecDepth 100000 in
set_option maxHeartbeats 1000000 in
theorem hfield_c (s : ByteArray) (w : World) (hs : s.size ≤ 140737488351232) :
    Calls Tryz.prog 127 #[.string s] w fun e w' => e = .returned (fieldVal (fieldL s.data.toList)) ∧ Below w.heap.size w w' := by
  have CU := fun w => Lib.hid (cut_c s 58 w hs)
  have hcl := cutB_len s.data.toList 58
  have hc1 : (cutB s.data.toList 58).1.length ≤ s.size := hcl.1
  have hc2 : (cutB s.data.toList 58).2.1.length ≤ s.size := hcl.2.1
  clear hcl
  generalize hv : fieldL s.data.toList = v
  unfold fieldL at hv
  generalize cutB s.data.toList 58 = c at *
  obtain ⟨c1, c2, c3⟩ := c
  simp only at hv hc1 hc2
  have TR := fun w => Lib.hid (trim_c (bs c2) w (by rw [bs_size]; omega))
  have TK := fun w => Lib.hid (token_c (bs c1) w (by rw [bs_size]; omega))
  have VA := fun w => Lib.hid (value_c (bs (trim c2)) w (by rw [bs_size]; have := trim_length c2; omega))
  rw [bs_list] at TR TK VA
  rw [trim_id (trim_trim c2)] at VA
  simp only [cutVal] at CU
  generalize trim c2 = t2 at *
  generalize token c1 = k1 at *
  generalize t2.all okv = k2 at *
  clear hc1 hc2
  have B0 := Lib.hid ((Below.refl _ w).alloc (Nat.le_refl _) (.cells #[.string ⟨#[]⟩, .string ⟨#[]⟩] 59))
  have X0 := Lib.hid (box2_new w (.string ⟨#[]⟩) (.string ⟨#[]⟩) 59)
  have pre : ∀ c3v k1v k2v, c3 = c3v → k1 = k1v → k2 = k2v → fieldVal v = (if c3v = true ∧ k1v = true ∧ k2v = true then .tuple #[.agg #[.string (bs c1), .string (bs t2)], .int .i64 0] else .tuple #[.agg #[.string ⟨#[]⟩, .string ⟨#[]⟩], .int .i64 70]) := by
    rintro _ _ _ rfl rfl rfl
    rw [← hv]
    split <;> rfl
  cases hc3 : c3
  all_goals cases hk1 : k1
  all_goals cases hk2 : k2
  all_goals
    rw [pre _ _ _ hc3 hk1 hk2]
    clear pre
    subst hc3 hk1 hk2
    simp only [Bool.false_eq_true, false_and, and_false, if_false, and_self, if_true]
    go_enter Tryz.func127, Tryz.ntmps127
    go_wp2_with fail
    refine (CU _).out.mono ?_
    rintro e w1 ⟨rfl, hb1⟩
    have B1 := Lib.hid (below_then B0.out hb1)
    obtain ⟨d0, d1, gz⟩ := X0.out.below hb1
    have X1 := Lib.hid (Box2.mk d0 d1 gz)
    clear hb1
    go_wp2_with fail
    refine (TR _).out.mono ?_
    rintro e w2 ⟨rfl, hb2⟩
    have B2 := Lib.hid (below_then B1.out hb2)
    have X2 := Lib.hid (X1.out.below hb2)
    clear hb2 d0 d1 gz
    obtain ⟨d0, d1, gz⟩ := X2.out
    have g0 := gz 0
    have g1 := gz 1
    clear gz
    go_wp2_with (first
      | (go_at_call 134; refine (TK _).out.mono ?_; rintro e w3 ⟨rfl, rfl⟩)
      | (go_at_call 153; refine (VA _).out.mono ?_; rintro e w4 ⟨rfl, hb4⟩; have B4 := Lib.hid (below_then B2.out hb4); have X4 := Lib.hid (X2.out.below hb4); clear hb4 d0 d1 g0 g1; obtain ⟨d0, d1, gz⟩ := X4.out; have g0 := gz 0; have g1 := gz 1; clear gz))
  all_goals first
    | (refine bodyPost_ret (ret_field (Box2.stored X4.out _ _) rfl rfl) rfl ?_
       exact ⟨rfl, (B4.out.setCell (by simp) _).setCell (by simp) _⟩)
    | (refine bodyPost_ret (ret_field (Box2.stored X2.out _ _) rfl rfl) rfl ?_
       exact ⟨rfl, (B2.out.setCell (by simp) _).setCell (by simp) _⟩)
end Go.Proofs.YtgmjkkiahanekaaGreatDoor

/- The contracts of the decoder's inner functions: bound, sized, whole. -/
set_option linter.unusedVariables false
set_option linter.unusedSimpArgs false
namespace Go.Proofs.YtgmjkkiahanekaaGreatDoor
open Go.RowKit Lex

def byteI (l : List UInt8) : List Int := l.map fun c => (c.toNat : Int)
theorem strOf_bytes (l : List UInt8) : strOfNums (byteI l) = bs l := by simp [strOfNums, byteI, bs, Function.comp_def]
def decVs (d : Dec) (v : Value) : List Value := [.int .i64 d.most, .int .i64 d.size, .int .i64 d.st, .int .i64 d.left, v, .bool d.cr, .int .i64 d.tr, .int .i64 d.err]
/-- A decoder in block D; its line's bytes in the slice v. -/
structure DecAt (w : World) (D : Nat) (v : Value) (d : Dec) : Prop where
  blk : Blk w D (decVs d v)
  own : w.ownsRow (D + 1) 5 1 v d.line.length (nums8 (byteI d.line))
theorem DecAt.lt {w : World} {D : Nat} {v : Value} {d : Dec} (h : DecAt w D v d) : D < w.heap.size := h.blk.lt
theorem DecAt.away {w w' : World} {D : Nat} {v : Value} {d : Dec} {F : Nat → Prop} (h : DecAt w D v d) (ha : Away F w w') (h1 : ¬ F D) (h2 : ∀ k, v.ownBlock = some k → ¬ F k) : DecAt w' D v d :=
  ⟨h.blk.away h.lt ha h1, own_away h.own ha h2⟩
theorem DecAt.below {w w' : World} {D : Nat} {v : Value} {d : Dec} (h : DecAt w D v d) (hb : Below w.heap.size w w') : DecAt w' D v d := h.away (F := fun _ => False) (Away.of hb) id (fun _ _ => id)
theorem DecAt.drewN {w : World} {D : Nat} {v : Value} {d : Dec} (h : DecAt w D v d) (n : Nat) : DecAt (w.drewN n) D v d := h.below ⟨rfl, rfl, rfl, Nat.le_refl _, fun _ _ => rfl⟩
/-- A store into a cell that is not the line's. -/
theorem DecAt.put {w : World} {D : Nat} {v : Value} {d d' : Dec} (h : DecAt w D v d) (i : Nat) (u : Value) (hi : i < 8) (hs : (decVs d v).set i u = decVs d' v) (hl : d'.line = d.line) : DecAt (w.setCell ⟨D, i, none⟩ u) D v d' :=
  ⟨hs ▸ h.blk.set i hi u, by rw [hl]; exact ownsRow_setCell_below h.own (Nat.lt_succ_self D) u⟩

theorem bound_c (D : Nat) (st : Int) (w : World) (hc : w.cell? ⟨D, 2, none⟩ = some (.int .i64 st)) :
    Calls Tryz.prog 146 #[.pointer (some ⟨D, 0, none⟩)] w fun e w' => e = .returned (.int .i64 (boundD st)) ∧ w = w' := by
  obtain ⟨n, hn⟩ : ∃ n : Nat, boundD st = n := ⟨_, rfl⟩
  rw [hn]
  unfold boundD at hn
  by_cases h0 : st = 0
  · rw [if_pos h0] at hn
    subst hn h0
    go_enter Tryz.func146, Tryz.ntmps146
    go_wp2
    go_ret
    exact ⟨rfl, rfl⟩
  · have b0 : (st == 0) = false := by rw [beq_eq_false_iff_ne]; exact h0
    rw [if_neg h0] at hn
    by_cases h3 : st = 3
    · rw [if_pos h3] at hn
      subst hn h3
      go_enter Tryz.func146, Tryz.ntmps146
      go_wp2
      go_ret
      exact ⟨rfl, rfl⟩
    · have b3 : (st == 3) = false := by rw [beq_eq_false_iff_ne]; exact h3
      rw [if_neg h3] at hn
      subst hn
      go_enter Tryz.func146, Tryz.ntmps146
      go_wp2
      go_ret
      exact ⟨rfl, rfl⟩

/-- What an inner function leaves that touches the decoder's own block alone. -/
def DecPost (w : World) (D : Nat) (v : Value) (x : Dec × Int) (e : Ending) (w' : World) : Prop := e = .returned (.int .i64 x.2) ∧ DecAt w' D v x.1 ∧ Away (fun k => k = D) w w'
theorem extc_9 {c : UInt8} (h : c = 9) : extc c = true := by subst h; rfl
theorem extc_in {c : UInt8} (h1 : 32 ≤ (c.toNat : Int)) (h2 : (c.toNat : Int) ≤ 126) : extc c = true := by unfold extc; rw [decide_eq_true h1, decide_eq_true h2]; simp
theorem extc_no {c : UInt8} (h0 : c ≠ 9) (h : ¬ (32 ≤ (c.toNat : Int) ∧ (c.toNat : Int) ≤ 126)) : extc c = false := by
  unfold extc; rw [decide_eq_false h0, Bool.false_or, ← Bool.decide_and]; exact decide_eq_false h
set_option maxRecDepth 100000 in
set_option maxHeartbeats 4000000 in
theorem csized_c (D : Nat) (v : Value) (d : Dec) (s : ByteArray) (w : World) (hs : s.size ≤ 140737488351232) (hd : DecAt w D v d) (hok : d.Ok) :
    Calls Tryz.prog 168 #[.pointer (some ⟨D, 0, none⟩), .string s] w (DecPost w D v (sizedD d s.data.toList)) := by
  have CU := fun w => Lib.hid (cut_c s 59 w hs)
  have hcl := cutB_len s.data.toList 59
  have hc2 : (cutB s.data.toList 59).2.1.length ≤ 140737488351232 := Nat.le_trans hcl.2.1 hs
  clear hcl
  obtain ⟨x, hx⟩ : ∃ x, sizedD d s.data.toList = x := ⟨_, rfl⟩
  rw [hx]
  unfold sizedD at hx
  obtain ⟨y, hy⟩ : ∃ y, sizeL s.data.toList = y := ⟨_, rfl⟩
  have hyb : ∀ n, y = some n → 0 ≤ n ∧ n < 4294967296 := fun n h => size_bound (hy.trans h)
  rw [hy] at hx
  unfold sizeL at hy
  generalize cutB s.data.toList 59 = c at *
  obtain ⟨c1, c2, c3⟩ := c
  simp only at hy hc2
  simp only [cutVal] at CU
  have HX := fun w => Lib.hid (hex_c (bs c1) 8 w)
  rw [bs_list] at HX
  generalize hex c1 8 = z at *
  obtain ⟨n, ok⟩ := z
  simp only at hy HX
  have DA := Lib.hid hd
  have OK := Lib.hid hok
  have HXX := Lib.hid hx
  have HY := Lib.hid hy
  have HYB := Lib.hid hyb
  have hm1 := hok.wf.1
  have hm2 := hok.wf.2
  have hz1 := hok.size
  have hz2 := hok.left
  clear hx hy hyb hd hok
  have hb2 : (bs c2).size = c2.length := bs_size c2
  have hbl : (bs c2).data.toList = c2 := bs_list c2
  generalize bs c2 = t at *
  have hts : t.size ≤ 140737488351232 := by omega
  have HBL := Lib.hid hbl
  clear hb2 hbl hc2
  go_enter Tryz.func168, Tryz.ntmps168
  go_wp2_with fail
  refine (CU _).out.mono ?_
  rintro e w1 ⟨rfl, hb1⟩
  have B1 := Lib.hid hb1
  have D1 := Lib.hid (DA.out.below hb1)
  clear hb1
  go_wp2_with fail
  refine (HX _).out.mono ?_
  rintro e w2 ⟨rfl, rfl⟩
  go_wp2_with fail
  go_loop [24, 9] (fun i b => ∃ k : Nat, k ≤ t.size ∧ i = .int .i64 k ∧ b = .bool (ok && (t.data.toList.take k).all extc)) (fun i _ => t.size - (intOf i).toNat)
  case atStart => exact ⟨0, Nat.zero_le _, rfl, by simp⟩
  case round =>
    obtain ⟨k, hk, rfl, rfl⟩ := hrel
    by_cases hlt : k < t.size
    · have hsn : (ok && (t.data.toList.take (k + 1)).all extc) = ((ok && (t.data.toList.take k).all extc) && extc t[k]) := by
        rw [take_snoc t k hlt]; simp [Bool.and_assoc]
      have HSN := Lib.hid hsn
      clear hsn
      generalize (ok && (t.data.toList.take k).all extc) = b at *
      cases b with
      | false =>
        go_wp2
        go_round
        case rel => exact ⟨k + 1, by omega, by go_num, by rw [HSN.out]; rfl⟩
        case measure => simp [intOf]; omega
      | true =>
        have h9 := eqN t[k] 9 9 rfl
        by_cases e9 : t[k] = 9
        · rw [decide_eq_true e9] at h9
          have hx := extc_9 e9
          have HEX := Lib.hid hx
          clear hx e9
          go_wp2
          go_round
          case rel => exact ⟨k + 1, by omega, by go_num, by rw [HSN.out, HEX.out]; rfl⟩
          case measure => simp [intOf]; omega
        · rw [decide_eq_false e9] at h9
          by_cases h32 : 32 ≤ (t[k].toNat : Int)
          · by_cases h126 : (t[k].toNat : Int) ≤ 126
            · have HEX := Lib.hid (extc_in h32 h126)
              clear e9
              go_wp2
              go_round
              case rel => exact ⟨k + 1, by omega, by go_num, by rw [HSN.out, HEX.out]; simp [h126]⟩
              case measure => simp [intOf]; omega
            · have HEX := Lib.hid (extc_no e9 (fun h => h126 h.2))
              clear e9
              go_wp2
              go_round
              case rel => exact ⟨k + 1, by omega, by go_num, by rw [HSN.out, HEX.out]; simp [h126]⟩
              case measure => simp [intOf]; omega
          · have HEX := Lib.hid (extc_no e9 (fun h => h32 h.1))
            clear e9
            go_wp2
            go_round
            case rel => exact ⟨k + 1, by omega, by go_num, by rw [HSN.out, HEX.out]; rfl⟩
            case measure => simp [intOf]; omega
    · obtain rfl : k = t.size := by omega
      have hall : (ok && (t.data.toList.take t.size).all extc) = (ok && c2.all extc) := by
        rw [take_all t t.size (by omega), HBL.out]
      rw [hall]
      clear hall
      obtain ⟨b, hb⟩ : ∃ b, (ok && c2.all extc) = b := ⟨_, rfl⟩
      rw [hb]
      obtain ⟨q0, q1, q2, q3, q4⟩ : w1.cell? ⟨D, 0, none⟩ = some (.int .i64 d.most) ∧ w1.cell? ⟨D, 1, none⟩ = some (.int .i64 d.size) ∧ w1.cell? ⟨D, 2, none⟩ = some (.int .i64 d.st) ∧ w1.cell? ⟨D, 3, none⟩ = some (.int .i64 d.left) ∧ (∀ j, w1.frozen? ⟨D, j, none⟩ = false) :=
        ⟨D1.out.blk.c 0 _ rfl, D1.out.blk.c 1 _ rfl, D1.out.blk.c 2 _ rfl, D1.out.blk.c 3 _ rfl, D1.out.blk.fz⟩
      have f2 := q4 2
      have f3 := q4 3
      clear q4
      cases b with
      | false =>
        have hy : y = none := by
          rw [← HY.out, if_neg (fun h => by rw [h.1, h.2] at hb; cases hb)]
        subst hy
        have hx := HXX.out
        simp only at hx
        subst hx
        clear hb
        go_wp2
        go_ret
        exact ⟨rfl, D1.out, Away.of B1.out⟩
      | true =>
        have hy : y = some n := by
          rw [← HY.out, if_pos (by simpa using hb)]
        have hnb := HYB.out n hy
        subst hy
        have hx := HXX.out
        simp only at hx
        clear hb
        by_cases n0 : n = 0
        · rw [if_pos n0] at hx
          subst hx n0
          go_wp2
          go_ret
          exact ⟨rfl, D1.out.put (d' := { d with st := 3 }) 2 _ (by decide) rfl rfl, (Away.of B1.out).put (by exact rfl) _ _⟩
        · rw [if_neg n0] at hx
          have bn : (n == 0) = false := by rw [beq_eq_false_iff_ne]; exact n0
          by_cases ho : d.most - d.size < n
          · rw [if_pos ho] at hx
            subst hx
            clear n0
            go_wp2
            go_quiet (fail)
            go_wp2
            go_ret
            exact ⟨rfl, D1.out.below ⟨rfl, rfl, rfl, Nat.le_refl _, fun _ _ => rfl⟩, (Away.of B1.out).low ⟨rfl, rfl, rfl, Nat.le_refl _, fun _ _ => rfl⟩⟩
          · rw [if_neg ho] at hx
            subst hx
            clear n0
            go_wp2
            go_quiet (fail)
            go_wp2
            go_ret
            exact ⟨rfl, DecAt.put (d' := { d with st := 1, left := n }) (DecAt.put (d' := { d with st := 1 }) (D1.out.drewN _) 2 _ (by decide) rfl rfl) 3 _ (by decide) rfl rfl, (((Away.of B1.out).drewN _).put (by exact rfl) _ _).put (by exact rfl) _ _⟩
end Go.Proofs.YtgmjkkiahanekaaGreatDoor

/- The contracts of the decoder's whole, take and New. -/
set_option linter.unusedVariables false
set_option linter.unusedSimpArgs false
namespace Go.Proofs.YtgmjkkiahanekaaGreatDoor
open Go.RowKit Lex

theorem DecPost.then {w w1 : World} {D : Nat} {v : Value} {x : Dec × Int} {e : Ending} {w' : World} (h : DecPost w1 D v x e w') (ha : Away (fun k => k = D) w w1) : DecPost w D v x e w' := ⟨h.1, h.2.1, ha.trans h.2.2⟩
set_option maxRecDepth 100000 in
set_option maxHeartbeats 4000000 in
theorem whole_c (D : Nat) (v : Value) (d : Dec) (s : ByteArray) (w : World) (hs : s.size ≤ 140737488351232) (hd : DecAt w D v d) (hok : d.Ok) :
    Calls Tryz.prog 145 #[.pointer (some ⟨D, 0, none⟩), .string s] w (DecPost w D v (wholeD d s.data.toList)) := by
  obtain ⟨x, hx⟩ : ∃ x, wholeD d s.data.toList = x := ⟨_, rfl⟩
  rw [hx]
  unfold wholeD at hx
  have SZ := fun w h => Lib.hid (csized_c D v d s w hs h hok)
  obtain ⟨q2, q6, qf⟩ : w.cell? ⟨D, 2, none⟩ = some (.int .i64 d.st) ∧ w.cell? ⟨D, 6, none⟩ = some (.int .i64 d.tr) ∧ (∀ j, w.frozen? ⟨D, j, none⟩ = false) := ⟨hd.blk.c 2 _ rfl, hd.blk.c 6 _ rfl, hd.blk.fz⟩
  have f2 := qf 2
  have f6 := qf 6
  have DA := Lib.hid hd
  have ht := hok.tr
  clear qf hd hok
  by_cases h0 : d.st = 0
  · rw [if_pos h0] at hx
    rw [hx] at SZ
    rw [h0] at q2
    clear hx h0
    go_enter Tryz.func145, Tryz.ntmps145
    go_wp2_with fail
    refine (SZ _ DA.out).out.mono ?_
    rintro e w1 ⟨rfl, hd1, ha1⟩
    have D1 := Lib.hid hd1
    have A1 := Lib.hid ha1
    clear hd1 ha1
    go_wp2
    go_ret
    exact ⟨rfl, D1.out, A1.out⟩
  · rw [if_neg h0] at hx
    have b0 : (d.st == 0) = false := by rw [beq_eq_false_iff_ne]; exact h0
    by_cases h2 : d.st = 2
    · rw [if_pos h2] at hx
      subst hx
      rw [h2] at q2 b0
      clear h0 h2 SZ
      go_enter Tryz.func145, Tryz.ntmps145
      go_wp2
      go_ret
      exact ⟨rfl, DA.out.put (d' := { d with st := 0 }) 2 _ (by decide) rfl rfl, (Away.refl _ w).put (by exact rfl) _ _⟩
    · rw [if_neg h2] at hx
      have b2 : (d.st == 2) = false := by rw [beq_eq_false_iff_ne]; exact h2
      by_cases hl : s.data.toList = []
      · rw [if_pos hl] at hx
        subst hx
        have e1 : s.toList = [] := by
          have : s.size = 0 := by rw [← size_list, hl]; rfl
          exact empty_toList this
        clear h0 h2 SZ hl
        go_enter Tryz.func145, Tryz.ntmps145
        go_wp2
        go_ret
        exact ⟨rfl, DA.out.put (d' := { d with st := 4 }) 2 _ (by decide) rfl rfl, (Away.refl _ w).put (by exact rfl) _ _⟩
      · rw [if_neg hl] at hx
        have e1 : s.toList.isEmpty = false := nonempty_toList (fun h => hl (List.eq_nil_of_length_eq_zero (by rw [size_list]; exact h)))
        have FI := fun w => Lib.hid (hfield_c s w hs)
        obtain ⟨D2, hD2⟩ : ∃ V, w.setCell ⟨D, 6, none⟩ (.int .i64 (d.tr + 1)) = V := ⟨_, rfl⟩
        have DA2 : Hid (DecAt D2 D v { d with tr := d.tr + 1 }) := Lib.hid (by rw [← hD2]; exact DA.out.put (d' := { d with tr := d.tr + 1 }) 6 _ (by decide) rfl rfl)
        have AW2 : Hid (Away (fun k => k = D) w D2) := Lib.hid (by rw [← hD2]; exact (Away.refl _ w).put (by exact rfl) _ _)
        have HD2 := Lib.hid hD2
        clear h0 h2 SZ hl hD2
        by_cases hf : fieldL s.data.toList = none
        · rw [if_pos (.inl hf)] at hx
          rw [hf] at FI
          simp only [fieldVal] at FI
          subst hx
          clear hf
          go_enter Tryz.func145, Tryz.ntmps145
          go_wp2_with fail
          refine (FI _).out.mono ?_
          rintro e w3 ⟨rfl, hb3⟩
          have hb4 := hb3
          rw [HD2.out] at hb4
          have D3 := Lib.hid (DA2.out.below hb4)
          have A3 := Lib.hid (AW2.out.low hb4)
          clear hb3 hb4 q2 q6 f2 f6
          go_wp2
          go_ret
          exact ⟨rfl, D3.out.below ((Below.refl _ _).alloc (Nat.le_refl _) _), A3.out.alloc _⟩
        · obtain ⟨f, hf1⟩ : ∃ f, fieldL s.data.toList = some f := by
            cases h : fieldL s.data.toList with
            | none => exact absurd h hf
            | some f => exact ⟨f, rfl⟩
          rw [hf1] at FI
          simp only [fieldVal] at FI
          by_cases h32 : 32 < d.tr + 1
          · rw [if_pos (.inr h32)] at hx
            subst hx
            clear hf hf1
            go_enter Tryz.func145, Tryz.ntmps145
            go_wp2_with fail
            refine (FI _).out.mono ?_
            rintro e w3 ⟨rfl, hb3⟩
            have hb4 := hb3
            rw [HD2.out] at hb4
            have D3 := Lib.hid (DA2.out.below hb4)
            have A3 := Lib.hid (AW2.out.low hb4)
            have c6 := D3.out.blk.c 6 _ rfl
            have g6 : D < w3.heap.size := D3.out.lt
            simp only at c6
            clear hb3 hb4 q2 q6 f2 f6
            go_wp2
            go_ret
            exact ⟨rfl, D3.out.below ((Below.refl _ _).alloc (Nat.le_refl _) _), A3.out.alloc _⟩
          · rw [if_neg (by rw [not_or]; exact ⟨hf, h32⟩)] at hx
            subst hx
            clear hf hf1
            go_enter Tryz.func145, Tryz.ntmps145
            go_wp2_with fail
            refine (FI _).out.mono ?_
            rintro e w3 ⟨rfl, hb3⟩
            have hb4 := hb3
            rw [HD2.out] at hb4
            have D3 := Lib.hid (DA2.out.below hb4)
            have A3 := Lib.hid (AW2.out.low hb4)
            have c6 := D3.out.blk.c 6 _ rfl
            have g6 : D < w3.heap.size := D3.out.lt
            simp only at c6
            clear hb3 hb4 q2 q6 f2 f6
            go_wp2
            go_ret
            exact ⟨rfl, D3.out.below ((Below.refl _ _).alloc (Nat.le_refl _) _), A3.out.alloc _⟩

/-- What take leaves. -/
def TakePost (w : World) (D : Nat) (v : Value) (x : Dec × Int) (e : Ending) (w' : World) : Prop :=
  ∃ v', e = .returned (.int .i64 x.2) ∧ DecAt w' D v' x.1 ∧ Away (fun k => k = D ∨ v.ownBlock = some k) w w' ∧ ∀ k, v'.ownBlock = some k → v.ownBlock = some k ∨ (w.heap.size ≤ k ∧ k < w'.heap.size)
theorem eq10 (c : UInt8) : ((c.toNat : Int) == 10) = decide (c = 10) := eqN c 10 10 rfl
theorem eq13 (c : UInt8) : ((c.toNat : Int) == 13) = decide (c = 13) := eqN c 13 13 rfl
theorem byteI_snoc (l : List UInt8) (c : UInt8) : nums8 (byteI l) ++ [Value.int .u8 (c.toNat : Int)] = nums8 (byteI (l ++ [c])) := by simp [nums8, byteI]
theorem news1 (w : World) (a : Value) (e : TypeId) : ∀ j u, [a][j]? = some u → (w.alloc (.cells #[a] e)).cell? ((⟨w.heap.size, 0, none⟩ : Addr).add j) = some u := fun j u hu =>
  World.news_of_block (w := w.alloc (.cells #[a] e)) (cs := #[a]) (t := e) (fr := (0, 0)) (heap_alloc_new w _) j u hu
theorem ones1 (n : Int) : ∀ u ∈ [Value.int .u8 n], u.oneCell' = true := by intro u hu; simp at hu; subst hu; rfl
set_option maxRecDepth 100000 in
set_option maxHeartbeats 4000000 in
theorem take_c (D : Nat) (v : Value) (d : Dec) (c : UInt8) (w : World) (hd : DecAt w D v d) (hok : d.Ok) (h4 : d.st ≠ 4) (he : d.err = 0) :
    Calls Tryz.prog 115 #[.pointer (some ⟨D, 0, none⟩), .int .u8 (c.toNat : Int)] w (TakePost w D v (takeD d c)) := by
  obtain ⟨i0, hi, hz0, hz1, hz2⟩ := info_parts info_u8
  obtain ⟨x, hx⟩ : ∃ x, takeD d c = x := ⟨_, rfl⟩
  rw [hx]
  unfold takeD at hx
  obtain ⟨q2, q4, q5, qf⟩ : w.cell? ⟨D, 2, none⟩ = some (.int .i64 d.st) ∧ w.cell? ⟨D, 4, none⟩ = some v ∧ w.cell? ⟨D, 5, none⟩ = some (.bool d.cr) ∧ (∀ j, w.frozen? ⟨D, j, none⟩ = false) := ⟨hd.blk.c 2 _ rfl, hd.blk.c 4 _ rfl, hd.blk.c 5 _ rfl, hd.blk.fz⟩
  have f4 := qf 4
  have f5 := qf 5
  have hlt := hd.lt
  have e10 := eq10 c
  have e13 := eq13 c
  have hll := hok.line
  have DA := Lib.hid hd
  have OK := Lib.hid hok
  clear qf hd hok
  by_cases h1 : d.cr = true ∧ c = 10
  · rw [if_pos h1] at hx
    obtain ⟨hcr, rfl⟩ := h1
    rw [hcr] at q5
    have CV := fun w h => own_string8 (w := w) (base := D + 1) (n := d.line.length) (v := v) (xs := byteI d.line) h
    simp only [strOf_bytes] at CV
    have CV1 := CV w DA.out.own
    obtain ⟨V, hV⟩ : ∃ V, (w.setCell ⟨D, 4, none⟩ (.slice none 0 0)).setCell ⟨D, 5, none⟩ (.bool false) = V := ⟨_, rfl⟩
    have DV : Hid (DecAt V D (.slice none 0 0) { d with line := [], cr := false }) := Lib.hid (by
      rw [← hV]
      refine ⟨(DA.out.blk.set 4 (by show 4 < 8; decide) _).set 5 (by rw [List.length_set]; show 5 < 8; decide) _, ?_⟩
      exact World.ownsRow_nil _ _ _ _)
    have AV : Hid (Away (fun k => k = D) w V) := Lib.hid (by rw [← hV]; exact ((Away.refl _ w).put (by exact rfl) _ _).put (by exact rfl) _ _)
    have WH := fun w h ho => Lib.hid (whole_c D (.slice none 0 0) { d with line := [], cr := false } (bs d.line) w (by rw [bs_size]; omega) h ho)
    rw [bs_list, hx] at WH
    have OK2 : Hid (Dec.Ok { d with line := [], cr := false }) := Lib.hid (by
      obtain ⟨a1, a2, a3, a4, a5, a6, a7, a8⟩ := OK.out
      exact ⟨a1, a2, a3, fun h => ⟨(a4 h).1, rfl, rfl⟩, by simp, a6, a7, a8⟩)
    have HV := Lib.hid hV
    have hcv := Lib.hid CV1
    clear hx hcr e10 e13 hV CV
    go_enter Tryz.func115, Tryz.ntmps115
    go_wp2_with fail
    rw [HV.out]
    refine (WH _ DV.out OK2.out).out.mono ?_
    rintro e w1 ⟨rfl, hd1, ha1⟩
    have D1 := Lib.hid hd1
    have A1 := Lib.hid (AV.out.trans ha1)
    clear hd1 ha1
    go_wp2
    go_ret
    exact ⟨_, rfl, D1.out, A1.out.mono (fun k _ h => .inl h), fun k h => by cases h⟩
  · rw [if_neg h1] at hx
    by_cases h2 : d.cr = true ∨ c = 10
    · rw [if_pos h2] at hx
      subst hx
      have hcase : (d.cr = true ∧ decide (c = 10) = false) ∨ (d.cr = false ∧ decide (c = 10) = true) := by
        cases hcr : d.cr with
        | true => exact .inl ⟨rfl, decide_eq_false fun h => h1 ⟨hcr, h⟩⟩
        | false => exact .inr ⟨rfl, decide_eq_true (h2.resolve_left (by rw [hcr]; simp))⟩
      clear h1 h2
      rcases hcase with ⟨g1, g2⟩ | ⟨g1, g2⟩
      all_goals
        rw [g1] at q5
        rw [g2] at e10
        clear g1 g2 e13
        go_enter Tryz.func115, Tryz.ntmps115
        go_wp2
        go_ret
        exact ⟨_, rfl, DA.out, Away.refl _ _, fun k h => .inl h⟩
    · rw [if_neg h2] at hx
      rw [not_or] at h2
      have hcr : d.cr = false := by simpa using h2.1
      rw [hcr] at q5
      rw [decide_eq_false h2.2] at e10
      clear h1 h2 hcr
      by_cases h3 : c = 13
      · rw [if_pos h3] at hx
        rw [decide_eq_true h3] at e13
        subst hx
        clear h3
        go_enter Tryz.func115, Tryz.ntmps115
        go_wp2
        go_ret
        exact ⟨v, rfl, DA.out.put (d' := { d with cr := true }) 5 _ (by decide) rfl rfl, (Away.refl _ w).put (by exact .inl rfl) _ _, fun k h => .inl h⟩
      · rw [if_neg h3] at hx
        rw [decide_eq_false h3] at e13
        clear h3
        have BD := fun w h => Lib.hid (bound_c D d.st w h)
        obtain ⟨a, cc, hvs⟩ : ∃ a c, v = .slice a d.line.length c := by
          rcases DA.out.own.2 with ⟨h, h0⟩ | ⟨g, cap, cur, h, _⟩
          · exact ⟨none, 0, by rw [h, h0]⟩
          · exact ⟨_, _, h⟩
        subst hvs
        by_cases hb : boundD d.st ≤ d.line.length
        · rw [if_pos hb] at hx
          subst hx
          have hbi : (boundD d.st : Int) ≤ (d.line.length : Int) := by omega
          clear hb
          go_enter Tryz.func115, Tryz.ntmps115
          go_wp2
          go_quiet ((go_at_call 146; exact Calls.quiet_of_same ((BD _ (by first | assumption | exact q2)).out.mono fun e w' ⟨h, k⟩ => ⟨h, k.symm⟩)))
          go_wp2
          go_ret
          exact ⟨_, rfl, DA.out.drewN _, (Away.refl _ w).drewN _, fun k h => .inl h⟩
        · rw [if_neg hb] at hx
          subst hx
          have hbi : ¬ (boundD d.st : Int) ≤ (d.line.length : Int) := by omega
          have hbi2 : (d.line.length : Int) < (boundD d.st : Int) := by omega
          clear hb
          go_enter Tryz.func115, Tryz.ntmps115
          go_wp2
          go_quiet ((go_at_call 146; exact Calls.quiet_of_same ((BD _ (by first | assumption | exact q2)).out.mono fun e w' ⟨h, k⟩ => ⟨h, k.symm⟩)))
          go_wp2_with (at_builtin; refine wpList_append_lies _ rfl (.tmp 10) (.tmp 12) 71 rfl (D + 1) 5 i0 (.int .u8 0) 1 1 Tryz.underlying71 hi hz0 hz1 hz2 rfl (by decide) _ d.line.length _ rfl ((DA.out.drewN nq).own.alloc _) ⟨w.heap.size, 0, none⟩ 1 1 [.int .u8 (c.toNat : Int)] rfl rfl (news1 (w.drewN nq) _ _) (ones1 _) (by decide) (by unfold maxLen; omega) (by omega) (by simp; omega) _ rfl ?_; intro g cap w5 hown hgrow hat hlt5; rw [byteI_snoc] at hown; have hg1 := (((Away.refl (fun k => k = D ∨ (Value.slice a d.line.length cc).ownBlock = some k) w).drewN nq).alloc (.cells #[.int .u8 (c.toNat : Int)] 5)).grown hgrow (fun k e _ => .inr e); have hb1 := ((DA.out.drewN nq).blk.alloc (by exact hlt) (.cells #[.int .u8 (c.toNat : Int)] 5)); have hne : ∀ k, (Value.slice a d.line.length cc).ownBlock = some k → D + 1 ≤ k := fun k e => (DA.out.own.lt k e).1; have HB := Lib.hid (hb1.away (F := fun k => (Value.slice a d.line.length cc).ownBlock = some k) (by simp; omega) ((Away.refl _ _).grown hgrow (fun k e _ => e)) (fun e => by have := hne _ e; omega)); have HO := Lib.hid hown; have HG := Lib.hid hg1; have HAT := Lib.hid hat; have HLT := Lib.hid hlt5; have n4 := HB.out.c 4 _ rfl; have m4 := HB.out.fz 4; clear hown hgrow hat hlt5 hg1 hb1 hne q4 f4)
          go_ret
          refine ⟨_, rfl, ⟨HB.out.set 4 (by show 4 < 8; decide) _, ?_⟩, HG.out.put (by exact .inl rfl) _ _, ?_⟩
          · rw [show (d.line ++ [c]).length = d.line.length + 1 by simp]
            exact ownsRow_setCell_below HO.out (Nat.lt_succ_self D) _
          · intro k hk
            injection hk with hk
            subst hk
            rcases HAT.out with h | h
            · exact .inl h
            · exact .inr ⟨by show w.heap.size ≤ g; simp at h; omega, by show g < _; have := HLT.out; simpa using this⟩

theorem cnew_c (m : Int) (w : World) : Calls Tryz.prog 56 #[.int .i64 m] w fun e w' => e = .returned (.pointer (some ⟨w.heap.size, 0, none⟩)) ∧ DecAt w' w.heap.size (.slice none 0 0) { most := m } ∧ Below w.heap.size w w' ∧ w.heap.size < w'.heap.size := by
  go_enter Tryz.func56, Tryz.ntmps56
  go_wp2
  go_ret
  exact ⟨rfl, ⟨Blk.new _ _ _ _ rfl, World.ownsRow_nil _ _ _ _⟩, (Below.refl _ w).alloc (Nat.le_refl _) _, by simp⟩
end Go.Proofs.YtgmjkkiahanekaaGreatDoor

/- strings.Builder by hand: copyCheck, WriteString and String of a builder that lies in a block by itself or as a field of another struct: the condition is that a Builder lies at that place of the block. -/
set_option linter.unusedVariables false
set_option linter.unusedSimpArgs false
namespace Go.Proofs.YtgmjkkiahanekaaGreatDoor
open Go.RowKit Lex

/-- A builder at the place o of block b, a block of N cells of the type T; v: its buffer; l: what it holds. -/
structure BldAt (T : TypeId) (N : Nat) (w : World) (b o base : Nat) (v : Value) (l : List UInt8) : Prop where
  sh : w.shape? b = some (T, N)
  c0 : w.cell? ⟨b, o, none⟩ = some (.pointer none) ∨ w.cell? ⟨b, o, none⟩ = some (.pointer (some ⟨b, o, none⟩))
  c1 : w.cell? ⟨b, o + 1, none⟩ = some v
  fz : ∀ j, w.frozen? ⟨b, j, none⟩ = false
  own : w.ownsRow base 5 1 v l.length (nums8 (byteI l))
  ne : v.ownBlock ≠ some b
  nil : l = [] → v = .slice none 0 0
theorem cells_bytes (l : List UInt8) : Lib.byteCells l = nums8 (byteI l) := by simp [Lib.byteCells, nums8, byteI]
theorem cells_str (s : ByteArray) : Lib.strCells s = nums8 (byteI s.data.toList) := by simp [Lib.strCells, nums8, byteI]
theorem nums_app (a b : List UInt8) : nums8 (byteI a) ++ nums8 (byteI b) = nums8 (byteI (a ++ b)) := by simp [nums8, byteI]
theorem shape_block {w w' : World} {b : Nat} (h : w'.heap[b]? = w.heap[b]?) : w'.shape? b = w.shape? b := by simp [World.shape?, h]
theorem shape_set (w : World) (p : Addr) (u : Value) (b : Nat) : (w.setCell p u).shape? b = w.shape? b := by
  by_cases h : b = p.block
  · subst h
    simp only [World.shape?, World.setCell, Array.getElem?_modify]
    simp only [if_true]
    cases w.heap[p.block]? with
    | none => rfl
    | some o => cases o <;> first | rfl | (simp only [Option.map_some]; congr 2; split <;> simp)
  · exact shape_block (Below.heap_setCell _ _ _ _ h)
theorem BldAt.lt {T : TypeId} {N : Nat} {w : World} {b o base : Nat} {v : Value} {l : List UInt8} (h : BldAt T N w b o base v l) : b < w.heap.size := World.block_lt_of_cell? w _ h.c1
theorem BldAt.away {T : TypeId} {N : Nat} {w w' : World} {b o base : Nat} {v : Value} {l : List UInt8} {F : Nat → Prop} (h : BldAt T N w b o base v l) (ha : Away F w w') (h1 : ¬ F b) (h2 : ∀ k, v.ownBlock = some k → ¬ F k) : BldAt T N w' b o base v l :=
  ⟨(shape_block (ha.block b h.lt h1)).trans h.sh, h.c0.imp (fun c => ha.cell c h1) (fun c => ha.cell c h1), ha.cell h.c1 h1, fun j => (ha.frozen (p := ⟨b, j, none⟩) h.lt h1).trans (h.fz j), own_away h.own ha h2, h.ne, h.nil⟩
theorem BldAt.below {T : TypeId} {N : Nat} {w w' : World} {b o base : Nat} {v : Value} {l : List UInt8} (h : BldAt T N w b o base v l) (hb : Below w.heap.size w w') : BldAt T N w' b o base v l := h.away (F := fun _ => False) (Away.of hb) id (fun _ _ => id)

theorem size_builder : (Tryz.prog.info? 112).map (·.size) = some 2 := by kernel_rfl
set_option maxRecDepth 100000 in
set_option maxHeartbeats 2000000 in
theorem ccheck_used (b o : Nat) (w : World) (h0 : w.cell? ⟨b, o, none⟩ = some (.pointer (some ⟨b, o, none⟩))) :
    Calls Tryz.prog 116 #[.pointer (some ⟨b, o, none⟩)] w fun e w' => e = .returned (.tuple #[]) ∧ w = w' := by
  obtain ⟨j, hj, hjs⟩ := Option.map_eq_some_iff.1 size_builder
  have R := Lib.hid (Lib.run_neq_ptr_same (P := Tryz.prog) w ⟨b, o, none⟩ Tryz.underlying110 hj)
  go_enter Tryz.func116, Tryz.ntmps116
  go_wp2
  rw [R.out]
  go_wp2
  go_end0
  exact ⟨rfl, rfl⟩
set_option maxRecDepth 100000 in
set_option maxHeartbeats 2000000 in
theorem ccheck_fresh (T : TypeId) (N b o : Nat) (w : World) (h0 : w.cell? ⟨b, o, none⟩ = some (.pointer none)) (hsh : w.shape? b = some (T, N)) (ho : o < N) (hfz : w.frozen? ⟨b, o, none⟩ = false)
    (hl : liesAt Tryz.prog Tryz.prog.depth T (N / Tryz.prog.cellsOf T) o 112 1 = true) :
    Calls Tryz.prog 116 #[.pointer (some ⟨b, o, none⟩)] w fun e w' => e = .returned (.tuple #[]) ∧ w' = w.setCell ⟨b, o, none⟩ (.pointer (some ⟨b, o, none⟩)) := by
  obtain ⟨j, hj, hjs⟩ := Option.map_eq_some_iff.1 size_builder
  have R1 := Lib.run_to_unsafe (P := Tryz.prog) w ⟨b, o, none⟩ Tryz.underlying110 Tryz.underlying208 hj (by rw [hjs]; decide) hsh ho
  have R2 := Lib.run_from_unsafe (P := Tryz.prog) w ⟨b, o, none⟩ Tryz.underlying208 Tryz.underlying110 hj hsh hl
  have R3 := Lib.hid R1
  have R4 := Lib.hid R2
  clear R1 R2 hl hsh
  go_enter Tryz.func116, Tryz.ntmps116
  go_wp2
  rw [R3.out]
  simp only [Result.andThen]
  rw [Oper.upon_value]
  go_wp2
  rw [run_callFunc_extern Tryz.func147 (by kernel_rfl) (by kernel_rfl) (by kernel_rfl) (e := Extern.AbiNoEscape.same) (by kernel_rfl)]
  rw [Lib.run_noEscape]
  simp only [Result.andThen]
  rw [Oper.upon_value]
  go_wp2
  rw [R4.out]
  simp only [Result.andThen]
  rw [Oper.upon_value]
  go_wp2
  go_end0
  exact ⟨rfl, rfl⟩

/-- What copyCheck leaves of the block. -/
theorem ccheck_c (T : TypeId) (N b o base : Nat) (v : Value) (l : List UInt8) (w : World) (h : BldAt T N w b o base v l) (ho : o + 1 < N)
    (hl : liesAt Tryz.prog Tryz.prog.depth T (N / Tryz.prog.cellsOf T) o 112 1 = true) :
    Calls Tryz.prog 116 #[.pointer (some ⟨b, o, none⟩)] w fun e w' => e = .returned (.tuple #[]) ∧ BldAt T N w' b o base v l ∧ Away (fun k => k = b) w w' ∧ (∀ j, j ≠ o → w'.cell? ⟨b, j, none⟩ = w.cell? ⟨b, j, none⟩) ∧ w'.heap.size = w.heap.size := by
  rcases h.c0 with c | c
  · refine (ccheck_fresh T N b o w c h.sh (by omega) (h.fz o) hl).mono ?_
    rintro e w' ⟨rfl, rfl⟩
    have ho1 : ∀ j, j ≠ o → (w.setCell ⟨b, o, none⟩ (.pointer (some ⟨b, o, none⟩))).cell? ⟨b, j, none⟩ = w.cell? ⟨b, j, none⟩ := fun j hj => setO w b o j _ (Ne.symm hj)
    refine ⟨rfl, ⟨(shape_set _ _ _ _).trans h.sh, .inr (World.cell?_setCell_same w _ _ c), (ho1 _ (by omega)).trans h.c1, fun j => (World.frozen?_setCell _ _ _ _).trans (h.fz j), ?_, h.ne, h.nil⟩, (Away.refl _ w).put (by exact rfl) _ _, ho1, by simp [World.setCell]⟩
    exact own_away h.own ((Away.refl (fun k => k = b) w).put (by exact rfl) _ _) (fun k hk e => h.ne (by rw [hk, e]))
  · refine (ccheck_used b o w c).mono ?_
    rintro e w' ⟨rfl, rfl⟩
    exact ⟨rfl, h, Away.refl _ _, fun _ _ => rfl, rfl⟩

/-- append(buf, s...), and where the new buffer lies. -/
theorem run_append_str_lies {P : Program} (w : World) (base : Nat) (t u ty e : TypeId) (i : TypeInfo) (ht : P.underlying t = some (.slice e)) (hu : P.underlying u = some .string) (hi : P.info? e = some i) (hz : i.zero = some (.int .u8 0))
    (hsize : i.size = 1) (hby : i.bytes = 1) (v : Value) (n : Nat) (xs : List Value) (hown : w.ownsRow base e 1 v n xs) (s : ByteArray) (hb : n + s.size ≤ 140737488355328) (hbase : base ≤ w.heap.size) :
    ∃ v' w', (Builtin.append_ #[t, u] ty #[v, .string s]).run P w = .ok v' w' ∧ w'.ownsRow base e 1 v' (n + s.size) (xs ++ Lib.strCells s) ∧ w.grownBy w' v.ownBlock ∧ (v' = .slice none 0 0 ↔ v = .slice none 0 0 ∧ s.size = 0) ∧
      ∀ k, v'.ownBlock = some k → v.ownBlock = some k ∨ w.heap.size ≤ k := by
  obtain ⟨v', w', hr, h2, h3, h4⟩ := Lib.run_append_own_string (P := P) w base t u ty e i ht hu hi hz hsize hby v n xs hown s (by unfold maxLen; omega) hb hbase
  refine ⟨v', w', hr, h2, h3, h4, ?_⟩
  rcases hown.2 with ⟨rfl, rfl⟩ | ⟨g, cap, cur, rfl, hbg, hg, hnc, hcm, hcs, htake⟩
  · obtain ⟨v2, w2, hr2, k2, k3, k4⟩ := Lib.run_append_own_string (P := P) w w.heap.size t u ty e i ht hu hi hz hsize hby (.slice none 0 0) 0 xs ⟨hown.1, .inl ⟨rfl, rfl⟩⟩ s (by unfold maxLen; omega) hb (Nat.le_refl _)
    rw [hr] at hr2
    injection hr2 with e1 e2
    subst e1 e2
    exact fun k hk => .inr (k2.lt k hk).1
  · by_cases hroom : n + s.size ≤ cap
    · have hr2 := Lib.run_append_room_string (P := P) w t u ty e i ht hu hi hsize g n cap cur hg s hroom (by omega)
      rw [hr] at hr2
      injection hr2 with e1 e2
      subst e1
      exact fun k hk => .inl hk
    · have hxl : xs.length = n := by simpa using hown.1
      have holds : ∀ j u, xs[j]? = some u → w.cell? ((⟨g, 0, none⟩ : Addr).add j) = some u := hown.cells (g := g) rfl
      have hr2 := Lib.run_append_grow_string (P := P) w t u ty e i (.int .u8 0) ht hu hi hz ⟨g, 0, none⟩ n cap xs (by rw [hsize]; simpa using hxl) holds s (by omega) (by omega) (by rw [hby]; exact growslice_fits (by omega) (by omega))
      rw [hr] at hr2
      injection hr2 with e1 e2
      subst e1
      intro k hk
      injection hk with hk
      exact .inr (Nat.le_of_eq hk)
theorem wpList_append_str_lies {P : Program} {w : World} {ops : Array Oper} {rest : List Oper} {o : Oper} {a : Act} {Q : Exit → Act → World → Prop} (hgd : o.guard = none) (sl x : Operand) (t u : TypeId)
    (ho : o.op = .call { callee := .builtin .append, args := #[sl, x], argTypes := #[t, u] })
    (base : Nat) (e : TypeId) (i : TypeInfo) (ht : P.underlying t = some (.slice e)) (hu : P.underlying u = some .string) (hi : P.info? e = some i) (hz : i.zero = some (.int .u8 0))
    (hsize : i.size = 1) (hby : i.bytes = 1)
    (v : Value) (n : Nat) (xs : List Value) (hs : a.eval sl = v) (hown : w.ownsRow base e 1 v n xs) (s : ByteArray) (hx : a.eval x = .string s) (hb : n + s.size ≤ 140737488355328) (hbase : base ≤ w.heap.size)
    (h : ∀ v' w', w'.ownsRow base e 1 v' (n + s.size) (xs ++ Lib.strCells s) → w.grownBy w' v.ownBlock → (v' = .slice none 0 0 ↔ v = .slice none 0 0 ∧ s.size = 0) → (∀ k, v'.ownBlock = some k → v.ownBlock = some k ∨ w.heap.size ≤ k) → wpList P ops Q rest (a.put o.dst v') w') : wpList P ops Q (o :: rest) a w := by
  refine wpList_plain hgd fun K hK => ?_
  obtain ⟨v', w', hr, h2, h3, h4, h5⟩ := run_append_str_lies (P := P) w base t u o.type e i ht hu hi hz hsize hby v n xs hown s hb hbase
  unfold Oper.wp execOp
  simp only [ho, resolve, invoke, builtin, Sem.run_bind, Sem.run_pure, Result.andThen_ok, List.map_toArray, List.map_cons, List.map_nil, hs, hx, hr]
  exact hK _ _ (h v' w' h2 h3 h4 h5)

theorem own_slice {w : World} {base n z : Nat} {e : TypeId} {v : Value} {xs : List Value} (h : w.ownsRow base e z v n xs) : ∃ a m c, v = .slice a m c := by
  rcases h.2 with ⟨hv, _⟩ | ⟨g, cap, cur, hv, _⟩
  · exact ⟨_, _, _, hv⟩
  · exact ⟨_, _, _, hv⟩
/-- What WriteString leaves. -/
def WstrPost (T : TypeId) (N : Nat) (w : World) (b o base : Nat) (v : Value) (l : List UInt8) (s : ByteArray) (e : Ending) (w' : World) : Prop :=
  ∃ v', e = .returned (.tuple #[.int .i64 s.size, .nilIface]) ∧ BldAt T N w' b o base v' (l ++ s.data.toList) ∧ Away (fun k => k = b ∨ v.ownBlock = some k) w w' ∧ (∀ j, j ≠ o → j ≠ o + 1 → w'.cell? ⟨b, j, none⟩ = w.cell? ⟨b, j, none⟩) ∧
    ∀ k, v'.ownBlock = some k → v.ownBlock = some k ∨ (w.heap.size ≤ k ∧ k < w'.heap.size)
set_option maxRecDepth 100000 in
set_option maxHeartbeats 2000000 in
theorem wstr_c (T : TypeId) (N b o base : Nat) (v : Value) (l : List UInt8) (s : ByteArray) (w : World) (h : BldAt T N w b o base v l) (ho : o + 1 < N)
    (hl : liesAt Tryz.prog Tryz.prog.depth T (N / Tryz.prog.cellsOf T) o 112 1 = true) (hlen : l.length + s.size ≤ 140737488355328) (hb : base ≤ w.heap.size) :
    Calls Tryz.prog 88 #[.pointer (some ⟨b, o, none⟩), .string s] w (WstrPost T N w b o base v l s) := by
  obtain ⟨i0, hi, hz0, hz1, hz2⟩ := info_parts info_u8
  have CC := Lib.hid (ccheck_c T N b o base v l w h ho hl)
  have HL := Lib.hid hl
  clear hl h
  go_enter Tryz.func88, Tryz.ntmps88
  go_wp2_with fail
  refine CC.out.mono ?_
  rintro e w1 ⟨rfl, hd1, ha1, hc1, hs1⟩
  have B1 := Lib.hid hd1
  have A1 := Lib.hid ha1
  have C1 := Lib.hid hc1
  have S1 := Lib.hid hs1
  have q1 := hd1.c1
  have hlt := hd1.lt
  have hb1 : base ≤ w1.heap.size := by omega
  clear hd1 ha1 hc1 hs1
  go_wp2_with (at_builtin; refine wpList_append_str_lies rfl (.tmp 12) (.tmp 13) 71 9 rfl base 5 i0 Tryz.underlying71 Tryz.underlying9 hi hz0 hz1 hz2 v l.length _ rfl B1.out.own s rfl hlen hb1 ?_; intro v' w2 hown hgrow hnil hat; rw [cells_str, nums_app] at hown; obtain ⟨a', n', c', rfl⟩ := own_slice hown; have G2 := Lib.hid ((Away.refl (fun k => v.ownBlock = some k) w1).grown hgrow (fun k e _ => e)); have HO := Lib.hid hown; have HN := Lib.hid hnil; have HAT := Lib.hid hat; have q2 : w2.cell? ⟨b, o + 1, none⟩ = some v := G2.out.cell q1 B1.out.ne; have fz2 : w2.frozen? ⟨b, o + 1, none⟩ = false := (G2.out.frozen (p := ⟨b, o + 1, none⟩) hlt B1.out.ne).trans (B1.out.fz _); clear hown hgrow hnil hat q1)
  go_ret2
  have hne : (Value.slice a' n' c').ownBlock ≠ some b := fun e => by
    rcases HAT.out b e with h | h
    · exact B1.out.ne h
    · omega
  have B2 := B1.out
  have ho1 : ∀ j, j ≠ o + 1 → (w2.setCell ⟨b, o + 1, none⟩ (.slice a' n' c')).cell? ⟨b, j, none⟩ = w1.cell? ⟨b, j, none⟩ := fun j hj => by
    rw [setO w2 b (o + 1) j _ (Ne.symm hj)]
    exact World.cell?_of_block (w := w1) (a := ⟨b, j, none⟩) (G2.out.block b hlt B1.out.ne)
  refine ⟨_, rfl, ⟨(shape_set _ _ _ _).trans ((shape_block (G2.out.block b hlt B1.out.ne)).trans B2.sh), ?_, World.cell?_setCell_same w2 _ _ q2, fun j => (World.frozen?_setCell _ _ _ _).trans ((G2.out.frozen (p := ⟨b, j, none⟩) hlt B1.out.ne).trans (B2.fz j)), ?_, hne, ?_⟩, ?_, ?_, ?_⟩
  · rw [ho1 o (by omega)]; exact B2.c0
  · rw [show (l ++ s.data.toList).length = l.length + s.size by rw [List.length_append, size_list]]
    exact own_away HO.out ((Away.refl (fun k => k = b) w2).put (by exact rfl) _ _) (fun k hk e => hne (by rw [hk, e]))
  · intro hnil
    have h1 : l = [] := List.append_eq_nil_iff.1 hnil |>.1
    have h2 : s.size = 0 := by rw [← size_list, (List.append_eq_nil_iff.1 hnil).2]; rfl
    exact HN.out.2 ⟨B2.nil h1, h2⟩
  · exact ((A1.out.mono (fun k _ e => .inl e)).then (G2.out) (fun i _ e => .inr e)).put (by exact .inl rfl) _ _
  · intro j h1 h2
    rw [ho1 j h2]
    exact C1.out j h1
  · intro k hk
    rcases HAT.out k hk with h | h
    · exact .inl h
    · refine .inr ⟨by rw [← S1.out]; exact h, ?_⟩
      have := (HO.out.lt k hk).2
      simpa [World.setCell] using this
end Go.Proofs.YtgmjkkiahanekaaGreatDoor

