/- The texts InC, FldH, FrmB, FrmC in one. -/
import Derived.Test.YtgmjkkiahanekaaGreatDoorM15
import Derived.Test.YtgmjkkiahanekaaGreatDoorM16
import Derived.Test.YtgmjkkiahanekaaGreatDoorM14
import Derived.Test.YtgmjkkiahanekaaGreatDoorM1
import Derived.Outline
/- A reader of layer 11 as it lies in memory; its statuses, New, Feed, Len, Rest. -/
set_option linter.unusedVariables false
set_option linter.unusedSimpArgs false
namespace Go.Proofs.YtgmjkkiahanekaaGreatDoor
open Go.RowKit Lex

def rqVs (q : Rq) (A : Option Addr) (c : Nat) : List Value := [.string (bs q.head.method), .string (bs q.head.target), .int .i64 q.head.status, .string (bs q.head.reason), .int .i64 q.head.minor, .slice A q.head.fields.length c,
  .int .i64 q.tg.form, .string (bs q.tg.host), .int .i64 q.tg.port, .string (bs q.tg.path), .string (bs q.tg.query), .bool q.tg.has, .string (bs q.host), .int .i64 q.port, .string (bs q.body), .bool q.sized, .bool q.keep, .string (bs q.upg)]
def rqV (q : Rq) (A : Option Addr) (c : Nat) : Value := .agg #[.string (bs q.head.method), .string (bs q.head.target), .int .i64 q.head.status, .string (bs q.head.reason), .int .i64 q.head.minor, .slice A q.head.fields.length c,
  .int .i64 q.tg.form, .string (bs q.tg.host), .int .i64 q.tg.port, .string (bs q.tg.path), .string (bs q.tg.query), .bool q.tg.has, .string (bs q.host), .int .i64 q.port, .string (bs q.body), .bool q.sized, .bool q.keep, .string (bs q.upg)]
structure IdleAt (w : World) (R : Nat) (r : In) : Prop where
  blk : ∃ (k l u : Int) (K ba vb : Value), Blk w R [.int .i64 r.most, .int .i64 r.status, .string (bs r.buf), .pointer none, .int .i64 k, .int .i64 l, .int .i64 u, K, ba, vb]
  sh : w.shape? R = some (114, 10)
structure BusyAt (w : World) (R Q D : Nat) (A : Option Addr) (c : Nat) (v vb : Value) (r : In) (q : Rq) (d : Dec) : Prop where
  blk : ∃ ba, Blk w R [.int .i64 r.most, .int .i64 r.status, .string (bs r.buf), .pointer (some ⟨Q, 0, none⟩), .int .i64 r.kind, .int .i64 r.len, .int .i64 r.used, .pointer (some ⟨D, 0, none⟩), ba, vb]
  bld : BldAt 114 10 w R 8 (R + 1) vb r.body
  rq : Blk w Q (rqVs q A c)
  an : A = none → c = 0
  row : w.ownsRow (R + 1) 59 2 (.slice A q.head.fields.length c) q.head.fields.length (fvals q.head.fields)
  dec : DecAt w D v d
  qr : Q ≠ R
  dr : D ≠ R
  dq : D ≠ Q
  vr : ∀ k, v.ownBlock = some k → k ≠ R ∧ k ≠ Q ∧ k ≠ D
  br : ∀ k, vb.ownBlock = some k → k ≠ R ∧ k ≠ Q ∧ k ≠ D ∧ v.ownBlock ≠ some k
  ar : ∀ g o, A = some ⟨g, o, none⟩ → g ≠ R ∧ g ≠ Q ∧ g ≠ D ∧ v.ownBlock ≠ some g ∧ vb.ownBlock ≠ some g
def FootB (R Q D : Nat) (A : Option Addr) (v vb : Value) (k : Nat) : Prop := k = R ∨ k = Q ∨ k = D ∨ v.ownBlock = some k ∨ vb.ownBlock = some k ∨ ∃ o, A = some ⟨k, o, none⟩
def InAt (w : World) (R : Nat) (r : In) (F : Nat → Prop) : Prop :=
  (r.now = none ∧ IdleAt w R r ∧ ∀ k, F k ↔ k = R) ∨
  (∃ q n Q D A c v vb d, r.now = some (q, n) ∧ r.dec = some d ∧ BusyAt w R Q D A c v vb r q d ∧ ∀ k, F k ↔ FootB R Q D A v vb k)
/-- The cells that every reader has. -/
structure Three (w : World) (R : Nat) (r : In) : Prop where
  c0 : w.cell? ⟨R, 0, none⟩ = some (.int .i64 r.most)
  c1 : w.cell? ⟨R, 1, none⟩ = some (.int .i64 r.status)
  c2 : w.cell? ⟨R, 2, none⟩ = some (.string (bs r.buf))
  fz : ∀ j, w.frozen? ⟨R, j, none⟩ = false
theorem InAt.three {w : World} {R : Nat} {r : In} {F : Nat → Prop} (h : InAt w R r F) : Three w R r := by
  rcases h with ⟨_, ⟨⟨k, l, u, K, ba, vb, hb⟩, _⟩, _⟩ | ⟨q, n, Q, D, A, c, v, vb, d, _, _, hb, _⟩
  · exact ⟨hb.c 0 _ rfl, hb.c 1 _ rfl, hb.c 2 _ rfl, hb.fz⟩
  · obtain ⟨ba, hb⟩ := hb.blk
    exact ⟨hb.c 0 _ rfl, hb.c 1 _ rfl, hb.c 2 _ rfl, hb.fz⟩
theorem InAt.self {w : World} {R : Nat} {r : In} {F : Nat → Prop} (h : InAt w R r F) : F R := by
  rcases h with ⟨_, _, hF⟩ | ⟨q, n, Q, D, A, c, v, vb, d, _, _, hb, hF⟩
  · exact (hF R).2 rfl
  · exact (hF R).2 (.inl rfl)
theorem InAt.lt {w : World} {R : Nat} {r : In} {F : Nat → Prop} (h : InAt w R r F) : ∀ k, F k → k < w.heap.size := by
  rcases h with ⟨_, ⟨⟨k, l, u, K, ba, vb, hb⟩, _⟩, hF⟩ | ⟨q, n, Q, D, A, c, v, vb, d, _, _, hb, hF⟩
  · intro k hk
    rw [(hF k).1 hk]
    exact hb.lt
  · intro k hk
    obtain ⟨ba, hbb⟩ := hb.blk
    rcases (hF k).1 hk with rfl | rfl | rfl | h | h | ⟨o, h⟩
    · exact hbb.lt
    · exact World.block_lt_of_cell? w _ (hb.rq.c 0 _ rfl)
    · exact hb.dec.lt
    · exact (hb.dec.own.lt k h).2
    · exact (hb.bld.own.lt k h).2
    · exact (hb.row.lt k (by rw [h]; rfl)).2
/-- A new text of bytes in place of the old one. -/
theorem InAt.put2 {w : World} {R : Nat} {r : In} {F : Nat → Prop} (h : InAt w R r F) (b : List UInt8) : InAt (w.setCell ⟨R, 2, none⟩ (.string (bs b))) R { r with buf := b } F := by
  rcases h with ⟨hn, ⟨⟨k, l, u, K, ba, vb, hb⟩, hs⟩, hF⟩ | ⟨q, n, Q, D, A, c, v, vb, d, hn, hd, hb, hF⟩
  · exact .inl ⟨hn, ⟨⟨k, l, u, K, ba, vb, hb.set 2 (by simp) _⟩, (shape_set _ _ _ _).trans hs⟩, hF⟩
  · refine .inr ⟨q, n, Q, D, A, c, v, vb, d, hn, hd, ?_, hF⟩
    obtain ⟨ba, hbb⟩ := hb.blk
    have aw : Away (fun k => k = R) w (w.setCell ⟨R, 2, none⟩ (.string (bs b))) := (Away.refl _ w).put (by exact rfl) _ _
    refine ⟨⟨ba, hbb.set 2 (by simp) _⟩, ?_, hb.rq.far _ _ (fun e => hb.qr e.symm), hb.an, ?_, ?_, hb.qr, hb.dr, hb.dq, hb.vr, hb.br, hb.ar⟩
    · have hB := hb.bld
      exact ⟨(shape_set _ _ _ _).trans hB.sh, hB.c0.imp (fun e => (setO w R 2 8 _ (by decide)).trans e) (fun e => (setO w R 2 8 _ (by decide)).trans e), (setO w R 2 9 _ (by decide)).trans hB.c1, fun j => (World.frozen?_setCell _ _ _ _).trans (hB.fz j), own_away hB.own aw (fun k hk e => (hb.br k hk).1 e), hB.ne, hB.nil⟩
    · exact own_away hb.row aw (fun k hk e => by
        cases A with
        | none => cases hk
        | some a =>
          obtain ⟨g, o, hg⟩ : ∃ g o, a = ⟨g, o, none⟩ := by
            rcases hb.row.2 with ⟨hv, _⟩ | ⟨g, cap, cur, hv, _⟩
            · cases hv
            · injection hv with hv _ _; injection hv with hv; exact ⟨g, 0, hv⟩
          subst hg
          injection hk with hk
          exact (hb.ar g o rfl).1 (hk.trans e))
    · exact hb.dec.away aw (fun e => hb.dr e) (fun k hk e => (hb.vr k hk).1 e)
theorem shape_new (w : World) (cs : Array Value) (T : TypeId) {n : Nat} (h : cs.size = n) : (w.alloc (.cells cs T)).shape? w.heap.size = some (T, n) := by
  subst h
  unfold World.shape?
  rw [heap_alloc_new]
theorem inew_c (m : Int) (w : World) : Calls Tryz.prog 24 #[.int .i64 m] w fun e w' => e = .returned (.pointer (some ⟨w.heap.size, 0, none⟩)) ∧ InAt w' w.heap.size { most := m } (fun k => k = w.heap.size) ∧ Below w.heap.size w w' ∧ w.heap.size < w'.heap.size := by
  go_enter Tryz.func24, Tryz.ntmps24
  go_wp2
  go_ret
  exact ⟨rfl, .inl ⟨rfl, ⟨⟨0, 0, 0, .pointer none, .pointer none, .slice none 0 0, Blk.new _ _ _ _ rfl⟩, shape_new _ _ _ rfl⟩, fun _ => Iff.rfl⟩, (Below.refl _ w).alloc (Nat.le_refl _) _, by simp⟩
theorem statuses_c (e : Int) (w : World) : Calls Tryz.prog 81 #[.int .i64 e] w fun x w' => x = .returned (.int .i64 (statusE e)) ∧ w = w' := by
  have hv : statusE e = if e = 82 then 414 else if e = 83 then 431 else if e = 81 then 505 else if e = 91 then 501 else if e = 101 then 413 else 400 := rfl
  have HV := Lib.hid hv
  clear hv
  by_cases h1 : e = 82
  · subst h1
    go_enter Tryz.func81, Tryz.ntmps81
    go_wp2
    go_ret
    exact ⟨rfl, rfl⟩
  by_cases h2 : e = 83
  · subst h2
    go_enter Tryz.func81, Tryz.ntmps81
    go_wp2
    go_ret
    exact ⟨rfl, rfl⟩
  by_cases h3 : e = 81
  · subst h3
    go_enter Tryz.func81, Tryz.ntmps81
    go_wp2
    go_ret
    exact ⟨rfl, rfl⟩
  by_cases h4 : e = 91
  · subst h4
    go_enter Tryz.func81, Tryz.ntmps81
    go_wp2
    go_ret
    exact ⟨rfl, rfl⟩
  by_cases h5 : e = 101
  · subst h5
    go_enter Tryz.func81, Tryz.ntmps81
    go_wp2
    go_ret
    exact ⟨rfl, rfl⟩
  have hz : statusE e = 400 := by rw [HV.out, if_neg h1, if_neg h2, if_neg h3, if_neg h4, if_neg h5]
  have HZ := Lib.hid hz
  have b1 : (e == 82) = false := by rw [beq_eq_false_iff_ne]; exact h1
  have b2 : (e == 83) = false := by rw [beq_eq_false_iff_ne]; exact h2
  have b3 : (e == 81) = false := by rw [beq_eq_false_iff_ne]; exact h3
  have b4 : (e == 91) = false := by rw [beq_eq_false_iff_ne]; exact h4
  have b5 : (e == 101) = false := by rw [beq_eq_false_iff_ne]; exact h5
  clear hz h1 h2 h3 h4 h5 HV
  go_enter Tryz.func81, Tryz.ntmps81
  go_wp2
  go_ret
  exact ⟨by rw [HZ.out] <;> rfl, rfl⟩
theorem bs_add (a : List UInt8) (s : ByteArray) : bs a ++ s = bs (a ++ s.data.toList) := by
  rw [← list_bs (bs a ++ s)]; congr 1
theorem ifeed_c (R : Nat) (r : In) (F : Nat → Prop) (s : ByteArray) (w : World) (h : InAt w R r F) (hb : r.buf.length ≤ 4294967296) (hs : s.size ≤ 4294967296) :
    Calls Tryz.prog 25 #[.pointer (some ⟨R, 0, none⟩), .string s] w fun e w' => e = .returned (.tuple #[]) ∧ InAt w' R (feedI r s.data.toList) F ∧ Away (fun k => k = R) w w' ∧ w'.heap.size = w.heap.size := by
  have c2 := h.three.c2
  have f2 := h.three.fz 2
  have IN := Lib.hid h
  have bz : (bs r.buf).size ≤ 4294967296 := by rw [bs_size]; exact hb
  have BA := Lib.hid (bs_add r.buf s)
  clear h hb
  generalize bs r.buf = t at *
  go_enter Tryz.func25, Tryz.ntmps25
  go_wp2
  go_end0
  refine ⟨rfl, ?_, (Away.refl _ w).put (by exact rfl) _ _, by simp [World.setCell]⟩
  rw [BA.out]
  exact IN.out.put2 (r.buf ++ s.data.toList)
theorem ilen_c (R : Nat) (r : In) (F : Nat → Prop) (w : World) (h : InAt w R r F) : Calls Tryz.prog 33 #[.pointer (some ⟨R, 0, none⟩)] w fun e w' => e = .returned (.int .i64 (r.buf.length : Int)) ∧ w = w' := by
  have c2 := h.three.c2
  have HZ := Lib.hid (bs_size r.buf)
  clear h
  go_enter Tryz.func33, Tryz.ntmps33
  go_wp2
  go_ret
  exact ⟨by rw [← HZ.out] <;> rfl, rfl⟩
theorem irest_c (R : Nat) (r : In) (F : Nat → Prop) (w : World) (h : InAt w R r F) : Calls Tryz.prog 34 #[.pointer (some ⟨R, 0, none⟩)] w fun e w' => e = .returned (.string (bs r.buf)) ∧ InAt w' R (restI r) (fun k => k = R) ∧ Away (fun k => k = R) w w' ∧ w'.heap.size = w.heap.size := by
  have IN := Lib.hid h
  obtain ⟨k, l, u, K, ba, vb, P, hb, hs⟩ : ∃ (k l u : Int) (K ba vb P : Value), Blk w R [.int .i64 r.most, .int .i64 r.status, .string (bs r.buf), P, .int .i64 k, .int .i64 l, .int .i64 u, K, ba, vb] ∧ w.shape? R = some (114, 10) := by
    rcases h with ⟨hn, ⟨⟨k, l, u, K, ba, vb, hb⟩, hs⟩, hF⟩ | ⟨q, n, Q, D, A, c, v, vb, d, hn, hd, hb, hF⟩
    · exact ⟨k, l, u, K, ba, vb, _, hb, hs⟩
    · obtain ⟨ba, hbb⟩ := hb.blk
      exact ⟨_, _, _, _, ba, vb, _, hbb, hb.bld.sh⟩
  have c2 := hb.c 2 _ rfl
  have c3 := hb.c 3 _ rfl
  have c6 := hb.c 6 _ rfl
  have f2 := hb.fz 2
  have f3 := hb.fz 3
  have f6 := hb.fz 6
  have HB := Lib.hid hb
  have HS := Lib.hid hs
  clear h hb hs
  go_enter Tryz.func34, Tryz.ntmps34
  go_wp2
  go_ret
  refine ⟨rfl, .inl ⟨rfl, ⟨⟨k, l, 0, K, ba, vb, ((HB.out.set 2 (by simp) _).set 3 (by simp) _).set 6 (by simp) _⟩, (shape_set _ _ _ _).trans ((shape_set _ _ _ _).trans ((shape_set _ _ _ _).trans HS.out))⟩, fun _ => Iff.rfl⟩, (((Away.refl _ w).put (by exact rfl) _ _).put (by exact rfl) _ _).put (by exact rfl) _ _, by simp [World.setCell]⟩
end Go.Proofs.YtgmjkkiahanekaaGreatDoor

/- The contracts of fields.Has and Strip and of the document's One and Strip, for every list of fields. -/
set_option linter.unusedVariables false
set_option linter.unusedSimpArgs false
namespace Go.Proofs.YtgmjkkiahanekaaGreatDoor
open Go.RowKit Lex

theorem has1_c (x el : ByteArray) (B : Nat) (w : World) (hx : x.size ≤ 9223372036854775807) (hel : el.size ≤ 9223372036854775807) (hc : w.cell? ⟨B, 0, none⟩ = some (.string el)) :
    Calls Tryz.prog 133 #[.string x, .pointer (some ⟨B, 0, none⟩)] w fun e w' => e = .returned (.bool (alike x.data.toList el.data.toList)) ∧ Below w.heap.size w w' := by
  have AL := fun w => Lib.hid (alike_c x el w hx hel)
  go_enter Tryz.func133, Tryz.ntmps133
  go_wp2_with (go_at_call 110; refine (AL _).out.mono ?_; rintro e w1 ⟨rfl, hb⟩)
  go_ret
  exact ⟨rfl, hb⟩

/-- A number that is not below nought just if something is there. -/
def IdxOf (b : Bool) (w : World) (e : Ending) (w' : World) : Prop := ∃ r : Int, e = .returned (.int .i64 r) ∧ decide (0 ≤ r) = b ∧ Below w.heap.size w w'

set_option maxRecDepth 100000 in
set_option maxHeartbeats 4000000 in
theorem indexFunc_c (A : Option Addr) (cap : Nat) (l : List (List UInt8)) (el : ByteArray) (B : Nat) (w : World) (hl : l.length ≤ 140737488351232) (hm : ∀ x ∈ l, x.length ≤ 140737488351232) (hel : el.size ≤ 140737488351232) (hc : w.cell? ⟨B, 0, none⟩ = some (.string el)) (hT : Texts w A l) :
    Calls Tryz.prog 157 #[.slice A l.length cap, .func (.func 133) #[] #[.pointer (some ⟨B, 0, none⟩)]] w (IdxOf (l.any fun x => alike x el.data.toList) w) := by
  have HT := Lib.hid hT
  have HM := Lib.hid hm
  have HC := Lib.hid hc
  clear hT hm hc
  go_enter Tryz.func157, Tryz.ntmps157
  go_wp2
  go_loopw [5, 8] (fun _ i wr => ∃ k : Nat, k ≤ l.length ∧ i = .int .i64 k ∧ (l.take k).any (fun x => alike x el.data.toList) = false ∧ Below w.heap.size w wr) (fun _ i _ => l.length - (intOf i).toNat)
  case atStart => exact ⟨0, Nat.zero_le _, rfl, by simp, Below.refl _ _⟩
  case round =>
    obtain ⟨k, hk, rfl, ha, hB⟩ := hrel
    have HA := Lib.hid ha
    clear ha
    by_cases hlt : k < l.length
    · obtain ⟨g, hA, c1⟩ := HT.out.below hB k hlt
      subst hA
      have AL := fun (w' : World) h => Lib.hid (has1_c (bs l[k]) el B w' (Nat.le_trans (HM.out _ (List.getElem_mem hlt)) (by decide)) (by omega) h)
      rw [bs_list] at AL
      have hcb := held1 hB HC.out
      have k0 : (0 : Int) ≤ (k : Int) := by omega
      have k1 : (k : Int) < (l.length : Int) := by omega
      cases hal : alike l[k] el.data.toList with
      | true =>
        have HY := Lib.hid (any_at (p := fun x => alike x el.data.toList) hlt hal)
        rw [hal] at AL
        clear hal
        go_wp2_with fail
        refine (AL _ (by exact hcb)).out.mono ?_
        rintro e w2 ⟨rfl, hb2⟩
        have HB2 := Lib.hid (below_then hB hb2)
        clear hb2 hcb c1
        go_wp2
        go_ret
        exact ⟨_, rfl, by rw [HY.out]; simp, HB2.out⟩
      | false =>
        have HN := Lib.hid (any_take_false (p := fun x => alike x el.data.toList) hlt HA.out hal)
        rw [hal] at AL
        clear hal
        go_wp2_with fail
        refine (AL _ (by exact hcb)).out.mono ?_
        rintro e w2 ⟨rfl, hb2⟩
        have HB2 := Lib.hid (below_then hB hb2)
        clear hb2 hcb c1
        go_wp2
        go_roundw
        case rel => exact ⟨k + 1, by omega, by go_num, HN.out, HB2.out⟩
        case measure => simp [intOf]; omega
    · obtain rfl : k = l.length := by omega
      have ha := HA.out
      rw [List.take_length] at ha
      have HA2 := Lib.hid ha
      clear ha
      go_wp2
      go_ret
      exact ⟨_, rfl, by rw [HA2.out]; rfl, hB⟩

theorem containsFunc_c (A : Option Addr) (cap : Nat) (l : List (List UInt8)) (el : ByteArray) (B : Nat) (w : World) (hl : l.length ≤ 140737488351232) (hm : ∀ x ∈ l, x.length ≤ 140737488351232) (hel : el.size ≤ 140737488351232) (hc : w.cell? ⟨B, 0, none⟩ = some (.string el)) (hT : Texts w A l) :
    Calls Tryz.prog 132 #[.slice A l.length cap, .func (.func 133) #[] #[.pointer (some ⟨B, 0, none⟩)]] w fun e w' => e = .returned (.bool (l.any fun x => alike x el.data.toList)) ∧ Below w.heap.size w w' := by
  have IX := fun (w' : World) hc hT => Lib.hid (indexFunc_c A cap l el B w' hl hm hel hc hT)
  generalize (l.any fun x => alike x el.data.toList) = b at *
  have HT := Lib.hid hT
  clear hT
  go_enter Tryz.func132, Tryz.ntmps132
  go_wp2_with fail
  refine (IX _ hc HT.out).out.mono ?_
  rintro e w1 ⟨r, rfl, hr, hb⟩
  have HR := Lib.hid hr
  clear hr
  go_wp2
  go_ret
  exact ⟨ret_bool HR.out, hb⟩

set_option maxRecDepth 100000 in
set_option maxHeartbeats 4000000 in
theorem hasf_c (A : Option Addr) (cap : Nat) (fs : List Fd) (name el : ByteArray) (m : Int) (w : World) (hnm : name.size ≤ 140737488351232) (hel : el.size ≤ 140737488351232) (hB : FB fs) (hF : Flds w A fs) (hm : w.cell? ⟨0, 0, none⟩ = some (.int .i64 m)) :
    Calls Tryz.prog 102 #[.slice A fs.length cap, .string name, .string el] w fun e w' => e = .returned (.bool (hasF fs name.data.toList el.data.toList)) ∧ Below w.heap.size w w' := by
  have EL := fun w h h2 => Lib.hid (elementsf_c A cap fs name m w hnm hB.len (fun f hf => Nat.le_trans (hB.nm f hf) (by decide)) (fun f hf => hB.vl f hf) h h2)
  have hmem := fun x h => elementsF_mem (name := name.data.toList) (x := x) hB h
  have hlen := elementsF_length hB fs.length name.data.toList
  rw [List.take_length] at hlen
  unfold hasF
  generalize elementsF fs name.data.toList = l at *
  have CF := fun (w' : World) a c hc hT => Lib.hid (containsFunc_c a c l el w.heap.size w' (by omega) (fun x hx => Nat.le_trans (hmem x hx) (by decide)) hel hc hT)
  have HF := Lib.hid hF
  have HM := Lib.hid hm
  clear hmem hB hF hm
  go_enter Tryz.func102, Tryz.ntmps102
  go_wp2_with fail
  refine (EL _ (by exact HF.out.below ((Below.refl _ _).alloc (Nat.le_refl _) _)) (by exact held1 ((Below.refl _ _).alloc (Nat.le_refl _) _) HM.out)).out.mono ?_
  rintro e w1 ⟨v, rfl, hown, hb⟩
  obtain ⟨a, c, rfl⟩ := own_slice' hown
  have HT := Lib.hid (texts_of hown)
  have HCC := Lib.hid (held1 hb (show (w.alloc (.cells #[.string el] 9)).cell? ⟨w.heap.size, 0, none⟩ = some (.string el) by rw [World.cell?_alloc_new]; rfl))
  have HBB := Lib.hid (belowA hb)
  clear hown hb
  go_wp2_with fail
  refine (CF _ _ _ HCC.out HT.out).out.mono ?_
  rintro e w2 ⟨rfl, hb2⟩
  go_wp2
  go_ret
  exact ⟨rfl, below_then HBB.out hb2⟩
end Go.Proofs.YtgmjkkiahanekaaGreatDoor

/- The contracts of frame.has, frame.length, frame.coding over every head. -/
set_option linter.unusedVariables false
set_option linter.unusedSimpArgs false
namespace Go.Proofs.YtgmjkkiahanekaaGreatDoor
open Go.RowKit Lex

/-- A head, as a value. -/
def hv (m t : ByteArray) (s : Int) (r : ByteArray) (mi : Int) (A : Option Addr) (n c : Nat) : Value := .agg #[.string m, .string t, .int .i64 s, .string r, .int .i64 mi, .slice A n c]

set_option maxRecDepth 100000 in
set_option maxHeartbeats 1000000 in
theorem has_c (m t : ByteArray) (s : Int) (r : ByteArray) (mi : Int) (A : Option Addr) (cap : Nat) (fs : List Fd) (name : ByteArray) (w : World) (hnm : name.size ≤ 140737488351232) (hB : FB fs) (hF : Flds w A fs) :
    Calls Tryz.prog 99 #[hv m t s r mi A fs.length cap, .string name] w fun e w' => e = .returned (.bool (decide (0 < (getF fs name.data.toList).2))) ∧ Below w.heap.size w w' := by
  have G := fun w h => Lib.hid (get_c A cap fs name w hnm (by have := hB.len; omega) (fun f hf => by have := hB.nm f hf; omega) (fun f hf => by have := hB.vl f hf; omega) h)
  have HF := Lib.hid (hF.below ((Below.refl _ w).alloc (Nat.le_refl _) (.cells #[.string m, .string t, .int .i64 s, .string r, .int .i64 mi, .slice A fs.length cap] 42)))
  clear hF hB
  generalize getF fs name.data.toList = g at *
  obtain ⟨v, n⟩ := g
  simp only at G ⊢
  unfold hv
  go_enter Tryz.func99, Tryz.ntmps99
  go_wp2_with fail
  refine (G _ HF.out).out.mono ?_
  rintro e w1 ⟨rfl, hb⟩
  have hB1 := Lib.hid (belowA hb)
  clear hb
  go_wp2
  go_ret
  exact ⟨by first | rfl | (apply ret_bool; rw [Bool.eq_iff_iff, decide_eq_true_eq, decide_eq_true_eq]; omega), hB1.out⟩

def lenVal : Option (Option Int) → Value
  | none => .tuple #[.int .i64 0, .bool false]
  | some st => .tuple #[.int .i64 (st.getD 0), .bool true]
/-- What is known in the midst of the lengths. -/
structure LenAt (fs : List Fd) (st : Option Int) (R : List (List UInt8)) : Prop where
  eq : lengthF fs = lenGo st R
theorem LenAt.bad {fs : List Fd} {st : Option Int} {p : List UInt8} {R : List (List UInt8)} (h : LenAt fs st (p :: R)) {n : Int} (hd : decimal (trim p) 15 = (n, false)) : lengthF fs = none := by
  rw [h.eq, lenGo_cons_bad (by unfold partN; rw [hd]; rfl)]
theorem LenAt.ok {fs : List Fd} {st : Option Int} {p : List UInt8} {R : List (List UInt8)} (h : LenAt fs st (p :: R)) {n : Int} (hd : decimal (trim p) 15 = (n, true)) (hs : st = none ∨ st = some n) : LenAt fs (some n) R :=
  ⟨by rw [h.eq, lenGo_cons_ok (by unfold partN; rw [hd]; rfl) hs]⟩
theorem LenAt.ne {fs : List Fd} {st : Option Int} {p : List UInt8} {R : List (List UInt8)} (h : LenAt fs st (p :: R)) {n : Int} (hd : decimal (trim p) 15 = (n, true)) (hs : ¬ (st = none ∨ st = some n)) : lengthF fs = none := by
  rw [h.eq, lenGo_cons_ne (by unfold partN; rw [hd]; rfl) hs]

set_option maxRecDepth 100000 in
set_option maxHeartbeats 4000000 in
theorem length_c (m t : ByteArray) (s : Int) (r : ByteArray) (mi : Int) (A : Option Addr) (cap : Nat) (fs : List Fd) (M : Int) (w : World) (hB : FB fs) (hF : Flds w A fs) (hm : w.cell? ⟨0, 0, none⟩ = some (.int .i64 M)) :
    Calls Tryz.prog 101 #[hv m t s r mi A fs.length cap] w fun e w' => e = .returned (lenVal (lengthF fs)) ∧ Below w.heap.size w w' := by
  generalize hv0 : lenVal (lengthF fs) = out
  have HOUT := Lib.hid hv0
  have HF := Lib.hid hF
  have HM := Lib.hid hm
  have HBB := Lib.hid hB
  have hl := hB.len
  clear hF hB hm hv0
  unfold hv
  go_enter Tryz.func101, Tryz.ntmps101
  go_wp2
  go_loopw [4, 5, 7, 9, 10, 11, 15, 27] (fun num fi _ _ _ _ i _ wr => ∃ (k : Nat) (st : Option Int), k ≤ fs.length ∧ i = .int .i64 k ∧ num = .int .i64 (st.getD 0) ∧ fi = .bool st.isNone ∧ LenAt fs st (partsF (fs.drop k)) ∧ Below w.heap.size w wr) (fun _ _ _ _ _ _ i _ _ => fs.length - (intOf i).toNat)
  case atStart => exact ⟨0, none, Nat.zero_le _, rfl, rfl, rfl, ⟨rfl⟩, (Below.refl _ w).alloc (Nat.le_refl _) _⟩
  case round =>
    obtain ⟨k, st, hk, rfl, rfl, rfl, hL, hB⟩ := hrel
    have HL := Lib.hid hL
    clear hL
    by_cases hlt : k < fs.length
    · obtain ⟨g, o, hA, c1, c2⟩ := HF.out.below hB k hlt
      subst hA
      have hg := World.block_lt_of_cell? wr _ c1
      have hn1 := HBB.out.nm _ (List.getElem_mem hlt)
      have hn2 := HBB.out.vl _ (List.getElem_mem hlt)
      have AL := fun w => Lib.hid (alike_c (bs fs[k].1) ⟨#[67, 111, 110, 116, 101, 110, 116, 45, 76, 101, 110, 103, 116, 104]⟩ w (by rw [bs_size]; omega) (by decide))
      have SP := fun w hm => Lib.hid (split_c (bs fs[k].2) 44 M w (by rw [bs_size]; omega) hm)
      have hpl := pieces_length 44 fs[k].2
      have hpm := pieces_mem 44 fs[k].2
      have hdr := HL.out
      rw [show partsF (fs.drop k) = _ from partsF_drop fs k hlt] at hdr
      rw [bs_list] at AL SP
      rw [show (ByteArray.mk #[67, 111, 110, 116, 101, 110, 116, 45, 76, 101, 110, 103, 116, 104]).data.toList = clenU from rfl, alike_low clen_low] at AL
      obtain ⟨f, hf⟩ : ∃ f, fs[k] = f := ⟨_, rfl⟩
      rw [hf] at c1 c2 AL SP hpl hpm hdr hn1 hn2
      clear hf
      cases hal : alike f.1 clenL with
      | false =>
        rw [hal] at AL hdr
        have HN := Lib.hid (show LenAt fs st (partsF (fs.drop (k + 1))) by simpa using hdr)
        clear hal hdr hpm hpl SP
        go_wp2_with (go_at_call 110; refine (AL _).out.mono ?_; rintro e w1 ⟨rfl, hb⟩)
        go_roundw
        case rel => exact ⟨k + 1, st, by omega, by go_num, rfl, rfl, HN.out, below_then hB (belowA hb)⟩
        case measure => simp [intOf]; omega
      | true =>
        rw [hal, if_pos rfl] at hdr
        rw [hal] at AL
        have HD := Lib.hid hdr
        have HPM := Lib.hid hpm
        clear hal hdr hpm
        generalize pieces 44 f.2 = ps at *
        go_wp2_with fail
        refine (AL _).out.mono ?_
        rintro e w1 ⟨rfl, hb⟩
        have d2 := held1 hb (cell_second wr (.string (bs f.1)) (.string (bs f.2)) 59)
        have HB1 := Lib.hid (below_then hB (belowA hb))
        clear hb c1 c2 hB
        go_wp2_with fail
        refine (SP _ (held1 HB1.out HM.out)).out.mono ?_
        rintro e w2 ⟨rfl, hw2⟩
        rw [hw2]
        clear hw2
        have HB2 := Lib.hid (HB1.out.alloc HB1.out.size (.cells (strs ps).toArray 9))
        have HBL := Lib.hid (heap_alloc_new w1 (.cells (strs ps).toArray 9))
        clear d2
        go_wp2
        go_loopw [4, 5, 9, 10, 11, 27] (fun num fi _ _ _ j wr => ∃ (q : Nat) (st : Option Int), q ≤ ps.length ∧ j = .int .i64 q ∧ num = .int .i64 (st.getD 0) ∧ fi = .bool st.isNone ∧ LenAt fs st (ps.drop q ++ partsF (fs.drop (k + 1))) ∧ Below w.heap.size w wr ∧ wr.heap[w1.heap.size]? = some (.cells (strs ps).toArray 9 (0, 0))) (fun _ _ _ _ _ j _ => ps.length - (intOf j).toNat)
        case atStart => exact ⟨0, st, Nat.zero_le _, rfl, rfl, rfl, HD.out, HB2.out, HBL.out⟩
        case round =>
          obtain ⟨q, st2, hq, rfl, rfl, rfl, hL2, hB3, hbl⟩ := hrel
          have HL2 := Lib.hid hL2
          have HB3 := Lib.hid hB3
          have HBL2 := Lib.hid hbl
          clear hL2 hB3 hbl HL HD
          by_cases hlq : q < ps.length
          · have hc : wr.cell? ⟨w1.heap.size, q, none⟩ = some (.string (bs ps[q])) := by
              have := cell_of_row wr w1.heap.size q (strs ps).toArray 9 (0, 0) HBL2.out
              rw [this]
              simp [strs, hlq]
            have hxl := (HPM.out ps[q] (List.getElem_mem hlq)).1
            have hdc := HL2.out
            rw [drop_cons ps q hlq, List.cons_append] at hdc
            obtain ⟨x, hx⟩ : ∃ x, ps[q] = x := ⟨_, rfl⟩
            rw [hx] at hc hxl hdc
            have K := fun w => Lib.hid (trim_c (bs x) w (by show x.length ≤ _; omega))
            have D := fun w => Lib.hid (decimal_c (bs (trim x)) 15 w)
            rw [bs_list] at K D
            have hbad := fun n h => hdc.bad (n := n) h
            have hok := fun n h hs => hdc.ok (n := n) h hs
            have hne := fun n h hs => hdc.ne (n := n) h hs
            generalize hdv : decimal (trim x) 15 = dv at *
            obtain ⟨n, okb⟩ := dv
            simp only at D
            clear hx hdc
            cases okb with
            | false =>
              have HV := Lib.hid (show out = .tuple #[.int .i64 0, .bool false] by rw [← HOUT.out, hbad n rfl]; rfl)
              clear hbad hok hne hdv
              go_wp2_with fail
              refine (K _).out.mono ?_
              rintro e w3 ⟨rfl, hb3⟩
              go_wp2_with fail
              refine (D _).out.mono ?_
              rintro e w' ⟨rfl, rfl⟩
              go_wp2
              go_ret2
              exact ⟨by rw [HV.out]; rfl, below_then HB3.out hb3⟩
            | true =>
              by_cases hst : st2 = none ∨ st2 = some n
              · have HN := Lib.hid (hok n rfl hst)
                have HS2 : st2 = none ∨ (st2 = some n) := hst
                clear hbad hok hne hdv hst
                rcases HS2 with rfl | rfl
                all_goals
                  simp only [Option.isNone_none, Option.isNone_some, Option.getD_some, Option.getD_none]
                  go_wp2_with fail
                  refine (K _).out.mono ?_
                  rintro e w3 ⟨rfl, hb3⟩
                  have HB4 := Lib.hid (below_then HB3.out hb3)
                  have HBL4 := Lib.hid ((hb3.block w1.heap.size (by have := Array.getElem?_eq_some_iff.1 HBL2.out; exact this.1)).trans HBL2.out)
                  clear hb3
                  go_wp2_with fail
                  refine (D _).out.mono ?_
                  rintro e w' ⟨rfl, rfl⟩
                  go_wp2
                  go_roundw
                  case rel => exact ⟨q + 1, some n, by omega, by go_num, rfl, rfl, HN.out, HB4.out, HBL4.out⟩
                  case measure => simp [intOf]; omega
              · have HV := Lib.hid (show out = .tuple #[.int .i64 0, .bool false] by rw [← HOUT.out, hne n rfl hst]; rfl)
                obtain ⟨y, rfl⟩ : ∃ y, st2 = some y := by
                  cases st2 with
                  | none => exact absurd (.inl rfl) hst
                  | some y => exact ⟨y, rfl⟩
                have bn : (n != y) = true := by rw [bne_iff_ne]; rintro rfl; exact hst (.inr rfl)
                clear hbad hok hne hdv hst
                simp only [Option.isNone_some, Option.getD_some]
                go_wp2_with fail
                refine (K _).out.mono ?_
                rintro e w3 ⟨rfl, hb3⟩
                have HB4 := Lib.hid (below_then HB3.out hb3)
                clear hb3
                go_wp2_with fail
                refine (D _).out.mono ?_
                rintro e w' ⟨rfl, rfl⟩
                go_wp2
                go_ret2
                exact ⟨by rw [HV.out]; rfl, HB4.out⟩
          · have hdn : ps.drop q = [] := List.drop_eq_nil_of_le (by omega)
            have HN := Lib.hid (show LenAt fs st2 (partsF (fs.drop (k + 1))) by have h := HL2.out; rwa [hdn, List.nil_append] at h)
            clear hdn
            go_wp2
            go_roundw
            case rel => exact ⟨k + 1, st2, by omega, by go_num, rfl, rfl, HN.out, HB3.out⟩
            case measure => simp [intOf]; omega
    · have hd : fs.drop k = [] := List.drop_eq_nil_of_le (by omega)
      have HV := Lib.hid (show out = .tuple #[.int .i64 (st.getD 0), .bool true] by
        have h := HL.out.eq
        rw [hd, partsF_nil] at h
        rw [← HOUT.out, h]; rfl)
      clear hd
      go_wp2
      go_ret2
      exact ⟨by rw [HV.out]; rfl, hB⟩
end Go.Proofs.YtgmjkkiahanekaaGreatDoor

/- The contract of frame.coding over every head. -/
set_option linter.unusedVariables false
set_option linter.unusedSimpArgs false
namespace Go.Proofs.YtgmjkkiahanekaaGreatDoor
open Go.RowKit Lex

theorem elementsF_lowN {a b : List UInt8} (h : lower a = lower b) (l : List Fd) : elementsF l a = elementsF l b := by unfold elementsF; rw [valuesF_low h]
theorem code_not {l : List (List UInt8)} (h : countC l ≠ 1) : codeL l = 3 := by
  by_cases hl : l = []
  · subst hl; rfl
  · exact Classical.byContradiction fun h3 => h ((code_last hl).1 h3).1
def codeVal (c : Int) : Value := .tuple #[.bool (decide (c = 1)), .bool (decide (c ≠ 3))]
set_option maxRecDepth 100000 in
set_option maxHeartbeats 4000000 in
theorem coding_c (m t : ByteArray) (s : Int) (r : ByteArray) (mi : Int) (A : Option Addr) (cap : Nat) (fs : List Fd) (M : Int) (w : World) (hB : FB fs) (hF : Flds w A fs) (hm : w.cell? ⟨0, 0, none⟩ = some (.int .i64 M)) :
    Calls Tryz.prog 100 #[hv m t s r mi A fs.length cap] w fun e w' => e = .returned (codeVal (codeF fs)) ∧ Below w.heap.size w w' := by
  have EL := fun w h hm => Lib.hid (elementsf_c A cap fs ⟨#[84, 114, 97, 110, 115, 102, 101, 114, 45, 69, 110, 99, 111, 100, 105, 110, 103]⟩ M w (by decide) hB.len (fun f hf => Nat.le_trans (hB.nm f hf) (by decide)) (fun f hf => Nat.le_trans (hB.vl f hf) (by decide)) h hm)
  rw [show (ByteArray.mk #[84, 114, 97, 110, 115, 102, 101, 114, 45, 69, 110, 99, 111, 100, 105, 110, 103]).data.toList = tencU from rfl, elementsF_lowN tenc_low] at EL
  have hmem := fun x h => elementsF_mem (name := tencL) (x := x) hB h
  have HMM := Lib.hid hmem
  have hlen := elementsF_length hB fs.length tencL
  rw [List.take_length] at hlen
  have HF := Lib.hid (hF.below ((Below.refl _ w).alloc (Nat.le_refl _) (.cells #[.string m, .string t, .int .i64 s, .string r, .int .i64 mi, .slice A fs.length cap] 42)))
  have HM := Lib.hid (held1 ((Below.refl _ w).alloc (Nat.le_refl _) (.cells #[.string m, .string t, .int .i64 s, .string r, .int .i64 mi, .slice A fs.length cap] 42)) hm)
  unfold codeF
  clear hmem hB hF hm
  generalize elementsF fs tencL = l at *
  generalize hout : codeVal (codeL l) = out
  have HOUT := Lib.hid hout
  clear hout
  unfold hv
  go_enter Tryz.func100, Tryz.ntmps100
  go_wp2_with fail
  refine (EL _ HF.out HM.out).out.mono ?_
  rintro e w1 ⟨v, rfl, hown, hb⟩
  have HB1 := Lib.hid (belowA hb)
  obtain ⟨a, c, rfl⟩ := own_slice' hown
  have HT := Lib.hid (texts_of hown)
  clear hown hb
  go_wp2
  go_loopw [5, 7, 13] (fun n _ i wr => ∃ k : Nat, k ≤ l.length ∧ i = .int .i64 k ∧ n = .int .i64 (countC (l.take k)) ∧ Below w1.heap.size w1 wr) (fun _ _ i _ => l.length - (intOf i).toNat)
  case atStart => exact ⟨0, Nat.zero_le _, rfl, rfl, Below.refl _ _⟩
  case round =>
    obtain ⟨k, hk, rfl, rfl, hB⟩ := hrel
    have hcl : countC (l.take k) ≤ l.length := by
      unfold countC
      exact Nat.le_trans (List.length_filter_le _ _) (by rw [List.length_take]; omega)
    by_cases hlt : k < l.length
    · obtain ⟨g, hA, c1⟩ := HT.out.below hB k hlt
      subst hA
      have AL := fun w => Lib.hid (alike_c (bs l[k]) ⟨#[99, 104, 117, 110, 107, 101, 100]⟩ w (Nat.le_trans (HMM.out _ (List.getElem_mem hlt)) (by decide)) (by decide))
      rw [bs_list, show (ByteArray.mk #[99, 104, 117, 110, 107, 101, 100]).data.toList = chunkedL from rfl] at AL
      have HC := Lib.hid (countC_snoc l k hlt)
      have hchk : chk l[k] = alike l[k] chunkedL := rfl
      cases hal : alike l[k] chunkedL with
      | true =>
        have HC2 := Lib.hid (show countC (l.take (k + 1)) = countC (l.take k) + 1 by rw [HC.out, hchk, hal]; rfl)
        rw [hal] at AL
        clear hal hchk HC
        generalize countC (l.take k) = q at *
        go_wp2_with (go_at_call 110; refine (AL _).out.mono ?_; rintro e w2 ⟨rfl, hb2⟩)
        go_roundw
        case rel => exact ⟨k + 1, by omega, by go_num, by rw [HC2.out]; go_num, below_then hB hb2⟩
        case measure => simp [intOf]; omega
      | false =>
        have HC2 := Lib.hid (show countC (l.take (k + 1)) = countC (l.take k) by rw [HC.out, hchk, hal]; rfl)
        rw [hal] at AL
        clear hal hchk HC
        generalize countC (l.take k) = q at *
        go_wp2_with (go_at_call 110; refine (AL _).out.mono ?_; rintro e w2 ⟨rfl, hb2⟩)
        go_roundw
        case rel => exact ⟨k + 1, by omega, by go_num, by rw [HC2.out], below_then hB hb2⟩
        case measure => simp [intOf]; omega
    · obtain rfl : k = l.length := by omega
      rw [List.take_length] at hcl ⊢
      have HB2 := Lib.hid (below_then HB1.out hB)
      by_cases h1 : countC l = 1
      · have hl : l ≠ [] := by rintro rfl; cases h1
        have hpos : 0 < l.length := List.length_pos_iff.2 hl
        obtain ⟨g, hA, c1⟩ := HT.out.below hB (l.length - 1) (by omega)
        subst hA
        have hlast : l[l.length - 1] = l.getLast hl := (List.getLast_eq_getElem hl).symm
        have hcode := code_last hl
        have AL := fun w => Lib.hid (alike_c (bs l[l.length - 1]) ⟨#[99, 104, 117, 110, 107, 101, 100]⟩ w (Nat.le_trans (HMM.out _ (List.getElem_mem (by omega))) (by decide)) (by decide))
        rw [bs_list, show (ByteArray.mk #[99, 104, 117, 110, 107, 101, 100]).data.toList = chunkedL from rfl] at AL
        have hchk : chk (l.getLast hl) = alike l[l.length - 1] chunkedL := by rw [hlast]; rfl
        rw [hchk] at hcode
        rw [h1]
        have hp1 : (0 : Int) ≤ (l.length : Int) - 1 := by omega
        cases hal : alike l[l.length - 1] chunkedL with
        | true =>
          rw [hal] at AL hcode
          have h3 : codeL l ≠ 3 := hcode.2 ⟨h1, rfl⟩
          have ha := code_alone h3
          by_cases hl1 : l.length = 1
          · have HV := Lib.hid (show out = .tuple #[.bool true, .bool true] by rw [← HOUT.out]; unfold codeVal; rw [decide_eq_true (ha.2 hl1), decide_eq_true h3])
            have hlb : ((l.length : Int) == 1) = true := by rw [hl1]; rfl
            clear ha h3 hcode hal hchk hlast h1 hl1 HOUT
            go_wp2_with (go_at_call 110; refine (AL _).out.mono ?_; rintro e w2 ⟨rfl, hb2⟩)
            go_ret2
            exact ⟨by rw [HV.out]; rfl, below_then HB2.out hb2⟩
          · have HV := Lib.hid (show out = .tuple #[.bool false, .bool true] by rw [← HOUT.out]; unfold codeVal; rw [decide_eq_false (fun h => hl1 (ha.1 h)), decide_eq_true h3])
            have hlb : ((l.length : Int) == 1) = false := by rw [beq_eq_false_iff_ne]; omega
            clear ha h3 hcode hal hchk hlast h1 hl1 HOUT
            go_wp2_with (go_at_call 110; refine (AL _).out.mono ?_; rintro e w2 ⟨rfl, hb2⟩)
            go_ret2
            exact ⟨by rw [HV.out]; rfl, below_then HB2.out hb2⟩
        | false =>
          rw [hal] at AL hcode
          have h3 : codeL l = 3 := Classical.byContradiction fun h => by have := (hcode.1 h).2; cases this
          have HV := Lib.hid (show out = .tuple #[.bool false, .bool false] by rw [← HOUT.out, h3]; rfl)
          clear h3 hcode hal hchk hlast h1 HOUT
          go_wp2_with (go_at_call 110; refine (AL _).out.mono ?_; rintro e w2 ⟨rfl, hb2⟩)
          go_ret2
          exact ⟨by rw [HV.out]; rfl, below_then HB2.out hb2⟩
      · have HV := Lib.hid (show out = .tuple #[.bool false, .bool false] by rw [← HOUT.out, code_not h1]; rfl)
        have hb1 : ((countC l : Int) == 1) = false := by rw [beq_eq_false_iff_ne]; omega
        clear HOUT h1
        generalize countC l = q at *
        go_wp2
        go_ret2
        exact ⟨by rw [HV.out]; rfl, HB2.out⟩
end Go.Proofs.YtgmjkkiahanekaaGreatDoor

