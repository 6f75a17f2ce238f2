/- The texts OutR, OutF, OutG in one. -/
import Derived.Test.YtgmjkkiahanekaaDoorM7
import Derived.Test.YtgmjkkiahanekaaDoorM24
import Derived.Test.YtgmjkkiahanekaaDoorM6
/- Plain laws of layer 12: what each call of Next keeps. -/
set_option linter.unusedVariables false
set_option linter.unusedSimpArgs false
namespace Go.Proofs.YtgmjkkiahanekaaDoor
open Lex

theorem heads_len (me : List UInt8) : ∀ (k : Nat) (B : List UInt8), (headsR me k B).2.2.length ≤ B.length
  | 0, B => Nat.le_refl _
  | k + 1, B => by
    unfold headsR
    split
    · exact Nat.le_refl _
    · split
      · exact Nat.le_refl _
      · split
        · exact Nat.le_trans (heads_len me k _) (by rw [List.length_drop]; omega)
        · show (B.drop _).length ≤ _
          rw [List.length_drop]; omega
/-- What a call of Next keeps and tells. -/
structure NextOk (r : Rd) (p : Pc) (ok : Bool) (e : Int) (r' : Rd) : Prop where
  good : r'.Ok
  bytes : p.data.length + r'.buf.length ≤ r.buf.length
  err : ok = false → e = r'.err
  rank : ok = true → rankR r' < rankR r
  kind : ok = true → p.kind = 1 ∨ (p.kind = 2 ∧ p.data ≠ []) ∨ p.kind = 3
  closed : r'.closed = r.closed
theorem Rd.Ok.end {r : Rd} (h : r.Ok) : (endR r).Ok := ⟨h.dec, h.most, h.live, h.left, h.mode, h.len⟩
theorem Rd.Ok.short {r : Rd} (h : r.Ok) (he : r.err = 0) : (shortR r).Ok := ⟨h.dec, h.most, fun _ => h.live he, h.left, h.mode, h.len⟩
theorem nextOk_end {r r1 : Rd} (h : ¬ (r.ended = true ∨ r.err ≠ 0)) (hok : r1.Ok) (hb : r1.buf.length ≤ r.buf.length) (hc : r1.closed = r.closed) : NextOk r { kind := 3 } true 0 (endR r1) :=
  ⟨hok.end, by show 0 + r1.buf.length ≤ _; omega, (fun h => by cases h), (fun _ => by have := rank_pos h; have : rankR (endR r1) = 0 := rank_idle (.inl rfl); omega), fun _ => .inr (.inr rfl), hc⟩
theorem next_keeps {r : Rd} (hok : r.Ok) : NextOk r (nextR r).1 (nextR r).2.1 (nextR r).2.2.1 (nextR r).2.2.2 := by
  by_cases h : r.ended = true ∨ r.err ≠ 0
  · rw [next_idle h]
    exact ⟨hok, by simp, fun _ => rfl, (fun h => by cases h), (fun h => by cases h), rfl⟩
  · have he : r.err = 0 := Decidable.not_not.1 fun x => h (.inr x)
    have hen : r.ended = false := by cases hr : r.ended with | false => rfl | true => exact absurd (.inl hr) h
    have h4 := hok.mode
    have hl := hok.left
    rcases (by omega : r.mode = 0 ∨ r.mode = 1 ∨ r.mode = 2 ∨ r.mode = 3 ∨ r.mode = 4) with m | m | m | m | m
    · have hle := heads_len r.method (r.buf.length + 1) r.buf
      cases hr : headsR r.method (r.buf.length + 1) r.buf with
      | mk x y =>
        obtain ⟨e, bb⟩ := y
        rw [hr] at hle
        cases x with
        | none =>
          rw [next_0n h m hr]
          exact ⟨⟨hok.dec, hok.most, fun _ => hok.live he, hok.left, hok.mode, hok.len⟩, by show 0 + bb.length ≤ _; simp only at hle; omega, fun _ => rfl, (fun h => by cases h), (fun h => by cases h), rfl⟩
        | some q =>
          obtain ⟨hd, kd, l⟩ := q
          rw [next_0h h m hr]
          have h3 : rankR r = 3 := by unfold rankR; rw [if_neg h, if_pos m]
          have h2 := rank_body (r := headed r hd kd l bb) (by have := headed_mode r hd kd l bb; omega)
          exact ⟨headed_ok hok (heads_bound hr) he, by show 0 + bb.length ≤ _; simp only at hle; omega, (fun h => by cases h), (fun _ => by show rankR (headed r hd kd l bb) < rankR r; omega), fun _ => .inl rfl, rfl⟩
    · obtain ⟨n, hn⟩ : ∃ n : Nat, min r.left r.buf.length = (n : Int) := ⟨(min r.left r.buf.length).toNat, by omega⟩
      by_cases h0 : 0 < n
      · rw [next_1 h m hn h0]
        refine ⟨⟨hok.dec, hok.most, hok.live, ⟨by show 0 ≤ r.left - n; omega, by show r.left - n < _; omega⟩, hok.mode, hok.len⟩, by show (r.buf.take n).length + (r.buf.drop n).length ≤ _; rw [List.length_take, List.length_drop]; omega, (fun h => by cases h), fun _ => ?_, fun _ => .inr (.inl ⟨rfl, fun e => ?_⟩), rfl⟩
        · show rankR { r with left := r.left - n, buf := r.buf.drop n } < rankR r
          have e2 : rankR r = 2 := by
            unfold rankR
            rw [if_neg h, if_neg (by omega), if_pos m, if_neg]
            rintro (e | e)
            · omega
            · rw [e] at hn; simp at hn; omega
          have e1 : rankR { r with left := r.left - n, buf := r.buf.drop n } = 1 := by
            unfold rankR
            rw [if_neg h, if_neg (by show ¬ r.mode = 0; omega), if_pos (show r.mode = 1 from m), if_pos]
            by_cases c : r.left = n
            · left; show r.left - n = 0; omega
            · right; exact List.drop_eq_nil_of_le (by omega)
          omega
        · have e : r.buf.take n = [] := e
          have : (r.buf.take n).length = 0 := by rw [e]; rfl
          rw [List.length_take] at this; omega
      · have z : ¬ 0 < min r.left r.buf.length := by omega
        by_cases e0 : r.left = 0
        · rw [next_1e h m z e0]; exact nextOk_end h hok (Nat.le_refl _) rfl
        · rw [next_1n h m z e0]
          exact ⟨hok.short he, by show 0 + r.buf.length ≤ _; omega, fun _ => rfl, (fun h => by cases h), (fun h => by cases h), rfl⟩
    · by_cases ho : r.over = true
      · rw [next_2o h m ho]; exact nextOk_end h hok (Nat.le_refl _) rfl
      · obtain ⟨o, n, d, hr⟩ : ∃ o n d, runD r.dec r.buf = (o, n, d) := ⟨_, _, _, rfl⟩
        have k1 := runD_len r.dec r.buf
        have k2 := runD_out r.dec r.buf
        have k3 := ok_run hok.dec r.buf
        have k4 := run_most r.dec r.buf
        rw [hr] at k1 k2 k3 k4
        simp only at k1 k2 k3 k4
        by_cases hd : d.err = 0
        · by_cases h0 : o = []
          · subst h0
            by_cases s4 : d.st = 4
            · rw [next_2e h m ho hr hd s4]
              exact nextOk_end (r1 := { r with buf := r.buf.drop n, dec := d, over := true }) h ⟨k3, k4.trans hok.most, fun _ => hd, hok.left, hok.mode, hok.len⟩ (by show (r.buf.drop n).length ≤ _; rw [List.length_drop]; omega) rfl
            · rw [next_2n h m ho hr hd s4]
              exact ⟨Rd.Ok.short (r := { r with buf := r.buf.drop n, dec := d, over := false }) ⟨k3, k4.trans hok.most, fun _ => hd, hok.left, hok.mode, hok.len⟩ he, by show 0 + (r.buf.drop n).length ≤ _; rw [List.length_drop]; omega, fun _ => rfl, (fun h => by cases h), (fun h => by cases h), rfl⟩
          · rw [next_2d h m ho hr hd h0]
            refine ⟨⟨k3, k4.trans hok.most, fun _ => hd, hok.left, hok.mode, hok.len⟩, by show o.length + (r.buf.drop n).length ≤ _; rw [List.length_drop]; omega, (fun h => by cases h), fun _ => ?_, fun _ => .inr (.inl ⟨rfl, h0⟩), rfl⟩
            show rankR { r with buf := r.buf.drop n, dec := d, over := decide (d.st = 4) } < rankR r
            have hne : r.buf ≠ [] := fun e => by
              rw [e, runD_nil] at hr
              injection hr with hr _
              exact h0 hr.symm
            have e2 : rankR r = 2 := by
              unfold rankR
              rw [if_neg h, if_neg (by omega), if_neg (by omega), if_pos m, if_neg]
              rintro (e | e)
              · exact ho e
              · exact hne e
            have e1 : rankR { r with buf := r.buf.drop n, dec := d, over := decide (d.st = 4) } = 1 := by
              unfold rankR
              rw [if_neg h, if_neg (by show ¬ r.mode = 0; omega), if_neg (by show ¬ r.mode = 1; omega), if_pos (show r.mode = 2 from m), if_pos]
              by_cases s4 : d.st = 4
              · left; exact decide_eq_true s4
              · right
                have hall : n = r.buf.length := by
                  have := runD_all (d := r.dec) (s := r.buf) (by rw [hr]; simp [s4, hd])
                  rw [hr] at this; exact this
                show r.buf.drop n = []
                rw [hall]; simp
            omega
        · rw [next_2b h m ho hr hd]
          exact ⟨⟨k3, k4.trans hok.most, fun e => e, hok.left, hok.mode, hok.len⟩, by show 0 + r.buf.length ≤ _; omega, fun _ => rfl, (fun h => by cases h), (fun h => by cases h), rfl⟩
    · by_cases h0 : r.buf = []
      · by_cases hc : r.closed = true
        · rw [next_3e h m h0 hc]; exact nextOk_end h hok (Nat.le_refl _) rfl
        · rw [next_3n h m h0 hc]
          exact ⟨hok, by simp, fun _ => he.symm, (fun h => by cases h), (fun h => by cases h), rfl⟩
      · rw [next_3d h m h0]
        refine ⟨⟨hok.dec, hok.most, hok.live, hok.left, hok.mode, hok.len⟩, by show r.buf.length + 0 ≤ _; omega, (fun h => by cases h), fun _ => ?_, fun _ => .inr (.inl ⟨rfl, h0⟩), rfl⟩
        show rankR { r with buf := [] } < rankR r
        have e2 : rankR r = 2 := by
          unfold rankR
          rw [if_neg h, if_neg (by omega), if_neg (by omega), if_neg (by omega), if_pos m, if_neg h0]
        have e1 : rankR { r with buf := [] } = 1 := by
          unfold rankR
          rw [if_neg h, if_neg (by show ¬ r.mode = 0; omega), if_neg (by show ¬ r.mode = 1; omega), if_neg (by show ¬ r.mode = 2; omega), if_pos (show r.mode = 3 from m), if_pos rfl]
        omega
    · rw [next_4 h m]; exact nextOk_end h hok (Nat.le_refl _) rfl

theorem feed_ok {r : Rd} (h : r.Ok) (x : List UInt8) : (feedR r x).Ok := by
  unfold feedR; split
  · exact h
  · exact ⟨h.dec, h.most, h.live, h.left, h.mode, h.len⟩
theorem feed_bytes (r : Rd) (x : List UInt8) : (feedR r x).buf.length ≤ r.buf.length + x.length := by
  unfold feedR; split
  · omega
  · show (r.buf ++ x).length ≤ _; rw [List.length_append]; omega
/-- The states of told: behind k pieces, or, behind the last, behind the end. -/
def stateS (me : List UInt8) (l : List (List UInt8)) (c : Bool) (k : Nat) : Int × List UInt8 × Rd := if k ≤ l.length then (l.take k).foldl addR (newS me) else toldR me l c
theorem stateS_zero (me : List UInt8) (l : List (List UInt8)) (c : Bool) : stateS me l c 0 = newS me := by unfold stateS; rw [if_pos (Nat.zero_le _)]; rfl
theorem stateS_succ (me : List UInt8) (l : List (List UInt8)) (c : Bool) (k : Nat) (h : k < l.length) : stateS me l c (k + 1) = addR (stateS me l c k) l[k] := by
  unfold stateS
  rw [if_pos (by omega), if_pos (by omega), List.take_succ_eq_append_getElem h, List.foldl_append]
  rfl
theorem stateS_end (me : List UInt8) (l : List (List UInt8)) (c : Bool) : stateS me l c (l.length + 1) = endsR (stateS me l c l.length) c := by
  unfold stateS
  rw [if_neg (by omega), if_pos (Nat.le_refl _), List.take_length]
  rfl
end Go.Proofs.YtgmjkkiahanekaaDoor

/- The contract of the laws' told: what it tells of a response that comes in pieces is toldR. -/
set_option linter.unusedVariables false
set_option linter.unusedSimpArgs false
namespace Go.Proofs.YtgmjkkiahanekaaDoor
open Go.RowKit Lex

theorem ret_told {w : World} {a b c d e : Value} {tmps : Array Value} (h6 : tmps[6]?.getD undef = a) (h7 : tmps[7]?.getD undef = b) (h8 : tmps[8]?.getD undef = c) (h9 : tmps[9]?.getD undef = d) (h10 : tmps[10]?.getD undef = e) :
    (results Tryd.f9 tmps).run Tryd.prog w = .ok (.tuple #[a, b, c, d, e]) w := by
  simp [results, Tryd.results9, go_sem, h6, h7, h8, h9, h10]
/-- A slice of texts, wherever its row begins. -/
def TextsO (w : World) (A : Option Addr) (l : List (List UInt8)) : Prop := ∀ j (h : j < l.length), ∃ g o, A = some ⟨g, o, none⟩ ∧ w.cell? ⟨g, o + j, none⟩ = some (.string (bs l[j]))
theorem TextsO.below {w w' : World} {A : Option Addr} {l : List (List UInt8)} (h : TextsO w A l) (hb : Below w.heap.size w w') : TextsO w' A l := fun j hj => by
  obtain ⟨g, o, h1, h2⟩ := h j hj
  exact ⟨g, o, h1, cell_below hb h2⟩
/-- The reader and what was told so far: the reader's blocks are the call's own; N: so many bytes at most. -/
structure ToAt (w0 : World) (wr : World) (R D : Nat) (v : Value) (r : Rd) (b : List UInt8) (N : Nat) : Prop where
  rd : RdAt wr R D v r
  ok : r.Ok
  bytes : b.length + r.buf.length ≤ N
  below : Below w0.heap.size w0 wr
  low : ∀ k, FpR R D v r k → w0.heap.size ≤ k
theorem ToAt.later {w0 wr w' : World} {R D D' : Nat} {v v' : Value} {r r' : Rd} {b b' : List UInt8} {N N' : Nat} (h : ToAt w0 wr R D v r b N) (hr : RdAt w' R D' v' r') (ha : Away (FpR R D v r) wr w') (hf : ∀ k, FpR R D' v' r' k → FpR R D v r k ∨ (wr.heap.size ≤ k ∧ k < w'.heap.size)) (hok : r'.Ok) (hb : b'.length + r'.buf.length ≤ N') : ToAt w0 w' R D' v' r' b' N' :=
  ⟨hr, hok, hb, h.below.trans (ha.below h.below.size h.low), fun k hk => by
    rcases hf k hk with h' | h'
    · exact h.low k h'
    · have := h.below.size; omega⟩
theorem told_bool {b : Bool} : (!b) = true ↔ b = false := by cases b <;> simp
set_option maxRecDepth 100000 in
set_option maxHeartbeats 8000000 in
theorem told_c (me : ByteArray) (A : Option Addr) (cap : Nat) (l : List (List UInt8)) (c : Bool) (M : Int) (w : World) (hT : TextsO w A l) (hsum : l.flatten.length ≤ 4194304) (hl : l.length ≤ 4194304) (hm : w.cell? ⟨0, 0, none⟩ = some (.int .i64 M)) :
    Calls Tryd.prog 9 #[.string me, .slice A l.length cap, .bool c] w fun e w' => e = .returned (.tuple #[.int .i64 (toldR me.data.toList l c).1, .string (bs (toldR me.data.toList l c).2.1), .bool (toldR me.data.toList l c).2.2.ended, .int .i64 (toldR me.data.toList l c).2.2.err, .bool true]) ∧ Below w.heap.size w w' := by
  have hw0 := World.block_lt_of_cell? w _ hm
  have NW := fun w => Lib.hid (onew_c me w)
  have HM := Lib.hid hm
  have HT := Lib.hid hT
  have HS := Lib.hid hsum
  generalize hme : me.data.toList = m at *
  have END := Lib.hid (stateS_end m l c)
  have ZERO := Lib.hid (stateS_zero m l c)
  have SUCC := Lib.hid (stateS_succ m l c)
  have LAST : Hid (stateS m l c (l.length + 1) = toldR m l c) := Lib.hid (by unfold stateS; rw [if_neg (by omega)])
  clear hm hT hsum hme
  go_enter Tryd.func9, Tryd.ntmps9
  go_wp2_with fail
  refine (NW _).out.mono ?_
  rintro e w1 ⟨rfl, hr1, hb1, hz1⟩
  have T1 : Hid (ToAt w w1 w.heap.size 0 (.slice none 0 0) { method := m } [] 0) := Lib.hid ⟨hr1, new_ok m, Nat.le_refl _, hb1, fun k hk => by
    rcases hk with e | ⟨e, _⟩
    · omega
    · simp at e⟩
  clear hr1 hb1
  go_wp2_with fail
  go_loopw [12, 13, 14, 15] (fun st bd ls i wr => ∃ (k D : Nat) (v : Value) (r : Rd) (s : Int) (b : List UInt8), i = .int .i64 k ∧ k ≤ l.length + 1 ∧ stateS m l c k = (s, b, r) ∧ st = .int .i64 s ∧ bd = .string (bs b) ∧ (∃ q : Int, ls = .int .i64 q ∧ (k = l.length + 1 → q = r.err)) ∧ ToAt w wr w.heap.size D v r b (l.take k).flatten.length) (fun _ _ _ i _ => l.length + 1 - (intOf i).toNat)
  case atStart => exact ⟨0, 0, .slice none 0 0, { method := m }, 0, [], rfl, Nat.zero_le _, ZERO.out, rfl, rfl, ⟨0, rfl, fun h => by omega⟩, T1.out⟩
  case round =>
    clear T1
    obtain ⟨k, D, v, r, s, b, rfl, hk, hst, rfl, rfl, ⟨q, rfl, hq⟩, hto⟩ := hrel
    have TO := Lib.hid hto
    have hmx := Lib.hid (hto.below.cell (p := ⟨0, 0, none⟩) hw0 |>.trans HM.out)
    have STA := Lib.hid hst
    clear hst hto
    by_cases hend : k ≤ l.length
    · -- the piece is fed, or the end told
      have hki : (k : Int) ≤ (l.length : Int) := by omega
      go_upto_if 33 with fail
      go_cut [27] (fun x wx => ∃ (D' : Nat) (v' : Value) (r1 : Rd), ToAt w wx w.heap.size D' v' r1 b (l.take (k + 1)).flatten.length ∧ ((allR r1).1.getD s, b ++ (allR r1).2.1, (allR r1).2.2) = stateS m l c (k + 1))
      case first =>
        by_cases hlt : k < l.length
        · have hli : (k : Int) < (l.length : Int) := by omega
          obtain ⟨g, o, hA, hc⟩ := HT.out k hlt
          have hc2 := (TO.out.below.cell (p := ⟨g, o + k, none⟩) (World.block_lt_of_cell? w _ hc)).trans hc
          have htk : (l.take (k + 1)).flatten.length = (l.take k).flatten.length + l[k].length := by
            rw [List.take_succ_eq_append_getElem hlt, List.flatten_append]; simp
          have hle : (l.take (k + 1)).flatten.length ≤ l.flatten.length := by
            conv => rhs; rw [← List.take_append_drop (k + 1) l, List.flatten_append, List.length_append]
            omega
          have FE := Lib.hid (ofeed_c w.heap.size D v r (bs l[k]) wr (by have := TO.out.bytes; have := HS.out; rw [bs_size]; omega) TO.out.rd)
          rw [bs_list] at FE
          have SU := Lib.hid (SUCC.out k hlt)
          have k0 : (0 : Int) ≤ (k : Int) := by omega
          have HTK := Lib.hid htk
          subst hA
          clear hc hle htk
          generalize hlk : l[k] = pk at *
          clear hlk
          go_wp2_with fail
          refine FE.out.mono ?_
          rintro e w5 ⟨rfl, hr5, ha5⟩
          have TN : ToAt w w5 w.heap.size D v (feedR r pk) b (l.take (k + 1)).flatten.length := TO.out.later hr5 (ha5.mono (fun _ _ e => .inl e)) (fun k' hk' => .inl (by
            rcases hk' with e | ⟨e, q⟩
            · exact .inl e
            · exact .inr ⟨by revert e; unfold feedR; split <;> exact id, q⟩)) (feed_ok TO.out.ok pk) (by have := feed_bytes r pk; have := TO.out.bytes; have := HTK.out; omega)
          have TNH := Lib.hid TN
          clear hr5 ha5 TN
          go_wp2_with fail
          go_meet
          exact ⟨D, v, feedR r pk, TNH.out, by rw [SU.out, STA.out]; rfl⟩
        · obtain rfl : k = l.length := by omega
          have hli : ¬ ((l.length : Nat) : Int) < (l.length : Int) := by omega
          have htk : (l.take (l.length + 1)).flatten.length = (l.take l.length).flatten.length := by rw [List.take_length, List.take_of_length_le (by omega)]
          have HTK := Lib.hid htk
          clear htk
          cases c with
          | true =>
            have EE := Lib.hid (oend_c w.heap.size D v r wr TO.out.rd)
            go_wp2_with fail
            refine EE.out.mono ?_
            rintro e w5 ⟨rfl, hr5, ha5⟩
            have TNH := Lib.hid (TO.out.later (b' := b) (N' := (l.take (l.length + 1)).flatten.length) hr5 (ha5.mono (fun _ _ e => .inl e)) (fun k' hk' => .inl hk') ⟨TO.out.ok.dec, TO.out.ok.most, TO.out.ok.live, TO.out.ok.left, TO.out.ok.mode, TO.out.ok.len⟩ (by rw [HTK.out]; exact TO.out.bytes))
            clear hr5 ha5
            go_wp2_with fail
            go_meet
            exact ⟨D, v, { r with closed := true }, TNH.out, by rw [END.out, STA.out]; rfl⟩
          | false =>
            go_wp2_with fail
            go_meet
            exact ⟨D, v, r, by rw [HTK.out]; exact TO.out, by rw [END.out, STA.out]; rfl⟩
      case rest =>
        obtain ⟨D1, v1, r1, ht1, hx1⟩ := hcut
        have T2 := Lib.hid ht1
        have hN : (l.take (k + 1)).flatten.length ≤ 4194304 := by
          have : (l.take (k + 1)).flatten.length ≤ l.flatten.length := by
            conv => rhs; rw [← List.take_append_drop (k + 1) l, List.flatten_append, List.length_append]
            omega
          have := HS.out
          omega
        obtain ⟨X, hX⟩ : ∃ X, stateS m l c (k + 1) = X := ⟨_, rfl⟩
        rw [hX] at hx1
        have XX := Lib.hid hX
        have DR := Lib.hid ((drain_all r1 ht1.ok 0 s b).trans hx1)
        clear ht1 hx1 hX TO STA hq hmx
        go_wp2_with fail
        go_loopw [12, 13, 14, 16] (fun st bd ls n wx => ∃ (j D : Nat) (v : Value) (r : Rd) (s : Int) (b : List UInt8) (q : Int), n = .int .i64 j ∧ j + rankR r ≤ 3 ∧ st = .int .i64 s ∧ bd = .string (bs b) ∧ ls = .int .i64 q ∧ drainR (4 - j) r s b = X ∧ ToAt w wx w.heap.size D v r b (l.take (k + 1)).flatten.length) (fun _ _ _ n _ => 4 - (intOf n).toNat)
        case atStart => exact ⟨0, D1, v1, r1, s, b, q, rfl, by have := rank_le r1; omega, rfl, rfl, rfl, DR.out, T2.out⟩
        case round =>
          clear DR T2
          obtain ⟨j, D, v, r, s, b, q, rfl, hj, rfl, rfl, rfl, hdr, hto⟩ := hrel
          have NX := onext_c w.heap.size D v r M (by have := hto.bytes; omega) hto.ok wr hto.rd ((hto.below.cell (p := ⟨0, 0, none⟩) hw0).trans HM.out) hw0
          have NK := next_keeps hto.ok
          obtain ⟨x, hx⟩ : ∃ x, nextR r = x := ⟨_, rfl⟩
          rw [hx] at NX NK
          obtain ⟨p, ok, e, r'⟩ := x
          unfold NextPost at NX
          simp only [pcV] at NX NK
          have NXX := Lib.hid NX
          have NKK := Lib.hid NK
          have HXX := Lib.hid hx
          have TO := Lib.hid hto
          have HDR := Lib.hid hdr
          clear NX NK hx hto hdr
          cases ok with
          | false =>
            have heq : e = r'.err := NKK.out.err rfl
            have hX : X = (s, b, r') := by
              have := HDR.out
              rw [show 4 - j = (3 - j) + 1 by omega, drain_no HXX.out] at this
              exact this.symm
            have HX2 := Lib.hid (XX.out.trans hX)
            have HEQ := Lib.hid heq
            clear heq hX
            go_wp2_with fail
            refine NXX.out.mono ?_
            rintro e3 w3 ⟨A', c', D', v', rfl, hA, hF, hg, hR, ha, hf⟩
            have TN := Lib.hid ((TO.out.later (b' := b) (N' := (l.take (k + 1)).flatten.length) hR ha hf NKK.out.good (by have := NKK.out.bytes; have := TO.out.bytes; omega)))
            clear hA hF hg hR ha hf
            go_wp2
            go_roundw
            case rel =>
              refine ⟨k + 1, D', v', r', s, b, by go_num, by omega, HX2.out, rfl, rfl, ⟨e, rfl, fun _ => HEQ.out⟩, TN.out.rd.below ((Below.refl _ _).alloc (Nat.le_refl _) _), TN.out.ok, TN.out.bytes, TN.out.below.alloc TN.out.below.size _, TN.out.low⟩
            case measure => simp [intOf]; omega
          | true =>
            have hrk := NKK.out.rank rfl
            have hj3 : j ≤ 2 := by omega
            have hj30 : ¬ (30000 : Int) < (j : Int) := by omega
            have hdr2 : drainR (4 - (j + 1)) r' (if p.kind = 1 then p.head.status else s) (if p.kind = 2 then b ++ p.data else b) = X := by
              have := HDR.out
              rw [show 4 - j = (4 - (j + 1)) + 1 by omega, drain_yes HXX.out] at this
              exact this
            have hkd := NKK.out.kind rfl
            have hby := NKK.out.bytes
            have hbt := TO.out.bytes
            have HD2 := Lib.hid hdr2
            clear hdr2
            have later : ∀ b' : List UInt8, b'.length + r'.buf.length ≤ (l.take (k + 1)).flatten.length → ∀ {w3 : World} {D' : Nat} {v' : Value}, RdAt w3 w.heap.size D' v' r' → Away (FpR w.heap.size D v r) wr w3 → (∀ k, FpR w.heap.size D' v' r' k → FpR w.heap.size D v r k ∨ (wr.heap.size ≤ k ∧ k < w3.heap.size)) → ∀ o, ToAt w (w3.alloc o) w.heap.size D' v' r' b' (l.take (k + 1)).flatten.length := fun b' hb' w3 D' v' hR ha hf o => by
              have TN := TO.out.later (b' := b') (N' := (l.take (k + 1)).flatten.length) hR ha hf NKK.out.good hb'
              exact ⟨TN.rd.below ((Below.refl _ _).alloc (Nat.le_refl _) _), TN.ok, TN.bytes, TN.below.alloc TN.below.size _, TN.low⟩
            have LT := Lib.hid later
            clear later
            rcases hkd with h1 | ⟨h2, hne⟩ | h3
            · have HD3 := Lib.hid (show drainR (4 - (j + 1)) r' p.head.status b = X by have := HD2.out; rw [if_pos h1, if_neg (by rw [h1]; decide)] at this; exact this)
              rw [h1] at NXX
              clear h1 HD2
              go_wp2_with fail
              refine NXX.out.mono ?_
              rintro e3 w3 ⟨A', c', D', v', rfl, hA, hF, hg, hR, ha, hf⟩
              have TN := Lib.hid (fun o => LT.out b (by omega) hR ha hf o)
              clear hA hF hg hR ha hf
              go_wp2
              go_roundw
              case rel => exact ⟨j + 1, D', v', r', p.head.status, b, e, by go_num, by omega, rfl, rfl, rfl, HD3.out, TN.out _⟩
              case measure => simp [intOf]; omega
            · have HD3 := Lib.hid (show drainR (4 - (j + 1)) r' s (b ++ p.data) = X by have := HD2.out; rw [if_neg (by rw [h2]; decide), if_pos h2] at this; exact this)
              have hpe : (bs p.data).toList.isEmpty = false := nonempty_toList (fun h => hne (List.eq_nil_of_length_eq_zero (by rw [← bs_size]; exact h)))
              have happ : bs b ++ bs p.data = bs (b ++ p.data) := by
                rw [← list_bs (bs b ++ bs p.data)]
                congr 1
              have HAP := Lib.hid happ
              have hsz : (bs b).size + (bs p.data).size ≤ 4194304 := by rw [bs_size, bs_size]; omega
              rw [h2] at NXX
              clear h2 hne HD2 happ
              generalize hpd : bs p.data = pd at *
              generalize hbb : bs b = bb at *
              clear hpd hbb
              go_wp2_with fail
              refine NXX.out.mono ?_
              rintro e3 w3 ⟨A', c', D', v', rfl, hA, hF, hg, hR, ha, hf⟩
              have TN := Lib.hid (fun o => LT.out (b ++ p.data) (by rw [List.length_append]; omega) hR ha hf o)
              clear hA hF hg hR ha hf
              go_wp2
              rw [HAP.out]
              go_roundw
              case rel => exact ⟨j + 1, D', v', r', s, b ++ p.data, e, by go_num, by omega, rfl, rfl, rfl, HD3.out, TN.out _⟩
              case measure => simp [intOf]; omega
            · have HD3 := Lib.hid (show drainR (4 - (j + 1)) r' s b = X by have := HD2.out; rw [if_neg (by rw [h3]; decide), if_neg (by rw [h3]; decide)] at this; exact this)
              rw [h3] at NXX
              clear h3 HD2
              go_wp2_with fail
              refine NXX.out.mono ?_
              rintro e3 w3 ⟨A', c', D', v', rfl, hA, hF, hg, hR, ha, hf⟩
              have TN := Lib.hid (fun o => LT.out b (by omega) hR ha hf o)
              clear hA hF hg hR ha hf
              go_wp2
              go_roundw
              case rel => exact ⟨j + 1, D', v', r', s, b, e, by go_num, by omega, rfl, rfl, rfl, HD3.out, TN.out _⟩
              case measure => simp [intOf]; omega
    · obtain rfl : k = l.length + 1 := by omega
      have hqe := hq rfl
      subst hqe
      have EN := Lib.hid (oended_c w.heap.size D v r wr TO.out.rd)
      have hki : ¬ ((l.length + 1 : Nat) : Int) ≤ (l.length : Int) := by omega
      have hfin : toldR m l c = (s, b, r) := LAST.out.symm.trans STA.out
      have HF := Lib.hid hfin
      clear hq hfin
      go_wp2_with fail
      refine EN.out.mono ?_
      rintro e w5 ⟨rfl, rfl⟩
      go_wp2
      refine bodyPost_ret (ret_told rfl rfl rfl rfl rfl) rfl ?_
      rw [HF.out]
      exact ⟨rfl, TO.out.below⟩
end Go.Proofs.YtgmjkkiahanekaaDoor

/- The anchor of layer 12's laws, and the walk over OutflowPieces. -/
set_option linter.unusedVariables false
set_option linter.unusedSimpArgs false
namespace Go.Proofs.YtgmjkkiahanekaaDoor
open Go.RowKit Lex

def anchorS : List UInt8 := [72, 84, 84, 80, 47, 49, 46, 49, 32, 49, 48, 48, 32, 13, 10, 13, 10, 72, 84, 84, 80, 47, 49, 46, 49, 32, 50, 48, 48, 32, 79, 75, 13, 10, 67, 111, 110, 116, 101, 110, 116, 45, 76, 101, 110, 103, 116, 104, 58, 32, 51, 13, 10, 13, 10, 97, 98]
def anchorR : Rd := feedR { method := [71, 69, 84] } anchorS
theorem anchor_1 : (nextR anchorR).2.1 = true ∧ (nextR anchorR).2.2.1 = 0 ∧ (nextR anchorR).1.kind = 1 ∧ (nextR anchorR).1.head.status = 200 := by decide +kernel
theorem anchor_2 : (nextR (nextR anchorR).2.2.2).2.1 = true ∧ (nextR (nextR anchorR).2.2.2).2.2.1 = 0 ∧ (nextR (nextR anchorR).2.2.2).1.kind = 2 ∧ (nextR (nextR anchorR).2.2.2).1.data = [97, 98] := by decide +kernel
set_option maxRecDepth 100000 in
set_option maxHeartbeats 4000000 in
theorem anchor12_c (M : Int) (w : World) (hm : w.cell? ⟨0, 0, none⟩ = some (.int .i64 M)) :
    Calls Tryd.prog 8 #[] w fun e w' => e = .returned (.bool true) ∧ Below w.heap.size w w' := by
  have hw0 := World.block_lt_of_cell? w _ hm
  have NW := Lib.hid (onew_c (bs [71, 69, 84]) w)
  rw [bs_list] at NW
  have HM := Lib.hid hm
  have ok0 : Rd.Ok anchorR := feed_ok (new_ok _) _
  have k0 := next_keeps ok0
  have hlen : anchorR.buf.length ≤ 4194304 := by decide
  obtain ⟨a1, a2, a3, a4⟩ := anchor_1
  obtain ⟨b1, b2, b3, b4⟩ := anchor_2
  have F1 := fun w h => Lib.hid (ofeed_c w.heap.size 0 (.slice none 0 0) { method := [71, 69, 84] } (bs anchorS) w (by decide) h)
  clear hm F1
  go_enter Tryd.func8, Tryd.ntmps8
  go_wp2_with fail
  refine NW.out.mono ?_
  rintro e w1 ⟨rfl, hr1, hb1, hz1⟩
  have FE := Lib.hid (ofeed_c w.heap.size 0 (.slice none 0 0) { method := [71, 69, 84] } (bs anchorS) w1 (by decide) hr1)
  rw [bs_list] at FE
  have T1 : Hid (ToAt w w1 w.heap.size 0 (.slice none 0 0) { method := [71, 69, 84] } [] 0) := Lib.hid ⟨hr1, new_ok _, Nat.le_refl _, hb1, fun k hk => by
    rcases hk with e | ⟨e, _⟩
    · omega
    · simp at e⟩
  clear hr1 hb1
  go_wp2_with fail
  refine FE.out.mono ?_
  rintro e w2 ⟨rfl, hr2, ha2⟩
  have t2 : ToAt w w2 w.heap.size 0 (.slice none 0 0) anchorR [] anchorR.buf.length := T1.out.later hr2 (ha2.mono (fun _ _ e => .inl e)) (fun k' hk' => .inl hk') ok0 (by simp)
  have T2 := Lib.hid t2
  have NX := onext_c w.heap.size 0 (.slice none 0 0) anchorR M hlen ok0 w2 hr2 ((t2.below.cell (p := ⟨0, 0, none⟩) hw0).trans HM.out) hw0
  unfold NextPost at NX
  generalize hx : nextR anchorR = x at *
  obtain ⟨p, ok, e1, r1⟩ := x
  simp only at a1 a2 a3 a4 b1 b2 b3 b4 k0
  subst a1 a2
  simp only [pcV, a3, a4] at NX
  have NXX := Lib.hid NX
  have K0 := Lib.hid k0
  clear NX k0 hr2 ha2 t2 hx
  go_wp2_with fail
  refine NXX.out.mono ?_
  rintro e3 w3 ⟨A3, c3, D3, v3, rfl, hA, hF, hg, hR, ha, hf⟩
  obtain ⟨V3, hV3⟩ : ∃ V, w3.alloc (.cells #[.int .i64 1, .string (bs p.head.method), .string (bs p.head.target), .int .i64 200, .string (bs p.head.reason), .int .i64 p.head.minor, .slice A3 p.head.fields.length c3, .string (bs p.data)] 41) = V := ⟨_, rfl⟩
  have t3 := T2.out.later (b' := []) (N' := anchorR.buf.length) hR ha hf K0.out.good (by have := K0.out.bytes; simp; omega)
  have hbv : Below w3.heap.size w3 V3 := by rw [← hV3]; exact (Below.refl _ w3).alloc (Nat.le_refl _) _
  have t4 : ToAt w V3 w.heap.size D3 v3 r1 [] anchorR.buf.length := ⟨t3.rd.below hbv, t3.ok, t3.bytes, t3.below.trans (hbv.mono t3.below.size), t3.low⟩
  have X3 : Hid (Blk V3 w3.heap.size [.int .i64 1, .string (bs p.head.method), .string (bs p.head.target), .int .i64 200, .string (bs p.head.reason), .int .i64 p.head.minor, .slice A3 p.head.fields.length c3, .string (bs p.data)]) := Lib.hid (by rw [← hV3]; exact blk_only w3 _ _ _ _ rfl rfl)
  have T4 := Lib.hid t4
  have FR := Lib.hid hR.fp
  have HV3 := Lib.hid hV3
  have NX := onext_c w.heap.size D3 v3 r1 M (by have := t4.bytes; simp at this; omega) t4.ok V3 t4.rd ((t4.below.cell (p := ⟨0, 0, none⟩) hw0).trans HM.out) hw0
  unfold NextPost at NX
  generalize hx : nextR r1 = x at *
  obtain ⟨q, ok, e1, r2⟩ := x
  simp only at b1 b2 b3 b4
  subst b1 b2
  simp only [pcV, b3, b4] at NX
  rw [show bs [97, 98] = ⟨#[97, 98]⟩ from rfl] at NX
  have NYY := Lib.hid NX
  have hV3l : w3.heap.size < V3.heap.size := X3.out.lt
  clear NX hx hA hF hg hR ha hf t3 t4 hbv hV3 a3 a4 b3 b4
  go_wp2_with fail
  rw [HV3.out]
  refine NYY.out.mono ?_
  rintro e5 w5 ⟨A5, c5, D5, v5, rfl, hA, hF, hg, hR, ha, hf⟩
  have X5 := X3.out.away (by omega) ha (fun e => by have := FR.out _ e; omega)
  have BB := Lib.hid (T4.out.below.trans (ha.below T4.out.below.size T4.out.low))
  have m0 := X5.c 0 _ rfl
  have m3 := X5.c 3 _ rfl
  have hX5l : w3.heap.size < w5.heap.size := X5.lt
  clear hA hF hg hR ha hf X5
  go_wp2
  go_ret
  exact ⟨rfl, BB.out.alloc BB.out.size _⟩

def told5 (x : Int × List UInt8 × Rd) : Value := .tuple #[.int .i64 x.1, .string (bs x.2.1), .bool x.2.2.ended, .int .i64 x.2.2.err, .bool true]
theorem texts_one (w : World) (s : ByteArray) (T : TypeId) : TextsO (w.alloc (.cells #[.string s] T)) (some ⟨w.heap.size, 0, none⟩) [s.data.toList] := by
  intro j hj
  have : j = 0 := by simpa using hj
  subst this
  exact ⟨w.heap.size, 0, rfl, by rw [World.cell?_alloc_new, List.getElem_cons_zero, list_bs]; rfl⟩
set_option maxRecDepth 100000 in
set_option maxHeartbeats 8000000 in
theorem pieces_walk {W : World} (me : ByteArray) (hme : me.size ≤ 1048576) (A : Option Addr) (cap : Nat) (l : List (List UInt8)) (hT : TextsO W A l) (hl : l.length ≤ 1048576) (hs : l.flatten.length ≤ 1048576) (c : Bool) (M : Int) (W2 : World) (hW : W2 = W) (hm : W2.cell? ⟨0, 0, none⟩ = some (.int .i64 M)) :
    Calls Tryd.prog 3 #[.string me, .slice A l.length cap, .bool c] W2 fun e w' => e = .returned (.bool true) ∧ Below W2.heap.size W2 w' := by
  subst hW
  have AN := Lib.hid (anchor12_c M W2 hm)
  have HM := Lib.hid hm
  have HT := Lib.hid hT
  have hlen : ∀ k, (l.take k).flatten.length ≤ l.flatten.length := fun k => by
    conv => rhs; rw [← List.take_append_drop k l, List.flatten_append, List.length_append]
    omega
  have HLN := Lib.hid hlen
  clear hm hT hlen
  go_enter Tryd.func3, Tryd.ntmps3
  go_wp2_with fail
  refine AN.out.mono ?_
  rintro e w1 ⟨rfl, hb1⟩
  have B1 := Lib.hid hb1
  have T1 := Lib.hid (HT.out.below hb1)
  have M1 := Lib.hid (cell_below hb1 HM.out)
  clear hb1
  go_wp2_with fail
  go_loop [24, 7] (fun i a => ∃ k : Nat, k ≤ l.length ∧ i = .int .i64 k ∧ a = .string (bs (l.take k).flatten)) (fun i _ => l.length - (intOf i).toNat)
  case atStart => exact ⟨0, Nat.zero_le _, rfl, rfl⟩
  case round =>
    obtain ⟨k, hk, rfl, rfl⟩ := hrel
    by_cases hlt : k < l.length
    · obtain ⟨g, o, hA, hc⟩ := T1.out k hlt
      have hnx : bs (l.take k).flatten ++ bs l[k] = bs (l.take (k + 1)).flatten := by
        rw [← list_bs (bs (l.take k).flatten ++ bs l[k])]
        congr 1
        rw [List.take_succ_eq_append_getElem hlt, List.flatten_append]
        simp [bs_list]
      have hsz : (bs (l.take k).flatten).size + (bs l[k]).size ≤ 1048576 := by
        have h1 := HLN.out (k + 1)
        rw [List.take_succ_eq_append_getElem hlt, List.flatten_append, List.length_append, List.flatten_cons, List.flatten_nil, List.append_nil] at h1
        rw [bs_size, bs_size]
        omega
      have HN := Lib.hid hnx
      have k0 : (0 : Int) ≤ (k : Int) := by omega
      have k1 : (k : Int) < (l.length : Int) := by omega
      subst hA
      clear hnx
      generalize bs l[k] = y at *
      generalize bs (l.take k).flatten = x at *
      go_wp2
      rw [HN.out]
      go_round
      case rel => exact ⟨k + 1, by omega, by go_num, rfl⟩
      case measure => simp [intOf]; omega
    · obtain rfl : k = l.length := by omega
      rw [List.take_length]
      have hsz : (bs l.flatten).size = l.flatten.length := bs_size _
      by_cases hbig : 20000 < l.flatten.length
      · have hi : (20000 : Int) < ((bs l.flatten).size : Int) := by rw [hsz]; omega
        clear hsz
        generalize bs l.flatten = x at *
        go_wp2
        go_ret
        exact ⟨rfl, B1.out⟩
      · have hi : ¬ (20000 : Int) < ((bs l.flatten).size : Int) := by rw [hsz]; omega
        have TA := fun w hT hm => Lib.hid (told_c me A cap l c M w hT (by omega) (by omega) hm)
        have TB := fun A w hT hm => Lib.hid (told_c me A 1 [(bs l.flatten).data.toList] c M w hT (by rw [bs_list, List.flatten_cons, List.flatten_nil, List.append_nil]; omega) (by simp) hm)
        have LK := told_pieces me.data.toList l c
        have hfl : (bs l.flatten).data.toList = l.flatten := bs_list _
        simp only [hfl] at TB
        generalize toldR me.data.toList l c = x at *
        generalize toldR me.data.toList [l.flatten] c = y at *
        obtain ⟨s1, b1, r1⟩ := x
        obtain ⟨s2, b2, r2⟩ := y
        obtain ⟨l1, l2, l3⟩ := LK
        simp only at l1 l2 l3 TA TB
        subst l1
        have hfin : r1.ended = r2.ended ∧ r1.err = r2.err ∧ (b1 = b2 ∨ (r1.err != 0) = true) := by
          rcases l2 with ⟨h1, h2⟩ | ⟨h1, h2, h3⟩
          · simp only at h1 h2
            exact ⟨by rw [h2], by rw [h2], .inl h1⟩
          · exact ⟨h3, h2, .inr (by rw [bne_iff_ne]; exact h1)⟩
        have TX := fun w => Lib.hid (texts_one w (bs l.flatten) 9)
        simp only [hfl] at TX
        clear hsz hfl l2 l3 hbig
        generalize bs l.flatten = x at *
        obtain ⟨h1, h2, h3⟩ := hfin
        rw [h1, h2] at TA
        rw [h2] at h3
        generalize r2.ended = e2 at *
        generalize r2.err = q2 at *
        have TAA := Lib.hid TA
        have TBB := Lib.hid TB
        clear TA TB h1 h2
        go_wp2_with fail
        refine (TAA.out w1 T1.out M1.out).out.mono ?_
        rintro e w3 ⟨rfl, hb3⟩
        have B3 := Lib.hid (below_then B1.out hb3)
        have M3 := Lib.hid (cell_below hb3 M1.out)
        clear hb3
        have B4 := Lib.hid (B3.out.alloc B3.out.size (.cells #[.string x] 9))
        have M4 := Lib.hid (cell_below ((Below.refl _ w3).alloc (Nat.le_refl _) (.cells #[.string x] 9)) M3.out)
        go_wp2_with fail
        refine (TBB.out _ _ (TX w3).out M4.out).out.mono ?_
        rintro e w5 ⟨rfl, hb5⟩
        have B5 := Lib.hid (below_then B4.out hb5)
        clear hb5
        rcases h3 with rfl | h3
        · go_wp2
          all_goals
            go_ret
            exact ⟨by simp, B5.out⟩
        · have HB3 := Lib.hid h3
          by_cases hbb : b1 = b2
          · subst hbb
            go_wp2
            all_goals
              go_ret
              exact ⟨by simp, B5.out⟩
          · go_wp2
            all_goals
              go_ret
              exact ⟨by first | rfl | simp, B5.out⟩
end Go.Proofs.YtgmjkkiahanekaaDoor

