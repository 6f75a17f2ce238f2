/- The texts ChkD in one. -/
import Derived.Test.YtgmjkkiahanekaaDoorM10
import Derived.Deep.RegionHeld3
/- The contracts of (*strings.Builder).String and of the decoder's Feed. -/
set_option linter.unusedVariables false
set_option linter.unusedSimpArgs false
namespace Go.Proofs.YtgmjkkiahanekaaDoor
open Go.RowKit Lex

theorem away_freeze {F : Nat → Prop} {a w : World} (h : Away F a w) {p : Addr} (hp : F p.block) (n : Nat) : Away F a (w.freeze p n) := by
  refine h.then (G := fun k => k = p.block) ?_ (fun i _ e => by subst e; exact hp)
  unfold World.freeze
  split
  · exact Away.refl _ w
  · exact ⟨rfl, rfl, rfl, by simp, fun k hk hn => by
      simp only [Array.getElem?_modify]
      rw [if_neg (fun e => hn e.symm)]⟩
theorem bytes_u8 : Tryd.prog.cellsOf 5 = 1 := by kernel_rfl
theorem bs_eq (l : List UInt8) : (⟨l.toArray⟩ : ByteArray) = bs l := rfl
set_option maxRecDepth 100000 in
set_option maxHeartbeats 2000000 in
theorem bstr_c (T : TypeId) (N b o base : Nat) (v : Value) (l : List UInt8) (w : World) (h : BldAt T N w b o base v l) (hl : l.length ≤ 140737488355328) :
    Calls Tryd.prog 52 #[.pointer (some ⟨b, o, none⟩)] w fun e w' => e = .returned (.string (bs l)) ∧ Away (fun k => v.ownBlock = some k) w w' := by
  by_cases h0 : l = []
  · obtain rfl := h.nil h0
    subst h0
    have hUS := fun W q => Lib.run_unsafeString_none (P := Tryd.prog) W 110 3 9 q
    have c1 : w.drew.cell? ⟨b, o + 1, none⟩ = some (.slice none 0 0) := h.c1
    have hSD : (Builtin.unsafeSliceData_ #[28] 110 #[.slice none 0 0]).run Tryd.prog w.drew = .ok (.pointer none) w.drew := rfl
    clear h
    go_enter Tryd.func52, Tryd.ntmps52
    go_wp2
    go_region
    all_goals (go_wp2; go_ret; exact ⟨rfl, (Away.refl _ w).drew⟩)
  · have hl0 : l.length ≠ 0 := by simpa using h0
    obtain ⟨g, cap, cur, rfl, hbg, hg, hnc, hcm, hcs, htake⟩ : ∃ g cap cur, v = .slice (some ⟨g, 0, none⟩) l.length cap ∧ base ≤ g ∧ w.heap[g]? = some (.cells cur 5 (0, 0)) ∧ l.length ≤ cap ∧ cap ≤ maxLen ∧ cur.size = cap * 1 ∧ cur.toList.take (l.length * 1) = nums8 (byteI l) := by
      rcases h.own.2 with ⟨_, hz⟩ | ⟨g, cap, cur, hv, r⟩
      · exact absurd hz hl0
      · exact ⟨g, cap, cur, hv, r⟩
    have c1 : w.drew.cell? ⟨b, o + 1, none⟩ = some (.slice (some ⟨g, 0, none⟩) l.length cap) := h.c1
    have hSD : (Builtin.unsafeSliceData_ #[28] 110 #[.slice (some ⟨g, 0, none⟩) l.length cap]).run Tryd.prog w.drew = .ok (.pointer (some ⟨g, 0, none⟩)) w.drew :=
      Lib.run_unsafeSliceData_row _ _ _ _ _ _ (by omega)
    have hUS : (Builtin.unsafeString_ #[110, 3] 9 #[.pointer (some ⟨g, 0, none⟩), .int .i64 l.length]).run Tryd.prog w.drew = .ok (.string (bs l)) (w.drew.freeze ⟨g, 0, none⟩ l.length) := by
      refine Lib.run_unsafeString_row w.drew 110 3 9 5 Tryd.underlying110 bytes_u8 g cur.size (by have hg' : w.drew.heap[g]? = some (.cells cur 5 (0, 0)) := hg; simp [World.shape?, hg']) l h0 (by omega) (by unfold maxLen at hcm; omega) ?_
      intro j x hx
      have := h.own.cells (g := g) rfl j (.int .u8 x.toNat) (by simp [nums8, byteI, hx])
      exact this
    clear h hbg hg hnc hcm hcs htake
    go_enter Tryd.func52, Tryd.ntmps52
    go_wp2
    go_region
    all_goals (go_wp2; go_ret; exact ⟨rfl, away_freeze ((Away.refl _ w).drew) (p := ⟨g, 0, none⟩) (by exact rfl) _⟩)

/-- The decoder behind n bytes of the body. -/
def advD (d : Dec) (n : Nat) : Dec := { d with size := d.size + n, left := d.left - n, st := if d.left - n = 0 then 2 else 1 }
theorem adv_adv (d : Dec) (n : Nat) : advD (advD d 1) n = advD d (n + 1) := by
  unfold advD
  simp only [show d.size + ((1 : Nat) : Int) + (n : Int) = d.size + ((n + 1 : Nat) : Int) by omega, show d.left - ((1 : Nat) : Int) - (n : Int) = d.left - ((n + 1 : Nat) : Int) by omega]
/-- n bytes of the body at once. -/
theorem runD_data : ∀ (n : Nat) (d : Dec) (S : List UInt8), d.st = 1 → d.err = 0 → 0 < n → (n : Int) ≤ d.left → n ≤ S.length →
    runD d S = (S.take n ++ (runD (advD d n) (S.drop n)).1, n + (runD (advD d n) (S.drop n)).2.1, (runD (advD d n) (S.drop n)).2.2)
  | 0, d, S, _, _, h, _, _ => absurd h (Nat.lt_irrefl 0)
  | n + 1, d, [], _, _, _, _, h => absurd h (Nat.not_succ_le_zero n)
  | n + 1, d, c :: S, h1, he, _, hl, hs => by
    rw [runD_cons (by rw [h1, he]; decide)]
    have e1 : stepD d c = (advD d 1, [c]) := by
      unfold stepD advD
      rw [if_pos h1]
      have e2 : (if d.left = 1 then (2 : Int) else 1) = if d.left - ((1 : Nat) : Int) = 0 then 2 else 1 := by
        by_cases h0 : d.left = 1
        · rw [if_pos h0, if_pos (by omega)]
        · rw [if_neg h0, if_neg (by omega)]
      rw [e2]
      rfl
    rw [e1]
    simp only [List.take_succ_cons, List.drop_succ_cons, List.cons_append, List.nil_append]
    by_cases hn : n = 0
    · subst hn
      simp only [List.take_zero, List.drop_zero, List.nil_append, Nat.zero_add, Nat.add_comm]
    · have ih := runD_data n (advD d 1) S (by show (if d.left - ((1 : Nat) : Int) = 0 then (2 : Int) else 1) = 1; rw [if_neg (by omega)]) he (by omega) (by show (n : Int) ≤ d.left - ((1 : Nat) : Int); omega) (by simpa using hs)
      rw [ih, adv_adv]
      refine Prod.ext rfl (Prod.ext ?_ rfl)
      show n + _ + 1 = n + 1 + _
      omega

def feedVal (x : List UInt8 × Nat × Dec) : Value := if x.2.2.err ≠ 0 then .tuple #[.string ⟨#[]⟩, .int .i64 0, .bool false, .int .i64 x.2.2.err] else .tuple #[.string (bs x.1), .int .i64 (x.2.1 : Int), .bool (decide (x.2.2.st = 4)), .int .i64 0]
/-- What Feed leaves. -/
def FeedPost (w : World) (D : Nat) (v : Value) (x : List UInt8 × Nat × Dec) (e : Ending) (w' : World) : Prop :=
  ∃ v', e = .returned (feedVal x) ∧ DecAt w' D v' x.2.2 ∧ Away (fun k => k = D ∨ v.ownBlock = some k) w w' ∧ ∀ k, v'.ownBlock = some k → v.ownBlock = some k ∨ (w.heap.size ≤ k ∧ k < w'.heap.size)
theorem ret_feed {w : World} {a b c d : Value} {tmps : Array Value} (h4 : tmps[4]?.getD undef = a) (h5 : tmps[5]?.getD undef = b) (h6 : tmps[6]?.getD undef = c) (h7 : tmps[7]?.getD undef = d) :
    (results Tryd.f37 tmps).run Tryd.prog w = .ok (.tuple #[a, b, c, d]) w := by
  simp [results, Tryd.results37, go_sem, h4, h5, h6, h7]
theorem lies_builder : liesAt Tryd.prog Tryd.prog.depth 94 (2 / Tryd.prog.cellsOf 94) 0 94 1 = true := by kernel_rfl

/-- Between two rounds of Feed: k bytes read, the decoder d1, the body so far o1. -/
structure FeedAt (w : World) (D : Nat) (v : Value) (d : Dec) (S : List UInt8) (wr : World) (k : Nat) (d1 : Dec) (v1 vb : Value) (o1 : List UInt8) : Prop where
  run : runD d S = (o1 ++ (runD d1 (S.drop k)).1, k + (runD d1 (S.drop k)).2.1, (runD d1 (S.drop k)).2.2)
  ok : d1.Ok
  err : d1.err = 0
  dec : DecAt wr D v1 d1
  bld : BldAt 94 2 wr w.heap.size 0 w.heap.size vb o1
  away : Away (fun k => k = D ∨ v.ownBlock = some k) w wr
  row : ∀ k, v1.ownBlock = some k → v.ownBlock = some k ∨ (w.heap.size ≤ k ∧ k < wr.heap.size)
  far : ∀ k, v1.ownBlock = some k → k ≠ w.heap.size ∧ vb.ownBlock ≠ some k
  out : o1.length ≤ k
  le : k ≤ S.length
theorem FeedAt.dlt {w : World} {D : Nat} {v : Value} {d : Dec} {S : List UInt8} {wr : World} {k : Nat} {d1 : Dec} {v1 vb : Value} {o1 : List UInt8} (h : FeedAt w D v d S wr k d1 v1 vb o1) (hD : D < w.heap.size) :
    (∀ g, vb.ownBlock = some g → w.heap.size ≤ g ∧ g < wr.heap.size) ∧ w.heap.size < wr.heap.size ∧ D < wr.heap.size := ⟨fun g hg => h.bld.own.lt g hg, h.bld.lt, h.dec.lt⟩
/-- Behind n bytes of the body. -/
theorem FeedAt.data {w : World} {D : Nat} {v : Value} {d : Dec} {S : List UInt8} {wr w2 : World} {k n : Nat} {d1 : Dec} {v1 vb vb2 : Value} {o1 : List UInt8} (h : FeedAt w D v d S wr k d1 v1 vb o1) (hD : D < w.heap.size) (h1 : d1.st = 1) (h0 : 0 < n) (hl : (n : Int) ≤ d1.left) (hs : k + n ≤ S.length)
    (hb : BldAt 94 2 w2 w.heap.size 0 w.heap.size vb2 (o1 ++ (S.drop k).take n)) (ha : Away (fun g => g = w.heap.size ∨ vb.ownBlock = some g) wr w2) (hr : ∀ g, vb2.ownBlock = some g → vb.ownBlock = some g ∨ (wr.heap.size ≤ g ∧ g < w2.heap.size))
    {w3 : World} (hd : DecAt w3 D v1 (advD d1 n)) (ha3 : Away (fun g => g = D) w2 w3) (hz : w3.heap.size = w2.heap.size) :
    FeedAt w D v d S w3 (k + n) (advD d1 n) v1 vb2 (o1 ++ (S.drop k).take n) := by
  obtain ⟨q1, q2, q3⟩ := h.dlt hD
  have hlv := h.ok.data h1
  refine ⟨?_, ?_, h.err, hd, hb.away ha3 (by omega) (fun g hg e => ?_), ?_, ?_, ?_, ?_, hs⟩
  · have := runD_data n d1 (S.drop k) h1 h.err h0 hl (by rw [List.length_drop]; omega)
    rw [h.run, this, List.drop_drop]
    simp only [List.append_assoc, Nat.add_assoc]
  · obtain ⟨a1, a2, a3, a4, a5, a6, a7, a8⟩ := h.ok
    refine ⟨?_, ⟨by show 0 ≤ d1.size + n; omega, by show d1.size + n + (d1.left - n) ≤ max d1.most 0; omega⟩, ⟨by show 0 ≤ d1.left - n; omega, by show d1.left - n < _; omega⟩, fun hh => ?_, a5, a6, a7, a8⟩
    · show 0 ≤ (if d1.left - n = 0 then (2 : Int) else 1) ∧ (if d1.left - n = 0 then (2 : Int) else 1) ≤ 4
      split <;> decide
    · have hh : (if d1.left - n = 0 then (2 : Int) else 1) = 1 := hh
      split at hh
      · cases hh
      · exact ⟨by show 0 < d1.left - n; omega, hlv.2⟩
  · rcases hr g hg with h' | h'
    · have := (q1 g h').1; omega
    · omega
  · exact (h.away.then ha (fun i hi e => by
      rcases e with e | e
      · omega
      · have := (q1 i e).1; omega)).then ha3 (fun i hi e => .inl e)
  · intro g hg
    rcases h.row g hg with h' | h'
    · exact .inl h'
    · exact .inr ⟨h'.1, by have := ha.size; omega⟩
  · intro g hg
    refine ⟨(h.far g hg).1, fun e => ?_⟩
    rcases hr g e with h' | h'
    · exact (h.far g hg).2 h'
    · have := (h.dec.own.lt g hg).2; omega
  · rw [List.length_append, List.length_take]; have := h.out; omega
/-- Behind a byte of a line. -/
theorem FeedAt.line {w : World} {D : Nat} {v : Value} {d : Dec} {S : List UInt8} {wr w2 : World} {k : Nat} {d1 : Dec} {v1 vb v2 : Value} {o1 : List UInt8} {c : UInt8} (h : FeedAt w D v d S wr k d1 v1 vb o1) (hD : D < w.heap.size) (h1 : d1.st ≠ 1) (h4 : d1.st ≠ 4) (hc : S.drop k = c :: S.drop (k + 1)) (hs : k < S.length)
    (hd : DecAt w2 D v2 (takeD d1 c).1) (ha : Away (fun g => g = D ∨ v1.ownBlock = some g) wr w2) (hr : ∀ g, v2.ownBlock = some g → v1.ownBlock = some g ∨ (wr.heap.size ≤ g ∧ g < w2.heap.size)) :
    (runD d S = (o1 ++ (runD { (takeD d1 c).1 with err := (takeD d1 c).2 } (S.drop (k + 1))).1, k + 1 + (runD { (takeD d1 c).1 with err := (takeD d1 c).2 } (S.drop (k + 1))).2.1, (runD { (takeD d1 c).1 with err := (takeD d1 c).2 } (S.drop (k + 1))).2.2)) ∧
    DecAt (w2.setCell ⟨D, 7, none⟩ (.int .i64 (takeD d1 c).2)) D v2 { (takeD d1 c).1 with err := (takeD d1 c).2 } ∧
    Away (fun k => k = D ∨ v.ownBlock = some k) w (w2.setCell ⟨D, 7, none⟩ (.int .i64 (takeD d1 c).2)) ∧
    (∀ k, v2.ownBlock = some k → v.ownBlock = some k ∨ (w.heap.size ≤ k ∧ k < (w2.setCell ⟨D, 7, none⟩ (.int .i64 (takeD d1 c).2)).heap.size)) ∧
    ((takeD d1 c).2 = 0 → FeedAt w D v d S (w2.setCell ⟨D, 7, none⟩ (.int .i64 (takeD d1 c).2)) (k + 1) { (takeD d1 c).1 with err := (takeD d1 c).2 } v2 vb o1) := by
  obtain ⟨q1, q2, q3⟩ := h.dlt hD
  have hstep : stepD d1 c = ({ (takeD d1 c).1 with err := (takeD d1 c).2 }, []) := by unfold stepD; rw [if_neg h1]
  have hrun : runD d S = (o1 ++ (runD { (takeD d1 c).1 with err := (takeD d1 c).2 } (S.drop (k + 1))).1, k + 1 + (runD { (takeD d1 c).1 with err := (takeD d1 c).2 } (S.drop (k + 1))).2.1, (runD { (takeD d1 c).1 with err := (takeD d1 c).2 } (S.drop (k + 1))).2.2) := by
    rw [h.run, hc, runD_cons (by rw [h.err]; simp [h4]), hstep]
    simp only [List.nil_append, Nat.add_assoc, Nat.add_comm]
  have hok := ok_step h.ok (by rw [h.err]; simp [h4]) c
  rw [hstep] at hok
  have hdec := hd.put (d' := { (takeD d1 c).1 with err := (takeD d1 c).2 }) 7 (.int .i64 (takeD d1 c).2) (by decide) rfl rfl
  have hrow : ∀ g, v2.ownBlock = some g → v.ownBlock = some g ∨ (w.heap.size ≤ g ∧ g < w2.heap.size) := fun g hg => by
    rcases hr g hg with h' | h'
    · rcases h.row g h' with h2 | h2
      · exact .inl h2
      · exact .inr ⟨h2.1, by have := ha.size; omega⟩
    · exact .inr ⟨by omega, h'.2⟩
  have haway : Away (fun k => k = D ∨ v.ownBlock = some k) w w2 := h.away.then ha (fun i hi e => by
    rcases e with e | e
    · exact .inl e
    · rcases h.row i e with h2 | h2
      · exact .inr h2
      · omega)
  have hsz : (w2.setCell ⟨D, 7, none⟩ (.int .i64 (takeD d1 c).2)).heap.size = w2.heap.size := by simp [World.setCell]
  refine ⟨hrun, hdec, haway.put (by exact .inl rfl) _ _, by rw [hsz]; exact hrow, fun h0 => ?_⟩
  have hne : ∀ g, vb.ownBlock = some g → ¬ (g = D ∨ v1.ownBlock = some g) := fun g hg e => by
    rcases e with e | e
    · have := (q1 g hg).1; omega
    · exact (h.far g e).2 hg
  have hb2 := h.bld.away ha (fun e => by
    rcases e with e | e
    · omega
    · exact (h.far _ e).1 rfl) hne
  refine ⟨hrun, hok, h0, hdec, hb2.away (F := fun g => g = D) ((Away.refl _ w2).put (by exact rfl) _ _) (by omega) (fun g hg e => by have := (q1 g hg).1; omega), haway.put (by exact .inl rfl) _ _, by rw [hsz]; exact hrow, fun g hg => ?_, by have := h.out; omega, hs⟩
  rcases hr g hg with h' | h'
  · exact h.far g h'
  · exact ⟨by omega, fun e => by have := (q1 g e).2; omega⟩
end Go.Proofs.YtgmjkkiahanekaaDoor

