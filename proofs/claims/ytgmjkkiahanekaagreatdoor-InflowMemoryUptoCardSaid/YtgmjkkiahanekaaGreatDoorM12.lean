/- The texts ChkD, CrA, FldB, FldC, OwnR in one. -/
import Derived.Test.YtgmjkkiahanekaaGreatDoorM11
import Derived.Deep.RegionHeld3
import Derived.Test.YtgmjkkiahanekaaGreatDoorM6
import Derived.RangeFuncNested
import Derived.RangeFuncBound
import Derived.RangeFuncCalls
import Derived.RangeFuncLeaves
import Derived.RangeFuncFrom
import Derived.RangeFuncBox
import Derived.Shelf.Abstract
import Derived.Shelf.RegionOpen
import Derived.WalkKit
import Derived.OwnWalkIn
import Derived.TacticsInMore
import Derived.LoopNIn
import Derived.LoopIn
import Derived.Maps.AppendAt
import Derived.Laws.OwnMore
import Derived.Laws.AppendOwn
import Derived.Deep.AppendLies
import Derived.RegionTactic
import Derived.Below
import Derived.Tactics
/- The contracts of (*strings.Builder).String and of the decoder's Feed. -/
set_option linter.unusedVariables false
set_option linter.unusedSimpArgs false
namespace Go.Proofs.YtgmjkkiahanekaaGreatDoor
open Go.RowKit Lex

theorem away_freeze {F : Nat → Prop} {a w : World} (h : Away F a w) {p : Addr} (hp : F p.block) (n : Nat) : Away F a (w.freeze p n) := by
  refine h.then (G := fun k => k = p.block) ?_ (fun i _ e => by subst e; exact hp)
  unfold World.freeze
  split
  · exact Away.refl _ w
  · exact ⟨rfl, rfl, rfl, by simp, fun k hk hn => by
      simp only [Array.getElem?_modify]
      rw [if_neg (fun e => hn e.symm)]⟩
theorem bytes_u8 : Tryz.prog.cellsOf 5 = 1 := by kernel_rfl
theorem bs_eq (l : List UInt8) : (⟨l.toArray⟩ : ByteArray) = bs l := rfl
set_option maxRecDepth 100000 in
set_option maxHeartbeats 2000000 in
theorem bstr_c (T : TypeId) (N b o base : Nat) (v : Value) (l : List UInt8) (w : World) (h : BldAt T N w b o base v l) (hl : l.length ≤ 140737488355328) :
    Calls Tryz.prog 89 #[.pointer (some ⟨b, o, none⟩)] w fun e w' => e = .returned (.string (bs l)) ∧ Away (fun k => v.ownBlock = some k) w w' := by
  by_cases h0 : l = []
  · obtain rfl := h.nil h0
    subst h0
    have hUS := fun W q => Lib.run_unsafeString_none (P := Tryz.prog) W 175 3 9 q
    have c1 : w.drew.cell? ⟨b, o + 1, none⟩ = some (.slice none 0 0) := h.c1
    have hSD : (Builtin.unsafeSliceData_ #[71] 175 #[.slice none 0 0]).run Tryz.prog w.drew = .ok (.pointer none) w.drew := rfl
    clear h
    go_enter Tryz.func89, Tryz.ntmps89
    go_wp2
    go_region
    all_goals (go_wp2; go_ret; exact ⟨rfl, (Away.refl _ w).drew⟩)
  · have hl0 : l.length ≠ 0 := by simpa using h0
    obtain ⟨g, cap, cur, rfl, hbg, hg, hnc, hcm, hcs, htake⟩ : ∃ g cap cur, v = .slice (some ⟨g, 0, none⟩) l.length cap ∧ base ≤ g ∧ w.heap[g]? = some (.cells cur 5 (0, 0)) ∧ l.length ≤ cap ∧ cap ≤ maxLen ∧ cur.size = cap * 1 ∧ cur.toList.take (l.length * 1) = nums8 (byteI l) := by
      rcases h.own.2 with ⟨_, hz⟩ | ⟨g, cap, cur, hv, r⟩
      · exact absurd hz hl0
      · exact ⟨g, cap, cur, hv, r⟩
    have c1 : w.drew.cell? ⟨b, o + 1, none⟩ = some (.slice (some ⟨g, 0, none⟩) l.length cap) := h.c1
    have hSD : (Builtin.unsafeSliceData_ #[71] 175 #[.slice (some ⟨g, 0, none⟩) l.length cap]).run Tryz.prog w.drew = .ok (.pointer (some ⟨g, 0, none⟩)) w.drew :=
      Lib.run_unsafeSliceData_row _ _ _ _ _ _ (by omega)
    have hUS : (Builtin.unsafeString_ #[175, 3] 9 #[.pointer (some ⟨g, 0, none⟩), .int .i64 l.length]).run Tryz.prog w.drew = .ok (.string (bs l)) (w.drew.freeze ⟨g, 0, none⟩ l.length) := by
      refine Lib.run_unsafeString_row w.drew 175 3 9 5 Tryz.underlying175 bytes_u8 g cur.size (by have hg' : w.drew.heap[g]? = some (.cells cur 5 (0, 0)) := hg; simp [World.shape?, hg']) l h0 (by omega) (by unfold maxLen at hcm; omega) ?_
      intro j x hx
      have := h.own.cells (g := g) rfl j (.int .u8 x.toNat) (by simp [nums8, byteI, hx])
      exact this
    clear h hbg hg hnc hcm hcs htake
    go_enter Tryz.func89, Tryz.ntmps89
    go_wp2
    go_region
    all_goals (go_wp2; go_ret; exact ⟨rfl, away_freeze ((Away.refl _ w).drew) (p := ⟨g, 0, none⟩) (by exact rfl) _⟩)

/-- The decoder behind n bytes of the body. -/
def advD (d : Dec) (n : Nat) : Dec := { d with size := d.size + n, left := d.left - n, st := if d.left - n = 0 then 2 else 1 }
theorem adv_adv (d : Dec) (n : Nat) : advD (advD d 1) n = advD d (n + 1) := by
  unfold advD
  simp only [show d.size + ((1 : Nat) : Int) + (n : Int) = d.size + ((n + 1 : Nat) : Int) by omega, show d.left - ((1 : Nat) : Int) - (n : Int) = d.left - ((n + 1 : Nat) : Int) by omega]
/-- n bytes of the body at once. -/
theorem runD_data : ∀ (n : Nat) (d : Dec) (S : List UInt8), d.st = 1 → d.err = 0 → 0 < n → (n : Int) ≤ d.left → n ≤ S.length →
    runD d S = (S.take n ++ (runD (advD d n) (S.drop n)).1, n + (runD (advD d n) (S.drop n)).2.1, (runD (advD d n) (S.drop n)).2.2)
  | 0, d, S, _, _, h, _, _ => absurd h (Nat.lt_irrefl 0)
  | n + 1, d, [], _, _, _, _, h => absurd h (Nat.not_succ_le_zero n)
  | n + 1, d, c :: S, h1, he, _, hl, hs => by
    rw [runD_cons (by rw [h1, he]; decide)]
    have e1 : stepD d c = (advD d 1, [c]) := by
      unfold stepD advD
      rw [if_pos h1]
      have e2 : (if d.left = 1 then (2 : Int) else 1) = if d.left - ((1 : Nat) : Int) = 0 then 2 else 1 := by
        by_cases h0 : d.left = 1
        · rw [if_pos h0, if_pos (by omega)]
        · rw [if_neg h0, if_neg (by omega)]
      rw [e2]
      rfl
    rw [e1]
    simp only [List.take_succ_cons, List.drop_succ_cons, List.cons_append, List.nil_append]
    by_cases hn : n = 0
    · subst hn
      simp only [List.take_zero, List.drop_zero, List.nil_append, Nat.zero_add, Nat.add_comm]
    · have ih := runD_data n (advD d 1) S (by show (if d.left - ((1 : Nat) : Int) = 0 then (2 : Int) else 1) = 1; rw [if_neg (by omega)]) he (by omega) (by show (n : Int) ≤ d.left - ((1 : Nat) : Int); omega) (by simpa using hs)
      rw [ih, adv_adv]
      refine Prod.ext rfl (Prod.ext ?_ rfl)
      show n + _ + 1 = n + 1 + _
      omega

def feedVal (x : List UInt8 × Nat × Dec) : Value := if x.2.2.err ≠ 0 then .tuple #[.string ⟨#[]⟩, .int .i64 0, .bool false, .int .i64 x.2.2.err] else .tuple #[.string (bs x.1), .int .i64 (x.2.1 : Int), .bool (decide (x.2.2.st = 4)), .int .i64 0]
/-- What Feed leaves. -/
def FeedPost (w : World) (D : Nat) (v : Value) (x : List UInt8 × Nat × Dec) (e : Ending) (w' : World) : Prop :=
  ∃ v', e = .returned (feedVal x) ∧ DecAt w' D v' x.2.2 ∧ Away (fun k => k = D ∨ v.ownBlock = some k) w w' ∧ ∀ k, v'.ownBlock = some k → v.ownBlock = some k ∨ (w.heap.size ≤ k ∧ k < w'.heap.size)
theorem ret_feed {w : World} {a b c d : Value} {tmps : Array Value} (h4 : tmps[4]?.getD undef = a) (h5 : tmps[5]?.getD undef = b) (h6 : tmps[6]?.getD undef = c) (h7 : tmps[7]?.getD undef = d) :
    (results Tryz.f87 tmps).run Tryz.prog w = .ok (.tuple #[a, b, c, d]) w := by
  simp [results, Tryz.results87, go_sem, h4, h5, h6, h7]
theorem lies_builder : liesAt Tryz.prog Tryz.prog.depth 112 (2 / Tryz.prog.cellsOf 112) 0 112 1 = true := by kernel_rfl

/-- Between two rounds of Feed: k bytes read, the decoder d1, the body so far o1. -/
structure FeedAt (w : World) (D : Nat) (v : Value) (d : Dec) (S : List UInt8) (wr : World) (k : Nat) (d1 : Dec) (v1 vb : Value) (o1 : List UInt8) : Prop where
  run : runD d S = (o1 ++ (runD d1 (S.drop k)).1, k + (runD d1 (S.drop k)).2.1, (runD d1 (S.drop k)).2.2)
  ok : d1.Ok
  err : d1.err = 0
  dec : DecAt wr D v1 d1
  bld : BldAt 112 2 wr w.heap.size 0 w.heap.size vb o1
  away : Away (fun k => k = D ∨ v.ownBlock = some k) w wr
  row : ∀ k, v1.ownBlock = some k → v.ownBlock = some k ∨ (w.heap.size ≤ k ∧ k < wr.heap.size)
  far : ∀ k, v1.ownBlock = some k → k ≠ w.heap.size ∧ vb.ownBlock ≠ some k
  out : o1.length ≤ k
  le : k ≤ S.length
theorem FeedAt.dlt {w : World} {D : Nat} {v : Value} {d : Dec} {S : List UInt8} {wr : World} {k : Nat} {d1 : Dec} {v1 vb : Value} {o1 : List UInt8} (h : FeedAt w D v d S wr k d1 v1 vb o1) (hD : D < w.heap.size) :
    (∀ g, vb.ownBlock = some g → w.heap.size ≤ g ∧ g < wr.heap.size) ∧ w.heap.size < wr.heap.size ∧ D < wr.heap.size := ⟨fun g hg => h.bld.own.lt g hg, h.bld.lt, h.dec.lt⟩
/-- Behind n bytes of the body. -/
theorem FeedAt.data {w : World} {D : Nat} {v : Value} {d : Dec} {S : List UInt8} {wr w2 : World} {k n : Nat} {d1 : Dec} {v1 vb vb2 : Value} {o1 : List UInt8} (h : FeedAt w D v d S wr k d1 v1 vb o1) (hD : D < w.heap.size) (h1 : d1.st = 1) (h0 : 0 < n) (hl : (n : Int) ≤ d1.left) (hs : k + n ≤ S.length)
    (hb : BldAt 112 2 w2 w.heap.size 0 w.heap.size vb2 (o1 ++ (S.drop k).take n)) (ha : Away (fun g => g = w.heap.size ∨ vb.ownBlock = some g) wr w2) (hr : ∀ g, vb2.ownBlock = some g → vb.ownBlock = some g ∨ (wr.heap.size ≤ g ∧ g < w2.heap.size))
    {w3 : World} (hd : DecAt w3 D v1 (advD d1 n)) (ha3 : Away (fun g => g = D) w2 w3) (hz : w3.heap.size = w2.heap.size) :
    FeedAt w D v d S w3 (k + n) (advD d1 n) v1 vb2 (o1 ++ (S.drop k).take n) := by
  obtain ⟨q1, q2, q3⟩ := h.dlt hD
  have hlv := h.ok.data h1
  refine ⟨?_, ?_, h.err, hd, hb.away ha3 (by omega) (fun g hg e => ?_), ?_, ?_, ?_, ?_, hs⟩
  · have := runD_data n d1 (S.drop k) h1 h.err h0 hl (by rw [List.length_drop]; omega)
    rw [h.run, this, List.drop_drop]
    simp only [List.append_assoc, Nat.add_assoc]
  · obtain ⟨a1, a2, a3, a4, a5, a6, a7, a8⟩ := h.ok
    refine ⟨?_, ⟨by show 0 ≤ d1.size + n; omega, by show d1.size + n + (d1.left - n) ≤ max d1.most 0; omega⟩, ⟨by show 0 ≤ d1.left - n; omega, by show d1.left - n < _; omega⟩, fun hh => ?_, a5, a6, a7, a8⟩
    · show 0 ≤ (if d1.left - n = 0 then (2 : Int) else 1) ∧ (if d1.left - n = 0 then (2 : Int) else 1) ≤ 4
      split <;> decide
    · have hh : (if d1.left - n = 0 then (2 : Int) else 1) = 1 := hh
      split at hh
      · cases hh
      · exact ⟨by show 0 < d1.left - n; omega, hlv.2⟩
  · rcases hr g hg with h' | h'
    · have := (q1 g h').1; omega
    · omega
  · exact (h.away.then ha (fun i hi e => by
      rcases e with e | e
      · omega
      · have := (q1 i e).1; omega)).then ha3 (fun i hi e => .inl e)
  · intro g hg
    rcases h.row g hg with h' | h'
    · exact .inl h'
    · exact .inr ⟨h'.1, by have := ha.size; omega⟩
  · intro g hg
    refine ⟨(h.far g hg).1, fun e => ?_⟩
    rcases hr g e with h' | h'
    · exact (h.far g hg).2 h'
    · have := (h.dec.own.lt g hg).2; omega
  · rw [List.length_append, List.length_take]; have := h.out; omega
/-- Behind a byte of a line. -/
theorem FeedAt.line {w : World} {D : Nat} {v : Value} {d : Dec} {S : List UInt8} {wr w2 : World} {k : Nat} {d1 : Dec} {v1 vb v2 : Value} {o1 : List UInt8} {c : UInt8} (h : FeedAt w D v d S wr k d1 v1 vb o1) (hD : D < w.heap.size) (h1 : d1.st ≠ 1) (h4 : d1.st ≠ 4) (hc : S.drop k = c :: S.drop (k + 1)) (hs : k < S.length)
    (hd : DecAt w2 D v2 (takeD d1 c).1) (ha : Away (fun g => g = D ∨ v1.ownBlock = some g) wr w2) (hr : ∀ g, v2.ownBlock = some g → v1.ownBlock = some g ∨ (wr.heap.size ≤ g ∧ g < w2.heap.size)) :
    (runD d S = (o1 ++ (runD { (takeD d1 c).1 with err := (takeD d1 c).2 } (S.drop (k + 1))).1, k + 1 + (runD { (takeD d1 c).1 with err := (takeD d1 c).2 } (S.drop (k + 1))).2.1, (runD { (takeD d1 c).1 with err := (takeD d1 c).2 } (S.drop (k + 1))).2.2)) ∧
    DecAt (w2.setCell ⟨D, 7, none⟩ (.int .i64 (takeD d1 c).2)) D v2 { (takeD d1 c).1 with err := (takeD d1 c).2 } ∧
    Away (fun k => k = D ∨ v.ownBlock = some k) w (w2.setCell ⟨D, 7, none⟩ (.int .i64 (takeD d1 c).2)) ∧
    (∀ k, v2.ownBlock = some k → v.ownBlock = some k ∨ (w.heap.size ≤ k ∧ k < (w2.setCell ⟨D, 7, none⟩ (.int .i64 (takeD d1 c).2)).heap.size)) ∧
    ((takeD d1 c).2 = 0 → FeedAt w D v d S (w2.setCell ⟨D, 7, none⟩ (.int .i64 (takeD d1 c).2)) (k + 1) { (takeD d1 c).1 with err := (takeD d1 c).2 } v2 vb o1) := by
  obtain ⟨q1, q2, q3⟩ := h.dlt hD
  have hstep : stepD d1 c = ({ (takeD d1 c).1 with err := (takeD d1 c).2 }, []) := by unfold stepD; rw [if_neg h1]
  have hrun : runD d S = (o1 ++ (runD { (takeD d1 c).1 with err := (takeD d1 c).2 } (S.drop (k + 1))).1, k + 1 + (runD { (takeD d1 c).1 with err := (takeD d1 c).2 } (S.drop (k + 1))).2.1, (runD { (takeD d1 c).1 with err := (takeD d1 c).2 } (S.drop (k + 1))).2.2) := by
    rw [h.run, hc, runD_cons (by rw [h.err]; simp [h4]), hstep]
    simp only [List.nil_append, Nat.add_assoc, Nat.add_comm]
  have hok := ok_step h.ok (by rw [h.err]; simp [h4]) c
  rw [hstep] at hok
  have hdec := hd.put (d' := { (takeD d1 c).1 with err := (takeD d1 c).2 }) 7 (.int .i64 (takeD d1 c).2) (by decide) rfl rfl
  have hrow : ∀ g, v2.ownBlock = some g → v.ownBlock = some g ∨ (w.heap.size ≤ g ∧ g < w2.heap.size) := fun g hg => by
    rcases hr g hg with h' | h'
    · rcases h.row g h' with h2 | h2
      · exact .inl h2
      · exact .inr ⟨h2.1, by have := ha.size; omega⟩
    · exact .inr ⟨by omega, h'.2⟩
  have haway : Away (fun k => k = D ∨ v.ownBlock = some k) w w2 := h.away.then ha (fun i hi e => by
    rcases e with e | e
    · exact .inl e
    · rcases h.row i e with h2 | h2
      · exact .inr h2
      · omega)
  have hsz : (w2.setCell ⟨D, 7, none⟩ (.int .i64 (takeD d1 c).2)).heap.size = w2.heap.size := by simp [World.setCell]
  refine ⟨hrun, hdec, haway.put (by exact .inl rfl) _ _, by rw [hsz]; exact hrow, fun h0 => ?_⟩
  have hne : ∀ g, vb.ownBlock = some g → ¬ (g = D ∨ v1.ownBlock = some g) := fun g hg e => by
    rcases e with e | e
    · have := (q1 g hg).1; omega
    · exact (h.far g e).2 hg
  have hb2 := h.bld.away ha (fun e => by
    rcases e with e | e
    · omega
    · exact (h.far _ e).1 rfl) hne
  refine ⟨hrun, hok, h0, hdec, hb2.away (F := fun g => g = D) ((Away.refl _ w2).put (by exact rfl) _ _) (by omega) (fun g hg e => by have := (q1 g hg).1; omega), haway.put (by exact .inl rfl) _ _, by rw [hsz]; exact hrow, fun g hg => ?_, by have := h.out; omega, hs⟩
  rcases hr g hg with h' | h'
  · exact h.far g h'
  · exact ⟨by omega, fun e => by have := (q1 g e).2; omega⟩
end Go.Proofs.YtgmjkkiahanekaaGreatDoor

/- The plain law of chunked bodies: how the decoder goes over one line, and over a chunk's bytes. -/
set_option linter.unusedVariables false
set_option linter.unusedSimpArgs false
namespace Go.Proofs.YtgmjkkiahanekaaGreatDoor
open Lex

/-- A decoder at the beginning of a line. -/
structure Fresh (d : Dec) : Prop where
  line : d.line = []
  cr : d.cr = false
  err : d.err = 0
theorem step_line {d : Dec} (h1 : d.st ≠ 1) (c : UInt8) : stepD d c = ({ (takeD d c).1 with err := (takeD d c).2 }, []) := by unfold stepD; rw [if_neg h1]
theorem take_plain {d : Dec} {c : UInt8} (hc : d.cr = false) (hb : lb c = true) (hl : d.line.length < boundD d.st) : takeD d c = ({ d with line := d.line ++ [c] }, 0) := by
  unfold lb at hb
  simp only [Bool.and_eq_true, decide_eq_true_eq] at hb
  unfold takeD
  rw [if_neg (by rw [hc]; simp), if_neg (by rw [hc]; simp [hb.1]), if_neg hb.2, if_neg (by omega)]
theorem run_part : ∀ (a : List UInt8) (d : Dec), d.st ≠ 1 → d.st ≠ 4 → d.err = 0 → d.cr = false → a.all lb = true → d.line.length + a.length ≤ boundD d.st → ∀ r,
    runD d (a ++ r) = ((runD { d with line := d.line ++ a } r).1, a.length + (runD { d with line := d.line ++ a } r).2.1, (runD { d with line := d.line ++ a } r).2.2)
  | [], d, _, _, _, _, _, _, r => by simp
  | c :: a, d, h1, h4, he, hc, ha, hl, r => by
    simp only [List.all_cons, Bool.and_eq_true] at ha
    simp only [List.length_cons] at hl
    have ht := take_plain hc ha.1 (by omega)
    rw [List.cons_append, runD_cons (by rw [he]; simp [h4]), step_line h1, ht]
    have hd : ({ ({ d with line := d.line ++ [c] } : Dec) with err := 0 } : Dec) = { d with line := d.line ++ [c] } := by
      obtain ⟨m, z, st, lf, ln, cr, tr, er⟩ := d
      simp only at he
      subst he
      rfl
    simp only [hd]
    have ih := run_part a { d with line := d.line ++ [c] } h1 h4 he hc ha.2 (by simp only [List.length_append, List.length_singleton]; omega) r
    rw [ih]
    simp only [List.append_assoc, List.singleton_append, List.nil_append, List.length_cons]
    congr 2
    omega
theorem bad_10 {d : Dec} {c : UInt8} (h : (d.cr = true ∧ c ≠ 10) ∨ (d.cr = false ∧ c = 10)) : takeD d c = (d, 100) := by
  unfold takeD
  rcases h with ⟨h1, h2⟩ | ⟨h1, h2⟩
  · rw [if_neg (fun h => h2 h.2), if_pos (.inl h1)]
  · rw [if_neg (by rw [h1]; simp), if_pos (.inr h2)]
theorem run_bad {d : Dec} (h1 : d.st ≠ 1) (h4 : d.st ≠ 4) (he : d.err = 0) {c : UInt8} (h : takeD d c = (d, 100)) (r : List UInt8) : (runD d (c :: r)).1 = [] ∧ (runD d (c :: r)).2.2.err = 100 := by
  rw [runD_cons (by rw [he]; simp [h4]), step_line h1, h, runD_stop (.inr (by simp))]
  exact ⟨rfl, rfl⟩
/-- Over one line. -/
theorem line_run {d : Dec} (h1 : d.st ≠ 1) (h4 : d.st ≠ 4) (hf : Fresh d) (x : List UInt8) :
    (∀ l e, lineL 80 (boundD d.st) x = (some l, e) → runD d x = ((runD { (wholeD d l).1 with err := (wholeD d l).2 } (x.drop (l.length + 2))).1, l.length + 2 + (runD { (wholeD d l).1 with err := (wholeD d l).2 } (x.drop (l.length + 2))).2.1, (runD { (wholeD d l).1 with err := (wholeD d l).2 } (x.drop (l.length + 2))).2.2)) ∧
    (lineL 80 (boundD d.st) x = (none, 0) → (runD d x).1 = [] ∧ (runD d x).2.2.st = d.st ∧ (runD d x).2.2.err = 0) ∧
    (∀ e, e ≠ 0 → lineL 80 (boundD d.st) x = (none, e) → (runD d x).1 = [] ∧ (runD d x).2.2.err = 100) := by
  obtain ⟨g1, g2, g3⟩ := hf
  have g0 : d.line.length = 0 := by rw [g1]; rfl
  have dl : ∀ a : List UInt8, ({ d with line := d.line ++ a } : Dec) = { d with line := a } := fun a => by rw [g1]; rfl
  rcases lineL_cases 80 (boundD d.st) x with ⟨l, r, hx, ha, hl, hv⟩ | ⟨ha, hl, hv⟩ | ⟨a, hx, ha, hl, hv⟩ | ⟨a, r, hx, ha, hl, hv⟩ | ⟨a, c, r, hx, hc, ha, hl, hv⟩ | ⟨a, c, r, hx, hc, ha, hl, hv⟩
  · rw [hv]
    refine ⟨fun l' e h => ?_, (fun h => by cases h), (fun e _ h => by cases h)⟩
    injection h with h h'
    injection h with h
    subst h h'
    rw [hx, drop_line, run_part l d h1 h4 g3 g2 ha (by omega), dl]
    have t1 : takeD { d with line := l } 13 = ({ d with line := l, cr := true }, 0) := by
      unfold takeD; rw [if_neg (by simp), if_neg (by simp [g2]), if_pos rfl]
    rw [runD_cons (by simp [g3, h4]), step_line (by exact h1), t1]
    have hd : ({ ({ d with line := l, cr := true } : Dec) with err := 0 } : Dec) = { d with line := l, cr := true } := by
      obtain ⟨m, z, st, lf, ln, cr, tr, er⟩ := d
      simp only at g3
      subst g3
      rfl
    simp only [hd]
    have t2 : takeD { d with line := l, cr := true } 10 = wholeD d l := by
      unfold takeD; rw [if_pos ⟨rfl, rfl⟩]
      congr 1
      obtain ⟨m, z, st, lf, ln, cr, tr, er⟩ := d
      simp only at g1 g2
      subst g1 g2
      rfl
    rw [runD_cons (by simp [g3, h4]), step_line (by exact h1), t2]
    simp only [List.nil_append]
    congr 2
    omega
  · rw [hv]
    refine ⟨(fun l' e h => by cases h), fun _ => ?_, (fun e he h => by injection h with _ h; exact absurd h.symm he)⟩
    have := run_part x d h1 h4 g3 g2 ha (by omega) []
    rw [List.append_nil] at this
    rw [this, show runD _ [] = ([], 0, _) from rfl]
    exact ⟨rfl, rfl, g3⟩
  · rw [hv]
    refine ⟨(fun l' e h => by cases h), fun _ => ?_, (fun e he h => by injection h with _ h; exact absurd h.symm he)⟩
    have t1 : takeD { d with line := a } 13 = ({ d with line := a, cr := true }, 0) := by
      unfold takeD; rw [if_neg (by simp), if_neg (by simp [g2]), if_pos rfl]
    rw [hx, run_part a d h1 h4 g3 g2 ha (by omega), dl, runD_cons (by simp [g3, h4]), step_line (by exact h1), t1, show runD _ [] = ([], 0, _) from rfl]
    exact ⟨rfl, rfl, rfl⟩
  · rw [hv]
    refine ⟨(fun l' e h => by cases h), (fun h => by simp at h), fun e _ _ => ?_⟩
    have hb := run_bad (d := { d with line := a }) (c := 10) h1 h4 g3 (bad_10 (.inr ⟨g2, rfl⟩)) r
    rw [hx, run_part a d h1 h4 g3 g2 ha (by omega), dl]
    exact hb
  · rw [hv]
    refine ⟨(fun l' e h => by cases h), (fun h => by simp at h), fun e _ _ => ?_⟩
    have t1 : takeD { d with line := a } 13 = ({ d with line := a, cr := true }, 0) := by
      unfold takeD; rw [if_neg (by simp), if_neg (by simp [g2]), if_pos rfl]
    have hb := run_bad (d := { d with line := a, cr := true, err := 0 }) (c := c) h1 h4 rfl (bad_10 (.inl ⟨rfl, hc⟩)) r
    rw [hx, run_part a d h1 h4 g3 g2 ha (by omega), dl, runD_cons (by simp [g3, h4]), step_line (by exact h1), t1]
    exact hb
  · rw [hv]
    refine ⟨(fun l' e h => by cases h), (fun h => by simp at h), fun e _ _ => ?_⟩
    have hc2 := hc
    unfold lb at hc2
    simp only [Bool.and_eq_true, decide_eq_true_eq] at hc2
    have t1 : takeD { d with line := a } c = ({ d with line := a }, 100) := by
      unfold takeD; rw [if_neg (by simp [g2]), if_neg (by simp [g2, hc2.1]), if_neg hc2.2, if_pos (by show boundD d.st ≤ a.length; omega)]
    have hb := run_bad (d := { d with line := a }) (c := c) h1 h4 g3 t1 r
    rw [hx, run_part a d h1 h4 g3 g2 ha (by omega), dl]
    exact hb
/-- What the trailers from here on say: the place behind them, -1 (not whole) or -2. -/
def trailV (a : Nat) (x : List UInt8 × Nat × Dec) : Int := if x.2.2.err ≠ 0 then -2 else if x.2.2.st = 4 then (a : Int) + (x.2.1 : Int) else -1
/-- What the document's Read says of a chunked body. -/
def readV (x : List UInt8 × Nat × Dec) : List UInt8 × Int × Int := if x.2.2.err ≠ 0 then ([], -1, x.2.2.err) else (x.1, if x.2.2.st = 4 then (x.2.1 : Int) else -1, 0)
end Go.Proofs.YtgmjkkiahanekaaGreatDoor

/- The iterator fields.all: for every list of fields and every name it gives the values of the fields of that name, in their order. -/
set_option linter.unusedVariables false
set_option linter.unusedSimpArgs false
namespace Go.Proofs.YtgmjkkiahanekaaGreatDoor
open Go.RowKit Lex Go.Shelf
attribute [local go_sem] Oper.semAt_some

/-- A value of at most N bytes. -/
abbrev Val (N : Nat) := { v : List UInt8 // v.length ≤ N }
abbrev encV {N : Nat} (v : Val N) : Array Value := #[.string (bs v.1)]

theorem all_c (a : Option Addr) (n c : Nat) (name : ByteArray) (w : World) :
    Calls Tryz.prog 112 #[.slice a n c, .string name] w fun e w' => e = .returned (.func (.func 143) #[] #[.pointer (some ⟨w.heap.size, 0, none⟩), .pointer (some ⟨w.heap.size + 1, 0, none⟩)]) ∧ w' = (w.alloc (.cells #[.slice a n c] 40)).alloc (.cells #[.string name] 9) := by
  go_enter Tryz.func112, Tryz.ntmps112
  go_wp2
  go_ret
  exact ⟨rfl, rfl⟩

theorem abides_below {β : Type} {B : Nat} {J : β → World → Prop} (h : AbidesFrom B J) {s : β} {W W' : World} (hs : J s W) (hb : Below W.heap.size W W') : J s W' :=
  h s W W' none hs ⟨hb.os, hb.tape, hb.output, hb.size, fun k hk _ => hb.block k hk⟩ (fun r e => by cases e)

theorem held1 {w w1 : World} {a : Addr} {v : Value} (hb : Below w.heap.size w w1) (h : w.cell? a = some v) : w1.cell? a = some v := (hb.cell (World.block_lt_of_cell? w _ h)).trans h
theorem belowA {w w1 : World} {o : Obj} (hb : Below (w.alloc o).heap.size (w.alloc o) w1) : Below w.heap.size w w1 := ((Below.refl _ w).alloc (Nat.le_refl _) o).trans (hb.mono (by simp))
theorem cell_first (w : World) (a b : Value) (T : TypeId) : (w.alloc (.cells #[a, b] T)).cell? ⟨w.heap.size, 0, none⟩ = some a := by rw [World.cell?_alloc_new]; rfl
theorem cell_second (w : World) (a b : Value) (T : TypeId) : (w.alloc (.cells #[a, b] T)).cell? ⟨w.heap.size, 1, none⟩ = some b := by rw [World.cell?_alloc_new]; rfl

theorem flds_lt {w : World} {A : Option Addr} {fs : List Fd} (h : Flds w A fs) : ∀ g o, 0 < fs.length → A = some ⟨g, o, none⟩ → g < w.heap.size := by
  intro g o hl e
  obtain ⟨g', o', e', c, _⟩ := h 0 hl
  rw [e'] at e
  injection e with e; injection e with e1 _
  subst e1
  exact World.block_lt_of_cell? w _ c
/-- What a round keeps: what lay below n₀, and the box of the name. -/
def KpN (n₀ Bn : Nat) (W W' : World) : Prop := Below n₀ W W' ∧ ∀ v, W.cell? ⟨Bn, 0, none⟩ = some v → W'.cell? ⟨Bn, 0, none⟩ = some v
theorem KpN.t {n₀ Bn : Nat} {A B C : World} (h : KpN n₀ Bn A B) (k : KpN n₀ Bn B C) : KpN n₀ Bn A C := ⟨h.1.trans k.1, fun v hv => k.2 v (h.2 v hv)⟩
theorem KpN.b {n₀ Bn B : Nat} (hB : n₀ ≤ B) (W : World) (l : Nat) (o o' : Obj) (hl : B ≤ l) (ho : W.heap[l]? = some o) (hc : o.isCells = false) (hw : o.isWalk = false) : KpN n₀ Bn W (W.putObj l o') :=
  ⟨(Below.refl n₀ W).grown (grownBy_putObj' W l o') (by have := (Array.getElem?_eq_some_iff.1 ho).1; omega) (fun k e => by cases e; omega), fun v hv => cell_kept hv (grownBy_putObj' W l o') (fun r e => by cases e; exact ⟨o, ho, hc⟩)⟩

set_option maxRecDepth 100000 in
set_option maxHeartbeats 4000000 in
theorem all1_in (n : Nat) (hn : 1 ≤ n) (l Bs Bn n₀ N : Nat) (A : Option Addr) (cap : Nat) (fs : List Fd) (name : ByteArray) (hnm : name.size ≤ 140737488351232) (hl : fs.length ≤ 4398046511104) (hs1 : ∀ f ∈ fs, f.1.length ≤ 140737488351232) (hs2 : ∀ f ∈ fs, f.2.length ≤ N)
    (J Jx : List (Val N) → World → Prop)
    (hY : ∀ pre x W, J pre W → pre.length < fs.length → YieldAt Fence.wide (n - 1) Tryz.prog l (encV x) W fun e W' =>
      (e = .returned (.bool true) ∧ J (pre ++ [x]) W' ∧ KpN n₀ Bn W W') ∨ (e = .returned (.bool false) ∧ Jx (pre ++ [x]) W'))
    (W : World) (hn0 : n₀ ≤ W.heap.size) (hJ : AbidesFrom W.heap.size J) (hBs : W.cell? ⟨Bs, 0, none⟩ = some (.slice A fs.length cap)) (hBn : W.cell? ⟨Bn, 0, none⟩ = some (.string name)) (hF : Flds W A fs) (hFn : ∀ g o, 0 < fs.length → A = some ⟨g, o, none⟩ → g < n₀) (h0 : J [] W) :
    CallsIn Fence.wide n Tryz.prog 143 #[.func (.yield l) #[] #[], .pointer (some ⟨Bs, 0, none⟩), .pointer (some ⟨Bn, 0, none⟩)] W fun e W' => (∃ v, e = .returned v) ∧
      ((∃ ys, ys.map (·.1) = valuesF fs name.data.toList ∧ J ys W') ∨ (∃ pre, (pre.map (·.1) <+: valuesF fs name.data.toList) ∧ Jx pre W')) := by
  refine callsIn_of_wp Tryz.func143 rfl trivial ?_ rfl
  simp only [Tryz.ntmps143, List.size_toArray, List.length_cons, List.length_nil, Nat.reduceAdd, Nat.reduceSub, Array.replicate_succ, Array.replicate_zero, List.push_toArray, List.append_toArray, List.nil_append, List.cons_append]
  gi_wp2
  clear hBs
  gi_loopw [8] (fun i wr => ∃ (k : Nat) (pre : List (Val N)), k ≤ fs.length ∧ i = .int .i64 k ∧ pre.map (·.1) = valuesF (fs.take k) name.data.toList ∧ J pre wr ∧ Below n₀ W wr ∧ W.heap.size ≤ wr.heap.size ∧ wr.cell? ⟨Bn, 0, none⟩ = some (.string name))
    (fun i _ => fs.length - (intOf i).toNat)
  case atStart => exact ⟨0, [], Nat.zero_le _, rfl, rfl, h0, Below.refl _ _, Nat.le_refl _, hBn⟩
  case round =>
    obtain ⟨k, pre, hk, rfl, hpre, hJs, hnx, hsz, hcn⟩ := hrel
    by_cases hlt : k < fs.length
    · obtain ⟨g, o, hA, d1, d2⟩ := hF k hlt
      have hg := hFn g o (by omega) hA
      have c1 := (hnx.cell (p := ⟨g, o + k * 2, none⟩) hg).trans d1
      have c2 := (hnx.cell (p := ⟨g, o + k * 2 + 1, none⟩) hg).trans d2
      subst hA
      have AL := fun w => Lib.hid (alike_c (bs fs[k].1) name w (Nat.le_trans (hs1 _ (List.getElem_mem hlt)) (by decide)) (Nat.le_trans hnm (by decide)))
      have hvt := valuesF_take fs k hlt name.data.toList
      have hval := hs2 _ (List.getElem_mem hlt)
      have hbn : Bn < wr.heap.size := World.block_lt_of_cell? wr _ hcn
      have hpl : pre.length < fs.length := by
        have h1 := congrArg List.length hpre
        rw [List.length_map] at h1
        have h2 := valuesF_length (fs.take k) name.data.toList
        rw [List.length_take] at h2
        omega
      rw [bs_list] at AL
      have HP := Lib.hid hpre
      have HVT := Lib.hid hvt
      clear hpre hvt d1 d2
      cases hal : alike fs[k].1 name.data.toList with
      | false =>
        rw [hal] at AL HVT
        gi_wp2_with fail
        refine ⟨trivial, ?_⟩
        refine (callsIn_wide.2 (AL _).out).mono ?_
        rintro e w1 ⟨rfl, hb1⟩
        have HB1 := Lib.hid hb1
        clear hb1
        gi_wp2_with fail
        refine ⟨fun _ h => (by cases h), ?_⟩
        gi_wp2
        go_roundw
        case rel => exact ⟨k + 1, pre, by omega, by go_num, by rw [HVT.out, HP.out]; simp, abides_below (W := wr) hJ hJs (belowA HB1.out), hnx.trans ((belowA HB1.out).mono (by omega)), by have := (belowA HB1.out).size; omega, held1 (belowA HB1.out) hcn⟩
        case measure => simp [intOf]; omega
      | true =>
        rw [hal] at AL HVT
        gi_wp2_with fail
        refine ⟨trivial, ?_⟩
        refine (callsIn_wide.2 (AL _).out).mono ?_
        rintro e w1 ⟨rfl, hb1⟩
        have hj1 := abides_below (W := wr) hJ hJs (belowA hb1)
        have hz1 := (belowA hb1).size
        have hb2 := hnx.trans ((belowA hb1).mono (by omega))
        have hcn1 := held1 (belowA hb1) hcn
        have hcf := held1 hb1 (cell_second wr (.string (bs fs[k].1)) (.string (bs fs[k].2)) 59)
        clear hb1
        obtain ⟨fn, tmps, assign, body, hy, hR⟩ := hY pre ⟨fs[k].2, hval⟩ w1 hj1 hpl
        dsimp only [encV] at hy
        gi_wp2
        refine hR.mono ?_
        rintro e W3 (⟨rfl, hJ3, hk3⟩ | ⟨rfl, hJx3⟩)
        · gi_wp2
          go_roundw
          case rel => exact ⟨k + 1, pre ++ [⟨fs[k].2, hval⟩], by omega, by go_num, by rw [HVT.out, List.map_append, HP.out]; simp, hJ3, hb2.trans hk3.1, by have := hk3.1.size; omega, hk3.2 _ hcn1⟩
          case measure => simp [intOf]; omega
        · gi_wp2
          refine bodyPost_ret (results_none rfl _ _ _) rfl ?_
          exact ⟨⟨_, rfl⟩, .inr ⟨pre ++ [⟨fs[k].2, hval⟩], by
            have h := valuesF_prefix fs (k + 1) name.data.toList
            rw [HVT.out] at h
            rw [List.map_append, HP.out]; simpa using h, hJx3⟩⟩
    · obtain rfl : k = fs.length := by omega
      rw [List.take_length] at hpre
      gi_wp2
      go_end0
      exact ⟨⟨_, rfl⟩, .inl ⟨pre, hpre, hJs⟩⟩

theorem all_stops (n : Nat) (hn : 1 ≤ n) (Bs Bn n₀ N : Nat) (A : Option Addr) (cap : Nat) (fs : List Fd) (name : ByteArray) (hnm : name.size ≤ 140737488351232) (hl : fs.length ≤ 4398046511104) (hs1 : ∀ f ∈ fs, f.1.length ≤ 140737488351232) (hs2 : ∀ f ∈ fs, f.2.length ≤ N)
    (w : World) (hn0 : n₀ ≤ w.heap.size) (hBs : w.cell? ⟨Bs, 0, none⟩ = some (.slice A fs.length cap)) (hBn : w.cell? ⟨Bn, 0, none⟩ = some (.string name)) (hF : Flds w A fs) (hFn : ∀ g o, 0 < fs.length → A = some ⟨g, o, none⟩ → g < n₀) :
    SeqStopsK Fence.wide n Tryz.prog 143 #[.pointer (some ⟨Bs, 0, none⟩), .pointer (some ⟨Bn, 0, none⟩)] (encV (N := N)) (KpN n₀ Bn) (fun ys => ys.map (·.1) = valuesF fs name.data.toList) (fun pre => pre.map (·.1) <+: valuesF fs name.data.toList) fs.length w :=
  fun l J Jx W hW hJ hJx hY h0 => (all1_in n hn l Bs Bn n₀ N A cap fs name hnm hl hs1 hs2 J Jx hY W (Nat.le_trans hn0 hW.size) hJ (held1 hW hBs) (held1 hW hBn) (hF.below hW) hFn h0).mono
    fun e W' ⟨he, h⟩ => ⟨he, h.elim (fun ⟨ys, h1, h2⟩ => .inl ⟨ys, h1, h2⟩) (fun ⟨pre, h1, h2⟩ => .inr ⟨pre, h1, h2⟩)⟩
end Go.Proofs.YtgmjkkiahanekaaGreatDoor

/- The contract of fields.Get, for every list of fields and every name. -/
set_option linter.unusedVariables false
set_option linter.unusedSimpArgs false
namespace Go.Proofs.YtgmjkkiahanekaaGreatDoor
open Go.RowKit Lex Go.Shelf
attribute [local go_sem] Oper.semAt_some

theorem cell_new_l (w : World) (v : Value) (T : TypeId) : (w.alloc (.cells #[v] T)).cell? ⟨w.heap.size, 0, none⟩ = some v ∧ (w.alloc (.cells #[v] T)).frozen? ⟨w.heap.size, 0, none⟩ = false :=
  ⟨by rw [World.cell?_alloc_new]; rfl, World.frozen?_alloc_new _ _ _ _⟩
theorem cell_alloc_l {w : World} {a : Addr} {v : Value} (o : Obj) (h : w.cell? a = some v) : (w.alloc o).cell? a = some v := (World.cell?_alloc_lt w o _ (World.block_lt_of_cell? w _ h)).trans h
theorem frozen_alloc_l {w : World} {a : Addr} {v : Value} (o : Obj) (h : w.cell? a = some v) (hf : w.frozen? a = false) : (w.alloc o).frozen? a = false :=
  (World.frozen?_alloc_old w o a (Nat.ne_of_lt (World.block_lt_of_cell? w _ h))).trans hf

/-- What Get holds between two rounds: the first value and their number, in boxes of its own. -/
def GetI {N : Nat} (w : World) (pre : List (Val N)) (W : World) : Prop :=
  (W.cell? ⟨w.heap.size, 0, none⟩ = some (.string (bs ((pre.map (·.1)).headD []))) ∧ W.frozen? ⟨w.heap.size, 0, none⟩ = false ∧ W.cell? ⟨w.heap.size + 1, 0, none⟩ = some (.int .i64 pre.length) ∧ W.frozen? ⟨w.heap.size + 1, 0, none⟩ = false) ∧ Below w.heap.size w W
theorem getI_own {N B : Nat} (w : World) (hB : w.heap.size ≤ B) : OwnFrom B (GetI (N := N) w) :=
  OwnFrom.and (Own.from (fun s A B row hs hg hr => ⟨cell_kept hs.1 hg hr, (frozen_kept hs.1 hg hr).trans hs.2.1, cell_kept hs.2.2.1 hg hr, (frozen_kept hs.2.2.1 hg hr).trans hs.2.2.2⟩) _) (ownFrom_below (Nat.le_refl _) hB)
theorem ne_block {a b c d : Nat} (h : a ≠ b) : (⟨a, c, none⟩ : Addr) ≠ ⟨b, d, none⟩ := by intro e; injection e with e1 _; exact h e1
theorem kp_set {n₀ Bn b : Nat} (W : World) (v : Value) (h0 : n₀ ≤ b) (hn : Bn ≠ b) : KpN n₀ Bn W (W.setCell ⟨b, 0, none⟩ v) :=
  ⟨(Below.refl n₀ W).setCell (p := ⟨b, 0, none⟩) h0 _, fun u hu => by rw [World.cell?_setCell_other _ _ _ _ (ne_block (Ne.symm hn))]; exact hu⟩
theorem getI_first {N : Nat} {w W : World} {x : Val N} (h : GetI w ([] : List (Val N)) W) : GetI w [x] ((W.setCell ⟨w.heap.size, 0, none⟩ (.string (bs x.1))).setCell ⟨w.heap.size + 1, 0, none⟩ (.int .i64 1)) := by
  obtain ⟨⟨hc, hf, hc2, hf2⟩, hB⟩ := h
  refine ⟨⟨?_, ?_, ?_, ?_⟩, (hB.setCell (p := ⟨w.heap.size, 0, none⟩) (Nat.le_refl _) _).setCell (p := ⟨w.heap.size + 1, 0, none⟩) (by show _ ≤ _ + 1; omega) _⟩
  · rw [World.cell?_setCell_other _ _ _ _ (ne_block (by omega))]
    exact World.cell?_setCell_same' _ _ _ (by rw [hc]; rfl)
  · rw [World.frozen?_setCell, World.frozen?_setCell]; exact hf
  · exact World.cell?_setCell_same' _ _ _ (by rw [World.cell?_setCell_other _ _ _ _ (ne_block (by omega)), hc2]; rfl)
  · rw [World.frozen?_setCell, World.frozen?_setCell]; exact hf2
theorem getI_next {N : Nat} {w W : World} {y x : Val N} {pre : List (Val N)} (h : GetI w (y :: pre) W) : GetI w (y :: pre ++ [x]) (W.setCell ⟨w.heap.size + 1, 0, none⟩ (.int .i64 (((y :: pre).length : Int) + 1))) := by
  obtain ⟨⟨hc, hf, hc2, hf2⟩, hB⟩ := h
  refine ⟨⟨?_, ?_, ?_, ?_⟩, hB.setCell (p := ⟨w.heap.size + 1, 0, none⟩) (by show _ ≤ _ + 1; omega) _⟩
  · rw [World.cell?_setCell_other _ _ _ _ (ne_block (by omega))]
    exact hc
  · rw [World.frozen?_setCell]; exact hf
  · rw [World.cell?_setCell_same' _ _ _ (by rw [hc2]; rfl)]; simp
  · rw [World.frozen?_setCell]; exact hf2

set_option maxRecDepth 100000 in
set_option maxHeartbeats 4000000 in
theorem get_c (A : Option Addr) (cap : Nat) (fs : List Fd) (name : ByteArray) (w : World) (hnm : name.size ≤ 140737488351232) (hl : fs.length ≤ 4398046511104) (hs1 : ∀ f ∈ fs, f.1.length ≤ 140737488351232) (hs2 : ∀ f ∈ fs, f.2.length ≤ 140737488351232) (hF : Flds w A fs) :
    Calls Tryz.prog 84 #[.slice A fs.length cap, .string name] w fun e w' => e = .returned (.tuple #[.string (bs (getF fs name.data.toList).1), .int .i64 (getF fs name.data.toList).2]) ∧ Below w.heap.size w w' := by
  refine (callsIn_wide (n := 9)).1 ?_
  refine callsIn_of_wp_marks Tryz.func84 rfl trivial ?_ rfl
  simp only [Tryz.ntmps84, List.size_toArray, List.length_cons, List.length_nil, Nat.reduceAdd, Nat.reduceSub, Array.replicate_succ, Array.replicate_zero, List.push_toArray, List.append_toArray, List.nil_append, List.cons_append]
  gi_wp2_with (refine ⟨trivial, ?_⟩; gi_at_call 112; refine (callsIn_wide.2 (all_c _ _ _ _ _)).mono ?_; rintro e w' ⟨rfl, rfl⟩)
  have s0 := cell_new_l w (.string ⟨#[]⟩) 9
  have s1 := cell_new_l (w.alloc (.cells #[.string ⟨#[]⟩] 9)) (.int .i64 0) 3
  have s2 := cell_new_l ((w.alloc (.cells #[.string ⟨#[]⟩] 9)).alloc (.cells #[.int .i64 0] 3)) (.slice A fs.length cap) 40
  have s3 := cell_new_l (((w.alloc (.cells #[.string ⟨#[]⟩] 9)).alloc (.cells #[.int .i64 0] 3)).alloc (.cells #[.slice A fs.length cap] 40)) (.string name) 9
  simp only [World.size_alloc] at s1 s2 s3
  have hB0 : Below w.heap.size w ((((w.alloc (.cells #[.string ⟨#[]⟩] 9)).alloc (.cells #[.int .i64 0] 3)).alloc (.cells #[.slice A fs.length cap] 40)).alloc (.cells #[.string name] 9)) :=
    ((((Below.refl _ w).alloc (Nat.le_refl _) _).alloc (by simp) _).alloc (by simp; omega) _).alloc (by simp; omega) _
  refine wpIn_rangeFunc_ownF (α := Val 140737488351232) rfl (by omega) (gf := 143) (lb := #[.pointer (some ⟨w.heap.size + 1 + 1, 0, none⟩), .pointer (some ⟨w.heap.size + 1 + 1 + 1, 0, none⟩)]) rfl trivial (enters_of Tryz.func143 (by kernel_rfl) rfl)
    (all_stops (9 - 1) (by omega) (w.heap.size + 1 + 1) (w.heap.size + 1 + 1 + 1) w.heap.size 140737488351232 A cap fs name hnm hl hs1 hs2 _ (by simp; omega) (cell_alloc_l _ s2.1) s3.1 (hF.below hB0) (flds_lt hF)) KpN.t (KpN.b (by simp; omega)) (Below.refl _ _) (fun _ => rfl)
    (GetI w)
    (fun _ _ _ => False)
    (getI_own w (by simp; omega))
    (fun _ _ _ _ _ hs _ _ => hs)
    ⟨⟨cell_alloc_l _ (cell_alloc_l _ (cell_alloc_l _ s0.1)), frozen_alloc_l _ (cell_alloc_l _ (cell_alloc_l _ s0.1)) (frozen_alloc_l _ (cell_alloc_l _ s0.1) (frozen_alloc_l _ s0.1 s0.2)), cell_alloc_l _ (cell_alloc_l _ s1.1), frozen_alloc_l _ (cell_alloc_l _ s1.1) (frozen_alloc_l _ s1.1 s1.2)⟩, hB0⟩
    (fun x => { tmps := #[.slice A fs.length cap, .string name, undef, undef, .string ⟨#[]⟩, .int .i64 0, .pointer (some ⟨w.heap.size, 0, none⟩), .pointer (some ⟨w.heap.size + 1, 0, none⟩), .string (bs x.1), .slice A fs.length cap, .string name,
      .func (.func 143) #[] #[.pointer (some ⟨w.heap.size + 1 + 1, 0, none⟩), .pointer (some ⟨w.heap.size + 1 + 1 + 1, 0, none⟩)], .string (bs x.1), undef, undef, undef, undef, undef, undef, undef], defers := [] }) ?assign ?body ?done ?stop
  case assign =>
    intro l x W K hK
    gi_wp2
    exact hK
  case body =>
    rintro l pre x W hI hlen
    have HI := Lib.hid hI
    obtain ⟨⟨hc, hf, hc2, hf2⟩, hB⟩ := hI
    have hne : (⟨w.heap.size + 1, 0, none⟩ : Addr) ≠ ⟨w.heap.size, 0, none⟩ := ne_block (by omega)
    have hlb : pre.length ≤ 4398046511104 := by omega
    cases pre with
    | nil =>
      gi_wp2
      exact ⟨(KeepsOthers.setCell _ _ _).trans (KeepsOthers.setCell _ _ _), (kp_set _ _ (Nat.le_refl _) (by omega)).t (kp_set _ _ (by omega) (by omega)), getI_first HI.out⟩
    | cons y pre =>
      have hn0 : (((y :: pre).length : Int) == 0) = false := by rw [beq_eq_false_iff_ne]; simp; omega
      generalize hq : (((y :: pre).length : Nat) : Int) = q at hc2 hn0
      have hq1 : 0 ≤ q := by omega
      have hq2 : q ≤ 4398046511104 := by rw [← hq]; exact Int.ofNat_le.2 hlb
      have HQ := Lib.hid hq
      clear hq hc hf hlb hlen
      gi_wp2
      exact ⟨KeepsOthers.setCell _ _ _, kp_set _ _ (by omega) (by omega), by have := getI_next (x := x) HI.out; rw [HQ.out] at this; exact this⟩
  case done =>
    rintro D ys W hD hys hI hK
    have hres : bs ((ys.map (·.1)).headD []) = bs (getF fs name.data.toList).1 := by rw [hys]; rfl
    have hres2 : ys.length = (getF fs name.data.toList).2 := by rw [← List.length_map (f := fun x => x.1), hys]; rfl
    obtain ⟨⟨hc, hf, hc2, hf2⟩, hB⟩ := hI
    rw [hres] at hc
    rw [hres2] at hc2
    generalize hg2 : (getF fs name.data.toList).2 = q2 at *
    generalize hg1 : (getF fs name.data.toList).1 = q1 at *
    have H1 := Lib.hid hg1
    have H2 := Lib.hid hg2
    clear hg1 hg2
    have HD := Lib.hid hD
    clear hys hres hres2 hD
    gi_wp2
    gi_region
    gi_wp2
    refine ⟨by simp, .inl ⟨_, _, rfl, run_takeDeferred (show W.drew.heap[D]? = _ from hK), ?_⟩⟩
    refine ⟨_, results_tmp2 rfl _ _ _, by rw [H1.out, H2.out]; rfl, ?_⟩
    exact hB.drew.trans (belowK_b (w := w) (Nat.le_refl _) W.drew D _ _ (by have := HD.out; simp at this; omega) hK rfl rfl)
  case stop =>
    rintro D c pre W _ _ h _
    exact h.elim
end Go.Proofs.YtgmjkkiahanekaaGreatDoor

/- append onto a row of the call's own, the source another row of the call's own: nil, empty or not. -/
set_option linter.unusedVariables false
namespace Go.Proofs.YtgmjkkiahanekaaGreatDoor
open Go.RowKit

theorem run_append_rows {P : Program} (w : World) (base base' : Nat) (t ty e : TypeId) (i : TypeInfo) (z : Value) (size bytes : Nat) (ht : P.underlying t = some (.slice e)) (hi : P.info? e = some i) (hz : i.zero = some z)
    (hsize : i.size = size) (hby : i.bytes = bytes) (hzs : z.cells.size = size) (hsz : 0 < size)
    (v : Value) (n : Nat) (xs : List Value) (hown : w.ownsRow base e size v n xs) (s : Value) (m : Nat) (ys : List Value) (hs : w.ownsRow base' e size s m ys) (h1 : ∀ u ∈ ys, u.oneCell' = true)
    (h63 : n + m ≤ maxLen) (hbytes : (n + m) * bytes ≤ 140737488355328) (hbase : base ≤ w.heap.size) :
    ∃ v' w', (Builtin.append_ #[t, t] ty #[v, s]).run P w = .ok v' w' ∧ w'.ownsRow base e size v' (n + m) (xs ++ ys) ∧ w.grownBy w' v.ownBlock ∧ (v'.ownBlock = v.ownBlock ∨ v'.ownBlock = some w.heap.size) := by
  rcases hs.2 with ⟨rfl, rfl⟩ | ⟨g, cap, cur, rfl, _⟩
  · have hx : ys = [] := List.eq_nil_of_length_eq_zero (by simpa using hs.1)
    subst hx
    refine ⟨v, w, run_append_owned_none (w := w) base t ty e i size ht hi v n xs hown, by simpa using hown, ⟨rfl, rfl, rfl, Nat.le_refl _, fun _ _ _ => rfl⟩, .inl rfl⟩
  · obtain ⟨v', w', hr, h2, h3, _, h5⟩ := run_append_own_at (P := P) w base t ty e i z size bytes ht hi hz hsize hby hzs hsz v n xs hown ⟨g, 0, none⟩ m cap ys hs.1 (hs.cells (g := g) rfl) h1 h63 hbytes hbase
    exact ⟨v', w', hr, h2, h3, h5⟩

theorem wpList_append_rows {P : Program} {w : World} {ops : Array Oper} {rest : List Oper} {o : Oper} {a : Act} {Q : Exit → Act → World → Prop} (hgd : o.guard = none) (s x : Operand) (t : TypeId)
    (ho : o.op = .call { callee := .builtin .append, args := #[s, x], argTypes := #[t, t] })
    (base base' : Nat) (e : TypeId) (i : TypeInfo) (z : Value) (size bytes : Nat) (ht : P.underlying t = some (.slice e)) (hi : P.info? e = some i) (hz : i.zero = some z)
    (hsize : i.size = size) (hby : i.bytes = bytes) (hzs : z.cells.size = size) (hsz : 0 < size)
    (v : Value) (n : Nat) (xs : List Value) (hs : a.eval s = v) (hown : w.ownsRow base e size v n xs) (y : Value) (m : Nat) (ys : List Value) (hx : a.eval x = y) (hy : w.ownsRow base' e size y m ys) (h1 : ∀ u ∈ ys, u.oneCell' = true)
    (h63 : n + m ≤ maxLen) (hbytes : (n + m) * bytes ≤ 140737488355328) (hbase : base ≤ w.heap.size)
    (h : ∀ v' w', w'.ownsRow base e size v' (n + m) (xs ++ ys) → w.grownBy w' v.ownBlock → (v'.ownBlock = v.ownBlock ∨ v'.ownBlock = some w.heap.size) → wpList P ops Q rest (a.put o.dst v') w') : wpList P ops Q (o :: rest) a w := by
  refine wpList_plain hgd fun K hK => ?_
  obtain ⟨v', w', hr, h2, h3, h5⟩ := run_append_rows (P := P) w base base' t o.type e i z size bytes ht hi hz hsize hby hzs hsz v n xs hown y m ys hy h1 h63 hbytes hbase
  unfold Oper.wp execOp
  simp only [ho, resolve, invoke, builtin, Sem.run_bind, Sem.run_pure, Result.andThen_ok, List.map_toArray, List.map_cons, List.map_nil, hs, hx, hr]
  exact hK _ _ (h v' w' h2 h3 h5)
end Go.Proofs.YtgmjkkiahanekaaGreatDoor

