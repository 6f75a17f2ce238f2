/- The texts CrC, EncA, PlW, DigA, PlX, DigB in one. -/
import Derived.Test.YtgmjkkiahanekaaGreatDoorM12
import Derived.Test.YtgmjkkiahanekaaGreatDoorM0
import Derived.Test.YtgmjkkiahanekaaGreatDoorM46
import Derived.Test.YtgmjkkiahanekaaGreatDoorM2
import Derived.Test.YtgmjkkiahanekaaGreatDoorM3
import Derived.Deep.RegionWith
import Derived.Laws.IdiomStrings
import Derived.Below
import Derived.WalkKit
import Derived.Test.YtgmjkkiahanekaaGreatDoorM34
/- The plain law of the document's Read of a chunked body: it says what the decoder says of all bytes. -/
set_option linter.unusedVariables false
set_option linter.unusedSimpArgs false
namespace Go.Proofs.YtgmjkkiahanekaaGreatDoor
open Lex

theorem trail_step {d : Dec} (h : d.st = 3) (he : d.err = 0) (c : UInt8) : (stepD d c).2 = [] ∧ ((stepD d c).1.st = 3 ∨ (stepD d c).1.st = 4) ∧ ((stepD d c).1.err = 0 ∨ (stepD d c).1.err = 100) := by
  rw [step_line (by rw [h]; decide)]
  refine ⟨rfl, ?_⟩
  simp only
  unfold takeD
  split
  · unfold wholeD
    rw [if_neg (by simp [h]), if_neg (by simp [h])]
    split
    · exact ⟨.inr rfl, .inl rfl⟩
    · refine ⟨.inl h, ?_⟩
      simp only
      split
      · exact .inr rfl
      · exact .inl rfl
  · split
    · exact ⟨.inl h, .inr rfl⟩
    · split
      · exact ⟨.inl h, .inl rfl⟩
      · split
        · exact ⟨.inl h, .inr rfl⟩
        · exact ⟨.inl h, .inl rfl⟩
theorem run_trail : ∀ (x : List UInt8) (d : Dec), (d.st = 3 ∨ d.st = 4) → (d.err = 0 ∨ d.err = 100) → (runD d x).1 = [] ∧ ((runD d x).2.2.err = 0 ∨ (runD d x).2.2.err = 100)
  | [], d, _, he => ⟨rfl, he⟩
  | c :: x, d, hs, he => by
    by_cases h : d.st = 4 ∨ d.err ≠ 0
    · rw [runD_stop h]; exact ⟨rfl, he⟩
    · have h3 : d.st = 3 := hs.resolve_right (fun e => h (.inl e))
      have h0 : d.err = 0 := Decidable.byContradiction (fun e => h (.inr e))
      rw [runD_cons h]
      obtain ⟨a1, a2, a3⟩ := trail_step h3 h0 c
      have ih := run_trail x _ a2 a3
      rw [a1]
      exact ⟨by simpa using ih.1, ih.2⟩
/-- Up to here the body is told, and the decoder stands at the beginning of a size line. -/
structure RunTo (m : Int) (S : List UInt8) (k : Nat) (b : List UInt8) (d : Dec) : Prop where
  run : runD { most := m } S = (b ++ (runD d (S.drop k)).1, k + (runD d (S.drop k)).2.1, (runD d (S.drop k)).2.2)
  fr : Fresh d
  st : d.st = 0
  tr : d.tr = 0
  mo : d.most = m
  sz : d.size = (b.length : Int)
  le : k ≤ S.length
  bl : b.length ≤ k
  bd : b = [] ∨ (b.length : Int) ≤ m
theorem RunTo.new (m : Int) (S : List UInt8) : RunTo m S 0 [] { most := m } := ⟨by simp, ⟨rfl, rfl, rfl⟩, rfl, rfl, rfl, rfl, Nat.zero_le _, Nat.le_refl _, .inl rfl⟩
theorem readV_err {x : List UInt8 × Nat × Dec} {e : Int} (h : x.2.2.err = e) (he : e ≠ 0) : readV x = ([], -1, e) := by
  unfold readV; rw [if_pos (by rw [h]; exact he), h]
theorem readV_part {x : List UInt8 × Nat × Dec} {b : List UInt8} (h : x.2.2.err = 0) (h4 : x.2.2.st ≠ 4) (hb : x.1 = b) : readV x = (b, -1, 0) := by
  unfold readV; rw [if_neg (by rw [h]; simp), if_neg h4, hb]
theorem RunTo.live {m : Int} {S : List UInt8} {k : Nat} {b : List UInt8} {d : Dec} (h : RunTo m S k b d) : d.st ≠ 1 ∧ d.st ≠ 4 ∧ boundD d.st = 64 := by rw [h.st]; decide
/-- The line isn't whole. -/
theorem RunTo.part {m : Int} {S : List UInt8} {k : Nat} {b : List UInt8} {d : Dec} (h : RunTo m S k b d) (hl : lineL 80 64 (S.drop k) = (none, 0)) : readV (runD { most := m } S) = (b, -1, 0) := by
  obtain ⟨h1, h4, hb⟩ := h.live
  obtain ⟨-, g, -⟩ := line_run h1 h4 h.fr (S.drop k)
  rw [hb] at g
  obtain ⟨g1, g2, g3⟩ := g hl
  refine readV_part (by rw [h.run]; exact g3) (by rw [h.run]; simp only; rw [g2]; exact h4) (by rw [h.run]; simp only; rw [g1, List.append_nil])
theorem RunTo.bad {m : Int} {S : List UInt8} {k : Nat} {b : List UInt8} {d : Dec} (h : RunTo m S k b d) {e : Int} (he : e ≠ 0) (hl : lineL 80 64 (S.drop k) = (none, e)) : readV (runD { most := m } S) = ([], -1, 100) := by
  obtain ⟨h1, h4, hb⟩ := h.live
  obtain ⟨-, -, g⟩ := line_run h1 h4 h.fr (S.drop k)
  rw [hb] at g
  obtain ⟨g1, g2⟩ := g e he hl
  exact readV_err (by rw [h.run]; exact g2) (by decide)
theorem RunTo.line {m : Int} {S : List UInt8} {k : Nat} {b : List UInt8} {d : Dec} (h : RunTo m S k b d) {l : List UInt8} {e : Int} (hl : lineL 80 64 (S.drop k) = (some l, e)) :
    runD { most := m } S = (b ++ (runD { (sizedD d l).1 with err := (sizedD d l).2 } (S.drop (k + (l.length + 2)))).1, k + (l.length + 2) + (runD { (sizedD d l).1 with err := (sizedD d l).2 } (S.drop (k + (l.length + 2)))).2.1, (runD { (sizedD d l).1 with err := (sizedD d l).2 } (S.drop (k + (l.length + 2)))).2.2) := by
  obtain ⟨h1, h4, hb⟩ := h.live
  obtain ⟨g, -, -⟩ := line_run h1 h4 h.fr (S.drop k)
  rw [hb] at g
  have g := g l e hl
  have hw : wholeD d l = sizedD d l := by unfold wholeD; rw [if_pos h.st]
  rw [hw, List.drop_drop] at g
  rw [h.run, g]
  simp only
  congr 2
  omega
theorem line_place {over : Int} {room : Nat} {S l : List UInt8} {k : Nat} {e : Int} (h : lineL over room (S.drop k) = (some l, e)) : k + (l.length + 2) ≤ S.length ∧ l.length ≤ room := by
  obtain ⟨r, hr, _, hl, _⟩ := lineL_some h
  have := congrArg List.length hr
  simp only [List.length_drop, List.length_append, List.length_cons] at this
  exact ⟨by omega, hl⟩
theorem RunTo.noSize {m : Int} {S : List UInt8} {k : Nat} {b : List UInt8} {d : Dec} (h : RunTo m S k b d) {l : List UInt8} {e : Int} (hl : lineL 80 64 (S.drop k) = (some l, e)) (hs : sizeL l = none) : readV (runD { most := m } S) = ([], -1, 100) := by
  have hz : sizedD d l = (d, 100) := by unfold sizedD; rw [hs]
  refine readV_err (e := 100) ?_ (by decide)
  rw [h.line hl, hz, runD_stop (.inr (by simp))]
theorem RunTo.over {m : Int} {S : List UInt8} {k : Nat} {b : List UInt8} {d : Dec} (h : RunTo m S k b d) {l : List UInt8} {e n : Int} (hl : lineL 80 64 (S.drop k) = (some l, e)) (hs : sizeL l = some n) (hn : n ≠ 0) (ho : m - (b.length : Int) < n) : readV (runD { most := m } S) = ([], -1, 101) := by
  have hz : sizedD d l = (d, 101) := by unfold sizedD; rw [hs]; simp only; rw [if_neg hn, if_pos (by rw [h.mo, h.sz]; exact ho)]
  refine readV_err (e := 101) ?_ (by decide)
  rw [h.line hl, hz, runD_stop (.inr (by simp))]
/-- The last chunk: what the trailers say. -/
theorem RunTo.last {m : Int} {S : List UInt8} {k : Nat} {b : List UInt8} {d : Dec} (h : RunTo m S k b d) {l : List UInt8} {e : Int} (hl : lineL 80 64 (S.drop k) = (some l, e)) (hs : sizeL l = some 0) :
    ∃ d2 : Dec, Fresh d2 ∧ d2.st = 3 ∧ d2.tr = 0 ∧ readV (runD { most := m } S) = (if trailV (k + (l.length + 2)) (runD d2 (S.drop (k + (l.length + 2)))) = -2 then ([], -1, 100) else (b, trailV (k + (l.length + 2)) (runD d2 (S.drop (k + (l.length + 2)))), 0)) := by
  have hz : sizedD d l = ({ d with st := 3 }, 0) := by unfold sizedD; rw [hs]; rfl
  have hr := h.line hl
  rw [hz] at hr
  simp only at hr
  refine ⟨{ d with st := 3, err := 0 }, ⟨h.fr.line, h.fr.cr, rfl⟩, rfl, h.tr, ?_⟩
  obtain ⟨t1, t2⟩ := run_trail (S.drop (k + (l.length + 2))) { d with st := 3, err := 0 } (.inl rfl) (.inl rfl)
  generalize runD ({ d with st := 3, err := 0 } : Dec) (S.drop (k + (l.length + 2))) = y at *
  rw [hr]
  rcases t2 with t2 | t2
  · by_cases h4 : y.2.2.st = 4
    · have e1 : trailV (k + (l.length + 2)) y = ((k + (l.length + 2) : Nat) : Int) + (y.2.1 : Int) := by unfold trailV; rw [if_neg (fun h => h t2), if_pos h4]
      have e2 : readV (b ++ y.1, k + (l.length + 2) + y.2.1, y.2.2) = (b ++ y.1, ((k + (l.length + 2) + y.2.1 : Nat) : Int), 0) := by unfold readV; rw [if_neg (fun h => h t2), if_pos h4]
      rw [e1, e2, if_neg (by omega), t1, List.append_nil]
      congr 2
    · have e1 : trailV (k + (l.length + 2)) y = -1 := by unfold trailV; rw [if_neg (fun h => h t2), if_neg h4]
      have e2 : readV (b ++ y.1, k + (l.length + 2) + y.2.1, y.2.2) = (b ++ y.1, -1, 0) := by unfold readV; rw [if_neg (fun h => h t2), if_neg h4]
      rw [e1, e2, if_neg (by decide), t1, List.append_nil]
  · have e1 : trailV (k + (l.length + 2)) y = -2 := by unfold trailV; rw [if_pos (by rw [t2]; decide)]
    have e2 : readV (b ++ y.1, k + (l.length + 2) + y.2.1, y.2.2) = ([], -1, y.2.2.err) := by unfold readV; rw [if_pos (by rw [t2]; decide)]
    rw [e1, e2, if_pos rfl, t2]
theorem RunTo.data {m : Int} {S : List UInt8} {k : Nat} {b : List UInt8} {d : Dec} (h : RunTo m S k b d) {l : List UInt8} {e n : Int} (hl : lineL 80 64 (S.drop k) = (some l, e)) (hs : sizeL l = some n) (hn : n ≠ 0) (ho : ¬ m - (b.length : Int) < n) :
    runD { most := m } S = (b ++ (runD { d with st := 1, left := n, err := 0 } (S.drop (k + (l.length + 2)))).1, k + (l.length + 2) + (runD { d with st := 1, left := n, err := 0 } (S.drop (k + (l.length + 2)))).2.1, (runD { d with st := 1, left := n, err := 0 } (S.drop (k + (l.length + 2)))).2.2) := by
  have hz : sizedD d l = ({ d with st := 1, left := n }, 0) := by unfold sizedD; rw [hs]; simp only; rw [if_neg hn, if_neg (by rw [h.mo, h.sz]; exact ho)]
  have hr := h.line hl
  rw [hz] at hr
  exact hr
/-- The chunk's bytes aren't all there. -/
theorem RunTo.short {m : Int} {S : List UInt8} {k : Nat} {b : List UInt8} {d : Dec} (h : RunTo m S k b d) {l : List UInt8} {e n : Int} (hl : lineL 80 64 (S.drop k) = (some l, e)) (hs : sizeL l = some n) (hn : n ≠ 0) (ho : ¬ m - (b.length : Int) < n)
    (hx : (S.length : Int) ≤ ((k + (l.length + 2) : Nat) : Int) + n) : readV (runD { most := m } S) = (b ++ S.drop (k + (l.length + 2)), -1, 0) := by
  have hr := h.data hl hs hn ho
  have hb := size_bound hs
  obtain ⟨x, hxe⟩ : ∃ x, S.drop (k + (l.length + 2)) = x := ⟨_, rfl⟩
  have hxl : (x.length : Int) ≤ n := by rw [← hxe, List.length_drop]; omega
  rw [hxe] at hr ⊢
  by_cases h0 : x = []
  · subst h0
    refine readV_part (by rw [hr]; rfl) (by rw [hr]; show (1 : Int) ≠ 4; decide) (by rw [hr]; show b ++ [] = b ++ []; rfl)
  · have hd := runD_data x.length { d with st := 1, left := n, err := 0 } x rfl rfl (List.length_pos_iff.2 h0) hxl (Nat.le_refl _)
    rw [List.drop_length, List.take_length, show ∀ d, runD d [] = ([], 0, d) from fun _ => rfl] at hd
    rw [hd] at hr
    refine readV_part (by rw [hr]; rfl) (by rw [hr]; unfold advD; simp only; split <;> decide) (by rw [hr]; simp)
/-- All of the chunk's bytes are there: what stands behind them. -/
theorem RunTo.full {m : Int} {S : List UInt8} {k : Nat} {b : List UInt8} {d : Dec} (h : RunTo m S k b d) {l : List UInt8} {e : Int} {n : Nat} (hl : lineL 80 64 (S.drop k) = (some l, e)) (hs : sizeL l = some (n : Int)) (hn : n ≠ 0) (ho : ¬ m - (b.length : Int) < (n : Int))
    (hx : k + (l.length + 2) + n < S.length) :
    (lineL 80 0 (S.drop (k + (l.length + 2) + n)) = (none, 0) → readV (runD { most := m } S) = (b ++ (S.drop (k + (l.length + 2))).take n, -1, 0)) ∧
    (∀ e, e ≠ 0 → lineL 80 0 (S.drop (k + (l.length + 2) + n)) = (none, e) → readV (runD { most := m } S) = ([], -1, 100)) ∧
    (∀ l2 e, lineL 80 0 (S.drop (k + (l.length + 2) + n)) = (some l2, e) → l2 = [] ∧ ∃ d2, RunTo m S (k + (l.length + 2) + n + 2) (b ++ (S.drop (k + (l.length + 2))).take n) d2) := by
  have hr := h.data hl hs (by omega) ho
  have hd := runD_data n { d with st := 1, left := (n : Int), err := 0 } (S.drop (k + (l.length + 2))) rfl rfl (by omega) (Int.le_refl _) (by rw [List.length_drop]; omega)
  rw [List.drop_drop] at hd
  have ha : advD { d with st := 1, left := (n : Int), err := 0 } n = { d with size := d.size + n, st := 2, left := 0, err := 0 } := by
    unfold advD; simp
  rw [ha] at hd
  rw [hd] at hr
  obtain ⟨d2, hd2⟩ : ∃ d2 : Dec, ({ d with size := d.size + n, st := 2, left := 0, err := 0 } : Dec) = d2 := ⟨_, rfl⟩
  rw [hd2] at hr
  have f2 : Fresh d2 := by subst hd2; exact ⟨h.fr.line, h.fr.cr, rfl⟩
  have s2 : d2.st = 2 := by subst hd2; rfl
  obtain ⟨g1, g2, g3⟩ := line_run (d := d2) (by rw [s2]; decide) (by rw [s2]; decide) f2 (S.drop (k + (l.length + 2) + n))
  rw [show boundD d2.st = 0 by rw [s2]; decide] at g1 g2 g3
  have hlen : ((S.drop (k + (l.length + 2))).take n).length = n := by rw [List.length_take, List.length_drop]; omega
  generalize hc : (S.drop (k + (l.length + 2))).take n = c at *
  refine ⟨fun hv => ?_, fun e he hv => ?_, fun l2 e hv => ?_⟩
  · obtain ⟨q1, q2, q3⟩ := g2 hv
    exact readV_part (by rw [hr]; exact q3) (by rw [hr]; simp only; rw [q2, s2]; decide) (by rw [hr]; simp only; rw [q1, List.append_nil])
  · obtain ⟨q1, q2⟩ := g3 e he hv
    exact readV_err (by rw [hr]; exact q2) (by decide)
  · have hp := line_place hv
    have hl2 : l2 = [] := List.eq_nil_of_length_eq_zero (by omega)
    subst hl2
    refine ⟨rfl, { d2 with st := 0, err := 0 }, ?_⟩
    have q := g1 [] e hv
    have hw : wholeD d2 [] = ({ d2 with st := 0 }, 0) := by unfold wholeD; rw [if_neg (by rw [s2]; decide), if_pos s2]
    rw [hw, List.drop_drop] at q
    simp only [List.length_nil, Nat.zero_add] at q
    have hbl := h.bl
    have hcl : (b ++ c).length = b.length + n := by rw [List.length_append, hlen]
    refine ⟨?_, ⟨f2.line, f2.cr, rfl⟩, rfl, by subst hd2; exact h.tr, by subst hd2; exact h.mo, ?_, by simp only [List.length_nil] at hp; omega, by rw [hcl]; omega, .inr (by rw [hcl]; omega)⟩
    · rw [hr, q]
      simp only [List.append_assoc]
      congr 2
      omega
    · subst hd2
      show d.size + (n : Int) = _
      rw [h.sz, List.length_append, hlen]; simp
/-- The trailers up to here. -/
structure TrTo (S : List UInt8) (a : Nat) (d : Dec) (k t : Nat) (d1 : Dec) : Prop where
  run : runD d (S.drop a) = ((runD d1 (S.drop k)).1, k - a + (runD d1 (S.drop k)).2.1, (runD d1 (S.drop k)).2.2)
  fr : Fresh d1
  st : d1.st = 3
  tr : d1.tr = (t : Int)
  ge : a ≤ k
  le : k ≤ S.length
theorem TrTo.new {S : List UInt8} {a : Nat} {d : Dec} (hf : Fresh d) (hs : d.st = 3) (ht : d.tr = 0) (ha : a ≤ S.length) : TrTo S a d a 0 d := ⟨by simp, hf, hs, ht, Nat.le_refl _, ha⟩
theorem TrTo.live {S : List UInt8} {a : Nat} {d : Dec} {k t : Nat} {d1 : Dec} (h : TrTo S a d k t d1) : d1.st ≠ 1 ∧ d1.st ≠ 4 ∧ boundD d1.st = 512 := by rw [h.st]; decide
theorem TrTo.part {S : List UInt8} {a : Nat} {d : Dec} {k t : Nat} {d1 : Dec} (h : TrTo S a d k t d1) (hl : lineL 80 512 (S.drop k) = (none, 0)) : trailV a (runD d (S.drop a)) = -1 := by
  obtain ⟨h1, h4, hb⟩ := h.live
  obtain ⟨-, g, -⟩ := line_run h1 h4 h.fr (S.drop k)
  rw [hb] at g
  obtain ⟨g1, g2, g3⟩ := g hl
  rw [h.run]
  unfold trailV
  simp only
  rw [if_neg (fun e => e g3), if_neg (by rw [g2]; exact h4)]
theorem TrTo.bad {S : List UInt8} {a : Nat} {d : Dec} {k t : Nat} {d1 : Dec} (h : TrTo S a d k t d1) {e : Int} (he : e ≠ 0) (hl : lineL 80 512 (S.drop k) = (none, e)) : trailV a (runD d (S.drop a)) = -2 := by
  obtain ⟨h1, h4, hb⟩ := h.live
  obtain ⟨-, -, g⟩ := line_run h1 h4 h.fr (S.drop k)
  rw [hb] at g
  obtain ⟨g1, g2⟩ := g e he hl
  rw [h.run]
  unfold trailV
  simp only
  rw [if_pos (by rw [g2]; decide)]
theorem TrTo.line {S : List UInt8} {a : Nat} {d : Dec} {k t : Nat} {d1 : Dec} (h : TrTo S a d k t d1) {l : List UInt8} {e : Int} (hl : lineL 80 512 (S.drop k) = (some l, e)) :
    runD d (S.drop a) = ((runD { (wholeD d1 l).1 with err := (wholeD d1 l).2 } (S.drop (k + (l.length + 2)))).1, k + (l.length + 2) - a + (runD { (wholeD d1 l).1 with err := (wholeD d1 l).2 } (S.drop (k + (l.length + 2)))).2.1, (runD { (wholeD d1 l).1 with err := (wholeD d1 l).2 } (S.drop (k + (l.length + 2)))).2.2) := by
  obtain ⟨h1, h4, hb⟩ := h.live
  obtain ⟨g, -, -⟩ := line_run h1 h4 h.fr (S.drop k)
  rw [hb] at g
  have g := g l e hl
  rw [List.drop_drop] at g
  rw [h.run, g]
  have := h.ge
  simp only
  congr 2
  omega
theorem TrTo.whole {S : List UInt8} {a : Nat} {d : Dec} {k t : Nat} {d1 : Dec} (h : TrTo S a d k t d1) {e : Int} (hl : lineL 80 512 (S.drop k) = (some [], e)) : trailV a (runD d (S.drop a)) = ((k + 2 : Nat) : Int) := by
  have hw : wholeD d1 [] = ({ d1 with st := 4 }, 0) := by unfold wholeD; rw [if_neg (by rw [h.st]; decide), if_neg (by rw [h.st]; decide), if_pos rfl]
  have hr := h.line hl
  rw [hw] at hr
  have hq : ∀ x : Dec, x.st = 4 → ∀ z, runD x z = ([], 0, x) := fun x h z => runD_stop (.inl h) z
  rw [hq { ({ d1 with st := 4 } : Dec) with err := 0 } rfl] at hr
  rw [hr]
  have := h.ge
  unfold trailV
  simp only [List.length_nil]
  rw [if_neg (by simp), if_pos trivial]
  omega
theorem TrTo.over {S : List UInt8} {a : Nat} {d : Dec} {k t : Nat} {d1 : Dec} (h : TrTo S a d k t d1) {l : List UInt8} {e : Int} (hl : lineL 80 512 (S.drop k) = (some l, e)) (h0 : l ≠ []) (hf : fieldL l = none ∨ t = 32) : trailV a (runD d (S.drop a)) = -2 := by
  have hw : wholeD d1 l = ({ d1 with tr := d1.tr + 1 }, 100) := by
    unfold wholeD; rw [if_neg (by rw [h.st]; decide), if_neg (by rw [h.st]; decide), if_neg h0, if_pos (hf.imp id (fun e => by rw [h.tr, e]; decide))]
  have hr := h.line hl
  rw [hw] at hr
  have hq : ∀ x : Dec, x.err = 100 → ∀ z, runD x z = ([], 0, x) := fun x h z => runD_stop (.inr (by rw [h]; decide)) z
  rw [hq { ({ d1 with tr := d1.tr + 1 } : Dec) with err := 100 } rfl] at hr
  rw [hr]
  unfold trailV
  simp only
  rw [if_pos (by decide)]
theorem TrTo.next {S : List UInt8} {a : Nat} {d : Dec} {k t : Nat} {d1 : Dec} (h : TrTo S a d k t d1) {l : List UInt8} {e : Int} (hl : lineL 80 512 (S.drop k) = (some l, e)) (h0 : l ≠ []) (hf : fieldL l ≠ none) (ht : t < 32) :
    ∃ d2, TrTo S a d (k + (l.length + 2)) (t + 1) d2 := by
  have hw : wholeD d1 l = ({ d1 with tr := d1.tr + 1 }, 0) := by
    unfold wholeD; rw [if_neg (by rw [h.st]; decide), if_neg (by rw [h.st]; decide), if_neg h0, if_neg (not_or.2 ⟨hf, by rw [h.tr]; omega⟩)]
  have hr := h.line hl
  rw [hw] at hr
  have hp := line_place hl
  have := h.ge
  exact ⟨{ d1 with tr := d1.tr + 1, err := 0 }, hr, ⟨h.fr.line, h.fr.cr, rfl⟩, h.st, by show d1.tr + 1 = _; rw [h.tr]; omega, by omega, hp.1⟩
end Go.Proofs.YtgmjkkiahanekaaGreatDoor

/- The words for an encoded chunk: its size in hexadecimal digits, the line's end, the bytes, the line's end. -/
set_option linter.unusedVariables false
namespace Go.Proofs.YtgmjkkiahanekaaGreatDoor
open Lex

def hx (n : Nat) : UInt8 := if n < 10 then UInt8.ofNat (48 + n) else UInt8.ofNat (87 + n)
/-- The digits of k + 1 rounds, without those that lead with nothing. -/
def hexR : Nat → Nat → List UInt8
  | 0, _ => []
  | k + 1, n => if n / 16 ^ k % 16 = 0 ∧ n / 16 ^ k / 16 = 0 then hexR k n else hxs (k + 1) n
where hxs : Nat → Nat → List UInt8
  | 0, _ => []
  | k + 1, n => hx (n / 16 ^ k % 16) :: hxs k n
def encL (b : List UInt8) : List UInt8 := if b = [] then [] else hexR 8 b.length ++ [13, 10] ++ b ++ [13, 10]
end Go.Proofs.YtgmjkkiahanekaaGreatDoor

/- The plain law of a request written with its body, by length or in chunks: it is read back, or reading ends with 413. -/
set_option linter.unusedVariables false
set_option linter.unusedSimpArgs false
namespace Go.Proofs.YtgmjkkiahanekaaGreatDoor
open Lex

theorem readV_ok {x : List UInt8 × Nat × Dec} {b : List UInt8} {n : Nat} (h : readV x = (b, (n : Int), 0)) : x.2.2.err = 0 ∧ x.2.2.st = 4 ∧ x.1 = b ∧ x.2.1 = n := by
  unfold readV at h
  split at h
  · rename_i h0
    injection h with _ h; injection h with h1 h2; exact absurd h2 h0
  · rename_i h0
    injection h with h1 h; injection h with h2 h3
    split at h2
    · rename_i h4
      exact ⟨Decidable.byContradiction h0, h4, h1, by omega⟩
    · omega
theorem readV_e {x : List UInt8 × Nat × Dec} {b : List UInt8} {n e : Int} (h : readV x = (b, n, e)) (he : e ≠ 0) : x.2.2.err = e := by
  unfold readV at h
  split at h
  · injection h with _ h; injection h with _ h
  · injection h with _ h; injection h with _ h; exact absurd h.symm he
/-! ### sizes in hexadecimal digits -/
def hexN (n : Nat) : Bool := decide (sizeL (hexR 8 n) = some (n : Int)) && (hexR 8 n).all lb && decide ((hexR 8 n).length ≤ 64)
def hexNs (a : Nat) : Bool := (List.range 100).all fun b => hexN (a * 100 + b + 1)
theorem hexN_0 : ((List.range 16).all fun a => hexNs a) = true := by kernel_rfl
theorem hexN_1 : ((List.range 16).all fun a => hexNs (16 + a)) = true := by kernel_rfl
theorem hexN_ok {n : Nat} (h0 : 0 < n) (h : n ≤ 3200) : sizeL (hexR 8 n) = some (n : Int) ∧ (hexR 8 n).all lb = true ∧ (hexR 8 n).length ≤ 64 := by
  have key : hexNs ((n - 1) / 100) = true := by
    by_cases h1 : (n - 1) / 100 < 16
    · exact List.all_eq_true.1 hexN_0 _ (List.mem_range.2 h1)
    · have := List.all_eq_true.1 hexN_1 ((n - 1) / 100 - 16) (List.mem_range.2 (by omega))
      rwa [show 16 + ((n - 1) / 100 - 16) = (n - 1) / 100 by omega] at this
  have := List.all_eq_true.1 key ((n - 1) % 100) (List.mem_range.2 (by omega))
  rw [show (n - 1) / 100 * 100 + (n - 1) % 100 + 1 = n by omega] at this
  unfold hexN at this
  simp only [Bool.and_eq_true, decide_eq_true_eq] at this
  exact ⟨this.1.1, this.1.2, this.2⟩
/-! ### chunks -/
def chunksF (z : Nat) : Nat → List UInt8 → List UInt8
  | 0, _ => []
  | f + 1, b => if b = [] then [] else encL (b.take z) ++ chunksF z f (b.drop z)
theorem chunks_nil (z f : Nat) : chunksF z f [] = [] := by cases f <;> simp [chunksF]
theorem chunks_end {m : Int} {S : List UInt8} {k : Nat} {b : List UInt8} {d : Dec} (h : RunTo m S k b d) {t : List UInt8} (hS : S.drop k = [48, 13, 10, 13, 10] ++ t) : readV (runD { most := m } S) = (b, ((k + 5 : Nat) : Int), 0) := by
  have hl : lineL 80 64 (S.drop k) = (some [48], 0) := by rw [hS]; exact lineL_at (l := [48]) (by decide) (by decide)
  obtain ⟨d2, f1, f2, f3, f4⟩ := h.last hl (by decide)
  have hlen : (S.drop k).length = t.length + 5 := by rw [hS]; simp only [List.length_append, List.length_cons, List.length_nil]; omega
  rw [List.length_drop] at hlen
  have h3 : S.drop (k + 3) = 13 :: 10 :: t := by rw [← List.drop_drop, hS]; rfl
  have hw := (TrTo.new (S := S) (a := k + 3) f1 f2 f3 (by omega)).whole (e := 0) (by rw [h3]; exact lineL_at (l := []) (by decide) (by decide))
  rw [f4]
  simp only [List.length_cons, List.length_nil]
  rw [hw, if_neg (by omega)]
theorem chunk_one {m : Int} {S : List UInt8} {k : Nat} {b c : List UInt8} {d : Dec} (h : RunTo m S k b d) {R : List UInt8} (hc : c ≠ []) (hcl : c.length ≤ 3200) (hS : S.drop k = encL c ++ R) :
    (m - (b.length : Int) < (c.length : Int) → readV (runD { most := m } S) = ([], -1, 101)) ∧
    (¬ m - (b.length : Int) < (c.length : Int) → ∃ d2, RunTo m S (k + (encL c).length) (b ++ c) d2 ∧ S.drop (k + (encL c).length) = R) := by
  have hp : 0 < c.length := List.length_pos_iff.2 hc
  obtain ⟨g1, g2, g3⟩ := hexN_ok hp hcl
  have he : encL c = hexR 8 c.length ++ 13 :: 10 :: (c ++ [13, 10]) := by unfold encL; rw [if_neg hc]; simp
  obtain ⟨P, hP⟩ : ∃ P, hexR 8 c.length = P := ⟨_, rfl⟩
  rw [hP] at he g1 g2 g3
  have hS2 : S.drop k = P ++ 13 :: 10 :: (c ++ 13 :: 10 :: R) := by rw [hS, he]; simp
  have hl : lineL 80 64 (S.drop k) = (some P, 0) := by rw [hS2]; exact lineL_at g2 g3
  have hel : (encL c).length = P.length + 2 + c.length + 2 := by rw [he]; simp only [List.length_append, List.length_cons, List.length_nil]; omega
  refine ⟨fun ho => h.over hl g1 (by omega) ho, fun ho => ?_⟩
  have hlen := congrArg List.length hS2
  rw [List.length_drop] at hlen
  simp only [List.length_append, List.length_cons] at hlen
  obtain ⟨-, -, g⟩ := h.full hl g1 (by omega) ho (by omega)
  have h1 : S.drop (k + (P.length + 2)) = c ++ 13 :: 10 :: R := by rw [← List.drop_drop, hS2, drop_line]
  have h2 : S.drop (k + (P.length + 2) + c.length) = 13 :: 10 :: R := by rw [← List.drop_drop, h1, List.drop_left]
  obtain ⟨-, d2, h3⟩ := g [] 0 (by rw [h2]; exact lineL_at (l := []) (by decide) (by decide))
  rw [h1, List.take_left] at h3
  refine ⟨d2, by rw [hel, show k + (P.length + 2 + c.length + 2) = k + (P.length + 2) + c.length + 2 by omega]; exact h3, ?_⟩
  rw [hel, show k + (P.length + 2 + c.length + 2) = k + (P.length + 2) + c.length + 2 by omega, ← List.drop_drop, h2]
  rfl
theorem chunks_run {m : Int} {z : Nat} (hz : 0 < z) (t : List UInt8) : ∀ (f : Nat) (rest : List UInt8), rest.length ≤ f → rest.length ≤ 3200 → ∀ (S : List UInt8) (k : Nat) (b : List UInt8) (d : Dec), RunTo m S k b d →
    S.drop k = chunksF z f rest ++ ([48, 13, 10, 13, 10] ++ t) →
    ((b.length : Int) + (rest.length : Int) ≤ m → readV (runD { most := m } S) = (b ++ rest, ((k + (chunksF z f rest).length + 5 : Nat) : Int), 0)) ∧
    (m < (b.length : Int) + (rest.length : Int) → 0 ≤ m → readV (runD { most := m } S) = ([], -1, 101)) := by
  intro f
  induction f with
  | zero =>
    intro rest hr _ S k b d h hS
    have : rest = [] := List.eq_nil_of_length_eq_zero (by omega)
    subst this
    have hend := chunks_end h (t := t) (by rw [hS]; rfl)
    refine ⟨fun _ => by rw [hend, List.append_nil]; rfl, fun h1 h2 => ?_⟩
    exfalso
    rcases h.bd with hb | hb
    · subst hb; simp at h1; omega
    · simp at h1; omega
  | succ f ih =>
    intro rest hr hr2 S k b d h hS
    by_cases h0 : rest = []
    · subst h0
      rw [chunks_nil] at hS ⊢
      have hend := chunks_end h (t := t) (by rw [hS]; rfl)
      refine ⟨fun _ => by rw [hend, List.append_nil]; rfl, fun h1 h2 => ?_⟩
      exfalso
      rcases h.bd with hb | hb
      · subst hb; simp at h1; omega
      · simp at h1; omega
    · have hp : 0 < rest.length := List.length_pos_iff.2 h0
      have hc : chunksF z (f + 1) rest = encL (rest.take z) ++ chunksF z f (rest.drop z) := by rw [chunksF, if_neg h0]
      have hcn : rest.take z ≠ [] := List.length_pos_iff.1 (by rw [List.length_take]; omega)
      have hcl : (rest.take z).length ≤ 3200 := by rw [List.length_take]; omega
      have hdl : (rest.drop z).length = rest.length - z := List.length_drop ..
      have htl : (rest.take z).length = min z rest.length := List.length_take ..
      obtain ⟨ho, hf⟩ := chunk_one h hcn hcl (R := chunksF z f (rest.drop z) ++ ([48, 13, 10, 13, 10] ++ t)) (by rw [hS, hc, List.append_assoc])
      by_cases hov : m - (b.length : Int) < ((rest.take z).length : Int)
      · refine ⟨fun h1 => ?_, fun _ _ => ho hov⟩
        exfalso
        omega
      · obtain ⟨d2, h2, h3⟩ := hf hov
        have ih' := ih (rest.drop z) (by omega) (by omega) S _ _ d2 h2 h3
        have hbl : ((b ++ rest.take z).length : Int) + ((rest.drop z).length : Int) = (b.length : Int) + (rest.length : Int) := by rw [List.length_append]; omega
        rw [hbl, List.append_assoc, List.take_append_drop] at ih'
        refine ⟨fun h1 => ?_, ih'.2⟩
        rw [ih'.1 h1, hc, List.length_append]
        congr 2
        omega
end Go.Proofs.YtgmjkkiahanekaaGreatDoor

/- The digits of a number: words and conversions. -/
set_option linter.unusedVariables false
set_option linter.unusedSimpArgs false
namespace Go.Proofs.YtgmjkkiahanekaaGreatDoor
open Go.RowKit Lex

def dgt (n : Nat) : UInt8 := UInt8.ofNat (48 + n)
/-- The digits of a number of no more than k + 1 of them. -/
def digF : Nat → Nat → List UInt8
  | 0, n => [dgt (n % 10)]
  | k + 1, n => if n < 10 then [dgt (n % 10)] else digF k (n / 10) ++ [dgt (n % 10)]
theorem dig_small (k n : Nat) (h : n < 10) : digF k n = [dgt (n % 10)] := by
  cases k with
  | zero => rfl
  | succ k => unfold digF; rw [if_pos h]
theorem dig_len : ∀ k n, (digF k n).length ≤ k + 1
  | 0, n => Nat.le_refl _
  | k + 1, n => by
    unfold digF
    split
    · simp
    · have := dig_len k (n / 10)
      rw [List.length_append, List.length_singleton]; omega
theorem dig_slice : Tryz.prog.underlying 71 = some (.slice 5) := by kernel_rfl
theorem dig_u8 : Tryz.prog.underlying 5 = some (.int .u8) := by kernel_rfl
theorem dig_str : Tryz.prog.underlying 9 = some .string := by kernel_rfl
theorem dig_conv {w : World} {B : Nat} {m : Nat} (hm : m < 10) (h : w.cell? ⟨B, 0, none⟩ = some (.int .u8 (48 + (m : Int)))) :
    (convert 71 9 (.slice (some ⟨B, 0, none⟩) 1 1)).run Tryz.prog w = .ok (.string (bs [dgt m])) w := by
  have := run_convert_bytes_back (P := Tryz.prog) w 71 9 5 ⟨B, 0, none⟩ 1 [dgt m] dig_slice dig_u8 dig_str (fun j hj => by
    have : j = 0 := by simpa using hj
    subst this
    have e2 : (⟨B, 0, none⟩ : Addr).add 0 = ⟨B, 0, none⟩ := by simp [Addr.add]
    rw [e2, h]
    have : m < 10 := hm
    simp only [List.getElem_cons_zero, dgt, UInt8.toNat_ofNat']
    congr 2
    omega)
  exact this
theorem dig_new (w : World) {m : Nat} (hm : m < 10) : (convert 71 9 (.slice (some ⟨w.heap.size, 0, none⟩) 1 1)).run Tryz.prog (w.alloc (.cells #[.int .u8 (48 + (m : Int))] 5)) = .ok (.string (bs [dgt m])) (w.alloc (.cells #[.int .u8 (48 + (m : Int))] 5)) :=
  dig_conv hm (by rw [World.cell?_alloc_new]; rfl)
theorem dig_cell (w : World) (v : Value) (T : TypeId) : (w.drew.alloc (.cells #[v] T)).cell? ⟨w.heap.size, 0, none⟩ = some v := by
  have h : w.heap.size = w.drew.heap.size := by simp
  rw [h, World.cell?_alloc_new]; rfl
theorem below_al' {W w : World} (h : Below W.heap.size W w) (o : Obj) : Below W.heap.size W (w.alloc o) := h.alloc h.size o
end Go.Proofs.YtgmjkkiahanekaaGreatDoor

/- The plain law of a written request's head, its body by length or in chunks. -/
set_option linter.unusedVariables false
set_option linter.unusedSimpArgs false
namespace Go.Proofs.YtgmjkkiahanekaaGreatDoor
open Lex

def clU : List UInt8 := [67, 111, 110, 116, 101, 110, 116, 45, 76, 101, 110, 103, 116, 104]
def teU : List UInt8 := [84, 114, 97, 110, 115, 102, 101, 114, 45, 69, 110, 99, 111, 100, 105, 110, 103]
def chV : List UInt8 := [99, 104, 117, 110, 107, 101, 100]
def lenFs (n : Nat) : List Fd := [(hostU, [104]), (clU, digF 5 n)]
def chFs : List Fd := [(hostU, [104]), (teU, chV)]
def wrL (me t body : List UInt8) (size : Int) : List UInt8 :=
  wfirst me t ++ 13 :: 10 :: (if size < 1 then flines1 (lenFs body.length) ++ 13 :: 10 :: body else flines1 chFs ++ 13 :: 10 :: (chunksF size.toNat body.length body ++ [48, 13, 10, 13, 10]))
def lenN (n : Nat) : Bool := decide (lengthF (lenFs n) = some (some (n : Int))) && value (digF 5 n)
def lenNs (a : Nat) : Bool := (List.range 100).all fun b => lenN (a * 100 + b)
theorem lenN_0 : ((List.range 16).all fun a => lenNs a) = true := by kernel_rfl
theorem lenN_1 : ((List.range 16).all fun a => lenNs (16 + a)) = true := by kernel_rfl
theorem lenN_ok {n : Nat} (h : n < 3200) : lengthF (lenFs n) = some (some (n : Int)) ∧ value (digF 5 n) = true := by
  have key : lenNs (n / 100) = true := by
    by_cases h1 : n / 100 < 16
    · exact List.all_eq_true.1 lenN_0 _ (List.mem_range.2 h1)
    · have := List.all_eq_true.1 lenN_1 (n / 100 - 16) (List.mem_range.2 (by omega))
      rwa [show 16 + (n / 100 - 16) = n / 100 by omega] at this
  have := List.all_eq_true.1 key (n % 100) (List.mem_range.2 (by omega))
  rw [show n / 100 * 100 + n % 100 = n by omega] at this
  unfold lenN at this
  simp only [Bool.and_eq_true, decide_eq_true_eq] at this
  exact this
theorem len_req {n : Nat} (h : n < 3200) (m : Int) : reqF 1 (lenFs n) m = if m < (n : Int) then (0, 0, 101) else (2, (n : Int), 0) := by
  have h1 : codedF (lenFs n) = false := rfl
  have h2 : sizedF (lenFs n) = true := rfl
  unfold reqF
  rw [h1, h2, (lenN_ok h).1]
  rfl
theorem ch_req (m : Int) : reqF 1 chFs m = (3, 0, 0) := by rfl
/-- A head that names host h, to a path. -/
theorem begin_path {m : Int} {b me t : List UInt8} {fs : List Fd} {n : Nat} {tg : Tg} (h : readL true startL b = ({ method := me, target := t, minor := 1, fields := fs }, n, 0)) (hn : n ≠ 0)
    (hp : parseT me t = (tg, 0)) (hf : tg.form = 1) (hme : me ≠ connectL) (hh : getF fs hostN = ([104], 1)) (hx : (getF fs expectN).2 = 0) :
    (∀ e, (reqF 1 fs m).2.2 = e → e ≠ 0 → beginL m b = (none, statusE e)) ∧
    (∀ k l, reqF 1 fs m = (k, l, 0) → ∃ q : Rq, beginL m b = (some (q, k, l, n), 0) ∧ q.tg = tg ∧ q.head.method = me ∧ q.sized = decide (k ≠ 1)) := by
  have hho : hostL { method := me, target := t, minor := 1, fields := fs } tg = some ([104], 0) := by
    unfold hostL
    simp only
    rw [hh, if_neg (by decide), if_neg (by decide), if_neg (by rw [hf]; decide), if_neg (by decide)]
    decide
  refine ⟨fun e he h0 => ?_, fun k l hr => ?_⟩
  · unfold beginL
    rw [h]
    simp only
    rw [if_neg (fun e => e rfl), if_neg hn, hp]
    simp only
    rw [if_neg (fun e => e rfl), hho]
    simp only
    rw [if_neg (by rw [hx]; exact Nat.lt_irrefl 0), he, if_pos h0]
  · refine ⟨{ head := { method := me, target := t, minor := 1, fields := fs }, tg := tg, host := [104], port := 0, sized := decide (k ≠ 1), keep := keepF 1 fs, upg := upgradeL { method := me, target := t, minor := 1, fields := fs } k }, ?_, rfl, rfl, rfl⟩
    unfold beginL
    rw [h]
    simp only
    rw [if_neg (fun e => e rfl), if_neg hn, hp]
    simp only
    rw [if_neg (fun e => e rfl), hho]
    simp only
    rw [if_neg (by rw [hx]; exact Nat.lt_irrefl 0), hr]
    simp only
    rw [if_neg (fun e => e rfl), if_neg (fun e => hme e.1)]
theorem wr_head {me t : List UInt8} (hm : token me = true) (hml : me.length ≤ 16) (ht : t.all tchar = true) (ht0 : t ≠ []) (htl : t.length ≤ 1024) {fs : List Fd} (hl : fs.length ≤ 32) (hf : ∀ f ∈ fs, badF f = false ∧ f.1.length + f.2.length ≤ 490) (r : List UInt8) :
    readL true startL (wfirst me t ++ 13 :: 10 :: (flines1 fs ++ 13 :: 10 :: r)) = ({ method := me, target := t, minor := 1, fields := fs }, (wfirst me t ++ 13 :: 10 :: (flines1 fs ++ [13, 10])).length, 0) := by
  have hfs : fieldsL 32 (flines1 fs ++ 13 :: 10 :: r) = (some (fs, 2 + (flines1 fs).length), 0) := by
    have := flines1_fields fs hf (32 - fs.length) (13 :: 10 :: r)
    rw [show fs.length + (32 - fs.length) = 32 by omega, fields_end] at this
    simpa using this
  have := text_good hm hml ht ht0 htl hfs
  rw [this]
  congr 2
  simp only [List.length_append, List.length_cons, List.length_nil]
  omega
/-- A request written with its body is read back. -/
theorem wr_doc {me t body : List UInt8} {tg : Tg} (hm : token me = true) (hml : me.length ≤ 16) (hme : me ≠ connectL) (ht : t.all tchar = true) (ht0 : t ≠ []) (htl : t.length ≤ 1024) (hp : parseT me t = (tg, 0)) (hf : tg.form = 1) (hb : body.length < 3200) (m size : Int) (h0 : 0 ≤ m) (tail : List UInt8) :
    ((body.length : Int) ≤ m → ∃ q, docR m (wrL me t body size ++ tail) = (some (q, (wrL me t body size).length), 0) ∧ q.body = body ∧ q.sized = true ∧ q.tg = tg ∧ q.head.method = me) ∧
    (m < (body.length : Int) → docR m (wrL me t body size ++ tail) = (none, 413)) := by
  by_cases hs : size < 1
  · have hw : wrL me t body size = wfirst me t ++ 13 :: 10 :: (flines1 (lenFs body.length) ++ 13 :: 10 :: body) := by unfold wrL; rw [if_pos hs]
    obtain ⟨l1, l2⟩ := lenN_ok hb
    have hdl := dig_len 5 body.length
    have hr := wr_head hm hml ht ht0 htl (fs := lenFs body.length) (by simp [lenFs]) (fun f hf => by
      unfold lenFs at hf
      rcases List.mem_cons.1 hf with rfl | hf
      · exact ⟨by decide, by decide⟩
      · rw [List.mem_singleton] at hf
        subst hf
        have hl : clU.length + (digF 5 body.length).length ≤ 20 := by show 14 + _ ≤ _; omega
        exact ⟨badF_of (by decide) l2 (by omega), by show clU.length + (digF 5 body.length).length ≤ 490; omega⟩) (body ++ tail)
    obtain ⟨N, hN⟩ : ∃ N, (wfirst me t ++ 13 :: 10 :: (flines1 (lenFs body.length) ++ [13, 10])).length = N := ⟨_, rfl⟩
    rw [hN] at hr
    have hn0 : N ≠ 0 := by rw [← hN]; simp
    have hx : wrL me t body size ++ tail = wfirst me t ++ 13 :: 10 :: (flines1 (lenFs body.length) ++ 13 :: 10 :: (body ++ tail)) := by rw [hw]; simp
    have hdrop : (wrL me t body size ++ tail).drop N = body ++ tail := by
      rw [← hN, hx, show wfirst me t ++ 13 :: 10 :: (flines1 (lenFs body.length) ++ 13 :: 10 :: (body ++ tail)) = (wfirst me t ++ 13 :: 10 :: (flines1 (lenFs body.length) ++ [13, 10])) ++ (body ++ tail) by simp, List.drop_left]
    have hwl : (wrL me t body size).length = N + body.length := by
      rw [← hN, hw]; simp only [List.length_append, List.length_cons, List.length_nil]; omega
    rw [← hx] at hr
    obtain ⟨b1, b2⟩ := begin_path (m := m) hr hn0 hp hf hme (show getF (lenFs body.length) hostN = ([104], 1) from rfl) (show (getF (lenFs body.length) expectN).2 = 0 from rfl)
    refine ⟨fun hbm => ?_, fun hbm => ?_⟩
    · obtain ⟨q, q1, q2, q3, q4⟩ := b2 2 body.length (by rw [len_req hb, if_neg (by omega)])
      refine ⟨{ q with body := body }, ?_, rfl, q4.trans (by decide), q2, q3⟩
      unfold docR
      rw [q1]
      simp only
      rw [if_neg (by decide), if_pos trivial, if_neg (by rw [List.length_append, hwl]; omega), hdrop, hwl]
      simp
    · have hbe := b1 101 (by rw [len_req hb, if_pos hbm]) (by decide)
      unfold docR
      rw [hbe]
      rfl
  · have hw : wrL me t body size = wfirst me t ++ 13 :: 10 :: (flines1 chFs ++ 13 :: 10 :: (chunksF size.toNat body.length body ++ [48, 13, 10, 13, 10])) := by unfold wrL; rw [if_neg hs]
    obtain ⟨C, hC⟩ : ∃ C, chunksF size.toNat body.length body = C := ⟨_, rfl⟩
    rw [hC] at hw
    have hr := wr_head hm hml ht ht0 htl (fs := chFs) (by decide) (by decide) (C ++ [48, 13, 10, 13, 10] ++ tail)
    obtain ⟨N, hN⟩ : ∃ N, (wfirst me t ++ 13 :: 10 :: (flines1 chFs ++ [13, 10])).length = N := ⟨_, rfl⟩
    rw [hN] at hr
    have hn0 : N ≠ 0 := by rw [← hN]; simp
    have hx : wrL me t body size ++ tail = wfirst me t ++ 13 :: 10 :: (flines1 chFs ++ 13 :: 10 :: (C ++ [48, 13, 10, 13, 10] ++ tail)) := by rw [hw]; simp
    have hdrop : (wrL me t body size ++ tail).drop N = C ++ ([48, 13, 10, 13, 10] ++ tail) := by
      rw [← hN, hx, show wfirst me t ++ 13 :: 10 :: (flines1 chFs ++ 13 :: 10 :: (C ++ [48, 13, 10, 13, 10] ++ tail)) = (wfirst me t ++ 13 :: 10 :: (flines1 chFs ++ [13, 10])) ++ (C ++ ([48, 13, 10, 13, 10] ++ tail)) by simp, List.drop_left]
    have hwl : (wrL me t body size).length = N + (C.length + 5) := by
      rw [← hN, hw]; simp only [List.length_append, List.length_cons, List.length_nil]; omega
    rw [← hx] at hr
    obtain ⟨-, b2⟩ := begin_path (m := m) hr hn0 hp hf hme (show getF chFs hostN = ([104], 1) from rfl) (show (getF chFs expectN).2 = 0 from rfl)
    obtain ⟨q, q1, q2, q3, q4⟩ := b2 3 0 (ch_req m)
    obtain ⟨r1, r2⟩ := chunks_run (m := m) (z := size.toNat) (by omega) tail body.length body (Nat.le_refl _) (by omega) (C ++ ([48, 13, 10, 13, 10] ++ tail)) 0 [] _ (RunTo.new _ _) (by rw [List.drop_zero, hC])
    simp only [List.length_nil, List.nil_append, Nat.zero_add, hC] at r1 r2
    refine ⟨fun hbm => ?_, fun hbm => ?_⟩
    · obtain ⟨e1, e2, e3, e4⟩ := readV_ok (r1 (by omega))
      refine ⟨{ q with body := body }, ?_, rfl, q4.trans (by decide), q2, q3⟩
      unfold docR
      rw [q1]
      simp only
      rw [if_neg (by decide), if_neg (by decide), hdrop, if_neg (fun h => h e1), if_pos e2, e3, e4, hwl]
    · have e1 := readV_e (r2 (by omega) h0) (by decide)
      unfold docR
      rw [q1]
      simp only
      rw [if_neg (by decide), if_neg (by decide), hdrop, if_pos (by rw [e1]; decide), e1]
      rfl
end Go.Proofs.YtgmjkkiahanekaaGreatDoor

/- The contract of layer 11's laws' digits. -/
set_option linter.unusedVariables false
set_option linter.unusedSimpArgs false
namespace Go.Proofs.YtgmjkkiahanekaaGreatDoor
open Go.RowKit Lex

set_option maxRecDepth 100000 in
set_option maxHeartbeats 4000000 in
theorem digits11_c : ∀ (k n : Nat) (w : World), k ≤ 100 → n < 10 ^ (k + 1) → n ≤ 1000000000 → Calls Tryz.prog 28 #[.int .i64 (n : Int)] w fun e w' => e = .returned (.string (bs (digF k n))) ∧ Below w.heap.size w w' := by
  intro k
  induction k with
  | zero =>
    intro n w hk hn hb
    have hn' : n < 10 := by simpa using hn
    have hi : (n : Int) < 10 := by omega
    have h1 : ((48 : Int) + (n : Int)) % 256 = 48 + (n : Int) := by omega
    have hc := dig_new w (m := n) hn'
    have hd := dig_small 0 n hn'
    rw [Nat.mod_eq_of_lt hn'] at hd
    rw [hd]
    clear hd hn
    go_enter Tryz.func28, Tryz.ntmps28
    go_wp2
    go_ret
    exact ⟨rfl, (Below.refl _ w).alloc (Nat.le_refl _) _⟩
  | succ k ih =>
    intro n w hk hn hb
    by_cases hn' : n < 10
    · have hi : (n : Int) < 10 := by omega
      have h1 : ((48 : Int) + (n : Int)) % 256 = 48 + (n : Int) := by omega
      have hc := dig_new w (m := n) hn'
      have hd := dig_small (k + 1) n hn'
      rw [Nat.mod_eq_of_lt hn'] at hd
      rw [hd]
      clear hd hn ih
      go_enter Tryz.func28, Tryz.ntmps28
      go_wp2
      go_ret
      exact ⟨rfl, (Below.refl _ w).alloc (Nat.le_refl _) _⟩
    · have hi : ¬ (n : Int) < 10 := by omega
      have IH := fun w => Lib.hid (ih (n / 10) w (by omega) (by rw [Nat.div_lt_iff_lt_mul (by decide)]; rwa [Nat.pow_succ] at hn) (by omega))
      have hd : digF (k + 1) n = digF k (n / 10) ++ [dgt (n % 10)] := by rw [digF]; rw [if_neg hn']
      have hm : n % 10 < 10 := Nat.mod_lt _ (by decide)
      have h0 : (n : Int).tmod 10 = (n : Int) % 10 := Int.tmod_eq_emod_of_nonneg (by omega)
      have h00 : (n : Int).tdiv 10 = (n : Int) / 10 := Int.tdiv_eq_ediv_of_nonneg (by omega)
      have h1 : IntKind.i64.wrap ((n : Int) / 10) = (n : Int) / 10 := IntWalk.i64_in _ (by omega)
      have h2 : IntKind.i64.wrap (48 + (n : Int) % 10) = 48 + (n : Int) % 10 := IntWalk.i64_in _ (by omega)
      have h3 : IntKind.u8.wrap (48 + (n : Int) % 10) = 48 + (n : Int) % 10 := by rw [IntKind.wrap_u8]; omega
      have hq : ((n / 10 : Nat) : Int) = (n : Int) / 10 := by omega
      have hr : ((n % 10 : Nat) : Int) = (n : Int) % 10 := by omega
      have hc := fun w => dig_new w (m := n % 10) hm
      have hcv := fun (w : World) (B : Nat) h => dig_conv (w := w) (B := B) (m := n % 10) hm h
      rw [hr] at hc
      simp only [hr] at hcv
      simp only [hq] at IH
      have hsz : (bs (digF k (n / 10))).size + (bs [dgt (n % 10)]).size ≤ 1048576 := by rw [bs_size, bs_size]; have := dig_len k (n / 10); simp; omega
      have happ : bs (digF k (n / 10)) ++ bs [dgt (n % 10)] = bs (digF k (n / 10) ++ [dgt (n % 10)]) := by
        rw [← list_bs (bs (digF k (n / 10)) ++ bs [dgt (n % 10)])]; congr 1
      rw [hd, ← happ]
      clear hd hn ih hn' happ
      generalize bs (digF k (n / 10)) = x at *
      generalize bs [dgt (n % 10)] = y at *
      go_enter Tryz.func28, Tryz.ntmps28
      go_wp2
      go_region_with (go_at_call 28; refine (IH _).out.mono ?_; rintro e w' ⟨rfl, hb'⟩; first | (have hx := hcv w' w.heap.size (cell_below hb' (dig_cell w _ _))) | skip)
      all_goals
        try go_wp2
        go_ret
        first
          | exact ⟨rfl, below_al' (below_then (Below.refl _ w).drew hb') _⟩
          | exact ⟨rfl, below_then (below_al' (Below.refl _ w).drew _) hb'⟩
end Go.Proofs.YtgmjkkiahanekaaGreatDoor

