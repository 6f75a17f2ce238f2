/- The texts OutN in one. -/
import Derived.Test.YtgmjkkiahanekaaDoorM29
/- The plain law of OutflowBack, its second part: what is told of a framed head and what lies behind it. -/
set_option linter.unusedVariables false
set_option linter.unusedSimpArgs false
namespace Go.Proofs.YtgmjkkiahanekaaDoor
open Lex

theorem framed_heads {B : List UInt8} {k l : Int} (h : framed B k l = true) (hp : 0 < B.length) (x : List UInt8) :
    ∃ hd : Hd, hd.status = 200 ∧ headsR getM ((B ++ x).length + 1) (B ++ x) = (some (hd, k, l), 0, x) := by
  unfold framed at h
  simp only [Bool.and_eq_true, decide_eq_true_eq] at h
  obtain ⟨⟨⟨g1, g2⟩, g3⟩, g4⟩ := h
  have hm := status_more x (B := B) (.inr (by rw [g2]; exact hp))
  refine ⟨(readAt statusL B).1, g3, ?_⟩
  rw [headsR, hm, g1, g2, g4, if_neg (fun h => h.elim (fun h => h rfl) (fun h => by omega)), if_neg (by simp), if_neg (by rw [g3]; omega), List.drop_left]
theorem told_single (me x : List UInt8) : toldR me [x] true = ((allR { (allR { method := me, buf := x }).2.2 with closed := true }).1.getD ((allR { method := me, buf := x }).1.getD 0), (allR { method := me, buf := x }).2.1 ++ (allR { (allR { method := me, buf := x }).2.2 with closed := true }).2.1, (allR { (allR { method := me, buf := x }).2.2 with closed := true }).2.2) := rfl
/-- Behind a framed head: the first bytes make b and the reader r; then the end makes c and the reader s. -/
theorem told_framed {B : List UInt8} {k l : Int} (h : framed B k l = true) (hp : 0 < B.length) (x : List UInt8) : ∃ hd : Hd, ∃ r0 : Rd, r0 = headed { method := getM, buf := B ++ x } hd k l x ∧
    (toldR getM [B ++ x] true).1 = (allR { (bodyAll r0).2 with closed := true }).1.getD 200 ∧ (toldR getM [B ++ x] true).2.1 = (bodyAll r0).1 ++ (allR { (bodyAll r0).2 with closed := true }).2.1 ∧ (toldR getM [B ++ x] true).2.2 = (allR { (bodyAll r0).2 with closed := true }).2.2 := by
  obtain ⟨hd, h1, h2⟩ := framed_heads h hp x
  have e : allR { method := getM, buf := B ++ x } = (some 200, bodyAll (headed { method := getM, buf := B ++ x } hd k l x)) := by rw [allR_new, h2]; simp only; rw [h1]
  refine ⟨hd, _, rfl, ?_, ?_, ?_⟩ <;> rw [told_single, e] <;> rfl
structure Well (t : Int × List UInt8 × Rd) (b : List UInt8) : Prop where
  status : t.1 = 200
  body : t.2.1 = b
  ended : t.2.2.ended = true
  err : t.2.2.err = 0
structure Short (t : Int × List UInt8 × Rd) : Prop where
  ended : t.2.2.ended = false
  err : t.2.2.err = 121
theorem all_ended {r : Rd} (h : r.ended = true) : allR r = (none, [], r) := all_idle (.inl h)
theorem back_end (x : List UInt8) : Well (toldR getM [endHead ++ x] true) x := by
  obtain ⟨hd, r0, hr, a1, a2, a3⟩ := told_framed framed_end (by decide) x
  have hb : bodyAll r0 = (x, { r0 with buf := [] }) := by subst hr; rfl
  have ha : allR { ({ r0 with buf := [] } : Rd) with closed := true } = (none, [], endR { r0 with buf := [], closed := true }) := by subst hr; rfl
  rw [hb] at a1 a2 a3
  simp only at a1 a2 a3
  rw [ha] at a1 a2 a3
  exact ⟨a1, by rw [a2]; simp, by rw [a3]; rfl, by rw [a3]; subst hr; rfl⟩
theorem lenHead_pos (n : Nat) : 0 < (lenHead n).length := by unfold lenHead okLine; simp
theorem back_len (n : Nat) (hn : n ≤ 10000) (x : List UInt8) (h : n ≤ x.length) : Well (toldR getM [lenHead n ++ x] true) (x.take n) := by
  obtain ⟨hd, r0, hr, a1, a2, a3⟩ := told_framed (framed_len n hn) (lenHead_pos n) x
  have m1 : r0.mode = 1 := by subst hr; rfl
  have m2 : r0.left = n := by subst hr; rfl
  have m3 : r0.buf = x := by subst hr; rfl
  have m4 : r0.err = 0 := by subst hr; rfl
  have hmin : min r0.left (r0.buf.length : Int) = (n : Int) := by rw [m2, m3]; omega
  have hb : bodyAll r0 = (x.take n, endR { r0 with left := 0, buf := x.drop n }) := by
    unfold bodyAll
    rw [if_pos m1, hmin, m2, m3, Int.toNat_natCast, if_pos (by omega), show (n : Int) - n = 0 by omega]
  rw [hb] at a1 a2 a3
  simp only at a1 a2 a3
  rw [all_ended (by rfl)] at a1 a2 a3
  exact ⟨a1, by rw [a2]; simp, by rw [a3]; rfl, by rw [a3]; exact m4⟩
theorem back_len_short (n : Nat) (hn : n ≤ 10000) (x : List UInt8) (h : x.length < n) : Short (toldR getM [lenHead n ++ x] true) := by
  obtain ⟨hd, r0, hr, a1, a2, a3⟩ := told_framed (framed_len n hn) (lenHead_pos n) x
  have m1 : r0.mode = 1 := by subst hr; rfl
  have m2 : r0.left = n := by subst hr; rfl
  have m3 : r0.buf = x := by subst hr; rfl
  have m5 : r0.ended = false := by subst hr; rfl
  have m6 : r0.closed = false := by subst hr; rfl
  have hmin : min r0.left (r0.buf.length : Int) = (x.length : Int) := by rw [m2, m3]; omega
  have hb : bodyAll r0 = (x, { r0 with left := (n : Int) - x.length, buf := [], err := 0 }) := by
    unfold bodyAll
    rw [if_pos m1, hmin, m2, m3, Int.toNat_natCast, if_neg (by omega), List.take_length, List.drop_length]
    unfold shortR
    simp only [m6]
    rfl
  have ha : allR { ({ r0 with left := (n : Int) - x.length, buf := [], err := 0 } : Rd) with closed := true } = (none, [], { r0 with left := (n : Int) - x.length, buf := [], err := 121, closed := true }) := by
    rw [all_body (by simp [m5]) (by simp [m1])]
    unfold bodyAll
    rw [if_pos m1]
    simp only [List.length_nil]
    rw [show min ((n : Int) - x.length) ((0 : Nat) : Int) = 0 by omega]
    rw [if_neg (by omega)]
    simp [shortR]
  rw [hb] at a1 a2 a3
  simp only at a1 a2 a3
  rw [ha] at a1 a2 a3
  exact ⟨by rw [a3]; exact m5, by rw [a3]⟩
end Go.Proofs.YtgmjkkiahanekaaDoor

