/- The contracts of a token bucket's methods: what reckon does to the six cells of a bucket that the call itself made; for every bucket in its bounds. -/
import Derived.Test.YtmibjlcmphfbgaaRows
import Derived.WalkKit
import Derived.Tactics
import Derived.Tactics2
import Derived.RegionTactic
import Derived.BigRegion
import Derived.Deep.QuietTactic
import Derived.BigQuiet
import Derived.LoopTactic
import Derived.ChangeAlike
import Derived.Outline
import Derived.Below
import Derived.Lib.Hide
set_option linter.unusedVariables false
namespace Go.Proofs.Ytmibjlcmphfbgaa
open Go.RowKit

/-- The same world, but for what was drawn. -/
structure Like (w' w : World) : Prop where
  heap : w'.heap = w.heap
  os : w'.os = w.os
  output : w'.output = w.output
  tape : w'.tape = w.tape

/-- The six cells of a bucket in block b. -/
structure Bk (w : World) (b : Nat) (m f e t fl s : Int) : Prop where
  c0 : w.cell? ⟨b, 0, none⟩ = some (.int .i64 m)
  c1 : w.cell? ⟨b, 1, none⟩ = some (.int .i64 f)
  c2 : w.cell? ⟨b, 2, none⟩ = some (.int .i64 e)
  c3 : w.cell? ⟨b, 3, none⟩ = some (.int .i64 t)
  c4 : w.cell? ⟨b, 4, none⟩ = some (.int .i64 fl)
  c5 : w.cell? ⟨b, 5, none⟩ = some (.int .i64 s)
  f0 : w.frozen? ⟨b, 0, none⟩ = false
  f1 : w.frozen? ⟨b, 1, none⟩ = false
  f2 : w.frozen? ⟨b, 2, none⟩ = false
  f3 : w.frozen? ⟨b, 3, none⟩ = false
  f4 : w.frozen? ⟨b, 4, none⟩ = false
  f5 : w.frozen? ⟨b, 5, none⟩ = false

theorem within_any (n l m : Int) (w : World) :
    Calls Try.prog 17 #[.int .i64 n, .int .i64 l, .int .i64 m] w fun e w' => e = .returned (.bool (decide (l ≤ n) && decide (n ≤ m))) ∧ w = w' := by
  by_cases h : l ≤ n
  · go_enter Try.func17, Try.ntmps17
    go_wp2
    go_ret
    exact ⟨by simp [h], rfl⟩
  · go_enter Try.func17, Try.ntmps17
    go_wp2
    go_ret
    exact ⟨by have hf : decide (l ≤ n) = false := by simpa using h
              rw [hf]; rfl, rfl⟩

theorem reckon_no (b : Nat) (now m f e t fl s : Int) (w : World) (hB : Bk w b m f e t fl s) (h : ¬ (s ≤ now ∧ now ≤ 1099511627776)) :
    Calls Try.prog 18 #[.pointer (some ⟨b, 0, none⟩), .int .i64 now] w fun e w' => e = .returned (.int .i64 20) ∧ w = w' := by
  obtain ⟨c0, c1, c2, c3, c4, c5, f0, f1, f2, f3, f4, f5⟩ := hB
  have hd : (decide (s ≤ now) && decide (now ≤ 1099511627776)) = false := by simpa using h
  go_enter Try.func18, Try.ntmps18
  go_wp2_with (go_at_call 17; refine (within_any _ _ _ _).mono ?_; rintro e w' ⟨rfl, rfl⟩)
  go_ret
  exact ⟨rfl, rfl⟩

theorem reckon_full (b : Nat) (now m f e t fl s : Int) (w : World) (hB : Bk w b m f e t fl s) (hs : s ≤ now) (hn : now ≤ 1099511627776)
    (hm : 1 ≤ m) (hm2 : m ≤ 1073741824) (hf : 1 ≤ f) (hf2 : f ≤ 1073741824) (he : 1 ≤ e) (he2 : e ≤ 1073741824) (ht : 0 ≤ t) (htm : t ≤ m) (h0 : 0 ≤ fl) (hfs : fl ≤ s)
    (hq : (m - t) / f < (now - fl) / e) :
    Calls Try.prog 18 #[.pointer (some ⟨b, 0, none⟩), .int .i64 now] w fun en w' => en = .returned (.int .i64 0) ∧
      Like w' (((w.setCell ⟨b, 5, none⟩ (.int .i64 now)).setCell ⟨b, 4, none⟩ (.int .i64 (fl + (now - fl) / e * e))).setCell ⟨b, 3, none⟩ (.int .i64 m)) := by
  obtain ⟨c0, c1, c2, c3, c4, c5, f0, f1, f2, f3, f4, f5⟩ := hB
  have hd : (decide (s ≤ now) && decide (now ≤ 1099511627776)) = true := by simp [hs, hn]
  have q0 : 0 ≤ (now - fl) / e := Int.ediv_nonneg (by omega) (by omega)
  have q1 : (now - fl) / e * e ≤ now - fl := Int.ediv_mul_le _ (by omega)
  have q2 : 0 ≤ (now - fl) / e * e := Int.mul_nonneg q0 (by omega)
  have q3 : (now - fl) / e ≤ now - fl := Int.ediv_le_self _ (by omega)
  go_enter Try.func18, Try.ntmps18
  go_wp2_with (go_at_call 17; refine (within_any _ _ _ _).mono ?_; rintro e w' ⟨rfl, rfl⟩)
  go_quiet (fail)
  go_wp2
  go_region
  all_goals go_wp2
  all_goals go_quiet (fail)
  all_goals go_wp2
  all_goals go_ret
  all_goals exact ⟨rfl, rfl, rfl, rfl, rfl⟩

theorem reckon_part (b : Nat) (now m f e t fl s : Int) (w : World) (hB : Bk w b m f e t fl s) (hs : s ≤ now) (hn : now ≤ 1099511627776)
    (hm : 1 ≤ m) (hm2 : m ≤ 1073741824) (hf : 1 ≤ f) (hf2 : f ≤ 1073741824) (he : 1 ≤ e) (he2 : e ≤ 1073741824) (ht : 0 ≤ t) (htm : t ≤ m) (h0 : 0 ≤ fl) (hfs : fl ≤ s)
    (hq : ¬ (m - t) / f < (now - fl) / e) :
    Calls Try.prog 18 #[.pointer (some ⟨b, 0, none⟩), .int .i64 now] w fun en w' => en = .returned (.int .i64 0) ∧
      Like w' (((w.setCell ⟨b, 5, none⟩ (.int .i64 now)).setCell ⟨b, 4, none⟩ (.int .i64 (fl + (now - fl) / e * e))).setCell ⟨b, 3, none⟩ (.int .i64 (t + (now - fl) / e * f))) := by
  obtain ⟨c0, c1, c2, c3, c4, c5, f0, f1, f2, f3, f4, f5⟩ := hB
  have hd : (decide (s ≤ now) && decide (now ≤ 1099511627776)) = true := by simp [hs, hn]
  have q0 : 0 ≤ (now - fl) / e := Int.ediv_nonneg (by omega) (by omega)
  have q1 : (now - fl) / e * e ≤ now - fl := Int.ediv_mul_le _ (by omega)
  have q2 : 0 ≤ (now - fl) / e * e := Int.mul_nonneg q0 (by omega)
  have q3 : (now - fl) / e ≤ now - fl := Int.ediv_le_self _ (by omega)
  have q4 : 0 ≤ (now - fl) / e * f := Int.mul_nonneg q0 (by omega)
  have q5 : (now - fl) / e * f ≤ m - t := by
    have h1 : (now - fl) / e ≤ (m - t) / f := by omega
    exact Int.le_trans (Int.mul_le_mul_of_nonneg_right h1 (by omega)) (Int.ediv_mul_le _ (by omega))
  go_enter Try.func18, Try.ntmps18
  go_wp2_with (go_at_call 17; refine (within_any _ _ _ _).mono ?_; rintro e w' ⟨rfl, rfl⟩)
  go_quiet (fail)
  go_wp2
  go_region
  all_goals go_wp2
  all_goals go_quiet (fail)
  all_goals go_wp2
  all_goals go_region
  all_goals go_wp2
  all_goals go_ret
  all_goals exact ⟨rfl, rfl, rfl, rfl, rfl⟩


/-- A bucket, as numbers. -/
structure S where
  (m f e t fl s : Int)

structure S.ok (x : S) : Prop where
  m1 : 1 ≤ x.m
  m2 : x.m ≤ 1073741824
  f1 : 1 ≤ x.f
  f2 : x.f ≤ 1073741824
  e1 : 1 ≤ x.e
  e2 : x.e ≤ 1073741824
  t0 : 0 ≤ x.t
  tm : x.t ≤ x.m
  l0 : 0 ≤ x.fl
  ls : x.fl ≤ x.s
  sb : x.s ≤ 1099511627776
  near : x.s < x.fl + x.e

def S.rk (x : S) (now : Int) : Option S :=
  if x.s ≤ now ∧ now ≤ 1099511627776 then
    some { x with t := if (x.m - x.t) / x.f < (now - x.fl) / x.e then x.m else x.t + (now - x.fl) / x.e * x.f, fl := x.fl + (now - x.fl) / x.e * x.e, s := now }
  else none

theorem S.rk_ok {x y : S} {now : Int} (h : x.ok) (hr : x.rk now = some y) : y.ok := by
  obtain ⟨m1, m2, f1, f2, e1, e2, t0, tm, l0, ls, sb, near⟩ := h
  unfold S.rk at hr
  split at hr
  · rename_i hc
    have q0 : 0 ≤ (now - x.fl) / x.e := Int.ediv_nonneg (by omega) (by omega)
    have q1 : (now - x.fl) / x.e * x.e ≤ now - x.fl := Int.ediv_mul_le _ (by omega)
    have q2 : 0 ≤ (now - x.fl) / x.e * x.e := Int.mul_nonneg q0 (by omega)
    have q3 : now - x.fl < (now - x.fl) / x.e * x.e + x.e := by
      have := Int.lt_ediv_add_one_mul_self (now - x.fl) (show 0 < x.e by omega)
      rw [Int.add_mul, Int.one_mul] at this
      exact this
    have q4 : 0 ≤ (now - x.fl) / x.e * x.f := Int.mul_nonneg q0 (by omega)
    injection hr with hr
    subst hr
    by_cases hq : (x.m - x.t) / x.f < (now - x.fl) / x.e
    · simp only [hq, if_true]
      constructor <;> simp only <;> omega
    · have q5 : (now - x.fl) / x.e * x.f ≤ x.m - x.t :=
        Int.le_trans (Int.mul_le_mul_of_nonneg_right (by omega : (now - x.fl) / x.e ≤ (x.m - x.t) / x.f) (by omega)) (Int.ediv_mul_le _ (by omega))
      simp only [hq, if_false]
      constructor <;> simp only <;> omega
  · cases hr

/-- The bucket x lies in block b. -/
def At (w : World) (b : Nat) (x : S) : Prop := Bk w b x.m x.f x.e x.t x.fl x.s

/-- Behind the call: block b holds y; all other blocks are as they were. -/
structure Put (b : Nat) (y : S) (w w' : World) : Prop where
  at_ : At w' b y
  size : w'.heap.size = w.heap.size
  grown : w.grownBy w' (some b)

theorem cell_set {w : World} {p q : Addr} {u v : Value} (hq : w.cell? q = some v) (h : q ≠ p) : (w.setCell p u).cell? q = some v :=
  (World.cell?_setCell_other _ _ _ _ (Ne.symm h)).trans hq

theorem like_cell {w' w : World} (h : Like w' w) (a : Addr) : w'.cell? a = w.cell? a := by simp [World.cell?, h.heap]
theorem like_frozen {w' w : World} (h : Like w' w) (a : Addr) : w'.frozen? a = w.frozen? a := by simp [World.frozen?, h.heap]

theorem put_like {b : Nat} {y : S} {w w1 w' : World} (h : Put b y w w1) (l : Like w' w1) : Put b y w w' := by
  obtain ⟨⟨c0, c1, c2, c3, c4, c5, f0, f1, f2, f3, f4, f5⟩, hs, hg⟩ := h
  refine ⟨⟨?_, ?_, ?_, ?_, ?_, ?_, ?_, ?_, ?_, ?_, ?_, ?_⟩, by rw [l.heap]; exact hs, ⟨l.os.trans hg.os, l.tape.trans hg.tape, l.output.trans hg.output, by rw [l.heap]; exact hg.size, fun k hk hn => by rw [l.heap]; exact hg.block k hk hn⟩⟩ <;>
    first | (rw [like_cell l]; assumption) | (rw [like_frozen l]; assumption)

theorem put_refl {b : Nat} {x : S} {w : World} (h : At w b x) : Put b x w w := ⟨h, rfl, ⟨rfl, rfl, rfl, Nat.le_refl _, fun _ _ _ => rfl⟩⟩

theorem put_trans {b : Nat} {x y : S} {w w1 w2 : World} (h : Put b x w w1) (k : Put b y w1 w2) : Put b y w w2 :=
  ⟨k.at_, k.size.trans h.size, ⟨k.grown.os.trans h.grown.os, k.grown.tape.trans h.grown.tape, k.grown.output.trans h.grown.output, Nat.le_trans h.grown.size k.grown.size,
    fun i hi hn => (k.grown.block i (Nat.lt_of_lt_of_le hi h.grown.size) hn).trans (h.grown.block i hi hn)⟩⟩

theorem size_setCell (w : World) (a : Addr) (v : Value) : (w.setCell a v).heap.size = w.heap.size := by simp [World.setCell]
theorem put_set3 {b : Nat} {x : S} {w : World} (h : At w b x) (t : Int) : Put b { x with t := t } w (w.setCell ⟨b, 3, none⟩ (.int .i64 t)) := by
  obtain ⟨c0, c1, c2, c3, c4, c5, f0, f1, f2, f3, f4, f5⟩ := h
  exact ⟨⟨cell_set c0 (by simp), cell_set c1 (by simp), cell_set c2 (by simp), World.cell?_setCell_same _ _ _ c3, cell_set c4 (by simp), cell_set c5 (by simp),
    by simpa using f0, by simpa using f1, by simpa using f2, by simpa using f3, by simpa using f4, by simpa using f5⟩, size_setCell _ _ _,
    ⟨rfl, rfl, rfl, Nat.le_of_eq (size_setCell _ _ _).symm, fun k _ hn => Below.heap_setCell _ _ _ _ (fun e => hn (by rw [e]))⟩⟩
theorem put_set4 {b : Nat} {x : S} {w : World} (h : At w b x) (t : Int) : Put b { x with fl := t } w (w.setCell ⟨b, 4, none⟩ (.int .i64 t)) := by
  obtain ⟨c0, c1, c2, c3, c4, c5, f0, f1, f2, f3, f4, f5⟩ := h
  exact ⟨⟨cell_set c0 (by simp), cell_set c1 (by simp), cell_set c2 (by simp), cell_set c3 (by simp), World.cell?_setCell_same _ _ _ c4, cell_set c5 (by simp),
    by simpa using f0, by simpa using f1, by simpa using f2, by simpa using f3, by simpa using f4, by simpa using f5⟩, size_setCell _ _ _,
    ⟨rfl, rfl, rfl, Nat.le_of_eq (size_setCell _ _ _).symm, fun k _ hn => Below.heap_setCell _ _ _ _ (fun e => hn (by rw [e]))⟩⟩
theorem put_set5 {b : Nat} {x : S} {w : World} (h : At w b x) (t : Int) : Put b { x with s := t } w (w.setCell ⟨b, 5, none⟩ (.int .i64 t)) := by
  obtain ⟨c0, c1, c2, c3, c4, c5, f0, f1, f2, f3, f4, f5⟩ := h
  exact ⟨⟨cell_set c0 (by simp), cell_set c1 (by simp), cell_set c2 (by simp), cell_set c3 (by simp), cell_set c4 (by simp), World.cell?_setCell_same _ _ _ c5,
    by simpa using f0, by simpa using f1, by simpa using f2, by simpa using f3, by simpa using f4, by simpa using f5⟩, size_setCell _ _ _,
    ⟨rfl, rfl, rfl, Nat.le_of_eq (size_setCell _ _ _).symm, fun k _ hn => Below.heap_setCell _ _ _ _ (fun e => hn (by rw [e]))⟩⟩

theorem rk_none {b : Nat} {x : S} {now : Int} {w : World} (h : At w b x) (hr : x.rk now = none) :
    Calls Try.prog 18 #[.pointer (some ⟨b, 0, none⟩), .int .i64 now] w fun e w' => e = .returned (.int .i64 20) ∧ w = w' :=
  reckon_no b now x.m x.f x.e x.t x.fl x.s w h (by intro hc; unfold S.rk at hr; rw [if_pos hc] at hr; cases hr)

theorem rk_some {b : Nat} {x y : S} {now : Int} {w : World} (h : At w b x) (k : x.ok) (hr : x.rk now = some y) :
    Calls Try.prog 18 #[.pointer (some ⟨b, 0, none⟩), .int .i64 now] w fun e w' => e = .returned (.int .i64 0) ∧ Put b y w w' := by
  obtain ⟨m1, m2, f1, f2, e1, e2, t0, tm, l0, ls, sb, near⟩ := k
  by_cases hc : x.s ≤ now ∧ now ≤ 1099511627776
  · unfold S.rk at hr
    rw [if_pos hc] at hr
    injection hr with hr
    subst hr
    by_cases hq : (x.m - x.t) / x.f < (now - x.fl) / x.e
    · refine (reckon_full b now x.m x.f x.e x.t x.fl x.s w h hc.1 hc.2 m1 m2 f1 f2 e1 e2 t0 tm l0 ls hq).mono fun e w' ⟨he, hl⟩ => ⟨he, ?_⟩
      have := put_like (put_trans (put_set5 h now) (put_trans (put_set4 (put_set5 h now).at_ (x.fl + (now - x.fl) / x.e * x.e)) (put_set3 (put_set4 (put_set5 h now).at_ (x.fl + (now - x.fl) / x.e * x.e)).at_ x.m))) hl
      simpa only [hq, if_true] using this
    · refine (reckon_part b now x.m x.f x.e x.t x.fl x.s w h hc.1 hc.2 m1 m2 f1 f2 e1 e2 t0 tm l0 ls hq).mono fun e w' ⟨he, hl⟩ => ⟨he, ?_⟩
      have := put_like (put_trans (put_set5 h now) (put_trans (put_set4 (put_set5 h now).at_ (x.fl + (now - x.fl) / x.e * x.e)) (put_set3 (put_set4 (put_set5 h now).at_ (x.fl + (now - x.fl) / x.e * x.e)).at_ (x.t + (now - x.fl) / x.e * x.f)))) hl
      simpa only [hq, if_false] using this
  · unfold S.rk at hr
    rw [if_neg hc] at hr
    cases hr

end Go.Proofs.Ytmibjlcmphfbgaa
