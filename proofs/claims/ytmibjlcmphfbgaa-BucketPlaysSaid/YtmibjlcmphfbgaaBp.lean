/- BucketPlays: how its script (a slice of structs of three ints) is read, and the walk over the law: the program's bucket and the document's bucket answer alike. -/
import Derived.Test.YtmibjlcmphfbgaaBg
import Derived.OpenShut
import Derived.SizedLaws
import Derived.ChangeSlices
import Derived.Deep.Slices
set_option linter.unusedVariables false
namespace Go.Proofs.Ytmibjlcmphfbgaa
open Go.RowKit Go.ChangeShapes Go.WideShapes

/-- A slice of triples of ints. -/
def Triples (w : World) (a : Option Addr) (len : Nat) (z : Nat → Int × Int × Int) : Prop :=
  len ≤ 17592186044416 ∧ ∀ k, k < len → ∃ ad, a = some ad ∧ w.cell? (ad.add (k * 3)) = some (.int .i64 (z k).1) ∧ w.cell? (ad.add (k * 3 + 1)) = some (.int .i64 (z k).2.1) ∧ w.cell? (ad.add (k * 3 + 2)) = some (.int .i64 (z k).2.2)

theorem struct33 : ∃ f0 f1 f2, Try.prog.underlying 33 = some (.struct #[f0, f1, f2]) ∧ f0.offset = 0 ∧ f1.offset = 1 ∧ f2.offset = 2 ∧ f0.type = 3 ∧ f1.type = 3 ∧ f2.type = 3 :=
  ⟨_, _, _, Try.underlying33, rfl, rfl, rfl, rfl, rfl, rfl⟩
theorem cells33 : Try.prog.cellsOf 33 = 3 := by kernel_rfl
theorem cells3 : Try.prog.cellsOf 3 = 1 := by kernel_rfl
theorem bytes33 : Try.prog.bytesOf 33 = 24 := by kernel_rfl

theorem open_ops {H : Type} {enc : TypeId × Value → H} {W : World} {base : Nat} {v : Value} {d : DataW H} {ps : List MemPlace} {ts : List TypeId} {ds : List (DataW H)}
    (hsz : (DataW.weightsEach Try.prog ts ds).all (· ≤ reachBytes) = true) (j : Nat) (ht : ts[j]? = some 31) (hd : ds[j]? = some d)
    (hv : Value.okWide Try.prog W .any base 31 v) (h : DataW.Trod enc Try.prog W 0 (fun _ => true) true 31 v d ps) :
    ∃ a len cap z, v = .slice a len cap ∧ Triples W a len z := by
  obtain ⟨a, len, cap, rfl⟩ := okWide_slice Try.underlying31 hv
  obtain ⟨fuel, hf⟩ := h
  rcases Deep.open_slice Try.underlying31 hf with ⟨hcs, _⟩ | ⟨ad, l, c, m, n, D, Pl, hcs, _, hl, hm, hmm, hx, hel⟩
  · simp [Value.cells] at hcs
    obtain ⟨rfl, rfl, rfl⟩ := hcs
    exact ⟨none, 0, 0, fun _ => (0, 0, 0), rfl, by omega, fun k hk => absurd hk (by omega)⟩
  · simp [Value.cells] at hcs
    obtain ⟨rfl, rfl, rfl⟩ := hcs
    obtain ⟨hx, _⟩ := Prod.mk.inj hx
    subst hx
    have z := sized_slice hsz ht hd Try.underlying31
    rw [bytes33] at z
    simp at z
    have hlen : len ≤ 17592186044416 := by
      have : reachBytes = 140737488351232 := by decide
      rw [this] at z
      omega
    obtain ⟨f0, f1, f2, hu, o0, o1, o2, t0, t1, t2⟩ := struct33
    have each : ∀ i, i < len → ∃ q : Int × Int × Int, W.cell? (ad.add (i * 3)) = some (.int .i64 q.1) ∧ W.cell? (ad.add (i * 3 + 1)) = some (.int .i64 q.2.1) ∧ W.cell? (ad.add (i * 3 + 2)) = some (.int .i64 q.2.2) := by
      intro i hi
      obtain ⟨cs', h1, h2⟩ := hel i (by rw [hmm]; simp; omega)
      rw [cells33] at h1
      obtain ⟨_, hlen', hcell⟩ := World.cells?_some h1
      obtain ⟨xs, k, hk, hxy, _, hxl, hf⟩ := DataW.trod_struct hu h2
      match xs, hxl, cs', hlen' with
      | [y0, y1, y2], _, [v0, v1, v2], _ =>
        have g0 := hf 0 f0 rfl
        have g1 := hf 1 f1 rfl
        have g2 := hf 2 f2 rfl
        simp [o0, o1, o2, t0, t1, t2, cells3] at g0 g1 g2
        obtain ⟨n0, e0, _⟩ := DataW.trod_int Try.underlying3 g0
        obtain ⟨n1, e1, _⟩ := DataW.trod_int Try.underlying3 g1
        obtain ⟨n2, e2, _⟩ := DataW.trod_int Try.underlying3 g2
        simp at e0 e1 e2
        subst e0 e1 e2
        have e0 := hcell 0 (by omega)
        have e1 := hcell 1 (by omega)
        have e2 := hcell 2 (by omega)
        rw [Deep.add_add] at e0 e1 e2
        exact ⟨(n0, n1, n2), by simpa using e0, by simpa using e1, by simpa using e2⟩
    obtain ⟨q, hq⟩ := Deep.choose_lt each
    exact ⟨_, len, cap, q, rfl, hlen, fun k hk => ⟨ad, rfl, hq k hk⟩⟩

/-- What each call answers and leaves, over numbers. -/
def S.te (x : S) (now : Int) : Int := match x.rk now with | none => 20 | some _ => 0
def S.ks (x : S) (now : Int) : S := match x.rk now with | none => x | some y => y
def S.kt (x : S) (now : Int) : Int := match x.rk now with | none => 0 | some y => y.t
def S.wv (x : S) (now n : Int) : Int := match x.rk now with | none => 0 | some y => y.wait now n
def S.tb (x : S) (now n : Int) : Bool := match x.rk now with | none => false | some y => decide (1 ≤ n ∧ n ≤ y.t)
def S.ts (x : S) (now n : Int) : S := match x.rk now with | none => x | some y => if 1 ≤ n ∧ n ≤ y.t then { y with t := y.t - n } else y

theorem S.ks_ok {x : S} (now : Int) (h : x.ok) : (x.ks now).ok := by
  unfold S.ks
  cases hr : x.rk now with
  | none => exact h
  | some y => exact S.rk_ok h hr
theorem S.ts_ok {x : S} (now n : Int) (h : x.ok) : (x.ts now n).ok := by
  unfold S.ts
  cases hr : x.rk now with
  | none => exact h
  | some y =>
    have := S.rk_ok h hr
    simp only
    split
    · rename_i hn
      obtain ⟨a1, a2, a3, a4, a5, a6, a7, a8, a9, b1, b2, b3⟩ := this
      constructor <;> simp only <;> omega
    · exact this

section
variable {b : Nat} {x : S} (now n : Int) (w : World) (k : x.ok) (h : At w b x)
include k h
theorem take_all : Calls Try.prog 10 #[.pointer (some ⟨b, 0, none⟩), .int .i64 now, .int .i64 n] w fun e w' => e = .returned (.tuple #[.bool (x.tb now n), .int .i64 (x.te now)]) ∧ Put b (x.ts now n) w w' := by
  unfold S.tb S.te S.ts
  cases hr : x.rk now with
  | none => exact (take_no h hr).mono fun e w' ⟨he, hw⟩ => ⟨he, by subst hw; exact put_refl h⟩
  | some y =>
    by_cases hn : 1 ≤ n ∧ n ≤ y.t
    · exact (take_yes h k hr hn).mono fun e w' ⟨he, hw⟩ => ⟨by rw [he]; simp [hn], by simpa [hn] using hw⟩
    · exact (take_less h k hr hn).mono fun e w' ⟨he, hw⟩ => ⟨by rw [he]; simp only; rw [decide_eq_false hn], by simp only; rw [if_neg hn]; exact hw⟩
theorem rtake_all : Calls Try.prog 12 #[.pointer (some ⟨b, 0, none⟩), .int .i64 now, .int .i64 n] w fun e w' => e = .returned (.tuple #[.bool (x.tb now n), .int .i64 (x.te now)]) ∧ Put b (x.ts now n) w w' := by
  unfold S.tb S.te S.ts
  cases hr : x.rk now with
  | none => exact (rtake_no h hr).mono fun e w' ⟨he, hw⟩ => ⟨he, by subst hw; exact put_refl h⟩
  | some y =>
    by_cases hn : 1 ≤ n ∧ n ≤ y.t
    · exact (rtake_yes h k hr hn).mono fun e w' ⟨he, hw⟩ => ⟨by rw [he]; simp [hn], by simpa [hn] using hw⟩
    · exact (rtake_less h k hr hn).mono fun e w' ⟨he, hw⟩ => ⟨by rw [he]; simp only; rw [decide_eq_false hn], by simp only; rw [if_neg hn]; exact hw⟩
theorem tokens_all : Calls Try.prog 13 #[.pointer (some ⟨b, 0, none⟩), .int .i64 now] w fun e w' => e = .returned (.tuple #[.int .i64 (x.kt now), .int .i64 (x.te now)]) ∧ Put b (x.ks now) w w' := by
  unfold S.kt S.te S.ks
  cases hr : x.rk now with
  | none => exact (tokens_no h hr).mono fun e w' ⟨he, hw⟩ => ⟨he, by subst hw; exact put_refl h⟩
  | some y => exact tokens_yes h k hr
theorem count_all : Calls Try.prog 14 #[.pointer (some ⟨b, 0, none⟩), .int .i64 now] w fun e w' => e = .returned (.tuple #[.int .i64 (x.kt now), .int .i64 (x.te now)]) ∧ Put b (x.ks now) w w' := by
  unfold S.kt S.te S.ks
  cases hr : x.rk now with
  | none => exact (count_no h hr).mono fun e w' ⟨he, hw⟩ => ⟨he, by subst hw; exact put_refl h⟩
  | some y => exact count_yes h k hr
theorem wait_all : Calls Try.prog 15 #[.pointer (some ⟨b, 0, none⟩), .int .i64 now, .int .i64 n] w fun e w' => e = .returned (.tuple #[.int .i64 (x.wv now n), .int .i64 (x.te now)]) ∧ Put b (x.ks now) w w' := by
  unfold S.wv S.te S.ks
  cases hr : x.rk now with
  | none => exact (wait_no h hr).mono fun e w' ⟨he, hw⟩ => ⟨he, by subst hw; exact put_refl h⟩
  | some y => exact wait_yes h k hr (S.rk_rk k hr).choose_spec.s
theorem rwait_all : Calls Try.prog 16 #[.pointer (some ⟨b, 0, none⟩), .int .i64 now, .int .i64 n] w fun e w' => e = .returned (.tuple #[.int .i64 (x.wv now n), .int .i64 (x.te now)]) ∧ Put b (x.ks now) w w' := by
  unfold S.wv S.te S.ks
  cases hr : x.rk now with
  | none => exact (rwait_no h hr).mono fun e w' ⟨he, hw⟩ => ⟨he, by subst hw; exact put_refl h⟩
  | some y => exact rwait_yes h k hr (S.rk_rk k hr).choose_spec.s
end

theorem below_rput {B b : Nat} {y : S} {w w1 w2 : World} (h : Below B w w1) (hB : B ≤ b) (hs : B ≤ w1.heap.size) (k : Put b y w1 w2) : Below B w w2 := below_put h hB hs k
theorem at_alloc {w : World} {b : Nat} {x : S} (h : At w b x) (o : Obj) : At (w.alloc o) b x := at_below h ((Below.refl _ _).alloc (Nat.le_refl _) o)

theorem ne_lt {w : World} {b : Nat} {x : S} (h : At w b x) : w.heap.size ≠ b := by have := at_lt h; omega
theorem tri_cells {w : World} {B : Nat} {k t n : Int} (h : w.heap[B]? = some (.cells #[.int .i64 k, .int .i64 t, .int .i64 n] 33)) :
    w.cell? ⟨B, 0, none⟩ = some (.int .i64 k) ∧ w.cell? ⟨B, 1, none⟩ = some (.int .i64 t) ∧ w.cell? ⟨B, 2, none⟩ = some (.int .i64 n) := by
  simp [World.cell?, h]
theorem fr_put {b : Nat} {y : S} {w w1 : World} {o : Obj} (k : Put b y (w.alloc o) w1) (hne : w.heap.size ≠ b) : w1.heap[w.heap.size]? = some o :=
  (k.grown.block w.heap.size (by simp) (fun q => hne (by injection q))).trans (heap_alloc_new w o)

set_option maxRecDepth 100000 in
set_option maxHeartbeats 8000000 in
theorem plays_good (m f e : Int) (a3 : Option Addr) (len3 cap3 : Nat) (z3 : Nat → Int × Int × Int) (w : World) (gd : good m f e) (now0 : Int) (hnow : 0 ≤ now0 ∧ now0 ≤ 1099511627776)
    (hn0 : (0 < len3 ∧ now0 = (z3 0).2.1) ∨ (len3 = 0 ∧ now0 = 0)) (h3 : Triples w a3 len3 z3) :
    Calls Try.prog 4 #[.int .i64 m, .int .i64 f, .int .i64 e, .slice a3 len3 cap3] w fun en w' => en = .returned (.bool true) ∧ Below w.heap.size w w' := by
  have A := Lib.hid (anchor_any w)
  have o0 := Lib.hid (S.new_ok gd hnow.1 hnow.2)
  have N := fun w => Lib.hid (new_good m f e now0 w gd hnow)
  have N2 := fun w => Lib.hid (rnew_good m f e now0 w gd hnow)
  clear gd hnow
  obtain ⟨hl3, hz3⟩ := h3
  have H3 := Lib.hid hz3
  clear hz3
  rcases hn0 with ⟨hl, hn⟩ | ⟨hl, hn⟩
  · obtain ⟨ad, rfl, hc0, hc1, hc2⟩ := H3.out 0 hl
    rw [← hn, Nat.zero_mul, Nat.zero_add] at hc1
    have hc1 : w.cell? ⟨ad.block, ad.off + 1, none⟩ = some (.int .i64 now0) := hc1
    clear hc0 hc2 hn
    go_enter Try.func4, Try.ntmps4
    go_wp2_with fail
    refine A.out.mono ?_
    rintro en w1 ⟨rfl, hb1⟩
    have hc1' := cell_later_below hb1 hc1
    clear hc1
    go_wp2_with fail
    refine (N _).out.mono ?_
    rintro en w2 ⟨rfl, hM2⟩
    go_wp2_with fail
    refine (N2 _).out.mono ?_
    rintro en w3 ⟨rfl, hM3⟩
    have b2 : Below w.heap.size w w2 := hb1.trans (hM2.below.mono hb1.size)
    have z2 := hM2.size
    have z3_ := hM3.size
    have z1 := hb1.size
    have b3 : Below w.heap.size w w3 := b2.trans (hM3.below.mono (by omega))
    have aa := at_below hM2.at_ hM3.below
    have ab := hM3.at_
    have hne : w1.heap.size ≠ w2.heap.size := by omega
    have sa : w.heap.size ≤ w1.heap.size := z1
    have sb : w.heap.size ≤ w2.heap.size := by omega
    clear z1 z2 z3_ hb1 hM2 hM3 b2 hc1'
    have HN := Lib.hid hne
    clear hne
    generalize w1.heap.size = a at *
    generalize w2.heap.size = b at *
    go_wp2
    go_loopw [67] (fun i wr => ∃ (k : Nat) (x : S), k ≤ len3 ∧ i = .int .i64 k ∧ x.ok ∧ At wr a x ∧ At wr b x ∧ Below w.heap.size w wr) (fun i _ => len3 - (intOf i).toNat)
    case atStart => exact ⟨0, _, Nat.zero_le _, rfl, o0.out, aa, ab, b3⟩
    case round =>
      clear aa ab b3 hl
      obtain ⟨k, x, hk, rfl, ok, aa, ab, hB⟩ := hrel
      have sw := hB.size
      by_cases hlt : k < len3
      · obtain ⟨ad', hea, hc0, hc1, hc2⟩ := H3.out k hlt
        injection hea with hea
        subst hea
        rw [← Deep.add_add] at hc1 hc2
        have d0 := cell_later_below hB hc0
        have d1 : wr.cell? ⟨(ad.add (k * 3)).block, (ad.add (k * 3)).off + 1, none⟩ = some (.int .i64 (z3 k).2.1) := cell_later_below hB hc1
        have d2 : wr.cell? ⟨(ad.add (k * 3)).block, (ad.add (k * 3)).off + 2, none⟩ = some (.int .i64 (z3 k).2.2) := cell_later_below hB hc2
        clear hc0 hc1 hc2
        generalize (z3 k).1 = kd at d0
        generalize (z3 k).2.1 = t at d1
        generalize (z3 k).2.2 = n at d2
        by_cases h1 : kd = 1
        · subst h1
          go_wp2_with fail
          refine (take_all t n _ ok (at_alloc aa _)).mono ?_
          rintro en w4 ⟨rfl, hp4⟩
          have ab4 := at_other (at_alloc ab _) hp4 (Ne.symm HN.out)
          have b4 := below_put (hB.alloc sw _) sa (by simp; omega) hp4
          have sw4 : w.heap.size ≤ w4.heap.size := b4.size
          have aa4 := hp4.at_
          obtain ⟨t0, t1, t2⟩ := tri_cells (fr_put hp4 (ne_lt aa))
          clear hp4
          go_wp2_with fail
          refine (rtake_all t n _ ok ab4).mono ?_
          rintro en w5 ⟨rfl, hp5⟩
          have aa5 := at_other aa4 hp5 HN.out
          have b5 := below_put b4 sb sw4 hp5
          have ab5 := hp5.at_
          clear hp5
          go_wp2
          go_roundw
          case rel => exact ⟨k + 1, x.ts t n, by omega, by go_num, S.ts_ok t n ok, aa5, ab5, b5⟩
          case measure => simp [intOf]; omega
        by_cases h2 : kd = 2
        · subst h2
          clear h1
          go_wp2_with fail
          refine (tokens_all t _ ok (at_alloc aa _)).mono ?_
          rintro en w4 ⟨rfl, hp4⟩
          have ab4 := at_other (at_alloc ab _) hp4 (Ne.symm HN.out)
          have b4 := below_put (hB.alloc sw _) sa (by simp; omega) hp4
          have sw4 : w.heap.size ≤ w4.heap.size := b4.size
          have aa4 := hp4.at_
          obtain ⟨t0, t1, t2⟩ := tri_cells (fr_put hp4 (ne_lt aa))
          clear hp4
          go_wp2_with fail
          refine (count_all t _ ok ab4).mono ?_
          rintro en w5 ⟨rfl, hp5⟩
          have aa5 := at_other aa4 hp5 HN.out
          have b5 := below_put b4 sb sw4 hp5
          have ab5 := hp5.at_
          clear hp5
          go_wp2
          go_roundw
          case rel => exact ⟨k + 1, x.ks t, by omega, by go_num, S.ks_ok t ok, aa5, ab5, b5⟩
          case measure => simp [intOf]; omega
        by_cases h3 : kd = 3
        · subst h3
          clear h1 h2
          go_wp2_with fail
          refine (wait_all t n _ ok (at_alloc aa _)).mono ?_
          rintro en w4 ⟨rfl, hp4⟩
          have ab4 := at_other (at_alloc ab _) hp4 (Ne.symm HN.out)
          have b4 := below_put (hB.alloc sw _) sa (by simp; omega) hp4
          have sw4 : w.heap.size ≤ w4.heap.size := b4.size
          have aa4 := hp4.at_
          obtain ⟨t0, t1, t2⟩ := tri_cells (fr_put hp4 (ne_lt aa))
          clear hp4
          go_wp2_with fail
          refine (rwait_all t n _ ok ab4).mono ?_
          rintro en w5 ⟨rfl, hp5⟩
          have aa5 := at_other aa4 hp5 HN.out
          have b5 := below_put b4 sb sw4 hp5
          have ab5 := hp5.at_
          clear hp5
          go_wp2
          go_roundw
          case rel => exact ⟨k + 1, x.ks t, by omega, by go_num, S.ks_ok t ok, aa5, ab5, b5⟩
          case measure => simp [intOf]; omega
        · go_wp2
          go_roundw
          case rel => exact ⟨k + 1, x, by omega, by go_num, ok, at_alloc aa _, at_alloc ab _, hB.alloc sw _⟩
          case measure => simp [intOf]; omega
      · go_wp2
        go_ret
        exact ⟨rfl, hB⟩
  · subst hl hn
    clear H3
    go_enter Try.func4, Try.ntmps4
    go_wp2_with fail
    refine A.out.mono ?_
    rintro en w1 ⟨rfl, hb1⟩
    go_wp2_with fail
    refine (N _).out.mono ?_
    rintro en w2 ⟨rfl, hM2⟩
    go_wp2_with fail
    refine (N2 _).out.mono ?_
    rintro en w3 ⟨rfl, hM3⟩
    have b2 : Below w.heap.size w w2 := hb1.trans (hM2.below.mono hb1.size)
    have z2 := hM2.size
    have z1 := hb1.size
    have b3 : Below w.heap.size w w3 := b2.trans (hM3.below.mono (by omega))
    clear z1 z2 hb1 hM2 hM3 b2
    go_wp2
    go_loopw [67] (fun i wr => i = .int .i64 0 ∧ Below w.heap.size w wr) (fun i _ => 0)
    case atStart => exact ⟨rfl, b3⟩
    case round =>
      clear b3
      obtain ⟨rfl, hB⟩ := hrel
      go_wp2
      go_ret
      exact ⟨rfl, hB⟩

set_option maxRecDepth 100000 in
set_option maxHeartbeats 4000000 in
theorem plays_bad (m f e : Int) (a3 : Option Addr) (len3 cap3 : Nat) (z3 : Nat → Int × Int × Int) (w : World) (now0 : Int) (en1 : Int)
    (N : ∀ w, Calls Try.prog 9 #[.int .i64 m, .int .i64 f, .int .i64 e, .int .i64 now0] w fun en w' => en = .returned (.tuple #[.pointer none, .int .i64 en1]) ∧ w = w')
    (N2 : ∀ w, Calls Try.prog 11 #[.int .i64 m, .int .i64 f, .int .i64 e, .int .i64 now0] w fun en w' => en = .returned (.tuple #[.pointer none, .int .i64 en1]) ∧ w = w') (he : en1 = 20 ∨ en1 = 30)
    (hn0 : (0 < len3 ∧ now0 = (z3 0).2.1) ∨ (len3 = 0 ∧ now0 = 0)) (h3 : Triples w a3 len3 z3) :
    Calls Try.prog 4 #[.int .i64 m, .int .i64 f, .int .i64 e, .slice a3 len3 cap3] w fun en w' => en = .returned (.bool true) ∧ Below w.heap.size w w' := by
  rcases he with rfl | rfl
  all_goals
   have A := Lib.hid (anchor_any w)
   have M := fun w => Lib.hid (N w)
   have M2 := fun w => Lib.hid (N2 w)
   clear N N2
   obtain ⟨hl3, hz3⟩ := h3
   rcases hn0 with ⟨hl, hn⟩ | ⟨hl, hn⟩
   · obtain ⟨ad, rfl, hc0, hc1, hc2⟩ := hz3 0 hl
     rw [← hn, Nat.zero_mul, Nat.zero_add] at hc1
     have hc1 : w.cell? ⟨ad.block, ad.off + 1, none⟩ = some (.int .i64 now0) := hc1
     clear hc0 hc2 hn hz3
     go_enter Try.func4, Try.ntmps4
     go_wp2_with fail
     refine A.out.mono ?_
     rintro en w1 ⟨rfl, hb1⟩
     have hc1' := cell_later_below hb1 hc1
     clear hc1
     go_wp2_with fail
     refine (M _).out.mono ?_
     rintro en w2 ⟨rfl, rfl⟩
     go_wp2_with fail
     refine (M2 _).out.mono ?_
     rintro en w3 ⟨rfl, rfl⟩
     go_wp2
     go_ret
     exact ⟨rfl, hb1⟩
   · subst hl hn
     clear hz3
     go_enter Try.func4, Try.ntmps4
     go_wp2_with fail
     refine A.out.mono ?_
     rintro en w1 ⟨rfl, hb1⟩
     go_wp2_with fail
     refine (M _).out.mono ?_
     rintro en w2 ⟨rfl, rfl⟩
     go_wp2_with fail
     refine (M2 _).out.mono ?_
     rintro en w3 ⟨rfl, rfl⟩
     go_wp2
     go_ret
     exact ⟨rfl, hb1⟩

theorem plays_walk (m : Int) (_ : (Lit.int .i64 m).wf = true) (f : Int) (_ : (Lit.int .i64 f).wf = true) (e : Int) (_ : (Lit.int .i64 e).wf = true)
    (a3 : Option Addr) (len3 cap3 : Nat) (z3 : Nat → Int × Int × Int) {w : World} (h3 : Triples w a3 len3 z3) (W : World) (hW : W = w) :
    Calls Try.prog 4 #[.int .i64 m, .int .i64 f, .int .i64 e, .slice a3 len3 cap3] W fun en w' => en = .returned (.bool true) ∧ Below W.heap.size W w' := by
  subst hW
  obtain ⟨now0, hn⟩ : ∃ now0, (0 < len3 ∧ now0 = (z3 0).2.1) ∨ (len3 = 0 ∧ now0 = 0) := by
    rcases Nat.eq_zero_or_pos len3 with h | h
    · exact ⟨0, .inr ⟨h, rfl⟩⟩
    · exact ⟨_, .inl ⟨h, rfl⟩⟩
  by_cases g : good m f e
  · by_cases hr : 0 ≤ now0 ∧ now0 ≤ 1099511627776
    · exact plays_good m f e a3 len3 cap3 z3 _ g now0 hr hn h3
    · exact plays_bad m f e a3 len3 cap3 z3 _ now0 20 (fun w => new_late m f e now0 w g hr) (fun w => rnew_late m f e now0 w g hr) (by simp) hn h3
  · exact plays_bad m f e a3 len3 cap3 z3 _ now0 30 (fun w => new_bad m f e now0 w g) (fun w => rnew_bad m f e now0 w g) (by simp) hn h3

end Go.Proofs.Ytmibjlcmphfbgaa
