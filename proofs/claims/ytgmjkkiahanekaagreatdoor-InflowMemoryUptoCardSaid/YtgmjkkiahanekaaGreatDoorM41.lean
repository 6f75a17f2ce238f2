/- The texts InW in one. -/
import Derived.Test.YtgmjkkiahanekaaGreatDoorM34
/- The plain law of InflowWhole: a request that is read has the framing that its head says. -/
set_option linter.unusedVariables false
set_option linter.unusedSimpArgs false
namespace Go.Proofs.YtgmjkkiahanekaaGreatDoor
open Lex

theorem stepD_size {d : Dec} (h : ¬ (d.st = 4 ∨ d.err ≠ 0)) (c : UInt8) : (stepD d c).1.size = d.size + ((stepD d c).2.length : Int) := by
  unfold stepD
  split
  · rfl
  · simp only [List.length_nil]
    unfold takeD
    split
    · unfold wholeD
      split
      · unfold sizedD
        split
        · simp
        · split
          · simp
          · split <;> simp
      · split
        · simp
        · split <;> simp
    · split
      · simp
      · split
        · simp
        · split <;> simp
theorem run_size (d : Dec) (s : List UInt8) : (runD d s).2.2.size = d.size + ((runD d s).1.length : Int) := by
  induction s generalizing d with
  | nil => simp [runD]
  | cons c s ih =>
    by_cases h : d.st = 4 ∨ d.err ≠ 0
    · rw [runD_stop h]; simp
    · rw [runD_cons h]
      simp only
      rw [ih, stepD_size h, List.length_append]
      omega
theorem host_ne {l : List UInt8} {h : List UInt8} {p : Int} (e : authB l = some (h, p)) : h ≠ [] := by
  have key : ∀ x, hostB x ≠ false → x ≠ [] := fun x hx he => by subst he; exact hx (by decide)
  unfold authB at e
  split at e
  · cases e
  rename_i h1
  split at e
  · injection e with e; injection e with e _; rw [← e]; exact key _ h1
  split at e
  · injection e with e; injection e with e _; rw [← e]; exact key _ h1
  · cases e
theorem local_form {t : Tg} {s : List UInt8} (h : (localT t s).2 = 0) : (localT t s).1.form = t.form ∧ (localT t s).1.host = t.host := by
  unfold localT at h ⊢
  split
  · rename_i h1
    rw [h1] at h
    exact absurd h (by simp)
  · rename_i p h1
    rw [h1] at h
    simp only at h
    split
    · rename_i h2
      rw [if_pos h2] at h
      exact absurd h (by decide)
    · exact ⟨rfl, rfl⟩
theorem parse_host {m s : List UInt8} (h : (parseT m s).2 = 0) (hf : (parseT m s).1.form = 2 ∨ (parseT m s).1.form = 3) : (parseT m s).1.host ≠ [] := by
  unfold parseT at h hf ⊢
  split
  · rename_i h1
    rw [if_pos h1] at h hf
    split
    · rename_i h2
      rw [h2] at h
      exact absurd h (by decide)
    · rename_i x p h2
      rw [h2] at h
      simp only at h
      split
      · rename_i h3
        rw [if_pos h3] at h
        exact absurd h (by decide)
      · exact host_ne h2
  · rename_i h1
    rw [if_neg h1] at h hf
    split
    · rename_i h2
      rw [if_pos h2] at h hf
      revert hf
      decide
    · rename_i h2
      rw [if_neg h2] at h hf
      split
      · rename_i h3
        rw [if_pos h3] at h hf
        rw [(local_form h).1] at hf
        simp only at hf
        omega
      · rename_i h3
        rw [if_neg h3] at h hf
        split
        · rename_i h4
          rw [if_pos h4] at h hf
          unfold absT at h hf ⊢
          split
          · rename_i h5
            rw [h5] at h
            exact absurd h (by simp)
          · rename_i x p h5
            rw [h5] at h hf
            simp only at h hf
            rw [(local_form h).2]
            exact host_ne h5
        · rename_i h4
          rw [if_neg h4] at h
          exact absurd h (by decide)
/-- What a request that was told is. -/
structure WholeQ (m : Int) (q : Rq) : Prop where
  req : (reqF q.head.minor q.head.fields m).2.2 = 0
  sized : q.sized = decide ((reqF q.head.minor q.head.fields m).1 ≠ 1)
  two : (reqF q.head.minor q.head.fields m).1 = 2 → (q.body.length : Int) = (reqF q.head.minor q.head.fields m).2.1
  one : (reqF q.head.minor q.head.fields m).1 = 1 → q.body = []
  most : ¬ (m < (q.body.length : Int) ∧ 0 < (q.body.length : Int))
  host : q.head.minor ≠ 0 → q.host ≠ []
  exp : (getF q.head.fields expectN).2 = 0
  upg : q.upg ≠ [] → q.sized = false ∧ q.head.method = getW
theorem begin_whole {m : Int} {b : List UInt8} {q : Rq} {k l : Int} {n : Nat} {e : Int} (h : beginL m b = (some (q, k, l, n), e)) :
    reqF q.head.minor q.head.fields m = (k, l, 0) ∧ q.sized = decide (k ≠ 1) ∧ q.body = [] ∧ (q.head.minor ≠ 0 → q.host ≠ []) ∧ (getF q.head.fields expectN).2 = 0 ∧ (q.upg ≠ [] → q.sized = false ∧ q.head.method = getW) := by
  obtain ⟨p1, p2, p3, p4, p5, p6, p7⟩ := begin_pos h
  rw [← p7] at p5
  refine ⟨p5, ?_⟩
  unfold beginL at h
  rw [if_neg (fun e => e p1), if_neg p2] at h
  split at h
  · cases h
  rename_i h3
  have h3 := Decidable.byContradiction h3
  split at h
  · cases h
  rename_i hn ho h4
  split at h
  · cases h
  rename_i h5
  split at h
  · cases h
  split at h
  · cases h
  injection h with h6 _
  injection h6 with h6
  injection h6 with h6 h7
  injection h7 with h7 h8
  injection h8 with h8 h9
  subst h6
  refine ⟨by rw [h7], rfl, fun hm => ?_, by show (getF (readL true startL b).1.fields expectN).2 = 0; omega, fun hu => ?_⟩
  · simp only at hm ⊢
    unfold hostL at h4
    split at h4
    · cases h4
    rename_i g1
    split at h4
    · cases h4
    rename_i g2
    split at h4
    · rename_i g3
      injection h4 with h4
      injection h4 with h4 _
      rw [← h4]
      exact parse_host h3 g3
    · split at h4
      · rename_i g4
        exact absurd (.inr ⟨g4, hm⟩) g1
      · exact host_ne h4
  · simp only at hu ⊢
    unfold upgradeL at hu
    split at hu
    · rename_i g
      exact ⟨by rw [g.2.2.1]; decide, g.1⟩
    · exact absurd rfl hu
theorem doc_whole {m : Int} (hm : -9223372036854775808 ≤ m ∧ m ≤ 9223372036854775807) {s : List UInt8} {q : Rq} {n : Nat} {e : Int} (h : docR m s = (some (q, n), e)) : WholeQ m q := by
  obtain ⟨y, hy⟩ : ∃ y, beginL m s = y := ⟨_, rfl⟩
  obtain ⟨_ | ⟨q', k, l, n'⟩, e'⟩ := y
  · unfold docR at h; rw [hy] at h; cases h
  · have hw := begin_whole hy
    have hl := begin_len hy
    have hk := begin_kind hy
    simp only at hl hk
    unfold docR at h
    rw [hy] at h
    simp only at h
    obtain ⟨w1, w2, w3, w4, w5, w6⟩ := hw
    by_cases k1 : k = 1
    · rw [if_pos k1] at h; injection h with h1 h2; injection h1 with h1; injection h1 with h1 _
      subst h1
      exact ⟨by rw [w1], by rw [w1]; exact w2, fun e => by rw [w1] at e; simp only at e; omega, fun _ => w3, fun e => by rw [w3] at e; exact absurd e.2 (by decide), w4, w5, w6⟩
    rw [if_neg k1] at h
    by_cases k2 : k = 2
    · rw [if_pos k2] at h
      split at h
      · cases h
      · rename_i hs
        injection h with h1 h2; injection h1 with h1; injection h1 with h1 _
        subst h1
        have hb : (((s.drop n').take l.toNat).length : Int) = l := by rw [List.length_take, List.length_drop]; omega
        refine ⟨by rw [w1], by rw [w1]; exact w2, fun e => by rw [w1]; exact hb, fun e => by rw [w1] at e; exact absurd e k1, fun e => ?_, w4, w5, w6⟩
        have e1 : m < (((s.drop n').take l.toNat).length : Int) := e.1
        rw [hb] at e1
        omega
    · rw [if_neg k2] at h
      split at h
      · cases h
      · split at h
        · injection h with h1 h2; injection h1 with h1; injection h1 with h1 _
          subst h1
          refine ⟨by rw [w1], by rw [w1]; exact w2, fun e => by rw [w1] at e; exact absurd e k2, fun e => by rw [w1] at e; exact absurd e k1, fun e => ?_, w4, w5, w6⟩
          have hr := run_size { most := m } (s.drop n')
          have ho := (ok_run (dec_new m hm.1 hm.2) (s.drop n')).size
          have ho2 := (ok_run (dec_new m hm.1 hm.2) (s.drop n')).left
          rw [run_most] at ho
          have e1 : m < ((runD { most := m } (s.drop n')).1.length : Int) := e.1
          have e2 : 0 < ((runD { most := m } (s.drop n')).1.length : Int) := e.2
          simp only at hr ho
          omega
        · cases h
theorem docs_mem (m : Int) : ∀ (k : Nat) (s : List UInt8), s.length < k → ∀ q ∈ (docs m s).1, ∃ s' n e, docR m s' = (some (q, n), e) := by
  intro k
  induction k with
  | zero => intro s h; omega
  | succ k ih =>
    intro s h1 q hq
    obtain ⟨x, hx⟩ : ∃ x, docR m s = x := ⟨_, rfl⟩
    obtain ⟨_ | ⟨q', n⟩, e⟩ := x
    · rw [docs_end hx] at hq; cases hq
    · have hl := doc_len hx
      rw [docs_step hx] at hq
      rcases List.mem_cons.1 hq with rfl | hq
      · exact ⟨s, n, e, hx⟩
      · exact ih (s.drop n) (by rw [List.length_drop]; omega) q hq
theorem docs_whole {m : Int} (hm : -9223372036854775808 ≤ m ∧ m ≤ 9223372036854775807) {s : List UInt8} {q : Rq} (hq : q ∈ (docs m s).1) : WholeQ m q := by
  obtain ⟨s', n, e, h⟩ := docs_mem m _ s (Nat.lt_succ_self _) q hq
  exact doc_whole hm h
end Go.Proofs.YtgmjkkiahanekaaGreatDoor

