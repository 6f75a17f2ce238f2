/- The texts OutA, OutP, OutQ in one. -/
import Derived.Test.YtgmjkkiahanekaaDoorM3
import Derived.Test.YtgmjkkiahanekaaDoorM6
/- Plain words of layer 12: the reader of a response as a machine over lists of bytes; no program in sight. -/
set_option linter.unusedVariables false
set_option linter.unusedSimpArgs false
namespace Go.Proofs.YtgmjkkiahanekaaDoor
open Lex

structure Rd where
  method : List UInt8
  buf : List UInt8 := []
  closed : Bool := false
  mode : Nat := 0
  head : Bool := false
  keep : Bool := false
  kind : Int := 0
  len : Int := 0
  left : Int := 0
  dec : Dec := { most := 1099511627776 }
  over : Bool := false
  ended : Bool := false
  err : Int := 0
structure Pc where
  kind : Int := 0
  head : Hd := {}
  data : List UInt8 := []

/-- The response's head, how its body is framed; the error; the bytes behind what was used. -/
def headsR (me : List UInt8) : Nat → List UInt8 → Option (Hd × Int × Int) × Int × List UInt8
  | 0, b => (none, 0, b)
  | k + 1, b =>
    if (readAt statusL b).2.2 ≠ 0 ∨ (readAt statusL b).2.1 = 0 then (none, (readAt statusL b).2.2, b)
    else if (respF me (readAt statusL b).1.status (readAt statusL b).1.minor (readAt statusL b).1.fields).2.2 ≠ 0 then (none, (respF me (readAt statusL b).1.status (readAt statusL b).1.minor (readAt statusL b).1.fields).2.2, b)
    else if (readAt statusL b).1.status < 200 ∧ (readAt statusL b).1.status ≠ 101 then headsR me k (b.drop (readAt statusL b).2.1)
    else (some ((readAt statusL b).1, (respF me (readAt statusL b).1.status (readAt statusL b).1.minor (readAt statusL b).1.fields).1, (respF me (readAt statusL b).1.status (readAt statusL b).1.minor (readAt statusL b).1.fields).2.1), 0, b.drop (readAt statusL b).2.1)
/-- The reader behind its head. -/
def headed (r : Rd) (h : Hd) (k l : Int) (b : List UInt8) : Rd :=
  { r with buf := b, head := true, kind := k, len := l, keep := keepF h.minor h.fields, mode := if k = 2 then 1 else if k = 3 then 2 else if k = 4 then 3 else 4, left := if k = 2 then l else r.left, dec := if k = 3 then { most := 1099511627776 } else r.dec }
def finishR (r : Rd) : Pc × Bool × Int × Rd := ({ kind := 3 }, true, 0, { r with ended := true })
def startR (r : Rd) : Pc × Bool × Int × Rd :=
  match headsR r.method (r.buf.length + 1) r.buf with
  | (none, e, b) => ({}, false, e, { r with buf := b })
  | (some (h, k, l), _, b) => ({ kind := 1, head := h }, true, 0, headed r h k l b)
def takeR (r : Rd) (n : Nat) : Pc × Bool × Int × Rd := ({ kind := 2, data := r.buf.take n }, true, 0, { r with buf := r.buf.drop n })
def sizedR (r : Rd) : Pc × Bool × Int × Rd :=
  if 0 < min r.left r.buf.length then takeR { r with left := r.left - min r.left r.buf.length } (min r.left r.buf.length).toNat
  else if r.left = 0 then finishR r
  else ({}, false, 0, r)
def chunkedR (r : Rd) : Pc × Bool × Int × Rd :=
  if r.over = true then finishR r
  else if (runD r.dec r.buf).2.2.err ≠ 0 then ({}, false, (runD r.dec r.buf).2.2.err, { r with dec := (runD r.dec r.buf).2.2 })
  else if (runD r.dec r.buf).1 ≠ [] then ({ kind := 2, data := (runD r.dec r.buf).1 }, true, 0, { r with buf := r.buf.drop (runD r.dec r.buf).2.1, dec := (runD r.dec r.buf).2.2, over := decide ((runD r.dec r.buf).2.2.st = 4) })
  else if (runD r.dec r.buf).2.2.st = 4 then finishR { r with buf := r.buf.drop (runD r.dec r.buf).2.1, dec := (runD r.dec r.buf).2.2, over := true }
  else ({}, false, 0, { r with buf := r.buf.drop (runD r.dec r.buf).2.1, dec := (runD r.dec r.buf).2.2, over := false })
def restR (r : Rd) : Pc × Bool × Int × Rd :=
  if r.buf ≠ [] then takeR r r.buf.length
  else if r.closed = true then finishR r
  else ({}, false, 0, r)
def bodyR (r : Rd) : Pc × Bool × Int × Rd :=
  if r.mode = 0 then startR r else if r.mode = 1 then sizedR r else if r.mode = 2 then chunkedR r else if r.mode = 3 then restR r else finishR r
/-- The error that Next tells. -/
def shortE (r : Rd) (ok : Bool) (e : Int) : Int := if e = 0 ∧ ok = false ∧ r.closed = true then 121 else e
def nextR (r : Rd) : Pc × Bool × Int × Rd :=
  if r.ended = true ∨ r.err ≠ 0 then ({}, false, r.err, r)
  else ((bodyR r).1, (bodyR r).2.1, shortE r (bodyR r).2.1 (bodyR r).2.2.1, { (bodyR r).2.2.2 with err := shortE r (bodyR r).2.1 (bodyR r).2.2.1 })
def feedR (r : Rd) (s : List UInt8) : Rd := if r.closed = true then r else { r with buf := r.buf ++ s }

/-- What every reader keeps that began at New; N: no more bytes. -/
structure Rd.Ok (r : Rd) : Prop where
  dec : r.dec.Ok
  most : r.dec.most = 1099511627776
  live : r.err = 0 → r.dec.err = 0
  left : 0 ≤ r.left ∧ r.left < 1000000000000000
  mode : r.mode ≤ 4
  len : 0 ≤ r.len ∧ r.len < 1000000000000000
end Go.Proofs.YtgmjkkiahanekaaDoor

/- Plain law of layer 12: whatever the pieces in which a response comes, what is told of it is the same. -/
set_option linter.unusedVariables false
set_option linter.unusedSimpArgs false
namespace Go.Proofs.YtgmjkkiahanekaaDoor
open Lex

/-- Asked until there is nothing: the status, the body, the reader. -/
def drainR : Nat → Rd → Int → List UInt8 → Int × List UInt8 × Rd
  | 0, r, st, b => (st, b, r)
  | k + 1, r, st, b => if (nextR r).2.1 = false then (st, b, (nextR r).2.2.2) else
    drainR k (nextR r).2.2.2 (if (nextR r).1.kind = 1 then (nextR r).1.head.status else st) (if (nextR r).1.kind = 2 then b ++ (nextR r).1.data else b)
/-- How often it can be asked yet before there is nothing. -/
def rankR (r : Rd) : Nat :=
  if r.ended = true ∨ r.err ≠ 0 then 0
  else if r.mode = 0 then 3
  else if r.mode = 1 then (if r.left = 0 ∨ r.buf = [] then 1 else 2)
  else if r.mode = 2 then (if r.over = true ∨ r.buf = [] then 1 else 2)
  else if r.mode = 3 then (if r.buf = [] then 1 else 2)
  else 1
theorem rank_le (r : Rd) : rankR r ≤ 3 := by unfold rankR; repeat' (first | decide | split)
theorem rank_pos {r : Rd} (h : ¬ (r.ended = true ∨ r.err ≠ 0)) : 1 ≤ rankR r := by unfold rankR; rw [if_neg h]; repeat' (first | decide | split)
theorem rank_body {r : Rd} (h : r.mode ≠ 0) : rankR r ≤ 2 := by unfold rankR; rw [if_neg h]; repeat' (first | decide | split)
theorem rank_idle {r : Rd} (h : r.ended = true ∨ r.err ≠ 0) : rankR r = 0 := by unfold rankR; rw [if_pos h]
theorem runD_nil (d : Dec) : runD d [] = ([], 0, d) := rfl

theorem next_idle {r : Rd} (h : r.ended = true ∨ r.err ≠ 0) : nextR r = ({}, false, r.err, r) := by unfold nextR; rw [if_pos h]
theorem next_live {r : Rd} (h : ¬ (r.ended = true ∨ r.err ≠ 0)) : nextR r = ((bodyR r).1, (bodyR r).2.1, shortE r (bodyR r).2.1 (bodyR r).2.2.1, { (bodyR r).2.2.2 with err := shortE r (bodyR r).2.1 (bodyR r).2.2.1 }) := by unfold nextR; rw [if_neg h]
theorem short_ok (r : Rd) (e : Int) : shortE r true e = e := by unfold shortE; rw [if_neg (by simp)]
theorem short_err (r : Rd) {e : Int} (ok : Bool) (h : e ≠ 0) : shortE r ok e = e := by unfold shortE; rw [if_neg (fun x => h x.1)]

def endR (r : Rd) : Rd := { r with ended := true }
def shortR (r : Rd) : Rd := { r with err := if r.closed = true then 121 else 0 }
theorem short_none (r : Rd) : shortE r false 0 = if r.closed = true then 121 else 0 := by unfold shortE; split <;> rename_i h <;> split <;> simp_all

/-! ### one piece, by the way that is gone -/
theorem next_1 {r : Rd} (h : ¬ (r.ended = true ∨ r.err ≠ 0)) (hm : r.mode = 1) {n : Nat} (hn : min r.left r.buf.length = (n : Int)) (h0 : 0 < n) :
    nextR r = ({ kind := 2, data := r.buf.take n }, true, 0, { r with left := r.left - n, buf := r.buf.drop n }) := by
  have he : r.err = 0 := Decidable.not_not.1 fun x => h (.inr x)
  rw [next_live h]
  unfold bodyR sizedR takeR
  rw [if_neg (by rw [hm]; decide), if_pos hm, hn, if_pos (by omega)]
  simp only [short_ok, Int.toNat_natCast, he]
theorem next_1e {r : Rd} (h : ¬ (r.ended = true ∨ r.err ≠ 0)) (hm : r.mode = 1) (hn : ¬ 0 < min r.left r.buf.length) (h0 : r.left = 0) : nextR r = ({ kind := 3 }, true, 0, endR r) := by
  have he : r.err = 0 := Decidable.not_not.1 fun x => h (.inr x)
  rw [next_live h]
  unfold bodyR sizedR finishR endR
  rw [if_neg (by rw [hm]; decide), if_pos hm, if_neg hn, if_pos h0]
  simp only [short_ok, he]
theorem next_1n {r : Rd} (h : ¬ (r.ended = true ∨ r.err ≠ 0)) (hm : r.mode = 1) (hn : ¬ 0 < min r.left r.buf.length) (h0 : r.left ≠ 0) : nextR r = ({}, false, (shortR r).err, shortR r) := by
  rw [next_live h]
  unfold bodyR sizedR shortR
  rw [if_neg (by rw [hm]; decide), if_pos hm, if_neg hn, if_neg h0]
  simp only [short_none]
theorem next_2o {r : Rd} (h : ¬ (r.ended = true ∨ r.err ≠ 0)) (hm : r.mode = 2) (ho : r.over = true) : nextR r = ({ kind := 3 }, true, 0, endR r) := by
  have he : r.err = 0 := Decidable.not_not.1 fun x => h (.inr x)
  rw [next_live h]
  unfold bodyR chunkedR finishR endR
  rw [if_neg (by rw [hm]; decide), if_neg (by rw [hm]; decide), if_pos hm, if_pos ho]
  simp only [short_ok, he]
theorem next_2b {r : Rd} (h : ¬ (r.ended = true ∨ r.err ≠ 0)) (hm : r.mode = 2) (ho : ¬ r.over = true) {o : List UInt8} {n : Nat} {d : Dec} (hr : runD r.dec r.buf = (o, n, d)) (hd : d.err ≠ 0) : nextR r = ({}, false, d.err, { r with dec := d, err := d.err }) := by
  rw [next_live h]
  unfold bodyR chunkedR
  rw [if_neg (by rw [hm]; decide), if_neg (by rw [hm]; decide), if_pos hm, if_neg ho, hr, if_pos hd]
  simp only [short_err _ _ hd]
theorem next_2d {r : Rd} (h : ¬ (r.ended = true ∨ r.err ≠ 0)) (hm : r.mode = 2) (ho : ¬ r.over = true) {o : List UInt8} {n : Nat} {d : Dec} (hr : runD r.dec r.buf = (o, n, d)) (hd : d.err = 0) (h0 : o ≠ []) :
    nextR r = ({ kind := 2, data := o }, true, 0, { r with buf := r.buf.drop n, dec := d, over := decide (d.st = 4) }) := by
  have he : r.err = 0 := Decidable.not_not.1 fun x => h (.inr x)
  rw [next_live h]
  unfold bodyR chunkedR
  rw [if_neg (by rw [hm]; decide), if_neg (by rw [hm]; decide), if_pos hm, if_neg ho, hr, if_neg (fun x => x hd), if_pos h0]
  simp only [short_ok, he]
theorem next_2e {r : Rd} (h : ¬ (r.ended = true ∨ r.err ≠ 0)) (hm : r.mode = 2) (ho : ¬ r.over = true) {n : Nat} {d : Dec} (hr : runD r.dec r.buf = ([], n, d)) (hd : d.err = 0) (h4 : d.st = 4) :
    nextR r = ({ kind := 3 }, true, 0, endR { r with buf := r.buf.drop n, dec := d, over := true }) := by
  have he : r.err = 0 := Decidable.not_not.1 fun x => h (.inr x)
  rw [next_live h]
  unfold bodyR chunkedR finishR endR
  rw [if_neg (by rw [hm]; decide), if_neg (by rw [hm]; decide), if_pos hm, if_neg ho, hr, if_neg (fun x => x hd), if_neg (fun x => x rfl), if_pos h4]
  simp only [short_ok, he]
theorem next_2n {r : Rd} (h : ¬ (r.ended = true ∨ r.err ≠ 0)) (hm : r.mode = 2) (ho : ¬ r.over = true) {n : Nat} {d : Dec} (hr : runD r.dec r.buf = ([], n, d)) (hd : d.err = 0) (h4 : d.st ≠ 4) :
    nextR r = ({}, false, (shortR { r with buf := r.buf.drop n, dec := d, over := false }).err, shortR { r with buf := r.buf.drop n, dec := d, over := false }) := by
  rw [next_live h]
  unfold bodyR chunkedR shortR
  rw [if_neg (by rw [hm]; decide), if_neg (by rw [hm]; decide), if_pos hm, if_neg ho, hr, if_neg (fun x => x hd), if_neg (fun x => x rfl), if_neg h4]
  simp only [short_none]
theorem next_3d {r : Rd} (h : ¬ (r.ended = true ∨ r.err ≠ 0)) (hm : r.mode = 3) (h0 : r.buf ≠ []) : nextR r = ({ kind := 2, data := r.buf }, true, 0, { r with buf := [] }) := by
  have he : r.err = 0 := Decidable.not_not.1 fun x => h (.inr x)
  rw [next_live h]
  unfold bodyR restR takeR
  rw [if_neg (by rw [hm]; decide), if_neg (by rw [hm]; decide), if_neg (by rw [hm]; decide), if_pos hm, if_pos h0]
  simp only [short_ok, he, List.take_length, List.drop_length]
theorem next_3e {r : Rd} (h : ¬ (r.ended = true ∨ r.err ≠ 0)) (hm : r.mode = 3) (h0 : r.buf = []) (hc : r.closed = true) : nextR r = ({ kind := 3 }, true, 0, endR r) := by
  have he : r.err = 0 := Decidable.not_not.1 fun x => h (.inr x)
  rw [next_live h]
  unfold bodyR restR finishR endR
  rw [if_neg (by rw [hm]; decide), if_neg (by rw [hm]; decide), if_neg (by rw [hm]; decide), if_pos hm, if_neg (fun x => x h0), if_pos hc]
  simp only [short_ok, he]
theorem next_3n {r : Rd} (h : ¬ (r.ended = true ∨ r.err ≠ 0)) (hm : r.mode = 3) (h0 : r.buf = []) (hc : ¬ r.closed = true) : nextR r = ({}, false, 0, r) := by
  have he : r.err = 0 := Decidable.not_not.1 fun x => h (.inr x)
  rw [next_live h]
  unfold bodyR restR
  rw [if_neg (by rw [hm]; decide), if_neg (by rw [hm]; decide), if_neg (by rw [hm]; decide), if_pos hm, if_neg (fun x => x h0), if_neg hc]
  simp only [short_none, if_neg hc]
  obtain ⟨a1, a2, a3, a4, a5, a6, a7, a8, a9, a10, a11, a12, a13⟩ := r
  simp only at he
  rw [he]
theorem next_4 {r : Rd} (h : ¬ (r.ended = true ∨ r.err ≠ 0)) (hm : r.mode = 4) : nextR r = ({ kind := 3 }, true, 0, endR r) := by
  have he : r.err = 0 := Decidable.not_not.1 fun x => h (.inr x)
  rw [next_live h]
  unfold bodyR finishR endR
  rw [if_neg (by rw [hm]; decide), if_neg (by rw [hm]; decide), if_neg (by rw [hm]; decide), if_neg (by rw [hm]; decide)]
  simp only [short_ok, he]
theorem next_0n {r : Rd} (h : ¬ (r.ended = true ∨ r.err ≠ 0)) (hm : r.mode = 0) {e : Int} {b : List UInt8} (hr : headsR r.method (r.buf.length + 1) r.buf = (none, e, b)) :
    nextR r = ({}, false, (if e = 0 then (if r.closed = true then 121 else 0) else e), { r with buf := b, err := if e = 0 then (if r.closed = true then 121 else 0) else e }) := by
  rw [next_live h]
  unfold bodyR startR
  rw [if_pos hm, hr]
  by_cases he : e = 0
  · subst he; simp only [short_none, if_true]
  · simp only [short_err _ _ he, if_neg he]
theorem next_0h {r : Rd} (h : ¬ (r.ended = true ∨ r.err ≠ 0)) (hm : r.mode = 0) {hd : Hd} {k l e : Int} {b : List UInt8} (hr : headsR r.method (r.buf.length + 1) r.buf = (some (hd, k, l), e, b)) :
    nextR r = ({ kind := 1, head := hd }, true, 0, headed r hd k l b) := by
  have he : r.err = 0 := Decidable.not_not.1 fun x => h (.inr x)
  rw [next_live h]
  unfold bodyR startR
  rw [if_pos hm, hr]
  simp only [short_ok, headed, he]

theorem drain_no {r r' : Rd} {p : Pc} {e : Int} (h : nextR r = (p, false, e, r')) (k : Nat) (st : Int) (b : List UInt8) : drainR (k + 1) r st b = (st, b, r') := by
  unfold drainR; rw [h, if_pos rfl]
theorem drain_yes {r r' : Rd} {p : Pc} {e : Int} (h : nextR r = (p, true, e, r')) (k : Nat) (st : Int) (b : List UInt8) :
    drainR (k + 1) r st b = drainR k r' (if p.kind = 1 then p.head.status else st) (if p.kind = 2 then b ++ p.data else b) := by
  conv => lhs; unfold drainR
  rw [h, if_neg (by simp)]
theorem drain_end {r : Rd} (h : nextR r = ({ kind := 3 }, true, 0, endR r)) (k : Nat) (st : Int) (b : List UInt8) : drainR (k + 2) r st b = (st, b, endR r) := by
  rw [drain_yes h, drain_no (next_idle (.inl rfl))]; rfl
theorem drain_end' {r r' : Rd} (h : nextR r = ({ kind := 3 }, true, 0, endR r')) (k : Nat) (st : Int) (b : List UInt8) : drainR (k + 2) r st b = (st, b, endR r') := by
  rw [drain_yes h, drain_no (next_idle (.inl rfl))]; rfl

/-! ### the whole of a body's phase -/
def bodyAll (r : Rd) : List UInt8 × Rd :=
  if r.mode = 1 then
    (r.buf.take (min r.left r.buf.length).toNat,
      if r.left - min r.left r.buf.length = 0 then endR { r with left := r.left - min r.left r.buf.length, buf := r.buf.drop (min r.left r.buf.length).toNat }
      else shortR { r with left := r.left - min r.left r.buf.length, buf := r.buf.drop (min r.left r.buf.length).toNat })
  else if r.mode = 2 then
    (if r.over = true then ([], endR r)
    else if (runD r.dec r.buf).2.2.err ≠ 0 then ([], { r with dec := (runD r.dec r.buf).2.2, err := (runD r.dec r.buf).2.2.err })
    else ((runD r.dec r.buf).1, if (runD r.dec r.buf).2.2.st = 4 then endR { r with buf := r.buf.drop (runD r.dec r.buf).2.1, dec := (runD r.dec r.buf).2.2, over := true }
      else shortR { r with buf := r.buf.drop (runD r.dec r.buf).2.1, dec := (runD r.dec r.buf).2.2, over := false }))
  else if r.mode = 3 then (r.buf, if r.closed = true then endR { r with buf := [] } else { r with buf := [] })
  else ([], endR r)
theorem live_of {r : Rd} (h1 : r.ended = false) (h2 : r.err = 0) : ¬ (r.ended = true ∨ r.err ≠ 0) := by rw [h1, h2]; simp
theorem drain_body (r : Rd) (hok : r.Ok) (hm : 1 ≤ r.mode) (h : ¬ (r.ended = true ∨ r.err ≠ 0)) (k : Nat) (st : Int) (b : List UInt8) : drainR (k + 3) r st b = (st, b ++ (bodyAll r).1, (bodyAll r).2) := by
  have he : r.err = 0 := Decidable.not_not.1 fun x => h (.inr x)
  have hen : r.ended = false := by cases hr : r.ended with | false => rfl | true => exact absurd (.inl hr) h
  have h4 := hok.mode
  rcases (by omega : r.mode = 1 ∨ r.mode = 2 ∨ r.mode = 3 ∨ r.mode = 4) with m | m | m | m
  · unfold bodyAll
    rw [if_pos m]
    have hl := hok.left.1
    obtain ⟨n, hn⟩ : ∃ n : Nat, min r.left r.buf.length = (n : Int) := ⟨(min r.left r.buf.length).toNat, by omega⟩
    rw [hn, Int.toNat_natCast]
    by_cases h0 : 0 < n
    · rw [drain_yes (next_1 h m hn h0)]
      simp only [if_true]
      rw [if_neg (by decide)]
      generalize hr1 : ({ r with left := r.left - n, buf := r.buf.drop n } : Rd) = r1
      have l1 : r1.left = r.left - n := by rw [← hr1]
      have b1 : r1.buf = r.buf.drop n := by rw [← hr1]
      have m1 : r1.mode = 1 := by rw [← hr1]; exact m
      have a1 : ¬ (r1.ended = true ∨ r1.err ≠ 0) := live_of (by rw [← hr1]; exact hen) (by rw [← hr1]; exact he)
      have z1 : ¬ 0 < min r1.left r1.buf.length := by rw [l1, b1, List.length_drop]; omega
      by_cases e0 : r.left - n = 0
      · rw [if_pos e0, drain_end (next_1e a1 m1 z1 (by rw [l1]; exact e0))]
      · rw [if_neg e0, drain_no (next_1n a1 m1 z1 (by rw [l1]; exact e0))]
    · have n0 : n = 0 := by omega
      subst n0
      have z1 : ¬ 0 < min r.left r.buf.length := by omega
      have hr1 : ({ r with left := r.left - ((0 : Nat) : Int), buf := r.buf.drop 0 } : Rd) = r := by simp
      rw [hr1]
      simp only [List.take_zero, List.append_nil]
      by_cases e0 : r.left = 0
      · rw [if_pos (by omega), drain_end (next_1e h m z1 e0)]
      · rw [if_neg (by omega), drain_no (next_1n h m z1 e0)]
  · unfold bodyAll
    rw [if_neg (by omega), if_pos m]
    by_cases ho : r.over = true
    · rw [if_pos ho, drain_end (next_2o h m ho)]; simp
    · rw [if_neg ho]
      obtain ⟨o, n, d, hr⟩ : ∃ o n d, runD r.dec r.buf = (o, n, d) := ⟨_, _, _, rfl⟩
      rw [hr]
      simp only
      by_cases hd : d.err = 0
      · rw [if_neg (fun x => x hd)]
        by_cases h0 : o = []
        · subst h0
          by_cases s4 : d.st = 4
          · rw [if_pos s4, drain_end' (next_2e h m ho hr hd s4)]; simp
          · rw [if_neg s4, drain_no (next_2n h m ho hr hd s4)]; simp
        · rw [drain_yes (next_2d h m ho hr hd h0)]
          simp only [if_true]
          rw [if_neg (by decide)]
          by_cases s4 : d.st = 4
          · rw [decide_eq_true s4, if_pos s4, drain_end (next_2o (r := { r with buf := r.buf.drop n, dec := d, over := true }) (live_of hen he) m rfl)]
          · rw [decide_eq_false s4, if_neg s4]
            have hall : n = r.buf.length := by
              have := runD_all (d := r.dec) (s := r.buf) (by rw [hr]; simp [s4, hd])
              rw [hr] at this; exact this
            have hb : r.buf.drop n = [] := by rw [hall]; simp
            rw [hb]
            rw [drain_no (next_2n (r := { r with buf := [], dec := d, over := false }) (live_of hen he) m (by simp) (runD_nil d) hd s4)]
            simp
      · rw [if_pos hd, drain_no (next_2b h m ho hr hd)]; simp
  · unfold bodyAll
    rw [if_neg (by omega), if_neg (by omega), if_pos m]
    by_cases h0 : r.buf = []
    · have hr1 : ({ r with buf := [] } : Rd) = r := by
        obtain ⟨a1, a2, a3, a4, a5, a6, a7, a8, a9, a10, a11, a12, a13⟩ := r
        simp only at h0
        rw [h0]
      rw [hr1, h0, List.append_nil]
      by_cases hc : r.closed = true
      · rw [if_pos hc, drain_end (next_3e h m h0 hc)]
      · rw [if_neg hc, drain_no (next_3n h m h0 hc)]
    · rw [drain_yes (next_3d h m h0)]
      simp only [if_true]
      rw [if_neg (by decide)]
      by_cases hc : r.closed = true
      · rw [if_pos hc, drain_end (next_3e (r := { r with buf := [] }) (live_of hen he) m rfl hc)]
      · rw [if_neg hc, drain_no (next_3n (r := { r with buf := [] }) (live_of hen he) m rfl hc)]
  · unfold bodyAll
    rw [if_neg (by omega), if_neg (by omega), if_neg (by omega), drain_end (next_4 h m)]
    simp

/-- All that a reader tells. -/
def allR (r : Rd) : Option Int × List UInt8 × Rd :=
  if r.ended = true ∨ r.err ≠ 0 then (none, [], r)
  else if r.mode = 0 then
    match headsR r.method (r.buf.length + 1) r.buf with
    | (none, e, b) => (none, [], { r with buf := b, err := if e = 0 then (if r.closed = true then 121 else 0) else e })
    | (some (h, k, l), _, b) => (some h.status, bodyAll (headed r h k l b))
  else (none, bodyAll r)
theorem length_bound3 {fs : List Fd} {n : Int} (h : lengthF fs = some (some n)) : 0 ≤ n ∧ n < 1000000000000000 := length_bound h
theorem resp_bound (me : List UInt8) (s minor : Int) (fs : List Fd) : 0 ≤ (respF me s minor fs).2.1 ∧ (respF me s minor fs).2.1 < 1000000000000000 := by
  unfold respF
  repeat' split
  all_goals first | (refine ⟨?_, ?_⟩ <;> (show _ <;> decide)) | (rename_i n hn; exact length_bound3 hn)
theorem heads_bound {me : List UInt8} : ∀ {k : Nat} {B : List UInt8} {h : Hd} {kd l e : Int} {b : List UInt8}, headsR me k B = (some (h, kd, l), e, b) → 0 ≤ l ∧ l < 1000000000000000
  | 0, B, h, kd, l, e, b, hh => by cases hh
  | k + 1, B, h, kd, l, e, b, hh => by
    unfold headsR at hh
    split at hh
    · cases hh
    · split at hh
      · cases hh
      · split at hh
        · exact heads_bound hh
        · injection hh with hh _
          injection hh with hh
          injection hh with _ hh
          injection hh with _ hh
          rw [← hh]
          exact resp_bound _ _ _ _
theorem headed_ok {r : Rd} (hok : r.Ok) {h : Hd} {k l : Int} {b : List UInt8} (hl : 0 ≤ l ∧ l < 1000000000000000) (he : r.err = 0) : (headed r h k l b).Ok := by
  obtain ⟨o1, o2, o3, o4, o5, o6⟩ := hok
  unfold headed
  refine ⟨?_, ?_, fun _ => ?_, ?_, ?_, hl⟩
  · show Dec.Ok (if k = 3 then _ else _)
    split
    · exact dec_new _ (by decide) (by decide)
    · exact o1
  · show Dec.most (if k = 3 then _ else _) = _
    split
    · rfl
    · exact o2
  · show Dec.err (if k = 3 then _ else _) = _
    split
    · rfl
    · exact o3 he
  · show 0 ≤ (if k = 2 then l else r.left) ∧ (if k = 2 then l else r.left) < _
    split
    · exact hl
    · exact o4
  · show (if k = 2 then 1 else if k = 3 then 2 else if k = 4 then 3 else 4) ≤ 4
    repeat' (first | decide | split)
theorem headed_mode (r : Rd) (h : Hd) (k l : Int) (b : List UInt8) : 1 ≤ (headed r h k l b).mode := by
  show 1 ≤ (if k = 2 then 1 else if k = 3 then 2 else if k = 4 then 3 else 4)
  repeat' (first | decide | split)
theorem drain_all (r : Rd) (hok : r.Ok) (k : Nat) (st : Int) (b : List UInt8) : drainR (k + 4) r st b = ((allR r).1.getD st, b ++ (allR r).2.1, (allR r).2.2) := by
  by_cases h : r.ended = true ∨ r.err ≠ 0
  · unfold allR
    rw [if_pos h, drain_no (next_idle h)]; simp
  · have he : r.err = 0 := Decidable.not_not.1 fun x => h (.inr x)
    have hen : r.ended = false := by cases hr : r.ended with | false => rfl | true => exact absurd (.inl hr) h
    unfold allR
    rw [if_neg h]
    by_cases m : r.mode = 0
    · rw [if_pos m]
      cases hr : headsR r.method (r.buf.length + 1) r.buf with
      | mk x y =>
        obtain ⟨e, bb⟩ := y
        cases x with
        | none =>
          rw [drain_no (next_0n h m hr)]; simp
        | some q =>
          obtain ⟨hd, kd, l⟩ := q
          rw [drain_yes (next_0h h m hr)]
          simp only [if_true]
          rw [if_neg (by decide)]
          rw [drain_body _ (headed_ok hok (heads_bound hr) he) (headed_mode _ _ _ _ _) (live_of hen he)]
          rfl
    · rw [if_neg m, drain_body r hok (by omega) h]; rfl
end Go.Proofs.YtgmjkkiahanekaaDoor

/- Plain law of layer 12, the end: a response that comes in pieces tells what it tells at once. -/
set_option linter.unusedVariables false
set_option linter.unusedSimpArgs false
namespace Go.Proofs.YtgmjkkiahanekaaDoor
open Lex

theorem status_more {B : List UInt8} (t : List UInt8) (h : (readAt statusL B).2.2 ≠ 0 ∨ 0 < (readAt statusL B).2.1) : readAt statusL (B ++ t) = readAt statusL B := by
  have := readL_more (skip := false) (first := statusL) (d := B) t (by rw [readL_plain]; exact h)
  rw [readL_plain, readL_plain] at this
  exact this
theorem status_len (B : List UInt8) : (readAt statusL B).2.1 ≤ B.length := by
  have := readL_len (skip := false) (first := statusL) (d := B)
  rw [readL_plain] at this
  exact this
theorem heads_fuel (me : List UInt8) : ∀ (k : Nat) (B : List UInt8) (K : Nat), B.length < k → B.length < K → headsR me k B = headsR me K B
  | 0, B, K, h, _ => absurd h (Nat.not_lt_zero _)
  | k + 1, B, 0, _, h => absurd h (Nat.not_lt_zero _)
  | k + 1, B, K + 1, h1, h2 => by
    unfold headsR
    by_cases c1 : (readAt statusL B).2.2 ≠ 0 ∨ (readAt statusL B).2.1 = 0
    · rw [if_pos c1, if_pos c1]
    · rw [if_neg c1, if_neg c1]
      split
      · rfl
      · split
        · have hl := status_len B
          have hn : (readAt statusL B).2.1 ≠ 0 := fun e => c1 (.inr e)
          exact heads_fuel me k _ K (by rw [List.length_drop]; omega) (by rw [List.length_drop]; omega)
        · rfl
/-- What heads become when more comes. -/
def HeadsMore (me : List UInt8) (K : Nat) (B y : List UInt8) : Option (Hd × Int × Int) × Int × List UInt8 → Prop
  | (none, e, b) => headsR me K (B ++ y) = if e = 0 then headsR me ((b ++ y).length + 1) (b ++ y) else (none, e, b ++ y)
  | (some x, e, b) => headsR me K (B ++ y) = (some x, e, b ++ y)
theorem heads_more (me : List UInt8) (y : List UInt8) : ∀ (k : Nat) (B : List UInt8) (K : Nat), B.length < k → (B ++ y).length < K → HeadsMore me K B y (headsR me k B)
  | 0, B, K, h, _ => absurd h (Nat.not_lt_zero _)
  | k + 1, B, 0, _, h => absurd h (Nat.not_lt_zero _)
  | k + 1, B, K + 1, h1, h2 => by
    have hl := status_len B
    by_cases c1 : (readAt statusL B).2.2 ≠ 0 ∨ (readAt statusL B).2.1 = 0
    · have e1 : headsR me (k + 1) B = (none, (readAt statusL B).2.2, B) := by conv => lhs; unfold headsR; rw [if_pos c1]
      rw [e1]
      unfold HeadsMore
      simp only
      by_cases he : (readAt statusL B).2.2 = 0
      · rw [if_pos he]; exact heads_fuel me _ _ _ h2 (Nat.lt_succ_self _)
      · rw [if_neg he]
        conv => lhs; unfold headsR
        rw [status_more y (.inl he), if_pos (.inl he)]
    · have hn : (readAt statusL B).2.1 ≠ 0 := fun e => c1 (.inr e)
      have hm := status_more (B := B) y (.inr (by omega))
      have hd : (B ++ y).drop (readAt statusL B).2.1 = B.drop (readAt statusL B).2.1 ++ y := List.drop_append_of_le_length hl
      unfold headsR
      rw [if_neg c1]
      split
      · rename_i c2
        unfold HeadsMore
        simp only
        rw [if_neg c2]
        conv => lhs; unfold headsR
        rw [hm, if_neg c1, if_pos c2]
      · rename_i c2
        split
        · rename_i c3
          have ih := heads_more me y k (B.drop (readAt statusL B).2.1) K (by rw [List.length_drop]; omega) (by rw [← hd, List.length_drop]; have : (B ++ y).length = B.length + y.length := List.length_append; omega)
          have e2 : headsR me (K + 1) (B ++ y) = headsR me K (B.drop (readAt statusL B).2.1 ++ y) := by
            conv => lhs; unfold headsR
            rw [hm, if_neg c1, if_neg c2, if_pos c3, hd]
          generalize headsR me k (B.drop (readAt statusL B).2.1) = x at *
          obtain ⟨o, e, b⟩ := x
          cases o with
          | none => unfold HeadsMore at *; rw [e2]; exact ih
          | some x => unfold HeadsMore at *; rw [e2]; exact ih
        · rename_i c3
          unfold HeadsMore
          simp only
          conv => lhs; unfold headsR
          rw [hm, if_neg c1, if_neg c2, if_neg c3, hd]

theorem drop_past (l : List UInt8) {n : Nat} (h : l.length ≤ n) : l.drop n = [] := List.drop_eq_nil_of_le h
theorem feed_open {r : Rd} (h : r.closed = false) (y : List UInt8) : feedR r y = { r with buf := r.buf ++ y } := by unfold feedR; rw [if_neg (by rw [h]; simp)]
theorem all_idle {r : Rd} (h : r.ended = true ∨ r.err ≠ 0) : allR r = (none, [], r) := by unfold allR; rw [if_pos h]
theorem all_body {r : Rd} (h : ¬ (r.ended = true ∨ r.err ≠ 0)) (m : r.mode ≠ 0) : allR r = (none, bodyAll r) := by unfold allR; rw [if_neg h, if_neg m]
/-- Alike but for what an error leaves open. -/
def LikeB (a b : List UInt8 × Rd) : Prop := (a.1 = b.1 ∧ a.2 = b.2) ∨ (a.2.err ≠ 0 ∧ a.2.err = b.2.err ∧ a.2.ended = b.2.ended)
theorem body_comp {r : Rd} (hok : r.Ok) (hm : 1 ≤ r.mode) (hen : r.ended = false) (he : r.err = 0) (hc : r.closed = false) (y : List UInt8) :
    (allR (feedR (bodyAll r).2 y)).1 = none ∧ LikeB ((bodyAll r).1 ++ (allR (feedR (bodyAll r).2 y)).2.1, (allR (feedR (bodyAll r).2 y)).2.2) (bodyAll (feedR r y)) := by
  have h4 := hok.mode
  have hl := hok.left.1
  rw [feed_open hc]
  rcases (by omega : r.mode = 1 ∨ r.mode = 2 ∨ r.mode = 3 ∨ r.mode = 4) with m | m | m | m
  · have ef : bodyAll { r with buf := r.buf ++ y } = ((r.buf ++ y).take (min r.left (r.buf ++ y).length).toNat,
        if r.left - min r.left (r.buf ++ y).length = 0 then endR { r with left := r.left - min r.left (r.buf ++ y).length, buf := (r.buf ++ y).drop (min r.left (r.buf ++ y).length).toNat }
        else shortR { r with left := r.left - min r.left (r.buf ++ y).length, buf := (r.buf ++ y).drop (min r.left (r.buf ++ y).length).toNat }) := by
      unfold bodyAll; rw [if_pos m]
    have eb : bodyAll r = (r.buf.take (min r.left r.buf.length).toNat,
        if r.left - min r.left r.buf.length = 0 then endR { r with left := r.left - min r.left r.buf.length, buf := r.buf.drop (min r.left r.buf.length).toNat }
        else shortR { r with left := r.left - min r.left r.buf.length, buf := r.buf.drop (min r.left r.buf.length).toNat }) := by
      unfold bodyAll; rw [if_pos m]
    rw [ef, eb]
    simp only [List.length_append]
    by_cases c : r.left ≤ r.buf.length
    · have e1 : min r.left (r.buf.length : Int) = r.left := by omega
      have e2 : min r.left ((r.buf.length + y.length : Nat) : Int) = r.left := by omega
      rw [e1, e2, if_pos (by omega), if_pos (by omega)]
      have e3 : r.left.toNat ≤ r.buf.length := by omega
      rw [feed_open (r := endR _) (by exact hc), all_idle (.inl rfl)]
      refine ⟨rfl, .inl ⟨?_, ?_⟩⟩
      · simp only [List.append_nil]
        rw [List.take_append_of_le_length e3]
      · simp only [endR]
        rw [List.drop_append_of_le_length e3]
    · have e1 : min r.left (r.buf.length : Int) = (r.buf.length : Int) := by omega
      rw [e1, if_neg (by omega), Int.toNat_natCast, List.take_length, List.drop_length]
      have hs : ∀ q : Rd, q.closed = false → q.err = 0 → shortR q = q := fun q h1 h2 => by
        obtain ⟨a1, a2, a3, a4, a5, a6, a7, a8, a9, a10, a11, a12, a13⟩ := q
        simp only at h1 h2
        subst h1 h2
        rfl
      rw [hs _ (by exact hc) (by exact he), feed_open (by exact hc), all_body (live_of (by exact hen) (by exact he)) (by show r.mode ≠ 0; omega)]
      refine ⟨rfl, .inl ?_⟩
      simp only [List.nil_append]
      unfold bodyAll
      rw [if_pos m]
      simp only
      obtain ⟨n2, hn2⟩ : ∃ n : Nat, min (r.left - r.buf.length) (y.length : Int) = (n : Int) := ⟨(min (r.left - r.buf.length) (y.length : Int)).toNat, by omega⟩
      have e2 : min r.left ((r.buf.length + y.length : Nat) : Int) = ((r.buf.length + n2 : Nat) : Int) := by omega
      rw [hn2, e2, Int.toNat_natCast, Int.toNat_natCast]
      have e5 : r.left - ((r.buf.length + n2 : Nat) : Int) = r.left - r.buf.length - n2 := by omega
      rw [e5, List.take_append, List.take_of_length_le (l := r.buf) (by omega), List.drop_append, drop_past r.buf (by omega), List.nil_append, show r.buf.length + n2 - r.buf.length = n2 by omega]
      exact ⟨rfl, rfl⟩
  · have ef : ∀ q : Rd, q.mode = 2 → bodyAll q = (if q.over = true then ([], endR q)
        else if (runD q.dec q.buf).2.2.err ≠ 0 then ([], { q with dec := (runD q.dec q.buf).2.2, err := (runD q.dec q.buf).2.2.err })
        else ((runD q.dec q.buf).1, if (runD q.dec q.buf).2.2.st = 4 then endR { q with buf := q.buf.drop (runD q.dec q.buf).2.1, dec := (runD q.dec q.buf).2.2, over := true }
          else shortR { q with buf := q.buf.drop (runD q.dec q.buf).2.1, dec := (runD q.dec q.buf).2.2, over := false })) := by
      intro q hq; unfold bodyAll; rw [if_neg (by omega), if_pos hq]
    rw [ef { r with buf := r.buf ++ y } m, ef r m]
    simp only
    by_cases ho : r.over = true
    · rw [if_pos ho, if_pos ho, feed_open (r := endR _) (by exact hc), all_idle (.inl rfl)]
      exact ⟨rfl, .inl ⟨rfl, rfl⟩⟩
    · rw [if_neg ho, if_neg ho, runD_app]
      obtain ⟨o, n, d, hr⟩ : ∃ o n d, runD r.dec r.buf = (o, n, d) := ⟨_, _, _, rfl⟩
      have hlen := runD_len r.dec r.buf
      rw [hr] at hlen ⊢
      simp only at hlen ⊢
      by_cases hd : d.err = 0
      · rw [if_neg (fun x => x hd)]
        by_cases s4 : d.st = 4
        · rw [if_pos s4]
          simp only [if_pos (show d.st = 4 ∨ d.err ≠ 0 from .inl s4), if_neg (show ¬ d.err ≠ 0 from fun x => x hd), if_pos s4]
          rw [ feed_open (r := endR _) (by exact hc), all_idle (.inl rfl)]
          refine ⟨rfl, .inl ⟨by simp, ?_⟩⟩
          simp only [endR]
          rw [List.drop_append_of_le_length hlen]
        · rw [if_neg s4]
          simp only [if_neg (show ¬ (d.st = 4 ∨ d.err ≠ 0) by simp [s4, hd])]
          have hall : n = r.buf.length := by
            have := runD_all (d := r.dec) (s := r.buf) (by rw [hr]; simp [s4, hd])
            rw [hr] at this; exact this
          have hs : ∀ q : Rd, q.closed = false → q.err = 0 → shortR q = q := fun q h1 h2 => by
            obtain ⟨a1, a2, a3, a4, a5, a6, a7, a8, a9, a10, a11, a12, a13⟩ := q
            simp only at h1 h2
            subst h1 h2
            rfl
          rw [hs { r with buf := r.buf.drop n, dec := d, over := false } hc he, feed_open (by exact hc), all_body (live_of (by exact hen) (by exact he)) (by show r.mode ≠ 0; omega)]
          refine ⟨rfl, ?_⟩
          rw [ef _ (by exact m)]
          simp only [hall, List.drop_length, List.nil_append]
          rw [if_neg (by simp)]
          by_cases hd2 : (runD d y).2.2.err = 0
          · simp only [if_neg (show ¬ (runD d y).2.2.err ≠ 0 from fun x => x hd2)]
            rw [List.drop_append, drop_past r.buf (by omega), List.nil_append, show r.buf.length + (runD d y).2.1 - r.buf.length = (runD d y).2.1 by omega]
            exact .inl ⟨rfl, rfl⟩
          · simp only [if_pos (show (runD d y).2.2.err ≠ 0 from hd2)]
            exact .inr ⟨hd2, rfl, rfl⟩
      · rw [if_pos hd]
        simp only [if_pos (show d.st = 4 ∨ d.err ≠ 0 from .inr hd), if_pos hd]
        rw [feed_open (by exact hc), all_idle (.inr hd)]
        exact ⟨rfl, .inl ⟨rfl, rfl⟩⟩
  · have ef : ∀ q : Rd, q.mode = 3 → q.closed = false → bodyAll q = (q.buf, { q with buf := [] }) := by
      intro q hq hc; unfold bodyAll; rw [if_neg (by omega), if_neg (by omega), if_pos hq, if_neg (by rw [hc]; simp)]
    rw [ef { r with buf := r.buf ++ y } m hc, ef r m hc, feed_open (by exact hc), all_body (live_of (by exact hen) (by exact he)) (by show r.mode ≠ 0; omega), ef _ (by exact m) (by exact hc)]
    exact ⟨rfl, .inl ⟨rfl, rfl⟩⟩
  · have ef : ∀ q : Rd, q.mode = 4 → bodyAll q = ([], endR q) := by
      intro q hq; unfold bodyAll; rw [if_neg (by omega), if_neg (by omega), if_neg (by omega)]
    rw [ef { r with buf := r.buf ++ y } m, ef r m, feed_open (r := endR _) (by exact hc), all_idle (.inl rfl)]
    exact ⟨rfl, .inl ⟨rfl, rfl⟩⟩

theorem bodyAll_closed (r : Rd) : (bodyAll r).2.closed = r.closed := by
  unfold bodyAll endR shortR; repeat' (first | rfl | split)
theorem all_closed (r : Rd) : (allR r).2.2.closed = r.closed := by
  unfold allR
  split
  · rfl
  · split
    · split
      · rfl
      · exact bodyAll_closed _
    · exact bodyAll_closed _
theorem feed_closed (r : Rd) (x : List UInt8) : (feedR r x).closed = r.closed := by unfold feedR; split <;> rfl

/-- Behind a piece: the status, the body, the reader. -/
def addR (s : Int × List UInt8 × Rd) (x : List UInt8) : Int × List UInt8 × Rd := ((allR (feedR s.2.2 x)).1.getD s.1, s.2.1 ++ (allR (feedR s.2.2 x)).2.1, (allR (feedR s.2.2 x)).2.2)
def endsR (s : Int × List UInt8 × Rd) (c : Bool) : Int × List UInt8 × Rd :=
  let r := if c = true then { s.2.2 with closed := true } else s.2.2
  ((allR r).1.getD s.1, s.2.1 ++ (allR r).2.1, (allR r).2.2)
def Like (s t : Int × List UInt8 × Rd) : Prop := s.1 = t.1 ∧ LikeB s.2 t.2 ∧ s.2.2.closed = t.2.2.closed
theorem Like.refl (s : Int × List UInt8 × Rd) : Like s s := ⟨rfl, .inl ⟨rfl, rfl⟩, rfl⟩
theorem Like.trans {a b c : Int × List UInt8 × Rd} (h : Like a b) (k : Like b c) : Like a c := by
  refine ⟨h.1.trans k.1, ?_, h.2.2.trans k.2.2⟩
  rcases h.2.1 with ⟨h1, h2⟩ | ⟨h1, h2, h3⟩ <;> rcases k.2.1 with ⟨k1, k2⟩ | ⟨k1, k2, k3⟩
  · exact .inl ⟨h1.trans k1, h2.trans k2⟩
  · exact .inr ⟨by rw [h2]; exact k1, by rw [h2]; exact k2, by rw [h2]; exact k3⟩
  · exact .inr ⟨h1, by rw [h2, k2], by rw [h3, k2]⟩
  · exact .inr ⟨h1, h2.trans k2, h3.trans k3⟩
theorem Like.add {a b : Int × List UInt8 × Rd} (h : Like a b) (x : List UInt8) : Like (addR a x) (addR b x) := by
  obtain ⟨h1, h2, h3⟩ := h
  rcases h2 with ⟨k1, k2⟩ | ⟨k1, k2, k3⟩
  · have : a = b := by obtain ⟨a1, a2, a3⟩ := a; obtain ⟨b1, b2, b3⟩ := b; simp only at h1 k1 k2; subst h1 k1 k2; rfl
    rw [this]; exact .refl _
  · have ea : (feedR a.2.2 x).err = a.2.2.err := by unfold feedR; split <;> rfl
    have eb : (feedR b.2.2 x).err = b.2.2.err := by unfold feedR; split <;> rfl
    have na : (feedR a.2.2 x).ended = a.2.2.ended := by unfold feedR; split <;> rfl
    have nb : (feedR b.2.2 x).ended = b.2.2.ended := by unfold feedR; split <;> rfl
    unfold addR
    rw [all_idle (.inr (by rw [ea]; exact k1)), all_idle (.inr (by rw [eb, ← k2]; exact k1))]
    exact ⟨h1, .inr ⟨by rw [ea]; exact k1, by rw [ea, eb]; exact k2, by rw [na, nb]; exact k3⟩, by rw [feed_closed, feed_closed]; exact h3⟩
theorem Like.ends {a b : Int × List UInt8 × Rd} (h : Like a b) (c : Bool) : Like (endsR a c) (endsR b c) := by
  obtain ⟨h1, h2, h3⟩ := h
  rcases h2 with ⟨k1, k2⟩ | ⟨k1, k2, k3⟩
  · have : a = b := by obtain ⟨a1, a2, a3⟩ := a; obtain ⟨b1, b2, b3⟩ := b; simp only at h1 k1 k2; subst h1 k1 k2; rfl
    rw [this]; exact .refl _
  · unfold endsR
    cases c with
    | false => simp only [Bool.false_eq_true, if_false]; rw [all_idle (.inr k1), all_idle (.inr (by rw [← k2]; exact k1))]; exact ⟨h1, .inr ⟨k1, k2, k3⟩, h3⟩
    | true => simp only [if_true]; rw [all_idle (r := { a.2.2 with closed := true }) (.inr (by exact k1)), all_idle (r := { b.2.2 with closed := true }) (.inr (by show b.2.2.err ≠ 0; rw [← k2]; exact k1))]; exact ⟨h1, .inr ⟨k1, k2, k3⟩, rfl⟩
theorem add_add {s : Int × List UInt8 × Rd} (hok : s.2.2.Ok) (hc : s.2.2.closed = false) (x y : List UInt8) : Like (addR (addR s x) y) (addR s (x ++ y)) := by
  obtain ⟨st, b, r⟩ := s
  simp only at hok hc
  unfold addR
  simp only
  rw [feed_open hc, feed_open hc (x ++ y)]
  by_cases hi : r.ended = true ∨ r.err ≠ 0
  · rw [all_idle (r := { r with buf := r.buf ++ x }) (by exact hi), all_idle (r := { r with buf := r.buf ++ (x ++ y) }) hi]
    simp only
    rw [feed_open (r := { r with buf := r.buf ++ x }) hc, all_idle (by exact hi)]
    simp only [List.append_assoc]
    exact .refl _
  · have he : r.err = 0 := Decidable.not_not.1 fun x => hi (.inr x)
    have hen : r.ended = false := by cases hr : r.ended with | false => rfl | true => exact absurd (.inl hr) hi
    by_cases m : r.mode = 0
    · have ea : ∀ z, allR { r with buf := z } = (match headsR r.method (z.length + 1) z with
          | (none, e, b) => (none, [], { r with buf := b, err := if e = 0 then (if r.closed = true then 121 else 0) else e })
          | (some (h, k, l), _, b) => (some h.status, bodyAll (headed r h k l b))) := by
        intro z; unfold allR; rw [if_neg hi, if_pos m]; rfl
      rw [ea, ea]
      have hm := heads_more r.method y ((r.buf ++ x).length + 1) (r.buf ++ x) ((r.buf ++ (x ++ y)).length + 1) (Nat.lt_succ_self _) (by rw [List.append_assoc]; exact Nat.lt_succ_self _)
      cases hr : headsR r.method ((r.buf ++ x).length + 1) (r.buf ++ x) with
      | mk o z =>
        obtain ⟨e, bb⟩ := z
        rw [hr] at hm
        cases o with
        | none =>
          unfold HeadsMore at hm
          rw [List.append_assoc] at hm
          simp only at hm ⊢
          by_cases e0 : e = 0
          · subst e0
            rw [if_pos rfl] at hm
            rw [hm]
            simp only [if_true, if_neg (show ¬ r.closed = true by rw [hc]; simp)]
            have hr0 : ({ r with buf := bb, err := 0 } : Rd) = { r with buf := bb } := by
              obtain ⟨a1, a2, a3, a4, a5, a6, a7, a8, a9, a10, a11, a12, a13⟩ := r
              simp only at he
              subst he
              rfl
            rw [hr0, feed_open (r := { r with buf := bb }) hc]
            have := ea (bb ++ y)
            rw [this]
            simp only [Option.getD_none, List.append_nil, if_neg (show ¬ r.closed = true by rw [hc]; simp)]
            exact .refl _
          · rw [if_neg e0] at hm
            rw [hm]
            simp only [if_neg e0]
            rw [feed_open (r := { r with buf := bb, err := e }) hc, all_idle (.inr (by exact e0))]
            exact ⟨rfl, .inl ⟨by simp, rfl⟩, rfl⟩
        | some q =>
          obtain ⟨h, k, l⟩ := q
          unfold HeadsMore at hm
          rw [List.append_assoc] at hm
          simp only at hm ⊢
          rw [hm]
          simp only
          have hbc := body_comp (r := headed r h k l bb) (headed_ok hok (heads_bound hr) he) (headed_mode _ _ _ _ _) hen he hc y
          have hcl : (bodyAll (headed r h k l bb)).2.closed = false := by rw [bodyAll_closed]; exact hc
          have hfd : feedR (headed r h k l bb) y = headed r h k l (bb ++ y) := feed_open (r := headed r h k l bb) (by exact hc) y
          rw [hfd] at hbc
          obtain ⟨n1, n2⟩ := hbc
          refine ⟨by simp only [n1]; rfl, ?_, by simp only [all_closed, feed_closed, bodyAll_closed]; rfl⟩
          rcases n2 with ⟨n2, n3⟩ | n2
          · exact .inl ⟨by simp only [List.append_assoc]; exact congrArg (b ++ ·) n2, n3⟩
          · exact .inr n2
    · rw [all_body (r := { r with buf := r.buf ++ x }) hi m, all_body (r := { r with buf := r.buf ++ (x ++ y) }) hi m]
      have hbc := body_comp (r := { r with buf := r.buf ++ x }) ⟨hok.dec, hok.most, hok.live, hok.left, hok.mode, hok.len⟩ (by show 1 ≤ r.mode; omega) hen he hc y
      have hfd : feedR { r with buf := r.buf ++ x } y = { r with buf := r.buf ++ (x ++ y) } := by rw [feed_open (r := { r with buf := r.buf ++ x }) hc]; simp only [List.append_assoc]
      rw [hfd] at hbc
      obtain ⟨n1, n2⟩ := hbc
      simp only
      refine ⟨by simp only [n1]; rfl, ?_, by simp only [all_closed, feed_closed, bodyAll_closed]⟩
      rcases n2 with ⟨n2, n3⟩ | n2
      · exact .inl ⟨by simp only [List.append_assoc]; exact congrArg (b ++ ·) n2, n3⟩
      · exact .inr n2
theorem new_ok (me : List UInt8) : Rd.Ok { method := me } := ⟨dec_new _ (by decide) (by decide), rfl, fun _ => rfl, by simp, by simp, by simp⟩
def newS (me : List UInt8) : Int × List UInt8 × Rd := (0, [], { method := me })
theorem new_settled (me : List UInt8) : addR (newS me) [] = newS me := rfl
theorem fold_add (me : List UInt8) (l : List (List UInt8)) : Like (l.foldl addR (newS me)) (addR (newS me) l.flatten) := by
  refine snoc_ind (P := fun l => Like (l.foldl addR (newS me)) (addR (newS me) l.flatten)) ?_ ?_ l
  · exact .refl _
  · intro l x ih
    rw [List.foldl_append, List.flatten_append]
    simp only [List.foldl_cons, List.foldl_nil, List.flatten_cons, List.flatten_nil, List.append_nil]
    exact (ih.add x).trans (add_add (s := newS me) (new_ok me) rfl _ _)
/-- What told tells. -/
def toldR (me : List UInt8) (l : List (List UInt8)) (c : Bool) : Int × List UInt8 × Rd := endsR (l.foldl addR (newS me)) c
theorem told_pieces (me : List UInt8) (l : List (List UInt8)) (c : Bool) : Like (toldR me l c) (toldR me [l.flatten] c) := (fold_add me l).ends c
end Go.Proofs.YtgmjkkiahanekaaDoor

