/- The texts InP, InM, TxO, InO in one. -/
import Derived.Test.YtgmjkkiahanekaaGreatDoorM15
import Derived.Test.YtgmjkkiahanekaaGreatDoorM31
import Derived.Test.YtgmjkkiahanekaaGreatDoorM33
import Derived.Test.YtgmjkkiahanekaaGreatDoorM7
import Derived.Test.YtgmjkkiahanekaaGreatDoorM14
import Derived.Maps.AppendAt
import Derived.Test.YtgmjkkiahanekaaGreatDoorM32
/- The plain law of reading (layer 11): a request is read alike when more has come; the requests of bytes that come in pieces are those of all of them. -/
set_option linter.unusedVariables false
set_option linter.unusedSimpArgs false
namespace Go.Proofs.YtgmjkkiahanekaaGreatDoor
open Lex

theorem begin_live {most : Int} {b : List UInt8} {y : Option (Rq × Int × Int × Nat)} {e : Int} (h : beginL most b = (y, e)) (hy : y ≠ none ∨ e ≠ 0) : (readL true startL b).2.2 ≠ 0 ∨ (readL true startL b).2.1 ≠ 0 := by
  by_cases h1 : (readL true startL b).2.2 = 0
  · by_cases h2 : (readL true startL b).2.1 = 0
    · exfalso
      unfold beginL at h
      rw [if_neg (fun e => e h1), if_pos h2] at h
      injection h with h3 h4
      rcases hy with hy | hy
      · exact hy h3.symm
      · exact hy h4.symm
    · exact .inr h2
  · exact .inl h1
/-- What has been told stays so. -/
theorem doc_more {m : Int} {s : List UInt8} {x : Option (Rq × Nat) × Int} (t : List UInt8) (h : docR m s = x) (hx : x.1 ≠ none ∨ x.2 ≠ 0) : docR m (s ++ t) = x := by
  obtain ⟨y, hy⟩ : ∃ y, beginL m s = y := ⟨_, rfl⟩
  obtain ⟨_ | ⟨q, k, l, n⟩, e⟩ := y
  · have hd : docR m s = (none, e) := by unfold docR; rw [hy]
    have he : e ≠ 0 := by rw [← h, hd] at hx; exact hx.resolve_left (fun h => h rfl)
    have hm := (begin_more t (begin_live hy (.inr he))).trans hy
    rw [← h, hd]
    unfold docR; rw [hm]
  · have hm := (begin_more t (begin_live hy (.inl (by simp)))).trans hy
    have hl := begin_len hy
    have hk := begin_kind hy
    simp only at hl hk
    have hdr : (s ++ t).drop n = s.drop n ++ t := List.drop_append_of_le_length hl.1
    unfold docR at h ⊢
    rw [hm]
    rw [hy] at h
    simp only at h ⊢
    rw [hdr]
    by_cases k1 : k = 1
    · rw [if_pos k1] at h ⊢; exact h
    rw [if_neg k1] at h ⊢
    by_cases k2 : k = 2
    · rw [if_pos k2] at h ⊢
      by_cases hs : (s.length : Int) - (n : Int) < l
      · rw [if_pos hs] at h; subst h; simp at hx
      · rw [if_neg hs] at h
        have hlen : l.toNat ≤ (s.drop n).length := by rw [List.length_drop]; omega
        rw [if_neg (by rw [List.length_append]; omega), List.take_append_of_le_length hlen]
        exact h
    · rw [if_neg k2] at h ⊢
      rw [runD_app]
      by_cases hst : (runD { most := m } (s.drop n)).2.2.st = 4 ∨ (runD { most := m } (s.drop n)).2.2.err ≠ 0
      · rw [if_pos hst]; exact h
      · exfalso
        rw [if_neg (fun e => hst (.inr e)), if_neg (fun e => hst (.inl e))] at h
        subst h
        simp at hx
theorem readAt_four {first : List UInt8 → Hd × Int} {d : List UInt8} (h : 0 < (readAt first d).2.1) : 4 ≤ (readAt first d).2.1 := by
  rcases readAt_cases first d with ⟨e, h1, h2⟩ | ⟨l, e, h1, h3, h2⟩ | ⟨l, e, e2, h1, h3, h4, h2⟩ | ⟨l, e, e2, fs, n, h1, h3, h4, h2⟩
  · rw [h2] at h; exact absurd h (Nat.lt_irrefl 0)
  · rw [h2] at h; exact absurd h (Nat.lt_irrefl 0)
  · rw [h2] at h; exact absurd h (Nat.lt_irrefl 0)
  · rw [h2]
    have := (fieldsL_used 32 h4).1
    simp only
    omega
theorem readL_four {d : List UInt8} (h : (readL true startL d).2.1 ≠ 0) : 4 ≤ (readL true startL d).2.1 := by
  have e : (readL true startL d).2.1 = if (readAt startL (d.drop (2 * ahead d))).2.1 = 0 then 0 else (readAt startL (d.drop (2 * ahead d))).2.1 + 2 * ahead d := rfl
  rw [e] at h ⊢
  by_cases h0 : (readAt startL (d.drop (2 * ahead d))).2.1 = 0
  · rw [if_pos h0] at h; exact absurd rfl h
  · rw [if_neg h0]
    have := readAt_four (first := startL) (d := d.drop (2 * ahead d)) (by omega)
    omega
theorem doc_len {m : Int} {s : List UInt8} {q : Rq} {n : Nat} {e : Int} (h : docR m s = (some (q, n), e)) : 4 ≤ n ∧ n ≤ s.length ∧ e = 0 := by
  obtain ⟨y, hy⟩ : ∃ y, beginL m s = y := ⟨_, rfl⟩
  obtain ⟨_ | ⟨q', k, l, n'⟩, e'⟩ := y
  · unfold docR at h; rw [hy] at h; cases h
  · have hl := begin_len hy
    have hp := begin_pos hy
    have hk := begin_kind hy
    have h4 := readL_four hp.2.1
    rw [← hp.2.2.1] at h4
    simp only at hl h4 hk
    unfold docR at h
    rw [hy] at h
    simp only at h
    by_cases k1 : k = 1
    · rw [if_pos k1] at h; injection h with h1 h2; injection h1 with h1; injection h1 with _ h1; omega
    rw [if_neg k1] at h
    by_cases k2 : k = 2
    · rw [if_pos k2] at h
      split at h
      · cases h
      · injection h with h1 h2; injection h1 with h1; injection h1 with _ h1; omega
    · rw [if_neg k2] at h
      split at h
      · cases h
      · split at h
        · injection h with h1 h2; injection h1 with h1; injection h1 with _ h1
          have := runD_len { most := m } (s.drop n')
          rw [List.length_drop] at this
          omega
        · cases h
/-- The requests of bytes, one behind the other; what is left; the status. -/
def docAll (m : Int) : Nat → List UInt8 → List Rq × List UInt8 × Int
  | 0, s => ([], s, 0)
  | k + 1, s => match docR m s with
    | (some (q, n), _) => (q :: (docAll m k (s.drop n)).1, (docAll m k (s.drop n)).2.1, (docAll m k (s.drop n)).2.2)
    | (none, e) => ([], s, e)
def docs (m : Int) (s : List UInt8) : List Rq × List UInt8 × Int := docAll m (s.length + 1) s
theorem docAll_fuel (m : Int) : ∀ (k : Nat) (s : List UInt8) (K : Nat), s.length < k → s.length < K → docAll m k s = docAll m K s := by
  intro k
  induction k with
  | zero => intro s K h; omega
  | succ k ih =>
    intro s K h1 h2
    obtain ⟨K, rfl⟩ : ∃ K', K = K' + 1 := ⟨K - 1, by omega⟩
    obtain ⟨x, hx⟩ : ∃ x, docR m s = x := ⟨_, rfl⟩
    obtain ⟨_ | ⟨q, n⟩, e⟩ := x
    · unfold docAll; rw [hx]
    · have hl := doc_len hx
      unfold docAll; rw [hx]
      simp only
      rw [ih (s.drop n) K (by rw [List.length_drop]; omega) (by rw [List.length_drop]; omega)]
theorem docs_end {m : Int} {s : List UInt8} {e : Int} (h : docR m s = (none, e)) : docs m s = ([], s, e) := by
  unfold docs docAll; rw [h]
theorem docs_step {m : Int} {s : List UInt8} {q : Rq} {n : Nat} {e : Int} (h : docR m s = (some (q, n), e)) : docs m s = (q :: (docs m (s.drop n)).1, (docs m (s.drop n)).2.1, (docs m (s.drop n)).2.2) := by
  have hl := doc_len h
  have hf := docAll_fuel m s.length (s.drop n) ((s.drop n).length + 1) (by rw [List.length_drop]; omega) (by omega)
  unfold docs
  rw [docAll, h]
  simp only
  rw [hf]
theorem docs_nil (m : Int) : docs m [] = ([], [], 0) := docs_end rfl
theorem docs_count (m : Int) : ∀ (k : Nat) (s : List UInt8), s.length < k → 4 * (docs m s).1.length + (docs m s).2.1.length ≤ s.length := by
  intro k
  induction k with
  | zero => intro s h; omega
  | succ k ih =>
    intro s h1
    obtain ⟨x, hx⟩ : ∃ x, docR m s = x := ⟨_, rfl⟩
    obtain ⟨_ | ⟨q, n⟩, e⟩ := x
    · rw [docs_end hx]; simp
    · have hl := doc_len hx
      have hd : (s.drop n).length = s.length - n := List.length_drop ..
      have := ih (s.drop n) (by omega)
      rw [docs_step hx]
      simp only [List.length_cons]
      omega
theorem docs_more (m : Int) (t : List UInt8) : ∀ (k : Nat) (s : List UInt8), s.length < k → docs m (s ++ t) =
    if (docs m s).2.2 ≠ 0 then ((docs m s).1, (docs m s).2.1 ++ t, (docs m s).2.2)
    else ((docs m s).1 ++ (docs m ((docs m s).2.1 ++ t)).1, (docs m ((docs m s).2.1 ++ t)).2.1, (docs m ((docs m s).2.1 ++ t)).2.2) := by
  intro k
  induction k with
  | zero => intro s h; omega
  | succ k ih =>
    intro s h1
    obtain ⟨x, hx⟩ : ∃ x, docR m s = x := ⟨_, rfl⟩
    obtain ⟨_ | ⟨q, n⟩, e⟩ := x
    · rw [docs_end hx]
      simp only
      by_cases he : e = 0
      · rw [if_neg (fun h => h he)]; simp
      · rw [if_pos he, docs_end (doc_more t hx (.inr he))]
    · have hl := doc_len hx
      have hd : (s ++ t).drop n = s.drop n ++ t := List.drop_append_of_le_length hl.2.1
      rw [docs_step (doc_more t hx (.inl (by simp))), hd, docs_step hx, ih (s.drop n) (by rw [List.length_drop]; omega)]
      simp only
      by_cases he : (docs m (s.drop n)).2.2 = 0
      · rw [if_neg (fun h => h he), if_neg (fun h => h he)]; simp
      · rw [if_pos he, if_pos he]
/-- The reader behind all that it was fed, asked until it has no more. -/
structure Done (m : Int) (r : In) (X : List Rq × List UInt8 × Int) : Prop where
  ok : r.Ok
  most : r.most = m
  buf : r.buf = X.2.1
  st : r.status = X.2.2
/-- The reader while it is asked. -/
structure Inner (m : Int) (r : In) (out : List Rq) (X : List Rq × List UInt8 × Int) : Prop where
  ok : r.Ok
  most : r.most = m
  way : (r.status ≠ 0 ∧ out = X.1 ∧ r.buf = X.2.1 ∧ r.status = X.2.2) ∨ (r.status = 0 ∧ out ++ (docs m r.buf).1 = X.1 ∧ (docs m r.buf).2 = X.2)
theorem Done.new {m : Int} (h : -9223372036854775808 ≤ m ∧ m ≤ 9223372036854775807) : Done m { most := m } (docs m []) := by
  rw [docs_nil]
  exact ⟨In.Ok.new h, rfl, rfl, rfl⟩
theorem Done.feed {m : Int} {r : In} {a : List UInt8} (h : Done m r (docs m a)) (p : List UInt8) : Inner m (feedI r p) (docs m a).1 (docs m (a ++ p)) := by
  refine ⟨h.ok.feed p, h.most, ?_⟩
  rw [docs_more m p _ a (Nat.lt_succ_self _)]
  by_cases he : (docs m a).2.2 = 0
  · rw [if_neg (fun h => h he)]
    refine .inr ⟨h.st.trans he, ?_, ?_⟩
    · show (docs m a).1 ++ (docs m (r.buf ++ p)).1 = _
      rw [h.buf]
    · show (docs m (r.buf ++ p)).2 = _
      rw [h.buf]
  · rw [if_pos he]
    exact .inl ⟨fun e => he (h.st.symm.trans e), rfl, by show r.buf ++ p = _; rw [h.buf], h.st⟩
theorem Inner.next {m : Int} {r : In} {out : List Rq} {X : List Rq × List UInt8 × Int} (h : Inner m r out X) :
    ((nextI r).2.1 = true ∧ Inner m (nextI r).2.2.2 (out ++ [(nextI r).1]) X ∧ (nextI r).2.2.2.buf.length < r.buf.length ∧ out.length < X.1.length) ∨
    ((nextI r).2.1 = false ∧ (nextI r).1 = {} ∧ out = X.1 ∧ (nextI r).2.2.1 = X.2.2 ∧ Done m (nextI r).2.2.2 X) := by
  rcases h.way with ⟨h1, h2, h3, h4⟩ | ⟨h1, h2, h3⟩
  · rw [next_stop h1]
    exact .inr ⟨rfl, rfl, h2, h4, h.ok, h.most, h3, h4⟩
  · have hn := next_doc h.ok h1
    obtain ⟨x, hx⟩ : ∃ x, docR r.most r.buf = x := ⟨_, rfl⟩
    obtain ⟨n1, n2, n3⟩ := hn
    rw [hx] at n3
    rw [h.most] at hx
    obtain ⟨_ | ⟨q, n⟩, e⟩ := x
    · obtain ⟨a1, a2, a3, a4, a5⟩ := n3
      rw [docs_end hx] at h2 h3
      rw [List.append_nil] at h2
      refine .inr ⟨a2, a1, h2, by rw [a3, ← h3], n1, n2.trans h.most, by rw [a4, ← h3], by rw [a5, ← h3]⟩
    · obtain ⟨a1, a2, a3, a4, a5, a6⟩ := n3
      have hl := doc_len hx
      rw [docs_step hx] at h2 h3
      refine .inl ⟨a2, ⟨n1, n2.trans h.most, .inr ⟨a5, ?_, ?_⟩⟩, by rw [a4, List.length_drop]; omega, ?_⟩
      · rw [a4, a1, List.append_assoc]; exact h2
      · rw [a4]; exact h3
      · rw [← h2]; simp
theorem docs_le (m : Int) (s t : List UInt8) : (docs m s).1.length ≤ (docs m (s ++ t)).1.length := by
  rw [docs_more m t _ s (Nat.lt_succ_self _)]
  split
  · exact Nat.le_refl _
  · simp
end Go.Proofs.YtgmjkkiahanekaaGreatDoor

/- The contract of the reader's Next (layer 11), whole; the reader packed over one predicate: New, Feed, Next. -/
set_option linter.unusedVariables false
set_option linter.unusedSimpArgs false
namespace Go.Proofs.YtgmjkkiahanekaaGreatDoor
open Go.RowKit Lex

theorem inext_c (R : Nat) (r : In) (F : Nat → Prop) (M : Int) (w : World) (h : InAt w R r F) (hok : r.Ok) (hb : r.status = 0 → r.buf.length ≤ 4194000) (hmx : w.cell? ⟨0, 0, none⟩ = some (.int .i64 M)) (h0 : ¬ F 0) :
    Calls Tryz.prog 26 #[.pointer (some ⟨R, 0, none⟩)] w (NextI w R F (nextI r)) := by
  by_cases hs : r.status = 0
  · cases hn : (startI r).now with
    | none => exact inext_fail R r F M w h hok hs (hb hs) hmx h0 hn
    | some x =>
      obtain ⟨q, n⟩ := x
      cases hf : (finishI (startI r) q).1 with
      | true => exact inext_whole R r F M w h hok hs (hb hs) hmx h0 (by rw [hn]; simp) (fun q' n' h' => by rw [hn] at h'; injection h' with h'; injection h' with h1 h2; subst h1 h2; exact hf)
      | false => exact inext_more R r F M w h hok hs (hb hs) hmx h0 (by rw [hn]; simp) (fun q' n' h' => by rw [hn] at h'; injection h' with h'; injection h' with h1 h2; subst h1 h2; exact hf)
  · exact inext_stop R r F w h hs
theorem next_ok {r : In} (h : r.Ok) : (nextI r).2.2.2.Ok := by
  by_cases hs : r.status = 0
  · exact (next_doc h hs).ok
  · rw [next_stop hs]; exact h
/-- The reader whose blocks are the call's own. -/
structure InTo (w0 wr : World) (R : Nat) (r : In) (F : Nat → Prop) : Prop where
  rd : InAt wr R r F
  ok : r.Ok
  below : Below w0.heap.size w0 wr
  low : ∀ k, F k → w0.heap.size ≤ k
theorem InTo.keep {w0 wr w' : World} {R : Nat} {r : In} {F G : Nat → Prop} (h : InTo w0 wr R r F) (ha : Away G wr w') (hG : ∀ k, F k → ¬ G k) (hl : ∀ k, G k → w0.heap.size ≤ k) : InTo w0 w' R r F :=
  ⟨h.rd.away ha hG, h.ok, h.below.trans (ha.below h.below.size hl), h.low⟩
theorem InTo.more {w0 wr w' : World} {R : Nat} {r : In} {F : Nat → Prop} (h : InTo w0 wr R r F) (hb : Below wr.heap.size wr w') : InTo w0 w' R r F :=
  ⟨h.rd.below hb, h.ok, h.below.trans (hb.mono h.below.size), h.low⟩
theorem inew_to (m : Int) (hm : -9223372036854775808 ≤ m ∧ m ≤ 9223372036854775807) (w0 w : World) (hb : Below w0.heap.size w0 w) :
    Calls Tryz.prog 24 #[.int .i64 m] w fun e w' => e = .returned (.pointer (some ⟨w.heap.size, 0, none⟩)) ∧ InTo w0 w' w.heap.size { most := m } (fun k => k = w.heap.size) ∧ w.heap.size < w'.heap.size ∧ Below w.heap.size w w' :=
  (inew_c m w).mono fun e w' ⟨he, hi, hb2, hz⟩ => ⟨he, ⟨hi, In.Ok.new hm, hb.trans (hb2.mono hb.size), fun k hk => by rw [hk]; exact hb.size⟩, hz, hb2⟩
theorem ifeed_to (w0 : World) (R : Nat) (r : In) (F : Nat → Prop) (s : ByteArray) (w : World) (h : InTo w0 w R r F) (hb : r.buf.length ≤ 4294967296) (hs : s.size ≤ 4294967296) :
    Calls Tryz.prog 25 #[.pointer (some ⟨R, 0, none⟩), .string s] w fun e w' => e = .returned (.tuple #[]) ∧ InTo w0 w' R (feedI r s.data.toList) F ∧ Away (fun k => k = R) w w' ∧ w'.heap.size = w.heap.size :=
  (ifeed_c R r F s w h.rd hb hs).mono fun e w' ⟨he, hi, ha, hz⟩ => ⟨he, ⟨hi, h.ok.feed _, h.below.trans (ha.below h.below.size (fun k hk => by rw [hk]; exact h.low R h.rd.self)), h.low⟩, ha, hz⟩
theorem irest_to (w0 : World) (R : Nat) (r : In) (F : Nat → Prop) (w : World) (h : InTo w0 w R r F) :
    Calls Tryz.prog 34 #[.pointer (some ⟨R, 0, none⟩)] w fun e w' => e = .returned (.string (bs r.buf)) ∧ InTo w0 w' R (restI r) (fun k => k = R) ∧ Away (fun k => k = R) w w' ∧ w'.heap.size = w.heap.size :=
  (irest_c R r F w h.rd).mono fun e w' ⟨he, hi, ha, hz⟩ => ⟨he, ⟨hi, h.ok.rest, h.below.trans (ha.below h.below.size (fun k hk => by rw [hk]; exact h.low R h.rd.self)), fun k hk => by rw [hk]; exact h.low R h.rd.self⟩, ha, hz⟩
/-- What Next leaves, packed. -/
structure NextTo (w0 w w' : World) (R : Nat) (F : Nat → Prop) (q : Rq) (r' : In) (A : Option Addr) (c : Nat) (F' : Nat → Prop) : Prop where
  an : A = none → c = 0
  row : w'.ownsRow (R + 1) 59 2 (.slice A q.head.fields.length c) q.head.fields.length (fvals q.head.fields)
  flds : Flds w' A q.head.fields
  at' : ∀ g o, A = some ⟨g, o, none⟩ → ¬ F' g ∧ w0.heap.size ≤ g ∧ g < w'.heap.size ∧ (F g ∨ w.heap.size ≤ g)
  rd : InTo w0 w' R r' F'
  away : Away F w w'
  foot : ∀ k, F' k → F k ∨ (w.heap.size ≤ k ∧ k < w'.heap.size)
theorem inext_to (w0 : World) (R : Nat) (r : In) (F : Nat → Prop) (M : Int) (w : World) (h : InTo w0 w R r F) (hb : r.status = 0 → r.buf.length ≤ 4194000) (hmx : w0.cell? ⟨0, 0, none⟩ = some (.int .i64 M)) :
    Calls Tryz.prog 26 #[.pointer (some ⟨R, 0, none⟩)] w fun e w' => ∃ A c F', e = .returned (.tuple #[rqV (nextI r).1 A c, .bool (nextI r).2.1, .int .i64 (nextI r).2.2.1]) ∧ NextTo w0 w w' R F (nextI r).1 (nextI r).2.2.2 A c F' := by
  have hw0 : 0 < w0.heap.size := World.block_lt_of_cell? w0 _ hmx
  refine (inext_c R r F M w h.rd h.ok hb ((h.below.cell (p := ⟨0, 0, none⟩) hw0).trans hmx) (fun e => by have := h.low 0 e; omega)).mono ?_
  rintro e w' ⟨A, c, F', he, hA, hrow, hg, hR, ha, hf⟩
  refine ⟨A, c, F', he, hA, hrow, flds_own hrow, fun g o hgo => ⟨(hg g o hgo).1, ?_, (hrow.lt g (by rw [hgo]; rfl)).2, (hg g o hgo).2⟩, ⟨hR, next_ok h.ok, h.below.trans (ha.below h.below.size h.low), fun k hk => ?_⟩, ha, hf⟩
  · rcases (hg g o hgo).2 with h1 | h1
    · exact h.low g h1
    · have := h.below.size; omega
  · rcases hf k hk with h1 | h1
    · exact h.low k h1
    · have := h.below.size; omega
end Go.Proofs.YtgmjkkiahanekaaGreatDoor

/- A slice of texts, wherever its row begins. -/
set_option linter.unusedVariables false
set_option linter.unusedSimpArgs false
namespace Go.Proofs.YtgmjkkiahanekaaGreatDoor
open Go.RowKit Lex

/-- A slice of texts, wherever its row begins. -/
def TextsO (w : World) (A : Option Addr) (l : List (List UInt8)) : Prop := ∀ j (h : j < l.length), ∃ g o, A = some ⟨g, o, none⟩ ∧ w.cell? ⟨g, o + j, none⟩ = some (.string (bs l[j]))
theorem TextsO.below {w w' : World} {A : Option Addr} {l : List (List UInt8)} (h : TextsO w A l) (hb : Below w.heap.size w w') : TextsO w' A l := fun j hj => by
  obtain ⟨g, o, h1, h2⟩ := h j hj
  exact ⟨g, o, h1, cell_below hb h2⟩
theorem texts_one (w : World) (s : ByteArray) (T : TypeId) : TextsO (w.alloc (.cells #[.string s] T)) (some ⟨w.heap.size, 0, none⟩) [s.data.toList] := by
  intro j hj
  have : j = 0 := by simpa using hj
  subst this
  exact ⟨w.heap.size, 0, rfl, by rw [World.cell?_alloc_new, List.getElem_cons_zero, list_bs]; rfl⟩
end Go.Proofs.YtgmjkkiahanekaaGreatDoor

/- The contract of the laws' read (layer 11): the requests of bytes that come in pieces. -/
set_option linter.unusedVariables false
set_option linter.unusedSimpArgs false
namespace Go.Proofs.YtgmjkkiahanekaaGreatDoor
open Go.RowKit Lex

def rowR : List (Rq × Option Addr × Nat) → List Value
  | [] => []
  | z :: l => rqVs z.1 z.2.1 z.2.2 ++ rowR l
theorem rowR_snoc (l : List (Rq × Option Addr × Nat)) (z : Rq × Option Addr × Nat) : rowR (l ++ [z]) = rowR l ++ rqVs z.1 z.2.1 z.2.2 := by
  induction l with
  | nil => simp [rowR]
  | cons a l ih => simp only [List.cons_append, rowR, ih, List.append_assoc]
theorem Flds.apart {w w' : World} {G : Nat → Prop} {A : Option Addr} {l : List Fd} (h : Flds w A l) (ha : Away G w w') (hn : ∀ g o, A = some ⟨g, o, none⟩ → ¬ G g) : Flds w' A l := fun j hj => by
  obtain ⟨g, o, hA, c0, c1⟩ := h j hj
  exact ⟨g, o, hA, ha.cell c0 (hn g o hA), ha.cell c1 (hn g o hA)⟩
/-- The requests told so far, as they lie: the row of them, and the fields of each. -/
structure OutAt (w : World) (base : Nat) (F : Nat → Prop) (v : Value) (l : List Rq) (As : List (Option Addr × Nat)) : Prop where
  len : As.length = l.length
  own : w.ownsRow base 46 18 v l.length (rowR (l.zip As))
  fl : ∀ j (h : j < l.length) (h2 : j < As.length), Flds w (As[j]'h2).1 (l[j]'h).head.fields
  far : ∀ j (h2 : j < As.length) g o, (As[j]'h2).1 = some ⟨g, o, none⟩ → g < w.heap.size ∧ ¬ F g ∧ v.ownBlock ≠ some g
  vf : ∀ k, v.ownBlock = some k → ¬ F k
theorem OutAt.nil (w : World) (base : Nat) (F : Nat → Prop) : OutAt w base F (.slice none 0 0) [] [] :=
  ⟨rfl, World.ownsRow_nil w base _ _, fun j h => absurd h (Nat.not_lt_zero _), fun j h => absurd h (Nat.not_lt_zero _), fun k h => by cases h⟩
theorem OutAt.keep {w w' : World} {base : Nat} {F F' G : Nat → Prop} {v : Value} {l : List Rq} {As : List (Option Addr × Nat)} (h : OutAt w base F v l As) (ha : Away G w w') (hG : ∀ k, G k → F k) (hF : ∀ k, F' k → F k ∨ w.heap.size ≤ k) : OutAt w' base F' v l As := by
  refine ⟨h.len, own_away h.own ha (fun k hk hg => h.vf k hk (hG k hg)), fun j h1 h2 => (h.fl j h1 h2).apart ha (fun g o hg hgg => (h.far j h2 g o hg).2.1 (hG g hgg)), fun j h2 g o hg => ?_, fun k hk hf => ?_⟩
  · obtain ⟨a, b, c⟩ := h.far j h2 g o hg
    refine ⟨Nat.lt_of_lt_of_le a ha.size, fun hf => ?_, c⟩
    rcases hF g hf with h1 | h1
    · exact b h1
    · omega
  · have := (h.own.lt k hk).2
    rcases hF k hf with h1 | h1
    · exact h.vf k hk h1
    · omega
theorem OutAt.more {w w' : World} {base : Nat} {F : Nat → Prop} {v : Value} {l : List Rq} {As : List (Option Addr × Nat)} (h : OutAt w base F v l As) (hb : Below w.heap.size w w') : OutAt w' base F v l As :=
  h.keep (G := fun _ => False) (Away.of hb) (fun _ h => h.elim) (fun _ h => .inl h)
theorem OutAt.free {w : World} {base : Nat} {F : Nat → Prop} {v : Value} {l : List Rq} {As : List (Option Addr × Nat)} (h : OutAt w base F v l As) : OutAt w base (fun _ => False) v l As :=
  ⟨h.len, h.own, h.fl, fun j h2 g o hg => ⟨(h.far j h2 g o hg).1, id, (h.far j h2 g o hg).2.2⟩, fun _ _ => id⟩
theorem OutAt.push {w w5 : World} {base : Nat} {F : Nat → Prop} {v v' : Value} {l : List Rq} {As : List (Option Addr × Nat)} {q : Rq} {A : Option Addr} {c : Nat} (h : OutAt w base F v l As) (hf : Flds w A q.head.fields)
    (hA : ∀ g o, A = some ⟨g, o, none⟩ → g < w.heap.size ∧ ¬ F g ∧ v.ownBlock ≠ some g) (hF : ∀ k, F k → k < w.heap.size) (ho : w5.ownsRow base 46 18 v' (l.length + 1) (rowR (l.zip As) ++ rqVs q A c))
    (hg : w.grownBy w5 v.ownBlock) (hat : v'.ownBlock = v.ownBlock ∨ v'.ownBlock = some w.heap.size) : OutAt w5 base F v' (l ++ [q]) (As ++ [(A, c)]) := by
  have ha : Away (fun k => v.ownBlock = some k) w w5 := (Away.refl _ w).grown hg (fun k hk _ => hk)
  have nv : ∀ g, g < w.heap.size → v.ownBlock ≠ some g → v'.ownBlock ≠ some g := fun g hl hn e => by
    rcases hat with h1 | h1
    · exact hn (h1.symm.trans e)
    · rw [h1] at e; injection e with e; omega
  have hlen := h.len
  refine ⟨by simp [hlen], ?_, fun j h1 h2 => ?_, fun j h2 g o hg2 => ?_, fun k hk hf2 => ?_⟩
  · rw [List.zip_append hlen.symm, List.zip_cons_cons, List.zip_nil_left, rowR_snoc, List.length_append]
    exact ho
  · by_cases hj : j < l.length
    · have hj2 : j < As.length := by omega
      rw [List.getElem_append_left hj, List.getElem_append_left hj2]
      exact (h.fl j hj hj2).apart ha (fun g o hg e => (h.far j hj2 g o hg).2.2 e)
    · have hj1 : j = l.length := by simp at h1; omega
      subst hj1
      rw [List.getElem_append_right (Nat.le_refl _), List.getElem_append_right (by omega)]
      simp only [Nat.sub_self, hlen, List.getElem_cons_zero]
      exact hf.apart ha (fun g o hg e => (hA g o hg).2.2 e)
  · by_cases hj : j < As.length
    · rw [List.getElem_append_left hj] at hg2
      obtain ⟨a, b, c⟩ := h.far j hj g o hg2
      exact ⟨Nat.lt_of_lt_of_le a ha.size, b, nv g a c⟩
    · have hj1 : j = As.length := by simp at h2; omega
      subst hj1
      rw [List.getElem_append_right (Nat.le_refl _)] at hg2
      simp only [Nat.sub_self, List.getElem_cons_zero] at hg2
      obtain ⟨a, b, c⟩ := hA g o hg2
      exact ⟨Nat.lt_of_lt_of_le a ha.size, b, nv g a c⟩
  · rcases hat with h1 | h1
    · exact h.vf k (h1.symm.trans hk) hf2
    · rw [h1] at hk; injection hk with hk; have := hF k hf2; omega
theorem own_form {w : World} {base : Nat} {e : TypeId} {z n : Nat} {v : Value} {xs : List Value} (h : w.ownsRow base e z v n xs) : ∃ a c, v = .slice a n c := by
  rcases h.2 with ⟨h1, h2⟩ | ⟨g, cap, cur, h1, _⟩
  · exact ⟨none, 0, by rw [h1, h2]⟩
  · exact ⟨_, cap, h1⟩
def bufOf (w : World) (R : Nat) : Nat := match w.cell? ⟨R, 2, none⟩ with
  | some (.string s) => s.size
  | _ => 0
theorem buf_of {w : World} {R : Nat} {r : In} {F : Nat → Prop} (h : InAt w R r F) : bufOf w R = r.buf.length := by
  unfold bufOf
  rw [h.three.c2]
  exact bs_size _
theorem ones_rq (q : Rq) (A : Option Addr) (c : Nat) : ∀ u ∈ rqVs q A c, u.oneCell' = true := by
  intro u hu
  simp only [rqVs, List.mem_cons, List.mem_nil_iff, or_false] at hu
  rcases hu with rfl | rfl | rfl | rfl | rfl | rfl | rfl | rfl | rfl | rfl | rfl | rfl | rfl | rfl | rfl | rfl | rfl | rfl <;> rfl
theorem news_rq (w : World) (q : Rq) (A : Option Addr) (c : Nat) (t : TypeId) : ∀ j u, (rqVs q A c)[j]? = some u → (w.alloc (.cells (rqVs q A c).toArray t)).cell? ((⟨w.heap.size, 0, none⟩ : Addr).add j) = some u := fun j u hj => by
  rw [Addr.add_mid, Nat.zero_add, World.cell?_alloc_new, List.getElem?_toArray]
  exact hj
def zeroRq : Value := .agg #[.string ByteArray.empty, .string ByteArray.empty, .int .i64 0, .string ByteArray.empty, .int .i64 0, .slice none 0 0, .int .i64 0, .string ByteArray.empty, .int .i64 0, .string ByteArray.empty, .string ByteArray.empty, .bool false, .string ByteArray.empty, .int .i64 0, .string ByteArray.empty, .bool false, .bool false, .string ByteArray.empty]
theorem info_rqs : (Tryz.prog.info? 46).map (fun i => (i.zero, i.size, i.bytes)) = some (some zeroRq, 18, 224) := by kernel_rfl
theorem rowR_get : ∀ (zs : List (Rq × Option Addr × Nat)) (k j : Nat) (h : k < zs.length), j < 18 → (rowR zs)[k * 18 + j]? = (rqVs (zs[k]'h).1 (zs[k]'h).2.1 (zs[k]'h).2.2)[j]?
  | [], k, j, h, _ => absurd h (Nat.not_lt_zero _)
  | z :: zs, 0, j, h, hj => by
    unfold rowR
    rw [Nat.zero_mul, Nat.zero_add, List.getElem?_append_left (by exact hj)]
    rfl
  | z :: zs, k + 1, j, h, hj => by
    unfold rowR
    have hl : (rqVs z.1 z.2.1 z.2.2).length = 18 := rfl
    rw [List.getElem?_append_right (by omega), hl, show (k + 1) * 18 + j - 18 = k * 18 + j by omega, rowR_get zs k j (by simpa using h) hj]
    rfl
theorem OutAt.range {w : World} {base : Nat} {F : Nat → Prop} {v : Value} {l : List Rq} {As : List (Option Addr × Nat)} (h : OutAt w base F v l As) {k : Nat} (hk : k < l.length) (hk2 : k < As.length) :
    ∃ g cap, v = .slice (some ⟨g, 0, none⟩) l.length cap ∧ w.rangeAt g (k * 18) (rqVs (l[k]'hk) (As[k]'hk2).1 (As[k]'hk2).2) := by
  rcases h.own.2 with ⟨_, hn⟩ | ⟨g, cap, cur, hv, _⟩
  · omega
  · refine ⟨g, cap, hv, fun j u hj => ?_⟩
    have hj18 : j < 18 := by
      have := (List.getElem?_eq_some_iff.1 hj).1
      exact this
    have hz : k < (l.zip As).length := by rw [List.length_zip]; omega
    have hr := rowR_get (l.zip As) k j hz hj18
    rw [List.getElem_zip] at hr
    have := h.own.cells (g := g) (by rw [hv]; rfl) (k * 18 + j) u (hr.trans hj)
    rw [Addr.add_mid, Nat.zero_add] at this
    exact this
theorem doc_head {m : Int} {s : List UInt8} {q : Rq} {n : Nat} {e : Int} (h : docR m s = (some (q, n), e)) : ∃ b, q.head = (readL true startL b).1 := by
  obtain ⟨y, hy⟩ : ∃ y, beginL m s = y := ⟨_, rfl⟩
  obtain ⟨_ | ⟨q', k, l, n'⟩, e'⟩ := y
  · unfold docR at h; rw [hy] at h; cases h
  · obtain ⟨p1, p2, p3, p4, p5, p6, p7⟩ := begin_pos hy
    refine ⟨s, ?_⟩
    unfold docR at h
    rw [hy] at h
    simp only at h
    split at h
    · injection h with h1 h2; injection h1 with h1; injection h1 with h1 _; rw [← h1]; exact p7
    · split at h
      · split at h
        · cases h
        · injection h with h1 h2; injection h1 with h1; injection h1 with h1 _; rw [← h1]; exact p7
      · split at h
        · cases h
        · split at h
          · injection h with h1 h2; injection h1 with h1; injection h1 with h1 _; rw [← h1]; exact p7
          · cases h
end Go.Proofs.YtgmjkkiahanekaaGreatDoor

