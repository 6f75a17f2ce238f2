/- The texts HdF in one. -/
import Derived.Test.YtgmjkkiahanekaaGreatDoorM19
import Derived.Laws.OwnMore
import Derived.Maps.AppendAt
/- The contract of head.read with head.start. -/
set_option linter.unusedVariables false
set_option linter.unusedSimpArgs false
namespace Go.Proofs.YtgmjkkiahanekaaGreatDoor
open Go.RowKit Lex

theorem info_fieldH : (Tryz.prog.info? 59).map (fun i => (i.zero, i.size, i.bytes)) = some (some (.agg #[.string ByteArray.empty, .string ByteArray.empty]), 2, 32) := by kernel_rfl
theorem ones_fieldH (f : Fd) : ∀ u ∈ [Value.string (bs f.1), Value.string (bs f.2)], u.oneCell' = true := by
  intro u hu
  simp only [List.mem_cons, List.not_mem_nil, or_false] at hu
  rcases hu with rfl | rfl <;> rfl
theorem news2H (w : World) (a b : Value) (e : TypeId) : ∀ j u, [a, b][j]? = some u → (w.alloc (.cells #[a, b] e)).cell? ((⟨w.heap.size, 0, none⟩ : Addr).add j) = some u :=
  fun j u hu => World.news_of_block (cs := #[a, b]) (heap_alloc_new w _) j u hu
theorem own_flds_h {w : World} {base : Nat} {e : TypeId} {v : Value} {l : List Fd} (h : w.ownsRow base e 2 v l.length (fvals l)) : ∃ a c, v = .slice a l.length c ∧ (a = none → c = 0) ∧ Flds w a l := by
  rcases h.2 with ⟨rfl, h0⟩ | ⟨g, cap, cur, rfl, _⟩
  · exact ⟨none, 0, by rw [h0], fun _ => rfl, fun j hj => absurd hj (by omega)⟩
  · exact ⟨some ⟨g, 0, none⟩, cap, rfl, (fun e => by cases e), flds_own h⟩
theorem ret_read {w : World} {B : Nat} {v0 v1 v2 v3 v4 v5 n e : Value} (h : Box6 w B v0 v1 v2 v3 v4 v5) {tmps : Array Value} (h4 : tmps[6]?.getD undef = .pointer (some ⟨B, 0, none⟩)) (h5 : tmps[7]?.getD undef = n) (h6 : tmps[8]?.getD undef = e) :
    (results Tryz.f97 tmps).run Tryz.prog w = .ok (.tuple #[.agg #[v0, v1, v2, v3, v4, v5], n, e]) w := by
  simp [results, Tryz.results97, go_sem, h4, h5, h6, h.c0, h.c1, h.c2, h.c3, h.c4, h.c5]
def hdv (h : Hd) (A : Option Addr) (c : Nat) : Value := .agg #[.string (bs h.method), .string (bs h.target), .int .i64 h.status, .string (bs h.reason), .int .i64 h.minor, .slice A h.fields.length c]
def ReadPost (x : Hd × Nat × Int) (w : World) (e : Ending) (w' : World) : Prop := ∃ A c, e = .returned (.tuple #[hdv x.1 A c, .int .i64 (x.2.1 : Int), .int .i64 x.2.2]) ∧ (A = none → c = 0) ∧ w'.ownsRow w.heap.size 59 2 (.slice A x.1.fields.length c) x.1.fields.length (fvals x.1.fields) ∧ Below w.heap.size w w'

/-! ### plain steps -/
theorem readL_at {skip : Bool} {first : List UInt8 → Hd × Int} {D : List UInt8} {k : Nat} (hk : (if skip then 2 * ahead D else 0) = k) :
    readL skip first D = ((readAt first (D.drop k)).1, (if (readAt first (D.drop k)).2.1 = 0 then 0 else (readAt first (D.drop k)).2.1 + k), (readAt first (D.drop k)).2.2) := by subst hk; rfl
theorem readL_n {skip : Bool} {first : List UInt8 → Hd × Int} {D : List UInt8} {k : Nat} {e : Int} (hk : (if skip then 2 * ahead D else 0) = k) (h : lineL 82 1100 (D.drop k) = (none, e)) : readL skip first D = ({}, 0, e) := by
  rw [readL_at hk, readAt_none h]; rfl
theorem readL_b {skip : Bool} {first : List UInt8 → Hd × Int} {D l : List UInt8} {k : Nat} {e : Int} (hk : (if skip then 2 * ahead D else 0) = k) (h : lineL 82 1100 (D.drop k) = (some l, e)) (hf : (first l).2 ≠ 0) : readL skip first D = ({}, 0, (first l).2) := by
  rw [readL_at hk, readAt_bad h hf]; rfl
theorem readL_p {skip : Bool} {first : List UInt8 → Hd × Int} {D l : List UInt8} {k : Nat} {e e2 : Int} (hk : (if skip then 2 * ahead D else 0) = k) (h : lineL 82 1100 (D.drop k) = (some l, e)) (hf : (first l).2 = 0) (hg : fieldsL 32 (D.drop (k + (l.length + 2))) = (none, e2)) : readL skip first D = ({}, 0, e2) := by
  rw [readL_at hk, readAt_part h hf (e2 := e2) (by rw [List.drop_drop]; exact hg)]; rfl
theorem readL_w {skip : Bool} {first : List UInt8 → Hd × Int} {D l : List UInt8} {k : Nat} {e e2 : Int} {fs : List Fd} {n : Nat} (hk : (if skip then 2 * ahead D else 0) = k) (h : lineL 82 1100 (D.drop k) = (some l, e)) (hf : (first l).2 = 0) (hg : fieldsL 32 (D.drop (k + (l.length + 2))) = (some (fs, n), e2)) :
    readL skip first D = ({ (first l).1 with fields := fs }, n + (l.length + 2) + k, 0) := by
  rw [readL_at hk, readAt_whole h hf (by rw [List.drop_drop]; exact hg)]
  simp
def SkipAt (skip : Bool) (D : List UInt8) (k : Nat) : Prop := (if skip then 2 * ahead D else 0) = k
theorem wpList_at {P : Program} {ops : Array Oper} {Q : Exit → Act → World → Prop} {o : Oper} {a : Act} {w w' : World} (e : w = w') (h : wpList P ops Q [o] a w') : wpList P ops Q [o] a w := by subst e; exact h
/-- The fields so far. -/
def SoFar (D : List UInt8) (a0 a : Nat) (fs : List Fd) : Prop := fieldsL 32 (D.drop a0) = ((fieldsL (32 - fs.length) (D.drop a)).1.map (fun x => (fs ++ x.1, x.2 + (a - a0))), (fieldsL (32 - fs.length) (D.drop a)).2) ∧ a0 ≤ a ∧ fs.length ≤ 32
theorem sofar_start (D : List UInt8) (a0 : Nat) : SoFar D a0 a0 [] := by
  refine ⟨?_, Nat.le_refl _, by decide⟩
  simp only [List.length_nil, Nat.sub_zero, Nat.sub_self, List.nil_append, Nat.add_zero]
  cases fieldsL 32 (D.drop a0) with | mk o e => cases o <;> rfl
theorem sofar_none {D : List UInt8} {a0 a : Nat} {fs : List Fd} {e : Int} (h : SoFar D a0 a fs) (hl : lineL 83 512 (D.drop a) = (none, e)) : fieldsL 32 (D.drop a0) = (none, e) := by
  rw [h.1, fieldsL_none hl]; rfl
theorem sofar_end {D : List UInt8} {a0 a : Nat} {fs : List Fd} {e : Int} (h : SoFar D a0 a fs) (hl : lineL 83 512 (D.drop a) = (some [], e)) : fieldsL 32 (D.drop a0) = (some (fs, 2 + (a - a0)), 0) := by
  rw [h.1, fieldsL_end hl]; simp
theorem sofar_large {D l : List UInt8} {a0 a : Nat} {fs : List Fd} {e : Int} (h : SoFar D a0 a fs) (hl : lineL 83 512 (D.drop a) = (some l, e)) (h0 : l ≠ []) (h32 : 32 ≤ fs.length) : fieldsL 32 (D.drop a0) = (none, 83) := by
  rw [h.1, show 32 - fs.length = 0 by omega, fieldsL_large hl h0]; rfl
theorem sofar_bad {D l : List UInt8} {a0 a : Nat} {fs : List Fd} {e : Int} (h : SoFar D a0 a fs) (hl : lineL 83 512 (D.drop a) = (some l, e)) (h0 : l ≠ []) (h32 : fs.length < 32) (hf : fieldL l = none) : fieldsL 32 (D.drop a0) = (none, 70) := by
  rw [h.1, show 32 - fs.length = (31 - fs.length) + 1 by omega, fieldsL_bad hl h0 hf]; rfl
theorem sofar_step {D l : List UInt8} {a0 a : Nat} {fs : List Fd} {e : Int} {f : Fd} (h : SoFar D a0 a fs) (hl : lineL 83 512 (D.drop a) = (some l, e)) (h0 : l ≠ []) (h32 : fs.length < 32) (hf : fieldL l = some f) : SoFar D a0 (a + (l.length + 2)) (fs ++ [f]) := by
  have ha := h.2.1
  refine ⟨?_, by omega, by rw [List.length_append, List.length_singleton]; omega⟩
  rw [h.1, show 32 - fs.length = (31 - fs.length) + 1 by omega, fieldsL_step hl h0 hf, List.drop_drop, List.length_append, List.length_singleton, show 32 - (fs.length + 1) = 31 - fs.length by omega]
  cases fieldsL (31 - fs.length) (D.drop (a + (l.length + 2))) with
  | mk o e =>
    cases o with
    | none => rfl
    | some x =>
      simp only [Option.map_some, List.append_assoc, List.singleton_append]
      congr 3
      omega
theorem line_end {over : Int} {room : Nat} {D l : List UInt8} {a : Nat} {e : Int} (h : lineL over room (D.drop a) = (some l, e)) : a + (l.length + 2) ≤ D.length ∧ l.length ≤ room ∧ e = 0 := by
  obtain ⟨r, hr, _, hl, he⟩ := lineL_some h
  have := congrArg List.length hr
  rw [List.length_drop, List.length_append, List.length_cons, List.length_cons] at this
  exact ⟨by omega, hl, he⟩
end Go.Proofs.YtgmjkkiahanekaaGreatDoor

