/- A head that came in, opened: what the argument is, how its fields lie, and that its bulk bounds them. -/
import Derived.Test.YtbjcbdgkgbjaiaaDoorFldO
import Derived.Deep.Fields
set_option linter.unusedVariables false
set_option linter.unusedSimpArgs false
namespace Go.Proofs.YtbjcbdgkgbjaiaaDoor
open Go.RowKit Lex Go.ChangeShapes Go.WideShapes Go.ChangeAt Go.Deep

/-- What is known of a head that came in. -/
structure CameH {H : Type} (W : World) (v : Value) (d : DataW H) (m t : ByteArray) (s : Int) (r : ByteArray) (mi : Int) (A : Option Addr) (cap : Nat) (l : List Fd) : Prop where
  is : v = .agg #[.string m, .string t, .int .i64 s, .string r, .int .i64 mi, .slice A l.length cap]
  nil : A = none → cap = 0
  flds : Flds W A l
  bulk : l.length ≤ Rows.uptoBulk d ∧ ∀ f ∈ l, f.1.length ≤ Rows.uptoBulk d ∧ f.2.length ≤ Rows.uptoBulk d
  strs : m.size ≤ Rows.uptoBulk d ∧ t.size ≤ Rows.uptoBulk d ∧ r.size ≤ Rows.uptoBulk d
  wfs : (Lit.int .i64 s).wf = true ∧ (Lit.int .i64 mi).wf = true

theorem open_head {H : Type} {enc : TypeId × Value → H} {W : World} {r : Reach} {b0 : Nat} {v : Value} {d : DataW H} {p : List MemPlace} (hv : Value.okWide Tryd.prog W r b0 24 v) (h : DataW.Trod enc Tryd.prog W 0 (fun _ => true) true 24 v d p) :
    ∃ m t s r mi A cap l, CameH W v d m t s r mi A cap l := by
  have hu : ∃ f0 f1 f2 f3 f4 f5, Tryd.prog.underlying 24 = some (.struct #[f0, f1, f2, f3, f4, f5]) ∧ oneCellFields Tryd.prog #[f0, f1, f2, f3, f4, f5] = true ∧ f0.type = 9 ∧ f1.type = 9 ∧ f2.type = 3 ∧ f3.type = 9 ∧ f4.type = 3 ∧ f5.type = 22 := ⟨_, _, _, _, _, _, Tryd.underlying24, by kernel_rfl, rfl, rfl, rfl, rfl, rfl, rfl⟩
  obtain ⟨f0, f1, f2, f3, f4, f5, hu, hone, t0, t1, t2, t3, t4, t5⟩ := hu
  obtain ⟨cs, rfl, hsz⟩ := okWide_struct hu hv
  have hC : Tryd.prog.cellsOf 24 = 6 := by kernel_rfl
  obtain ⟨l⟩ := cs
  match l, hsz.trans hC with
  | [c0, c1, c2, c3, c4, c5], _ =>
    obtain ⟨fuel, hf⟩ := h
    obtain ⟨xs, n, _, hx, _, hlen, hg⟩ := DataW.trod_struct hu hf
    match xs, hlen with
    | [y0, y1, y2, y3, y4, y5], _ =>
      simp only [Prod.mk.injEq] at hx
      obtain ⟨hd, hp⟩ := hx
      obtain ⟨o0, k0⟩ := hone_of hone 0 f0 rfl
      obtain ⟨o1, k1⟩ := hone_of hone 1 f1 rfl
      obtain ⟨o2, k2⟩ := hone_of hone 2 f2 rfl
      obtain ⟨o3, k3⟩ := hone_of hone 3 f3 rfl
      obtain ⟨o4, k4⟩ := hone_of hone 4 f4 rfl
      obtain ⟨o5, k5⟩ := hone_of hone 5 f5 rfl
      have g0 : DataW.trod enc Tryd.prog W 0 (fun _ => true) true n f0.type [c0] = some y0 := by simpa [Value.cells, o0, k0] using hg 0 f0 rfl
      have g1 : DataW.trod enc Tryd.prog W 0 (fun _ => true) true n f1.type [c1] = some y1 := by simpa [Value.cells, o1, k1] using hg 1 f1 rfl
      have g2 : DataW.trod enc Tryd.prog W 0 (fun _ => true) true n f2.type [c2] = some y2 := by simpa [Value.cells, o2, k2] using hg 2 f2 rfl
      have g3 : DataW.trod enc Tryd.prog W 0 (fun _ => true) true n f3.type [c3] = some y3 := by simpa [Value.cells, o3, k3] using hg 3 f3 rfl
      have g4 : DataW.trod enc Tryd.prog W 0 (fun _ => true) true n f4.type [c4] = some y4 := by simpa [Value.cells, o4, k4] using hg 4 f4 rfl
      have g5 : DataW.trod enc Tryd.prog W 0 (fun _ => true) true n f5.type [c5] = some y5 := by simpa [Value.cells, o5, k5] using hg 5 f5 rfl
      rw [t0] at g0; rw [t1] at g1; rw [t2] at g2; rw [t3] at g3; rw [t4] at g4; rw [t5] at g5
      obtain ⟨s0, e0, x0, _⟩ := DataW.trod_string Tryd.underlying9 g0
      obtain ⟨s1, e1, x1, _⟩ := DataW.trod_string Tryd.underlying9 g1
      obtain ⟨i2, e2, x2, w2⟩ := DataW.trod_int Tryd.underlying3 g2
      obtain ⟨s3, e3, x3, _⟩ := DataW.trod_string Tryd.underlying9 g3
      obtain ⟨i4, e4, x4, w4⟩ := DataW.trod_int Tryd.underlying3 g4
      simp only [List.cons.injEq, and_true] at e0 e1 e2 e3 e4
      subst e0 e1 e2 e3 e4
      have hsl : ∃ a q c, c5 = .slice a q c := by
        have hu2 : ∃ a0 a1, Tryd.prog.underlying 34 = some (.struct #[a0, a1]) ∧ a0.offset = 0 ∧ a1.offset = 1 ∧ a0.type = 9 ∧ a1.type = 9 := ⟨_, _, Tryd.underlying34, rfl, rfl, rfl, rfl⟩
        obtain ⟨a0, a1, hu2, q0, q1, z0, z1⟩ := hu2
        rcases Go.Deep.open_slice_pairs Tryd.underlying22 hu2 (by kernel_rfl) q0 q1 (by rw [z0]; kernel_rfl) (by rw [z1]; kernel_rfl) g5 with ⟨e, _⟩ | ⟨ad, len, cap, m, k, V0, V1, D0, D1, P0, P1, e, _⟩
        · simp only [List.cons.injEq, and_true] at e; exact ⟨_, _, _, e⟩
        · simp only [List.cons.injEq, and_true] at e; exact ⟨_, _, _, e⟩
      obtain ⟨a, q, c, rfl⟩ := hsl
      obtain ⟨A, cap, fl, cm⟩ := open_flds_cells g5
      have hb : ∀ y ∈ [y0, y1, y2, y3, y4, y5], Rows.uptoBulk y.1 ≤ Rows.uptoBulk d := by
        intro y hy
        have h1 : y.1 ∈ [y0, y1, y2, y3, y4, y5].map (·.1) := List.mem_map.2 ⟨y, hy, rfl⟩
        have h2 := bulkAll_mem h1
        rw [hd]
        simp only [Rows.uptoBulk]
        omega
      have b0 := hb y0 (by simp)
      have b1 := hb y1 (by simp)
      have b3 := hb y3 (by simp)
      have b5 := hb y5 (by simp)
      rw [x0] at b0; rw [x1] at b1; rw [x3] at b3
      simp only [Rows.uptoBulk, Array.length_toList] at b0 b1 b3
      have z : ∀ s : ByteArray, s.data.size = s.size := fun s => rfl
      rw [z] at b0 b1 b3
      refine ⟨s0, s1, i2, s3, i4, A, cap, fl, ⟨by rw [cm.is], cm.nil, cm.flds, ⟨Nat.le_trans cm.bulk.1 b5, fun f hf => ⟨Nat.le_trans (cm.bulk.2 f hf).1 b5, Nat.le_trans (cm.bulk.2 f hf).2 b5⟩⟩, ⟨by omega, by omega, by omega⟩, ⟨w2, w4⟩⟩⟩
theorem CameH.fb {H : Type} {W : World} {v : Value} {d : DataW H} {m t : ByteArray} {s : Int} {r : ByteArray} {mi : Int} {A : Option Addr} {cap : Nat} {l : List Fd} (h : CameH W v d m t s r mi A cap l) (hb : Rows.uptoBulk d ≤ 1048576) : l.length ≤ 1048576 ∧ ∀ f ∈ l, f.1.length ≤ 1048576 ∧ f.2.length ≤ 1048576 :=
  ⟨Nat.le_trans h.bulk.1 hb, fun f hf => ⟨Nat.le_trans (h.bulk.2 f hf).1 hb, Nat.le_trans (h.bulk.2 f hf).2 hb⟩⟩
end Go.Proofs.YtbjcbdgkgbjaiaaDoor
