/- A route and a config that came in, opened: how their cells lie, and that their bulk bounds them (printed by gro.py). -/
import Derived.Test.YthaphfedogmliaaRows
import Derived.Test.YthaphfedogmliaaRtB
import Derived.Test.YthaphfedogmliaaFldO
import Derived.Deep.Fields
set_option linter.unusedVariables false
set_option linter.unusedSimpArgs false
namespace Go.Proofs.Ythaphfedogmliaa
open Go.RowKit Lex Go.ChangeShapes Go.WideShapes Go.ChangeAt Go.Deep

set_option maxRecDepth 100000 in
theorem open_route_cells {H : Type} {enc : TypeId × Value → H} {W : World} {fuel : Nat} {cs : List Value} {x : DataW H × List MemPlace} (h : DataW.trod enc Try.prog W 0 (fun _ => true) true fuel 39 cs = some x) :
    ∃ r : Rt, cs = r.cells ∧ r.field.size ≤ Rows.uptoBulk x.1 ∧ r.path.size ≤ Rows.uptoBulk x.1 := by
  have hu : ∃ f0 f1 f2 f3 f4 f5 f6 f7 f8 f9 f10 f11 f12, Try.prog.underlying 39 = some (.struct #[f0, f1, f2, f3, f4, f5, f6, f7, f8, f9, f10, f11, f12]) ∧ oneCellFields Try.prog #[f0, f1, f2, f3, f4, f5, f6, f7, f8, f9, f10, f11, f12] = true ∧ f0.type = 4 ∧ f1.type = 9 ∧ f2.type = 9 ∧ f3.type = 9 ∧ f4.type = 9 ∧ f5.type = 3 ∧ f6.type = 9 ∧ f7.type = 3 ∧ f8.type = 9 ∧ f9.type = 9 ∧ f10.type = 3 ∧ f11.type = 3 ∧ f12.type = 4 := ⟨_, _, _, _, _, _, _, _, _, _, _, _, _, Try.underlying39, by kernel_rfl, rfl, rfl, rfl, rfl, rfl, rfl, rfl, rfl, rfl, rfl, rfl, rfl, rfl⟩
  obtain ⟨f0, f1, f2, f3, f4, f5, f6, f7, f8, f9, f10, f11, f12, hu, hone, t0, t1, t2, t3, t4, t5, t6, t7, t8, t9, t10, t11, t12⟩ := hu
  obtain ⟨xs, n, _, hx, hsz, hlen, hg⟩ := DataW.trod_struct hu h
  have hC : Try.prog.cellsOf 39 = 13 := by kernel_rfl
  match cs, hsz.trans hC with
  | [c0, c1, c2, c3, c4, c5, c6, c7, c8, c9, c10, c11, c12], _ =>
    match xs, hlen with
    | [y0, y1, y2, y3, y4, y5, y6, y7, y8, y9, y10, y11, y12], _ =>
      obtain ⟨o0, k0⟩ := hone_of hone 0 f0 rfl
      obtain ⟨o1, k1⟩ := hone_of hone 1 f1 rfl
      obtain ⟨o2, k2⟩ := hone_of hone 2 f2 rfl
      obtain ⟨o3, k3⟩ := hone_of hone 3 f3 rfl
      obtain ⟨o4, k4⟩ := hone_of hone 4 f4 rfl
      obtain ⟨o5, k5⟩ := hone_of hone 5 f5 rfl
      obtain ⟨o6, k6⟩ := hone_of hone 6 f6 rfl
      obtain ⟨o7, k7⟩ := hone_of hone 7 f7 rfl
      obtain ⟨o8, k8⟩ := hone_of hone 8 f8 rfl
      obtain ⟨o9, k9⟩ := hone_of hone 9 f9 rfl
      obtain ⟨o10, k10⟩ := hone_of hone 10 f10 rfl
      obtain ⟨o11, k11⟩ := hone_of hone 11 f11 rfl
      obtain ⟨o12, k12⟩ := hone_of hone 12 f12 rfl
      have g0 : DataW.trod enc Try.prog W 0 (fun _ => true) true n f0.type [c0] = some y0 := by simpa [o0, k0] using hg 0 f0 rfl
      have g1 : DataW.trod enc Try.prog W 0 (fun _ => true) true n f1.type [c1] = some y1 := by simpa [o1, k1] using hg 1 f1 rfl
      have g2 : DataW.trod enc Try.prog W 0 (fun _ => true) true n f2.type [c2] = some y2 := by simpa [o2, k2] using hg 2 f2 rfl
      have g3 : DataW.trod enc Try.prog W 0 (fun _ => true) true n f3.type [c3] = some y3 := by simpa [o3, k3] using hg 3 f3 rfl
      have g4 : DataW.trod enc Try.prog W 0 (fun _ => true) true n f4.type [c4] = some y4 := by simpa [o4, k4] using hg 4 f4 rfl
      have g5 : DataW.trod enc Try.prog W 0 (fun _ => true) true n f5.type [c5] = some y5 := by simpa [o5, k5] using hg 5 f5 rfl
      have g6 : DataW.trod enc Try.prog W 0 (fun _ => true) true n f6.type [c6] = some y6 := by simpa [o6, k6] using hg 6 f6 rfl
      have g7 : DataW.trod enc Try.prog W 0 (fun _ => true) true n f7.type [c7] = some y7 := by simpa [o7, k7] using hg 7 f7 rfl
      have g8 : DataW.trod enc Try.prog W 0 (fun _ => true) true n f8.type [c8] = some y8 := by simpa [o8, k8] using hg 8 f8 rfl
      have g9 : DataW.trod enc Try.prog W 0 (fun _ => true) true n f9.type [c9] = some y9 := by simpa [o9, k9] using hg 9 f9 rfl
      have g10 : DataW.trod enc Try.prog W 0 (fun _ => true) true n f10.type [c10] = some y10 := by simpa [o10, k10] using hg 10 f10 rfl
      have g11 : DataW.trod enc Try.prog W 0 (fun _ => true) true n f11.type [c11] = some y11 := by simpa [o11, k11] using hg 11 f11 rfl
      have g12 : DataW.trod enc Try.prog W 0 (fun _ => true) true n f12.type [c12] = some y12 := by simpa [o12, k12] using hg 12 f12 rfl
      rw [t0] at g0; rw [t1] at g1; rw [t2] at g2; rw [t3] at g3; rw [t4] at g4; rw [t5] at g5; rw [t6] at g6; rw [t7] at g7; rw [t8] at g8; rw [t9] at g9; rw [t10] at g10; rw [t11] at g11; rw [t12] at g12
      obtain ⟨pre, e0, x0⟩ := DataW.trod_bool Try.underlying4 g0
      obtain ⟨pa, e1, x1, _⟩ := DataW.trod_string Try.underlying9 g1
      obtain ⟨me, e2, x2, _⟩ := DataW.trod_string Try.underlying9 g2
      obtain ⟨fi, e3, x3, _⟩ := DataW.trod_string Try.underlying9 g3
      obtain ⟨va, e4, x4, _⟩ := DataW.trod_string Try.underlying9 g4
      obtain ⟨r5, e5, x5, _⟩ := DataW.trod_int Try.underlying3 g5
      obtain ⟨r6, e6, x6, _⟩ := DataW.trod_string Try.underlying9 g6
      obtain ⟨r7, e7, x7, _⟩ := DataW.trod_int Try.underlying3 g7
      obtain ⟨r8, e8, x8, _⟩ := DataW.trod_string Try.underlying9 g8
      obtain ⟨r9, e9, x9, _⟩ := DataW.trod_string Try.underlying9 g9
      obtain ⟨r10, e10, x10, _⟩ := DataW.trod_int Try.underlying3 g10
      obtain ⟨r11, e11, x11, _⟩ := DataW.trod_int Try.underlying3 g11
      obtain ⟨r12, e12, x12⟩ := DataW.trod_bool Try.underlying4 g12
      simp only [List.cons.injEq, and_true] at e0 e1 e2 e3 e4 e5 e6 e7 e8 e9 e10 e11 e12
      subst e0 e1 e2 e3 e4 e5 e6 e7 e8 e9 e10 e11 e12
      have hb : ∀ y ∈ [y0, y1, y2, y3, y4, y5, y6, y7, y8, y9, y10, y11, y12], Rows.uptoBulk y.1 ≤ Rows.uptoBulk x.1 := by
        intro y hy
        have h1 : y.1 ∈ [y0, y1, y2, y3, y4, y5, y6, y7, y8, y9, y10, y11, y12].map (·.1) := List.mem_map.2 ⟨y, hy, rfl⟩
        have h2 := bulkAll_mem h1
        rw [hx]
        simp only [Rows.uptoBulk]
        omega
      have b1 := hb y1 (by simp)
      have b3 := hb y3 (by simp)
      rw [x1] at b1; rw [x3] at b3
      simp only [Rows.uptoBulk, Array.length_toList] at b1 b3
      have z : ∀ s : ByteArray, s.data.size = s.size := fun s => rfl
      rw [z] at b1 b3
      exact ⟨⟨pre, pa, me, fi, va, r5, r6, r7, r8, r9, r10, r11, r12⟩, rfl, by show fi.size ≤ _; omega, by show pa.size ≤ _; omega⟩
theorem spot_none {W : World} {g o : Nat} {sp} {v : Value} (h : W.cell? ⟨g, o, sp⟩ = some v) : sp = none := World.cell?_spot h
/-- Routes that came in. -/
theorem open_routes_cells {H : Type} {enc : TypeId × Value → H} {W : World} {fuel : Nat} {v : Value} {x : DataW H × List MemPlace} (h : DataW.trod enc Try.prog W 0 (fun _ => true) true fuel 34 [v] = some x) :
    ∃ (a : Option Addr) (c : Nat) (rs : List Rt), v = .slice a rs.length c ∧ Rts W a rs ∧ rs.length ≤ Rows.uptoBulk x.1 ∧ ∀ r ∈ rs, r.field.size ≤ Rows.uptoBulk x.1 ∧ r.path.size ≤ Rows.uptoBulk x.1 := by
  rcases open_slice Try.underlying34 h with ⟨e, rfl⟩ | ⟨ad, len, cap, m, n, D, Pl, e, hb, hl, hm, hmm, rfl, hi⟩
  · simp only [List.cons.injEq, and_true] at e
    exact ⟨none, 0, [], e, fun j hj => absurd hj (Nat.not_lt_zero _), Nat.zero_le _, fun r hr => by cases hr⟩
  · simp only [List.cons.injEq, and_true] at e
    have hC : Try.prog.cellsOf 39 = 13 := by kernel_rfl
    have hlm : len ≤ m := by rw [hmm]; simpa using hl
    have key : ∀ i, ∃ r : Rt, i < len → (∀ q u, r.cells[q]? = some u → W.cell? ((ad.add (i * 13)).add q) = some u) ∧ r.field.size ≤ Rows.uptoBulk (D i) ∧ r.path.size ≤ Rows.uptoBulk (D i) := by
      intro i
      by_cases hlt : i < len
      · obtain ⟨cs', h1, h2⟩ := hi i (by omega)
        rw [hC] at h1
        obtain ⟨_, hlen, hcell⟩ := World.cells?_some h1
        obtain ⟨r, hr, hb1, hb2⟩ := open_route_cells h2
        refine ⟨r, fun _ => ⟨fun q u hu => ?_, hb1, hb2⟩⟩
        have hq : q < 13 := (List.getElem?_eq_some_iff.1 hu).1
        rw [hcell q hq, hr, hu]
      · exact ⟨⟨false, ⟨#[]⟩, ⟨#[]⟩, ⟨#[]⟩, ⟨#[]⟩, 0, ⟨#[]⟩, 0, ⟨#[]⟩, ⟨#[]⟩, 0, 0, false⟩, fun h => absurd h hlt⟩
    obtain ⟨f, hf⟩ := Classical.axiomOfChoice key
    have hll : ((List.range len).map f).length = len := by simp
    refine ⟨some ad, cap, (List.range len).map f, by rw [hll]; exact e, ?_, ?_, ?_⟩
    · intro j hj
      rw [hll] at hj
      obtain ⟨hc, _⟩ := hf j hj
      have hsp : ad.spot = none := by
        have h0 := (hf 0 (by omega)).1 0 _ rfl
        simpa [Addr.add] using World.cell?_spot h0
      obtain ⟨g, o, sp⟩ := ad
      simp only at hsp
      subst hsp
      refine ⟨g, o, rfl, fun i u hu => ?_⟩
      simp only [List.getElem_map, List.getElem_range] at hu
      have := hc i u hu
      have ha : ∀ q o, (⟨g, o, none⟩ : Addr).add q = ⟨g, o + q, none⟩ := fun q o => by
        unfold Addr.add
        by_cases hq : q = 0
        · rw [if_pos hq, hq]; rfl
        · rw [if_neg hq]
      rw [ha, ha] at this
      exact this
    · have h1 := bulkAll_length ((List.range len).map D)
      rw [List.length_map, List.length_range] at h1
      rw [hll]
      simp only [Rows.uptoBulk]
      omega
    · intro r hr
      obtain ⟨i, hi1, rfl⟩ := List.mem_map.1 hr
      have hi2 := List.mem_range.1 hi1
      have h1 := bulkAll_mem (List.mem_map.2 ⟨i, hi1, rfl⟩ : D i ∈ (List.range len).map D)
      obtain ⟨_, h2, h3⟩ := hf i hi2
      simp only [Rows.uptoBulk]
      omega
/-- Vhosts that came in. -/
theorem open_vhosts_cells {H : Type} {enc : TypeId × Value → H} {W : World} {fuel : Nat} {v : Value} {x : DataW H × List MemPlace} (h : DataW.trod enc Try.prog W 0 (fun _ => true) true fuel 24 [v] = some x) :
    ∃ (a : Option Addr) (c : Nat) (vs : List Vh), v = .slice a vs.length c ∧ Vhs W a vs ∧ vs.length ≤ Rows.uptoBulk x.1 ∧ ∀ u ∈ vs, u.dom.length ≤ Rows.uptoBulk x.1 ∧ u.rs.length ≤ Rows.uptoBulk x.1 ∧ ∀ r ∈ u.rs, r.field.size ≤ Rows.uptoBulk x.1 ∧ r.path.size ≤ Rows.uptoBulk x.1 := by
  have hu : ∃ f0 f1, Try.prog.underlying 36 = some (.struct #[f0, f1]) ∧ f0.offset = 0 ∧ f1.offset = 1 ∧ f0.type = 9 ∧ f1.type = 34 := ⟨_, _, Try.underlying36, rfl, rfl, rfl, rfl⟩
  obtain ⟨f0, f1, hu, o0, o1, t0, t1⟩ := hu
  rcases Go.Deep.open_slice_pairs Try.underlying24 hu (by kernel_rfl) o0 o1 (by rw [t0]; kernel_rfl) (by rw [t1]; kernel_rfl) h with ⟨e, rfl⟩ | ⟨ad, len, cap, m, k, V0, V1, D0, D1, P0, P1, e, hb, hl, hm, hmm, rfl, hi⟩
  · simp only [List.cons.injEq, and_true] at e
    exact ⟨none, 0, [], e, fun j hj => absurd hj (Nat.not_lt_zero _), Nat.zero_le _, fun r hr => by cases hr⟩
  · simp only [List.cons.injEq, and_true] at e
    have hlm : len ≤ m := by rw [hmm]; simpa using hl
    rw [t0, t1] at hi
    have key : ∀ i, ∃ u : Vh, i < len → V0 i = .string (bs u.dom) ∧ V1 i = .slice u.ra u.rs.length u.rc ∧ Rts W u.ra u.rs ∧ u.dom.length ≤ Rows.uptoBulk (D0 i) ∧ u.rs.length ≤ Rows.uptoBulk (D1 i) ∧ ∀ r ∈ u.rs, r.field.size ≤ Rows.uptoBulk (D1 i) ∧ r.path.size ≤ Rows.uptoBulk (D1 i) := by
      intro i
      by_cases hlt : i < len
      · obtain ⟨_, _, h2, h3⟩ := hi i (by omega)
        obtain ⟨s0, e0, x0, _⟩ := DataW.trod_string Try.underlying9 h2
        simp only [List.cons.injEq, and_true] at e0
        simp only [Prod.mk.injEq] at x0
        obtain ⟨ra, rc, rs, e1, hR, hb1, hb2⟩ := open_routes_cells h3
        refine ⟨⟨s0.data.toList, ra, rc, rs⟩, fun _ => ⟨by rw [e0], e1, hR, ?_, hb1, hb2⟩⟩
        rw [x0.1]
        simp only [Rows.uptoBulk]
        omega
      · exact ⟨⟨[], none, 0, []⟩, fun h => absurd h hlt⟩
    obtain ⟨f, hf⟩ := Classical.axiomOfChoice key
    have hll : ((List.range len).map f).length = len := by simp
    refine ⟨some ad, cap, (List.range len).map f, by rw [hll]; exact e, ?_, ?_, ?_⟩
    · intro j hj
      rw [hll] at hj
      obtain ⟨c0, c1, _, _⟩ := hi j (by omega)
      obtain ⟨s0, s1, s2, _⟩ := hf j hj
      rw [s0] at c0
      rw [s1] at c1
      have hsp : ad.spot = none := by
        have h0 := (hi 0 (by omega)).1
        simpa [Addr.add] using World.cell?_spot h0
      obtain ⟨g, o, sp⟩ := ad
      simp only at hsp
      subst hsp
      have ha : ∀ q, (⟨g, o, none⟩ : Addr).add q = ⟨g, o + q, none⟩ := fun q => by
        unfold Addr.add
        by_cases hq : q = 0
        · rw [if_pos hq, hq]; rfl
        · rw [if_neg hq]
      rw [ha] at c0 c1
      refine ⟨g, o, rfl, ?_, ?_, ?_⟩
      · simp only [List.getElem_map, List.getElem_range]; exact c0
      · simp only [List.getElem_map, List.getElem_range]; rw [Nat.add_assoc]; exact c1
      · simp only [List.getElem_map, List.getElem_range]; exact s2
    · have h1 := bulkAll_length ((List.range len).map fun i => DataW.agg [D0 i, D1 i])
      rw [List.length_map, List.length_range] at h1
      rw [hll]
      simp only [Rows.uptoBulk]
      omega
    · intro u hu
      obtain ⟨i, hi1, rfl⟩ := List.mem_map.1 hu
      have hi2 := List.mem_range.1 hi1
      have h1 := bulkAll_mem (List.mem_map.2 ⟨i, hi1, rfl⟩ : DataW.agg [D0 i, D1 i] ∈ (List.range len).map fun i => DataW.agg [D0 i, D1 i])
      obtain ⟨_, _, _, b1, b2, b3⟩ := hf i hi2
      simp only [Rows.uptoBulk, Rows.uptoBulkAll] at h1 ⊢
      exact ⟨by omega, by omega, fun r hr => by have := b3 r hr; omega⟩
theorem slice_shape {H : Type} {enc : TypeId × Value → H} {W : World} {fuel : Nat} {t e : TypeId} {v : Value} {x : DataW H × List MemPlace} (ht : Try.prog.underlying t = some (.slice e)) (h : DataW.trod enc Try.prog W 0 (fun _ => true) true fuel t [v] = some x) : ∃ a n c, v = .slice a n c := by
  rcases open_slice ht h with ⟨e, _⟩ | ⟨ad, len, cap, m, n, D, Pl, e, _⟩
  · simp only [List.cons.injEq, and_true] at e; exact ⟨_, _, _, e⟩
  · simp only [List.cons.injEq, and_true] at e; exact ⟨_, _, _, e⟩
/-- What is known of a config that came in. -/
structure CameC {H : Type} (W : World) (v : Value) (d : DataW H) (i0 i1 i2 i3 i4 i5 : Int) (Fa : Option Addr) (Fn Fc : Nat) (La : Option Addr) (Ln Lc : Nat) (VA : Option Addr) (vcap : Nat) (vs : List Vh) : Prop where
  is : v = .agg #[.int .i64 i0, .int .i64 i1, .int .i64 i2, .int .i64 i3, .int .i64 i4, .int .i64 i5, .slice Fa Fn Fc, .slice La Ln Lc, .slice VA vs.length vcap]
  vhs : Vhs W VA vs
  len : vs.length ≤ Rows.uptoBulk d
  bulk : ∀ u ∈ vs, u.dom.length ≤ Rows.uptoBulk d ∧ u.rs.length ≤ Rows.uptoBulk d ∧ ∀ r ∈ u.rs, r.field.size ≤ Rows.uptoBulk d ∧ r.path.size ≤ Rows.uptoBulk d
theorem CameC.vb {H : Type} {W : World} {v : Value} {d : DataW H} {i0 i1 i2 i3 i4 i5 : Int} {Fa : Option Addr} {Fn Fc : Nat} {La : Option Addr} {Ln Lc : Nat} {VA : Option Addr} {vcap : Nat} {vs : List Vh} (h : CameC W v d i0 i1 i2 i3 i4 i5 Fa Fn Fc La Ln Lc VA vcap vs) (hb : Rows.uptoBulk d ≤ 1048576) : VB vs :=
  ⟨by have := h.len; omega, fun u hu => by have := (h.bulk u hu).1; omega, fun u hu => ⟨by have := (h.bulk u hu).2.1; omega, fun r hr => by have := (h.bulk u hu).2.2 r hr; omega⟩⟩
theorem CameC.rl {H : Type} {W : World} {v : Value} {d : DataW H} {i0 i1 i2 i3 i4 i5 : Int} {Fa : Option Addr} {Fn Fc : Nat} {La : Option Addr} {Ln Lc : Nat} {VA : Option Addr} {vcap : Nat} {vs : List Vh} (h : CameC W v d i0 i1 i2 i3 i4 i5 Fa Fn Fc La Ln Lc VA vcap vs) (hb : Rows.uptoBulk d ≤ 1048576) : ∀ u ∈ vs, u.rs.length ≤ 1048576 := fun u hu => by have := (h.bulk u hu).2.1; omega
set_option maxRecDepth 100000 in
theorem open_config {H : Type} {enc : TypeId × Value → H} {W : World} {r : Reach} {b0 : Nat} {v : Value} {d : DataW H} {p : List MemPlace} (hv : Value.okWide Try.prog W r b0 26 v) (h : DataW.Trod enc Try.prog W 0 (fun _ => true) true 26 v d p) :
    ∃ i0 i1 i2 i3 i4 i5 Fa Fn Fc La Ln Lc VA vcap vs, CameC W v d i0 i1 i2 i3 i4 i5 Fa Fn Fc La Ln Lc VA vcap vs := by
  have hu : ∃ f0 f1 f2 f3 f4 f5 f6 f7 f8, Try.prog.underlying 26 = some (.struct #[f0, f1, f2, f3, f4, f5, f6, f7, f8]) ∧ oneCellFields Try.prog #[f0, f1, f2, f3, f4, f5, f6, f7, f8] = true ∧ f0.type = 3 ∧ f1.type = 3 ∧ f2.type = 3 ∧ f3.type = 3 ∧ f4.type = 3 ∧ f5.type = 3 ∧ f6.type = 22 ∧ f7.type = 23 ∧ f8.type = 24 := ⟨_, _, _, _, _, _, _, _, _, Try.underlying26, by kernel_rfl, rfl, rfl, rfl, rfl, rfl, rfl, rfl, rfl, rfl⟩
  obtain ⟨f0, f1, f2, f3, f4, f5, f6, f7, f8, hu, hone, t0, t1, t2, t3, t4, t5, t6, t7, t8⟩ := hu
  obtain ⟨cs, rfl, hsz⟩ := okWide_struct hu hv
  have hC : Try.prog.cellsOf 26 = 9 := by kernel_rfl
  obtain ⟨l⟩ := cs
  match l, hsz.trans hC with
  | [c0, c1, c2, c3, c4, c5, c6, c7, c8], _ =>
    obtain ⟨fuel, hf⟩ := h
    obtain ⟨xs, n, _, hx, _, hlen, hg⟩ := DataW.trod_struct hu hf
    match xs, hlen with
    | [y0, y1, y2, y3, y4, y5, y6, y7, y8], _ =>
      simp only [Prod.mk.injEq] at hx
      obtain ⟨hd, hp⟩ := hx
      obtain ⟨o0, k0⟩ := hone_of hone 0 f0 rfl
      obtain ⟨o1, k1⟩ := hone_of hone 1 f1 rfl
      obtain ⟨o2, k2⟩ := hone_of hone 2 f2 rfl
      obtain ⟨o3, k3⟩ := hone_of hone 3 f3 rfl
      obtain ⟨o4, k4⟩ := hone_of hone 4 f4 rfl
      obtain ⟨o5, k5⟩ := hone_of hone 5 f5 rfl
      obtain ⟨o6, k6⟩ := hone_of hone 6 f6 rfl
      obtain ⟨o7, k7⟩ := hone_of hone 7 f7 rfl
      obtain ⟨o8, k8⟩ := hone_of hone 8 f8 rfl
      have g0 : DataW.trod enc Try.prog W 0 (fun _ => true) true n f0.type [c0] = some y0 := by simpa [Value.cells, o0, k0] using hg 0 f0 rfl
      have g1 : DataW.trod enc Try.prog W 0 (fun _ => true) true n f1.type [c1] = some y1 := by simpa [Value.cells, o1, k1] using hg 1 f1 rfl
      have g2 : DataW.trod enc Try.prog W 0 (fun _ => true) true n f2.type [c2] = some y2 := by simpa [Value.cells, o2, k2] using hg 2 f2 rfl
      have g3 : DataW.trod enc Try.prog W 0 (fun _ => true) true n f3.type [c3] = some y3 := by simpa [Value.cells, o3, k3] using hg 3 f3 rfl
      have g4 : DataW.trod enc Try.prog W 0 (fun _ => true) true n f4.type [c4] = some y4 := by simpa [Value.cells, o4, k4] using hg 4 f4 rfl
      have g5 : DataW.trod enc Try.prog W 0 (fun _ => true) true n f5.type [c5] = some y5 := by simpa [Value.cells, o5, k5] using hg 5 f5 rfl
      have g6 : DataW.trod enc Try.prog W 0 (fun _ => true) true n f6.type [c6] = some y6 := by simpa [Value.cells, o6, k6] using hg 6 f6 rfl
      have g7 : DataW.trod enc Try.prog W 0 (fun _ => true) true n f7.type [c7] = some y7 := by simpa [Value.cells, o7, k7] using hg 7 f7 rfl
      have g8 : DataW.trod enc Try.prog W 0 (fun _ => true) true n f8.type [c8] = some y8 := by simpa [Value.cells, o8, k8] using hg 8 f8 rfl
      rw [t0] at g0; rw [t1] at g1; rw [t2] at g2; rw [t3] at g3; rw [t4] at g4; rw [t5] at g5; rw [t6] at g6; rw [t7] at g7; rw [t8] at g8
      obtain ⟨i0, e0, _, _⟩ := DataW.trod_int Try.underlying3 g0
      obtain ⟨i1, e1, _, _⟩ := DataW.trod_int Try.underlying3 g1
      obtain ⟨i2, e2, _, _⟩ := DataW.trod_int Try.underlying3 g2
      obtain ⟨i3, e3, _, _⟩ := DataW.trod_int Try.underlying3 g3
      obtain ⟨i4, e4, _, _⟩ := DataW.trod_int Try.underlying3 g4
      obtain ⟨i5, e5, _, _⟩ := DataW.trod_int Try.underlying3 g5
      simp only [List.cons.injEq, and_true] at e0 e1 e2 e3 e4 e5
      subst e0 e1 e2 e3 e4 e5
      obtain ⟨Fa, Fn, Fc, rfl⟩ := slice_shape Try.underlying22 g6
      obtain ⟨La, Ln, Lc, rfl⟩ := slice_shape Try.underlying23 g7
      obtain ⟨VA, vcap, vs, rfl, hV, b1, b2⟩ := open_vhosts_cells g8
      have b : Rows.uptoBulk y8.1 ≤ Rows.uptoBulk d := by
        have h2 := bulkAll_mem (List.mem_map.2 ⟨y8, by simp, rfl⟩ : y8.1 ∈ [y0, y1, y2, y3, y4, y5, y6, y7, y8].map (·.1))
        rw [hd]
        simp only [Rows.uptoBulk]
        omega
      exact ⟨i0, i1, i2, i3, i4, i5, Fa, Fn, Fc, La, Ln, Lc, VA, vcap, vs, rfl, hV, by omega, fun u hu => by
        obtain ⟨q1, q2, q3⟩ := b2 u hu
        exact ⟨by omega, by omega, fun r hr => by have := q3 r hr; omega⟩⟩
/-- A route that came in. -/
structure CameR {H : Type} (v : Value) (d : DataW H) (r : Rt) : Prop where
  is : v = r.val
  bulk : r.field.size ≤ Rows.uptoBulk d ∧ r.path.size ≤ Rows.uptoBulk d
theorem CameR.fb {H : Type} {v : Value} {d : DataW H} {r : Rt} (h : CameR v d r) (hb : Rows.uptoBulk d ≤ 1048576) : r.field.size ≤ 1048576 ∧ r.path.size ≤ 1048576 := ⟨Nat.le_trans h.bulk.1 hb, Nat.le_trans h.bulk.2 hb⟩
theorem open_route {H : Type} {enc : TypeId × Value → H} {W : World} {r : Reach} {b0 : Nat} {v : Value} {d : DataW H} {p : List MemPlace} (hv : Value.okWide Try.prog W r b0 39 v) (h : DataW.Trod enc Try.prog W 0 (fun _ => true) true 39 v d p) : ∃ r : Rt, CameR v d r := by
  have hu : ∃ fs, Try.prog.underlying 39 = some (.struct fs) := ⟨_, Try.underlying39⟩
  obtain ⟨fs, hu⟩ := hu
  obtain ⟨cs, rfl, hsz⟩ := okWide_struct hu hv
  obtain ⟨l⟩ := cs
  obtain ⟨fuel, hf⟩ := h
  obtain ⟨r, hr, b1, b2⟩ := open_route_cells (cs := l) (x := (d, p)) (by simpa [Value.cells] using hf)
  exact ⟨r, by rw [hr]; rfl, b1, b2⟩
end Go.Proofs.Ythaphfedogmliaa
