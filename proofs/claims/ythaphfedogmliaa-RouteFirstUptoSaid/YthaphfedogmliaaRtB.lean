/- The contract of route.Find over vhosts as they lie in a world. -/
import Derived.Test.YthaphfedogmliaaRtA
set_option linter.unusedVariables false
set_option linter.unusedSimpArgs false
namespace Go.Proofs.Ythaphfedogmliaa
open Go.RowKit Lex

/-- The routes, as they lie in a world. -/
def Rts (w : World) (A : Option Addr) (rs : List Rt) : Prop := ∀ j (h : j < rs.length), ∃ (g o : Nat), A = some ⟨g, o, none⟩ ∧ ∀ i u, rs[j].cells[i]? = some u → w.cell? ⟨g, o + j * 13 + i, none⟩ = some u
theorem Rts.below {w w' : World} {A : Option Addr} {rs : List Rt} (h : Rts w A rs) (hb : Below w.heap.size w w') : Rts w' A rs := by
  intro j hj
  obtain ⟨g, o, e, c⟩ := h j hj
  exact ⟨g, o, e, fun i u hu => (hb.cell (World.block_lt_of_cell? w _ (c i u hu))).trans (c i u hu)⟩
structure Vh where
  dom : List UInt8
  ra : Option Addr
  rc : Nat
  rs : List Rt
/-- The vhosts, as they lie in a world. -/
def Vhs (w : World) (A : Option Addr) (vs : List Vh) : Prop := ∀ j (h : j < vs.length), ∃ (g o : Nat), A = some ⟨g, o, none⟩ ∧ w.cell? ⟨g, o + j * 2, none⟩ = some (.string (bs vs[j].dom)) ∧ w.cell? ⟨g, o + j * 2 + 1, none⟩ = some (.slice vs[j].ra vs[j].rs.length vs[j].rc) ∧ Rts w vs[j].ra vs[j].rs
theorem Vhs.below {w w' : World} {A : Option Addr} {vs : List Vh} (h : Vhs w A vs) (hb : Below w.heap.size w w') : Vhs w' A vs := by
  intro j hj
  obtain ⟨g, o, e, c1, c2, hr⟩ := h j hj
  exact ⟨g, o, e, (hb.cell (World.block_lt_of_cell? w _ c1)).trans c1, (hb.cell (World.block_lt_of_cell? w _ c2)).trans c2, hr.below hb⟩
theorem Vhs.doms {w : World} {A : Option Addr} {vs : List Vh} (h : Vhs w A vs) : Doms w A (vs.map (·.dom)) := by
  intro j hj
  rw [List.length_map] at hj
  obtain ⟨g, o, e, c1, c2, _⟩ := h j hj
  exact ⟨g, o, _, _, _, e, by rw [List.getElem_map]; exact c1, c2⟩
/-- The bounds of vhosts. -/
structure VB (vs : List Vh) : Prop where
  len : vs.length ≤ 1048600
  dom : ∀ v ∈ vs, v.dom.length ≤ 1048600
  rts : ∀ v ∈ vs, v.rs.length ≤ 1048600 ∧ ∀ r ∈ v.rs, r.field.size ≤ 1048600 ∧ r.path.size ≤ 1048600
def takeK (m p : List UInt8) (fs : List Fd) (r : Rt) : Bool := takesL r m p (getF fs r.field.data.toList)
def findR (m p : List UInt8) (fs : List Fd) (rs : List Rt) : Option Nat := rs.findIdx? (takeK m p fs)
def findV (vs : List Vh) (h m p : List UInt8) (fs : List Fd) : Int × Int × Bool :=
  if domain (vs.map (·.dom)) h < 0 then (0, 0, false)
  else match findR m p fs ((vs.map (·.rs)).getD (domain (vs.map (·.dom)) h).toNat []) with
    | some k => (domain (vs.map (·.dom)) h, k, true)
    | none => (0, 0, false)
theorem findR_at {m p : List UInt8} {fs : List Fd} {rs : List Rt} {k : Nat} (h : k < rs.length) (ha : ∀ r ∈ rs.take k, takeK m p fs r = false) (ht : takeK m p fs rs[k] = true) : findR m p fs rs = some k := by
  unfold findR
  rw [List.findIdx?_eq_some_iff_getElem]
  refine ⟨h, ht, fun j hj => ?_⟩
  have hm : rs[j] ∈ rs.take k := by
    rw [List.mem_take_iff_getElem]
    exact ⟨j, by omega, rfl⟩
  rw [ha _ hm]; simp
theorem findR_none {m p : List UInt8} {fs : List Fd} {rs : List Rt} (ha : ∀ r ∈ rs, takeK m p fs r = false) : findR m p fs rs = none := by
  unfold findR
  rw [List.findIdx?_eq_none_iff]
  exact ha
theorem take_more {α : Type} {q : α → Bool} {l : List α} {k : Nat} (h : k < l.length) (ha : ∀ x ∈ l.take k, q x = false) (hk : q l[k] = false) : ∀ x ∈ l.take (k + 1), q x = false := by
  intro x hx
  rw [List.take_add_one, List.getElem?_eq_getElem h] at hx
  rcases List.mem_append.1 hx with hx | hx
  · exact ha x hx
  · simp at hx; rw [hx]; exact hk
set_option maxRecDepth 100000 in
set_option maxHeartbeats 8000000 in
theorem find_c (c0 c1 c2 c3 c4 c5 f l : Value) (VA : Option Addr) (vcap : Nat) (vs : List Vh) (m h p : ByteArray) (A : Option Addr) (cap : Nat) (fs : List Fd) (w : World) (hV : Vhs w VA vs) (hB : VB vs) (hh : h.size ≤ 1048600) (hp : p.size ≤ 1048600)
    (hl : fs.length ≤ 1048600) (hs1 : ∀ f ∈ fs, f.1.length ≤ 1048600) (hs2 : ∀ f ∈ fs, f.2.length ≤ 1048600) (hF : Flds w A fs) :
    Calls Try.prog 8 #[.agg #[c0, c1, c2, c3, c4, c5, f, l, .slice VA vs.length vcap], .string m, .string h, .string p, .slice A fs.length cap] w fun e w' =>
      e = .returned (.tuple #[.int .i64 (findV vs h.data.toList m.data.toList p.data.toList fs).1, .int .i64 (findV vs h.data.toList m.data.toList p.data.toList fs).2.1, .bool (findV vs h.data.toList m.data.toList p.data.toList fs).2.2]) ∧ Below w.heap.size w w' := by
  have b0 := (Below.refl _ w).alloc (Nat.le_refl _) (.cells #[c0, c1, c2, c3, c4, c5, f, l, .slice VA vs.length vcap] 26)
  obtain ⟨V, hVV⟩ : ∃ V, w.alloc (.cells #[c0, c1, c2, c3, c4, c5, f, l, .slice VA vs.length vcap] 26) = V := ⟨_, rfl⟩
  have k8 : V.cell? ⟨w.heap.size, 8, none⟩ = some (.slice VA vs.length vcap) := by rw [← hVV, World.cell?_alloc_new]; rfl
  have kk : ∀ j u, (#[c0, c1, c2, c3, c4, c5, f, l, .slice VA vs.length vcap])[j]? = some u → V.cell? ⟨w.heap.size, j, none⟩ = some u := fun j u hu => by rw [← hVV, World.cell?_alloc_new]; exact hu
  have q0 := kk 0 _ rfl; have q1 := kk 1 _ rfl; have q2 := kk 2 _ rfl; have q3 := kk 3 _ rfl; have q4 := kk 4 _ rfl; have q5 := kk 5 _ rfl; have q6 := kk 6 _ rfl; have q7 := kk 7 _ rfl
  rw [hVV] at b0
  have hlen : (vs.map (·.dom)).length = vs.length := List.length_map ..
  have DM := Lib.hid (domain_c c0 c1 c2 c3 c4 c5 f l VA vcap (vs.map (·.dom)) h V ((hV.below b0).doms) (by rw [hlen]; have := hB.len; omega) (fun x hx => by obtain ⟨v, hv, rfl⟩ := List.mem_map.1 hx; have := hB.dom v hv; show v.dom.length ≤ _; omega) (by omega))
  rw [hlen] at DM
  obtain ⟨x, hx⟩ : ∃ x, findV vs h.data.toList m.data.toList p.data.toList fs = x := ⟨_, rfl⟩
  rw [hx]
  unfold findV at hx
  have hr := domain_range (vs.map (·.dom)) h.data.toList
  rw [hlen] at hr
  obtain ⟨dm, hdm⟩ : ∃ dm, domain (vs.map (·.dom)) h.data.toList = dm := ⟨_, rfl⟩
  rw [hdm] at DM hx hr
  have BV := Lib.hid b0
  have HVV := Lib.hid hVV
  have HVS := Lib.hid (hV.below b0)
  have HFL := Lib.hid (hF.below b0)
  have HB := Lib.hid hB
  have HS1 := Lib.hid hs1
  have HS2 := Lib.hid hs2
  clear b0 hVV hV hF hdm kk hB hs1 hs2
  by_cases hneg : dm < 0
  · rw [if_pos hneg] at hx
    subst hx
    go_enter Try.func8, Try.ntmps8
    go_wp2_with fail
    rw [HVV.out]
    go_wp2_with fail
    refine DM.out.mono ?_
    rintro e w1 ⟨rfl, hb1⟩
    have B1 := Lib.hid (below_then BV.out hb1)
    clear hb1
    go_wp2_with fail
    go_ret3
    exact ⟨rfl, B1.out⟩
  · rw [if_neg hneg] at hx
    obtain ⟨j, rfl⟩ : ∃ j : Nat, dm = j := ⟨dm.toNat, by omega⟩
    have hj : j < vs.length := by omega
    rw [Int.toNat_natCast, List.getD_eq_getElem?_getD, List.getElem?_map, List.getElem?_eq_getElem hj] at hx
    simp only [Option.map_some, Option.getD_some] at hx
    have HX := Lib.hid hx
    have hbj := HB.out.rts _ (List.getElem_mem hj)
    clear hx hneg
    go_enter Try.func8, Try.ntmps8
    go_wp2_with fail
    rw [HVV.out]
    go_wp2_with fail
    refine DM.out.mono ?_
    rintro e w1 ⟨rfl, hb1⟩
    have B1 := Lib.hid (below_then BV.out hb1)
    have FL1 := Lib.hid (HFL.out.below hb1)
    have k8' := cell_below hb1 k8
    obtain ⟨g, o, rfl, d1, d2, hR⟩ := (HVS.out.below hb1) j hj
    have HR := Lib.hid hR
    have hlt1 := World.block_lt_of_cell? w1 _ k8'
    have hlt2 := World.block_lt_of_cell? w1 _ d2
    clear hb1 k8 q0 q1 q2 q3 q4 q5 q6 q7 hR d1
    obtain ⟨v, hv⟩ : ∃ v, vs[j] = v := ⟨_, rfl⟩
    rw [hv] at d2 HX hbj HR
    obtain ⟨dom, ra, rc, rs⟩ := v
    simp only at d2 HX hbj HR
    have j0 : (0 : Int) ≤ (j : Int) := by omega
    have j1 : (j : Int) < (vs.length : Int) := by omega
    clear hv hr
    go_wp2_with fail
    go_loopw [28] (fun i wr => ∃ k : Nat, k ≤ rs.length ∧ i = .int .i64 k ∧ (∀ r ∈ rs.take k, takeK m.data.toList p.data.toList fs r = false) ∧ Below w1.heap.size w1 wr) (fun i _ => rs.length - (intOf i).toNat)
    case atStart => exact ⟨0, Nat.zero_le _, rfl, by simp, Below.refl _ _⟩
    case round =>
      obtain ⟨k, hk, rfl, hall, hB⟩ := hrel
      have HA := Lib.hid hall
      have BR := Lib.hid hB
      clear hall hB
      by_cases hlt : k < rs.length
      · obtain ⟨g2, o2, rfl, hc⟩ := HR.out.below BR.out k hlt
        have hbk := hbj.2 _ (List.getElem_mem hlt)
        have HT := Lib.hid (findR_at (m := m.data.toList) (p := p.data.toList) (fs := fs) hlt HA.out)
        have HN := Lib.hid (take_more (q := takeK m.data.toList p.data.toList fs) hlt HA.out)
        obtain ⟨r, hr⟩ : ∃ r, rs[k] = r := ⟨_, rfl⟩
        rw [hr] at hc hbk HT HN
        have s0 := hc 0 _ rfl; have s1 := hc 1 _ rfl; have s2 := hc 2 _ rfl; have s3 := hc 3 _ rfl; have s4 := hc 4 _ rfl; have s5 := hc 5 _ rfl; have s6 := hc 6 _ rfl
        have s7 := hc 7 _ rfl; have s8 := hc 8 _ rfl; have s9 := hc 9 _ rfl; have s10 := hc 10 _ rfl; have s11 := hc 11 _ rfl; have s12 := hc 12 _ rfl
        rw [Nat.add_zero] at s0
        have ba := BR.out.alloc (BR.out.size) (.cells r.cells.toArray 39)
        have bb := (Below.refl _ wr).alloc (Nat.le_refl _) (.cells r.cells.toArray 39)
        have TK := Lib.hid (takes_c r m p A cap fs (wr.alloc (.cells r.cells.toArray 39)) hbk.1 hbk.2 hp hl HS1.out HS2.out ((FL1.out.below BR.out).below bb))
        have BA := Lib.hid ba
        have hg2 := World.block_lt_of_cell? wr _ s0
        have n0 : (0 : Int) ≤ (k : Int) := by omega
        have n1 : (k : Int) < (rs.length : Int) := by omega
        obtain ⟨pre, pa, me, fi, va, r5, r6, r7, r8, r9, r10, r11, r12⟩ := r
        unfold Rt.val at TK
        simp only [Rt.cells] at TK BA
        simp only at s0 s1 s2 s3 s4 s5 s6 s7 s8 s9 s10 s11 s12 hbk
        clear hr hc ba bb
        obtain ⟨tk, htk⟩ : ∃ tk, takeK m.data.toList p.data.toList fs ⟨pre, pa, me, fi, va, r5, r6, r7, r8, r9, r10, r11, r12⟩ = tk := ⟨_, rfl⟩
        rw [htk] at HT HN
        unfold takeK at htk
        simp only at htk
        rw [htk] at TK
        clear htk
        cases tk
        case false =>
          have HN2 := Lib.hid (HN.out rfl)
          go_wp2_with fail
          refine TK.out.mono ?_
          rintro e w4 ⟨rfl, hb4⟩
          have B4 := Lib.hid (below_then BA.out hb4)
          clear hb4 TK HT HN
          go_wp2_with fail
          go_roundw
          case rel => exact ⟨k + 1, by omega, by go_num, HN2.out, B4.out⟩
          case measure => simp [intOf]; omega
        case true =>
          have hx := HX.out
          rw [HT.out rfl] at hx
          subst hx
          go_wp2_with fail
          refine TK.out.mono ?_
          rintro e w4 ⟨rfl, hb4⟩
          have B4 := Lib.hid (below_then B1.out (below_then BA.out hb4))
          clear hb4 TK HT HN
          go_wp2_with fail
          go_ret3
          exact ⟨rfl, B4.out⟩
      · obtain rfl : k = rs.length := by omega
        have hx := HX.out
        have ha := HA.out
        rw [List.take_length] at ha
        rw [findR_none ha] at hx
        subst hx
        clear ha
        go_wp2_with fail
        go_ret3
        exact ⟨rfl, below_then B1.out BR.out⟩
end Go.Proofs.Ythaphfedogmliaa
