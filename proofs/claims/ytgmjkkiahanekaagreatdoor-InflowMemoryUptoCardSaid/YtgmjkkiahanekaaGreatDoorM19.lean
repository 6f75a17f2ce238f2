/- The texts InD, HdX, InE, HdE in one. -/
import Derived.Test.YtgmjkkiahanekaaGreatDoorM17
import Derived.Test.YtgmjkkiahanekaaGreatDoorM10
import Derived.Test.YtgmjkkiahanekaaGreatDoorM12
import Derived.Test.YtgmjkkiahanekaaGreatDoorM13
import Derived.Test.YtgmjkkiahanekaaGreatDoorM18
import Derived.Test.YtgmjkkiahanekaaGreatDoorM2
import Derived.Test.YtgmjkkiahanekaaGreatDoorM7
import Derived.Test.YtgmjkkiahanekaaGreatDoorM8
import Derived.Test.YtgmjkkiahanekaaGreatDoorM14
import Derived.Test.YtgmjkkiahanekaaGreatDoorM11
import Derived.Test.YtgmjkkiahanekaaGreatDoorM3
/- The contracts of a request's host and upgrade (layer 11). -/
set_option linter.unusedVariables false
set_option linter.unusedSimpArgs false
namespace Go.Proofs.YtgmjkkiahanekaaGreatDoor
open Go.RowKit Lex

theorem host_low (l : List Fd) : getF l hostU = getF l hostN := by unfold getF; rw [valuesF_low (show lower hostU = lower hostN by decide)]
theorem expect_low (l : List Fd) : getF l expectU = getF l expectN := by unfold getF; rw [valuesF_low (show lower expectU = lower expectN by decide)]
theorem upg_low (l : List Fd) : elementsF l upgU = elementsF l upgN := by unfold elementsF; rw [valuesF_low (show lower upgU = lower upgN by decide)]
def HostPost (w : World) (Q : Nat) (q : Rq) (A : Option Addr) (c : Nat) (x : Option (List UInt8 × Int)) (e : Ending) (w' : World) : Prop :=
  Away (fun k => k = Q) w w' ∧ match x with
  | none => ∃ z : Int, z ≠ 0 ∧ e = .returned (.int .i64 z)
  | some (n, o) => e = .returned (.int .i64 0) ∧ Blk w' Q (rqVs { q with host := n, port := o } A c)
theorem rq_set2 {w : World} {Q : Nat} {q : Rq} {A : Option Addr} {c : Nat} (h : Blk w Q (rqVs q A c)) (n : List UInt8) (o : Int) : Blk ((w.setCell ⟨Q, 12, none⟩ (.string (bs n))).setCell ⟨Q, 13, none⟩ (.int .i64 o)) Q (rqVs { q with host := n, port := o } A c) :=
  (h.set 12 (by simp [rqVs]) _).set 13 (by simp [rqVs]) _
theorem away_set2 (w : World) (Q : Nat) (i j : Nat) (a b : Value) : Away (fun k => k = Q) w ((w.setCell ⟨Q, i, none⟩ a).setCell ⟨Q, j, none⟩ b) := ((Away.refl _ w).put (by exact rfl) _ _).put (by exact rfl) _ _
set_option maxRecDepth 100000 in
set_option maxHeartbeats 4000000 in
theorem ihost_c (Q : Nat) (q : Rq) (A : Option Addr) (c : Nat) (M : Int) (w : World) (hq : Blk w Q (rqVs q A c)) (hB : FB q.head.fields) (hF : Flds w A q.head.fields) (hm : w.cell? ⟨0, 0, none⟩ = some (.int .i64 M)) (hmn : 0 ≤ q.head.minor) (hh : q.host = []) (hp : q.port = 0) :
    Calls Tryz.prog 83 #[.pointer (some ⟨Q, 0, none⟩)] w (HostPost w Q q A c (hostL q.head q.tg)) := by
  have GT := Lib.hid (get_c A c q.head.fields ⟨#[72, 111, 115, 116]⟩ w (by decide) (by have := hB.len; omega) (fun f h => by have := hB.nm f h; omega) (fun f h => by have := hB.vl f h; omega) hF)
  rw [show (⟨#[72, 111, 115, 116]⟩ : ByteArray).data.toList = hostU from rfl, host_low] at GT
  have hgl : (getF q.head.fields hostN).1.length ≤ 4194304 := by
    by_cases hv : valuesF q.head.fields hostN = []
    · unfold getF; rw [hv]; decide
    · obtain ⟨x, xs, hx⟩ := List.exists_cons_of_ne_nil hv
      obtain ⟨f, hf, hf2⟩ := valuesF_mem (l := q.head.fields) (name := hostN) (v := x) (by rw [hx]; exact List.mem_cons_self)
      have := hB.vl f hf
      unfold getF; rw [hx]
      show x.length ≤ _
      rw [← hf2]; omega
  obtain ⟨y, hy⟩ : ∃ y, hostL q.head q.tg = y := ⟨_, rfl⟩
  rw [hy]
  unfold hostL at hy
  generalize getF q.head.fields hostN = g at *
  obtain ⟨gv, gn⟩ := g
  simp only at GT hy hgl
  have HB := Lib.hid hq
  have HM := Lib.hid hm
  have AU := fun w hm => Lib.hid (auth_c (bs gv) M w (by rw [bs_size]; omega) hm)
  rw [bs_list] at AU
  have AUU := Lib.hid AU
  have k4 : w.cell? ⟨Q, 4, none⟩ = some (.int .i64 q.head.minor) := hq.c 4 _ rfl
  have k5 : w.cell? ⟨Q, 5, none⟩ = some (.slice A q.head.fields.length c) := hq.c 5 _ rfl
  have hQ : Q < w.heap.size := World.block_lt_of_cell? w _ (hq.c 0 _ rfl)
  have HH := Lib.hid hh
  have HP := Lib.hid hp
  clear hB hF hm hq hgl AU hh hp
  by_cases h1 : 1 < gn
  · rw [if_pos (.inl h1)] at hy
    subst hy
    have h1i : (1 : Int) < (gn : Int) := by omega
    go_enter Tryz.func83, Tryz.ntmps83
    go_wp2_with fail
    refine GT.out.mono ?_
    rintro e w1 ⟨rfl, hb1⟩
    have B1 := Lib.hid hb1
    clear hb1
    go_wp2
    go_ret
    exact ⟨Away.of B1.out, 61, by decide, rfl⟩
  by_cases h0 : gn = 0
  · subst h0
    by_cases hmi : q.head.minor = 0
    · rw [if_neg (by rw [hmi]; simp), if_neg (by simp)] at hy
      have HY := Lib.hid hy
      clear hy h1
      rw [hmi] at k4
      by_cases hf : q.tg.form = 2 ∨ q.tg.form = 3
      · have hy := HY.out
        rw [if_pos hf] at hy
        subst hy
        have hfb : (q.tg.form == 2) = true ∨ ((q.tg.form == 2) = false ∧ (q.tg.form == 3) = true) := by
          rcases hf with h | h
          · exact .inl (by rw [h]; rfl)
          · exact .inr ⟨by rw [h]; rfl, by rw [h]; rfl⟩
        clear hf
        rcases hfb with hfb | ⟨hfb, hfb2⟩
        all_goals
          go_enter Tryz.func83, Tryz.ntmps83
          go_wp2_with fail
          refine GT.out.mono ?_
          rintro e w1 ⟨rfl, hb1⟩
          have B1 := Lib.hid hb1
          have Q1 := Lib.hid (HB.out.below hQ hb1)
          have e4 := Q1.out.c 4 _ rfl
          rw [hmi] at e4
          have e6 := Q1.out.c 6 _ rfl
          have e7 := Q1.out.c 7 _ rfl
          have e8 := Q1.out.c 8 _ rfl
          have e12 := Q1.out.c 12 _ rfl
          have e13 := Q1.out.c 13 _ rfl
          have f12 := Q1.out.fz 12
          have f13 := Q1.out.fz 13
          clear hb1
          go_wp2
          go_region
          all_goals
            go_wp2
            go_ret
            exact ⟨((Away.of B1.out).then (away_set2 _ _ _ _ _ _) (fun _ _ h => h)).drew, rfl, (rq_set2 Q1.out q.tg.host q.tg.port).drew⟩
      · have hy := HY.out
        rw [if_neg hf, if_pos rfl] at hy
        subst hy
        have hf2 : (q.tg.form == 2) = false := by rw [beq_eq_false_iff_ne]; exact fun h => hf (.inl h)
        have hf3 : (q.tg.form == 3) = false := by rw [beq_eq_false_iff_ne]; exact fun h => hf (.inr h)
        clear hf
        go_enter Tryz.func83, Tryz.ntmps83
        go_wp2_with fail
        refine GT.out.mono ?_
        rintro e w1 ⟨rfl, hb1⟩
        have B1 := Lib.hid hb1
        have Q1 := Lib.hid (HB.out.below hQ hb1)
        have e4 := Q1.out.c 4 _ rfl
        rw [hmi] at e4
        have e6 := Q1.out.c 6 _ rfl
        clear hb1
        go_wp2
        go_ret
        refine ⟨Away.of B1.out, rfl, ?_⟩
        have hz : ({ q with host := [], port := 0 } : Rq) = q := by
          have h1 := HH.out
          have h2 := HP.out
          obtain ⟨a1, a2, a3, a4, a5, a6, a7, a8⟩ := q
          simp only at h1 h2
          subst h1 h2
          rfl
        rw [hz]
        exact Q1.out
    · rw [if_pos (.inr ⟨rfl, hmi⟩)] at hy
      subst hy
      have hmp : 0 < q.head.minor := by omega
      go_enter Tryz.func83, Tryz.ntmps83
      go_wp2_with fail
      refine GT.out.mono ?_
      rintro e w1 ⟨rfl, hb1⟩
      have B1 := Lib.hid hb1
      have Q1 := Lib.hid (HB.out.below hQ hb1)
      have e4 := Q1.out.c 4 _ rfl
      clear hb1
      go_wp2
      go_ret
      exact ⟨Away.of B1.out, 61, by decide, rfl⟩
  · obtain rfl : gn = 1 := by omega
    rw [if_neg (by simp)] at hy
    clear h1 h0
    cases ha : authB gv with
    | none =>
      rw [if_pos ⟨rfl, ha⟩] at hy
      subst hy
      rw [ha] at AUU
      simp only [authVal] at AUU
      go_enter Tryz.func83, Tryz.ntmps83
      go_wp2_with fail
      refine GT.out.mono ?_
      rintro e w1 ⟨rfl, hb1⟩
      have B1 := Lib.hid hb1
      have M1 := Lib.hid (cell_below hb1 HM.out)
      clear hb1
      go_wp2_with fail
      refine (AUU.out _ M1.out).out.mono ?_
      rintro e w2 ⟨rfl, hb2⟩
      have B2 := Lib.hid (below_then B1.out hb2)
      clear hb2
      go_wp2
      go_ret
      exact ⟨Away.of B2.out, 61, by decide, rfl⟩
    | some x =>
      obtain ⟨an, ap⟩ := x
      rw [if_neg (by rw [ha]; simp)] at hy
      rw [ha] at AUU hy
      simp only [authVal] at AUU
      have HY := Lib.hid hy
      clear hy
      by_cases hf : q.tg.form = 2 ∨ q.tg.form = 3
      · have hy := HY.out
        rw [if_pos hf] at hy
        subst hy
        have hfb : (q.tg.form == 2) = true ∨ ((q.tg.form == 2) = false ∧ (q.tg.form == 3) = true) := by
          rcases hf with h | h
          · exact .inl (by rw [h]; rfl)
          · exact .inr ⟨by rw [h]; rfl, by rw [h]; rfl⟩
        clear hf
        rcases hfb with hfb | ⟨hfb, hfb2⟩
        all_goals
          go_enter Tryz.func83, Tryz.ntmps83
          go_wp2_with fail
          refine GT.out.mono ?_
          rintro e w1 ⟨rfl, hb1⟩
          have B1 := Lib.hid hb1
          have M1 := Lib.hid (cell_below hb1 HM.out)
          clear hb1
          go_wp2_with fail
          refine (AUU.out _ M1.out).out.mono ?_
          rintro e w2 ⟨rfl, hb2⟩
          have hb3 := below_then B1.out hb2
          have B2 := Lib.hid hb3
          have Q1 := Lib.hid (HB.out.below hQ hb3)
          have Q2 := Lib.hid (rq_set2 Q1.out an ap)
          obtain ⟨V, hV⟩ : ∃ V, (w2.setCell ⟨Q, 12, none⟩ (.string (bs an))).setCell ⟨Q, 13, none⟩ (.int .i64 ap) = V := ⟨_, rfl⟩
          have HV := Lib.hid hV
          rw [hV] at Q2
          have AV : Hid (Away (fun k => k = Q) w2 V) := Lib.hid (by rw [← hV]; exact away_set2 _ _ _ _ _ _)
          have a12 := Q1.out.c 12 _ rfl
          have a13 := Q1.out.c 13 _ rfl
          have g12 := Q1.out.fz 12
          have g13 := Q1.out.fz 13
          have e6 := Q2.out.c 6 _ rfl
          have e7 := Q2.out.c 7 _ rfl
          have e8 := Q2.out.c 8 _ rfl
          have e12 := Q2.out.c 12 _ rfl
          have e13 := Q2.out.c 13 _ rfl
          have f12 := Q2.out.fz 12
          have f13 := Q2.out.fz 13
          clear hb2 hb3 hV
          go_upto_region 9 with fail
          rw [HV.out]
          go_wp2
          go_region
          all_goals
            go_wp2
            go_ret
            refine ⟨(((Away.of B2.out).then AV.out (fun _ _ h => h)).then (away_set2 _ _ _ _ _ _) (fun _ _ h => h)).drew, rfl, ?_⟩
            exact (rq_set2 Q2.out q.tg.host q.tg.port).drew
      · have hy := HY.out
        rw [if_neg hf, if_neg (by decide)] at hy
        subst hy
        have hf2 : (q.tg.form == 2) = false := by rw [beq_eq_false_iff_ne]; exact fun h => hf (.inl h)
        have hf3 : (q.tg.form == 3) = false := by rw [beq_eq_false_iff_ne]; exact fun h => hf (.inr h)
        clear hf
        go_enter Tryz.func83, Tryz.ntmps83
        go_wp2_with fail
        refine GT.out.mono ?_
        rintro e w1 ⟨rfl, hb1⟩
        have B1 := Lib.hid hb1
        have M1 := Lib.hid (cell_below hb1 HM.out)
        clear hb1
        go_wp2_with fail
        refine (AUU.out _ M1.out).out.mono ?_
        rintro e w2 ⟨rfl, hb2⟩
        have hb3 := below_then B1.out hb2
        have B2 := Lib.hid hb3
        have Q1 := Lib.hid (HB.out.below hQ hb3)
        have a6 := Q1.out.c 6 _ rfl
        have a12 := Q1.out.c 12 _ rfl
        have a13 := Q1.out.c 13 _ rfl
        have g12 := Q1.out.fz 12
        have g13 := Q1.out.fz 13
        clear hb2 hb3
        go_wp2
        go_ret
        exact ⟨(Away.of B2.out).then (away_set2 _ _ _ _ _ _) (fun _ _ h => h), rfl, rq_set2 Q1.out an ap⟩
end Go.Proofs.YtgmjkkiahanekaaGreatDoor

/- A head in memory: its cells, its fields' bounds. -/
set_option linter.unusedVariables false
set_option linter.unusedSimpArgs false
namespace Go.Proofs.YtgmjkkiahanekaaGreatDoor
open Go.RowKit Lex

theorem fieldL_len {l : List UInt8} {f : Fd} (h : fieldL l = some f) : f.1.length ≤ l.length ∧ f.2.length ≤ l.length := by
  unfold fieldL at h
  split at h
  · injection h with h
    subst h
    have := cutB_len l 58
    exact ⟨this.1, Nat.le_trans (trim_length _) this.2.1⟩
  · cases h
theorem fieldsL_len : ∀ (room : Nat) {d : List UInt8} {fs : List Fd} {n : Nat} {e : Int}, fieldsL room d = (some (fs, n), e) → ∀ f ∈ fs, f.1.length ≤ 512 ∧ f.2.length ≤ 512
  | 0, d, fs, n, e, h, f, hf => by
    have := (fieldsL_used 0 h).2.2.1
    cases fs with
    | nil => cases hf
    | cons a b => simp at this
  | room + 1, d, fs, n, e, h, f, hf => by
    cases hl : lineL 83 512 d with
    | mk o e0 =>
      cases o with
      | none => rw [fieldsL_none hl] at h; injection h with h; cases h
      | some l =>
        by_cases h0 : l = []
        · subst h0
          rw [fieldsL_end hl] at h
          injection h with h _
          injection h with h
          injection h with h _
          subst h
          cases hf
        · cases hff : fieldL l with
          | none => rw [fieldsL_bad hl h0 hff] at h; injection h with h; cases h
          | some g =>
            rw [fieldsL_step hl h0 hff] at h
            injection h with h _
            cases hr : fieldsL room (d.drop (l.length + 2)) with
            | mk q e2 =>
              rw [hr] at h
              cases q with
              | none => cases h
              | some q =>
                obtain ⟨gs, m⟩ := q
                injection h with h
                injection h with h _
                subst h
                obtain ⟨_, _, _, h512, _⟩ := lineL_some hl
                have hg := fieldL_len hff
                rcases List.mem_cons.1 hf with rfl | hf
                · exact ⟨by omega, by omega⟩
                · exact fieldsL_len room hr f hf
theorem readAt_fb (first : List UInt8 → Hd × Int) (d : List UInt8) (h0 : ∀ l, (first l).1.fields = []) : FB (readAt first d).1.fields := by
  rcases readAt_cases first d with ⟨e, h1, h2⟩ | ⟨l, e, h1, h3, h2⟩ | ⟨l, e, e2, h1, h3, h4, h2⟩ | ⟨l, e, e2, fs, n, h1, h3, h4, h2⟩ <;> rw [h2]
  · exact ⟨Nat.zero_le _, fun f hf => (by cases hf), fun f hf => (by cases hf)⟩
  · exact ⟨Nat.zero_le _, fun f hf => (by cases hf), fun f hf => (by cases hf)⟩
  · exact ⟨Nat.zero_le _, fun f hf => (by cases hf), fun f hf => (by cases hf)⟩
  · have hl := (fieldsL_used 32 h4).2.2.1
    exact ⟨by show fs.length ≤ _; omega, fun f hf => by have := (fieldsL_len 32 h4 f hf).1; omega, fun f hf => by have := (fieldsL_len 32 h4 f hf).2; omega⟩
def hdW (h : Hd) (A : Option Addr) (c : Nat) : List Value := [.string (bs h.method), .string (bs h.target), .int .i64 h.status, .string (bs h.reason), .int .i64 h.minor, .slice A h.fields.length c]
theorem keep7 {w w' : World} {a0 a1 a2 a3 a4 a5 a6 : Addr} {v0 v1 v2 v3 v4 v5 v6 : Value} (h : w.cell? a0 = some v0 ∧ w.cell? a1 = some v1 ∧ w.cell? a2 = some v2 ∧ w.cell? a3 = some v3 ∧ w.cell? a4 = some v4 ∧ w.cell? a5 = some v5 ∧ w.cell? a6 = some v6) (hb : Below w.heap.size w w') :
    w'.cell? a0 = some v0 ∧ w'.cell? a1 = some v1 ∧ w'.cell? a2 = some v2 ∧ w'.cell? a3 = some v3 ∧ w'.cell? a4 = some v4 ∧ w'.cell? a5 = some v5 ∧ w'.cell? a6 = some v6 :=
  ⟨cell_below hb h.1, cell_below hb h.2.1, cell_below hb h.2.2.1, cell_below hb h.2.2.2.1, cell_below hb h.2.2.2.2.1, cell_below hb h.2.2.2.2.2.1, cell_below hb h.2.2.2.2.2.2⟩
theorem hd6_all {w : World} {B : Nat} {h : Hd} {A : Option Addr} {c : Nat} (hb : Blk w B (hdW h A c)) : w.cell? ⟨B, 0, none⟩ = some (.string (bs h.method)) ∧ w.cell? ⟨B, 1, none⟩ = some (.string (bs h.target)) ∧ w.cell? ⟨B, 2, none⟩ = some (.int .i64 h.status) ∧ w.cell? ⟨B, 3, none⟩ = some (.string (bs h.reason)) ∧ w.cell? ⟨B, 4, none⟩ = some (.int .i64 h.minor) ∧ w.cell? ⟨B, 5, none⟩ = some (.slice A h.fields.length c) :=
  ⟨hb.c 0 _ rfl, hb.c 1 _ rfl, hb.c 2 _ rfl, hb.c 3 _ rfl, hb.c 4 _ rfl, hb.c 5 _ rfl⟩
theorem blk_only (W : World) (cs : Array Value) (T : TypeId) (vs : List Value) (B : Nat) (h : cs.toList = vs) (hB : W.heap.size = B) : Blk (W.alloc (.cells cs T)) B vs := by
  subst hB
  exact Blk.new W cs T vs h
theorem own_slice2 {w : World} {base n z : Nat} {e : TypeId} {v : Value} {xs : List Value} (h : w.ownsRow base e z v n xs) : ∃ a c, v = .slice a n c := by
  rcases h.2 with ⟨hv, hn⟩ | ⟨g, cap, cur, hv, _⟩
  · exact ⟨none, 0, by rw [hv, hn]⟩
  · exact ⟨_, _, hv⟩
end Go.Proofs.YtgmjkkiahanekaaGreatDoor

/- The contract of a request's upgrade (layer 11). -/
set_option linter.unusedVariables false
set_option linter.unusedSimpArgs false
namespace Go.Proofs.YtgmjkkiahanekaaGreatDoor
open Go.RowKit Lex

theorem up_no {h : Hd} {k : Int} (hc : ¬ (h.method = getW ∧ h.minor ≠ 0 ∧ k = 1 ∧ (elementsF h.fields upgN).length = 1 ∧ hasF h.fields conn upgN = true)) : upgradeL h k = [] := by unfold upgradeL; rw [if_neg hc]
theorem up_yes {h : Hd} {k : Int} {x : List UInt8} (h1 : h.method = getW) (h2 : h.minor ≠ 0) (h3 : k = 1) (h4 : elementsF h.fields upgN = [x]) (h5 : hasF h.fields conn upgN = true) : upgradeL h k = lower x := by
  unfold upgradeL; rw [if_pos ⟨h1, h2, h3, by rw [h4]; rfl, h5⟩, h4]; rfl
theorem elements_short {fs : List Fd} {name : List UInt8} (hB : FB fs) : ∀ x ∈ elementsF fs name, x.length ≤ 4194304 := by
  intro x hx
  unfold elementsF at hx
  obtain ⟨v, hv, hxv⟩ := List.mem_flatMap.1 hx
  obtain ⟨f, hf, rfl⟩ := valuesF_mem hv
  exact Nat.le_trans (elems_mem x hxv).2.2.2 (hB.vl f hf)
set_option maxRecDepth 100000 in
set_option maxHeartbeats 4000000 in
theorem iupgrade_c (Q : Nat) (q : Rq) (A : Option Addr) (c : Nat) (k l : Int) (M : Int) (w : World) (hq : Blk w Q (rqVs q A c)) (hB : FB q.head.fields) (hF : Flds w A q.head.fields) (hm : w.cell? ⟨0, 0, none⟩ = some (.int .i64 M)) :
    Calls Tryz.prog 86 #[.pointer (some ⟨Q, 0, none⟩), .agg #[.int .i64 k, .int .i64 l]] w fun e w' => e = .returned (.string (bs (upgradeL q.head k))) ∧ Below w.heap.size w w' := by
  have hQ : Q < w.heap.size := World.block_lt_of_cell? w _ (hq.c 0 _ rfl)
  obtain ⟨V, hV⟩ : ∃ V, w.alloc (.cells #[.int .i64 k, .int .i64 l] 96) = V := ⟨_, rfl⟩
  have b0 : Below w.heap.size w V := by rw [← hV]; exact (Below.refl _ w).alloc (Nat.le_refl _) _
  have EL := Lib.hid (elementsf_c A c q.head.fields ⟨#[85, 112, 103, 114, 97, 100, 101]⟩ M V (by decide) (by have := hB.len; omega) (fun f h => by have := hB.nm f h; omega) (fun f h => hB.vl f h) (hF.below b0) (cell_below b0 hm))
  rw [show (⟨#[85, 112, 103, 114, 97, 100, 101]⟩ : ByteArray).data.toList = upgU from rfl, upg_low] at EL
  have HS := fun w' (hb : Below V.heap.size V w') => Lib.hid (hasf_c A c q.head.fields ⟨#[67, 111, 110, 110, 101, 99, 116, 105, 111, 110]⟩ ⟨#[117, 112, 103, 114, 97, 100, 101]⟩ M w' (by decide) (by decide) hB ((hF.below b0).below hb) (cell_below hb (cell_below b0 hm)))
  rw [show (⟨#[67, 111, 110, 110, 101, 99, 116, 105, 111, 110]⟩ : ByteArray).data.toList = conn from rfl, show (⟨#[117, 112, 103, 114, 97, 100, 101]⟩ : ByteArray).data.toList = upgN from rfl] at HS
  have hsh := elements_short (name := upgN) hB
  have UN := Lib.hid (@up_no q.head k)
  have UY := Lib.hid (fun x => @up_yes q.head k x)
  generalize elementsF q.head.fields upgN = L at *
  generalize hasF q.head.fields conn upgN = H at *
  obtain ⟨U, hU⟩ : ∃ U, upgradeL q.head k = U := ⟨_, rfl⟩
  have HU := Lib.hid hU
  rw [hU]
  have QV := Lib.hid (hq.below hQ b0)
  have FV : Hid (Blk V w.heap.size [.int .i64 k, .int .i64 l]) := Lib.hid (by rw [← hV]; exact Blk.new _ _ _ _ rfl)
  have BV := Lib.hid b0
  have HV := Lib.hid hV
  have HSS := Lib.hid HS
  have HSH := Lib.hid hsh
  have k5 : V.cell? ⟨Q, 5, none⟩ = some (.slice A q.head.fields.length c) := QV.out.c 5 _ rfl
  have hVz : w.heap.size < V.heap.size := by rw [← hV]; simp
  clear hq hB hF hm b0 hV hU HS hsh
  have go : ∀ (P : Prop), P → P := fun _ h => h
  by_cases hmt : q.head.method = [71, 69, 84]
  · by_cases hmi : q.head.minor = 0
    · have hu := HU.out.symm.trans (UN.out (fun h => h.2.1 hmi))
      subst hu
      go_enter Tryz.func86, Tryz.ntmps86
      go_upto_region 1 with fail
      rw [HV.out]
      go_wp2_with fail
      refine EL.out.mono ?_
      rintro e w1 ⟨v, rfl, ho, hb1⟩
      have e0 := (QV.out.below (by omega) hb1).c 0 _ rfl
      have e4 := (QV.out.below (by omega) hb1).c 4 _ rfl
      rw [hmi] at e4
      have B1 := Lib.hid (below_then BV.out hb1)
      clear hb1 ho k5
      go_wp2
      go_ret
      exact ⟨rfl, B1.out⟩
    · have hmi' : (q.head.minor == 0) = false := by rw [beq_eq_false_iff_ne]; exact hmi
      by_cases hk : k = 1
      · subst hk
        by_cases hL : L.length = 1
        · obtain ⟨x, rfl⟩ : ∃ x, L = [x] := List.length_eq_one_iff.1 hL
          cases H with
          | false =>
            have hu := HU.out.symm.trans (UN.out (fun h => by simp at h))
            subst hu
            go_enter Tryz.func86, Tryz.ntmps86
            go_upto_region 1 with fail
            rw [HV.out]
            go_wp2_with fail
            refine EL.out.mono ?_
            rintro e w1 ⟨v, rfl, ho, hb1⟩
            obtain ⟨a', c', rfl⟩ := own_slice2 ho
            have e0 := (QV.out.below (by omega) hb1).c 0 _ rfl
            have e4 := (QV.out.below (by omega) hb1).c 4 _ rfl
            have e5 := (QV.out.below (by omega) hb1).c 5 _ rfl
            have g0 := (FV.out.below hVz hb1).c 0 _ rfl
            have B1 := Lib.hid (below_then BV.out hb1)
            have H1 := HSS.out _ hb1
            clear hb1 ho k5
            go_wp2_with fail
            refine H1.out.mono ?_
            rintro e w2 ⟨rfl, hb2⟩
            have B2 := Lib.hid (below_then B1.out hb2)
            clear hb2
            go_wp2
            go_ret
            exact ⟨rfl, B2.out⟩
          | true =>
            have hu := HU.out.symm.trans (UY.out x hmt hmi rfl rfl rfl)
            subst hu
            have LW := fun w => Lib.hid (lower_c (bs x) w (by rw [bs_size]; have := HSH.out x (by simp); omega))
            rw [bs_list] at LW
            go_enter Tryz.func86, Tryz.ntmps86
            go_upto_region 1 with fail
            rw [HV.out]
            go_wp2_with fail
            refine EL.out.mono ?_
            rintro e w1 ⟨v, rfl, ho, hb1⟩
            obtain ⟨g, cp, rfl⟩ : ∃ g cp, v = .slice (some ⟨g, 0, none⟩) 1 cp := by
              rcases ho.2 with ⟨_, hn⟩ | ⟨g, cap, cur, hv, _⟩
              · simp at hn
              · exact ⟨g, cap, hv⟩
            have e0 := (QV.out.below (by omega) hb1).c 0 _ rfl
            have e4 := (QV.out.below (by omega) hb1).c 4 _ rfl
            have e5 := (QV.out.below (by omega) hb1).c 5 _ rfl
            have g0 := (FV.out.below hVz hb1).c 0 _ rfl
            have B1 := Lib.hid (below_then BV.out hb1)
            have H1 := HSS.out _ hb1
            have hc0 : w1.cell? ⟨g, 0, none⟩ = some (.string (bs x)) := by
              have := ho.cells (g := g) rfl 0 (.string (bs x)) rfl
              simpa [Addr.add] using this
            clear hb1 ho k5
            go_wp2_with fail
            refine H1.out.mono ?_
            rintro e w2 ⟨rfl, hb2⟩
            have B2 := Lib.hid (below_then B1.out hb2)
            have hc2 := cell_below hb2 hc0
            clear hb2 hc0
            go_wp2_with fail
            refine (LW _).out.mono ?_
            rintro e w3 ⟨rfl, hb3⟩
            have B3 := Lib.hid (below_then B2.out hb3)
            clear hb3
            go_wp2
            go_ret
            exact ⟨rfl, B3.out⟩
        · have hu := HU.out.symm.trans (UN.out (fun h => hL h.2.2.2.1))
          subst hu
          have hLi : ((L.length : Int) == 1) = false := by rw [beq_eq_false_iff_ne]; omega
          have hLp : ¬ (L.length : Int) = 1 := by omega
          go_enter Tryz.func86, Tryz.ntmps86
          go_upto_region 1 with fail
          rw [HV.out]
          go_wp2_with fail
          refine EL.out.mono ?_
          rintro e w1 ⟨v, rfl, ho, hb1⟩
          obtain ⟨a', c', rfl⟩ := own_slice2 ho
          have e0 := (QV.out.below (by omega) hb1).c 0 _ rfl
          have e4 := (QV.out.below (by omega) hb1).c 4 _ rfl
          have g0 := (FV.out.below hVz hb1).c 0 _ rfl
          have B1 := Lib.hid (below_then BV.out hb1)
          clear hb1 ho k5 hL
          go_wp2
          go_ret
          exact ⟨rfl, B1.out⟩
      · have hk' : (k == 1) = false := by rw [beq_eq_false_iff_ne]; exact hk
        have hu := HU.out.symm.trans (UN.out (fun h => hk h.2.2.1))
        subst hu
        go_enter Tryz.func86, Tryz.ntmps86
        go_upto_region 1 with fail
        rw [HV.out]
        go_wp2_with fail
        refine EL.out.mono ?_
        rintro e w1 ⟨v, rfl, ho, hb1⟩
        have e0 := (QV.out.below (by omega) hb1).c 0 _ rfl
        have e4 := (QV.out.below (by omega) hb1).c 4 _ rfl
        have g0 := (FV.out.below hVz hb1).c 0 _ rfl
        have B1 := Lib.hid (below_then BV.out hb1)
        clear hb1 ho k5
        go_wp2
        go_ret
        exact ⟨rfl, B1.out⟩
  · have hmb : (q.head.method == [71, 69, 84]) = false := by rw [beq_eq_false_iff_ne]; exact hmt
    have hu := HU.out.symm.trans (UN.out (fun h => hmt h.1))
    subst hu
    go_enter Tryz.func86, Tryz.ntmps86
    go_upto_region 1 with fail
    rw [HV.out]
    go_wp2_with fail
    refine EL.out.mono ?_
    rintro e w1 ⟨v, rfl, ho, hb1⟩
    have e0 := (QV.out.below (by omega) hb1).c 0 _ rfl
    have B1 := Lib.hid (below_then BV.out hb1)
    clear hb1 ho k5
    go_wp2
    go_ret
    exact ⟨rfl, B1.out⟩
end Go.Proofs.YtgmjkkiahanekaaGreatDoor

/- The contract of head.start. -/
set_option linter.unusedVariables false
set_option linter.unusedSimpArgs false
namespace Go.Proofs.YtgmjkkiahanekaaGreatDoor
open Go.RowKit Lex

def hd0 (h : Hd) : Value := .agg #[.string (bs h.method), .string (bs h.target), .int .i64 h.status, .string (bs h.reason), .int .i64 h.minor, .slice none 0 0]
def FirstPost (x : Hd × Int) (w : World) (e : Ending) (w' : World) : Prop := ∃ h : Hd, e = .returned (.tuple #[hd0 h, .int .i64 x.2]) ∧ (x.2 = 0 → h = x.1) ∧ Below w.heap.size w w'
theorem ret_start {w : World} {B : Nat} {v0 v1 v2 v3 v4 v5 e : Value} (h : Box6 w B v0 v1 v2 v3 v4 v5) {tmps : Array Value} (h4 : tmps[2]?.getD undef = .pointer (some ⟨B, 0, none⟩)) (h5 : tmps[3]?.getD undef = e) :
    (results Tryz.f107 tmps).run Tryz.prog w = .ok (.tuple #[.agg #[v0, v1, v2, v3, v4, v5], e]) w := by
  simp [results, Tryz.results107, go_sem, h4, h5, h.c0, h.c1, h.c2, h.c3, h.c4, h.c5]
theorem start_not3 {l : List UInt8} (h : (pieces 32 l).length ≠ 3) : startL l = ({}, 80) := by
  unfold startL
  split
  · rename_i e; rw [e] at h; exact absurd rfl h
  · rfl
theorem below_set6 {W w : World} {B : Nat} (h : Below W.heap.size W w) (hB : W.heap.size ≤ B) (u0 u1 u2 u3 u4 u5 : Value) : Below W.heap.size W ((((((w.setCell ⟨B, 0, none⟩ u0).setCell ⟨B, 1, none⟩ u1).setCell ⟨B, 2, none⟩ u2).setCell ⟨B, 3, none⟩ u3).setCell ⟨B, 4, none⟩ u4).setCell ⟨B, 5, none⟩ u5) :=
  (((((h.setCell hB _).setCell hB _).setCell hB _).setCell hB _).setCell hB _).setCell hB _
theorem tchar_no {c : UInt8} (h : ¬ (33 ≤ (c.toNat : Int) ∧ (c.toNat : Int) ≤ 126)) : tchar c = false := by unfold tchar; simp only [Bool.and_eq_false_iff, decide_eq_false_iff_not]; omega
theorem tchar_yes {c : UInt8} (h1 : 33 ≤ (c.toNat : Int)) (h2 : (c.toNat : Int) ≤ 126) : tchar c = true := by simp [tchar, h1, h2]
set_option maxRecDepth 100000 in
set_option maxHeartbeats 4000000 in
theorem start_c (s : ByteArray) (M : Int) (w : World) (hs : s.size ≤ 4194304) (hm : w.cell? ⟨0, 0, none⟩ = some (.int .i64 M)) :
    Calls Tryz.prog 107 #[.string s] w (FirstPost (startL s.data.toList) w) := by
  have SP := fun w h => Lib.hid (split_c s 32 M w (by omega) h)
  have hpl := pieces_mem 32 s.data.toList
  generalize hp : pieces 32 s.data.toList = p at *
  have B0 := Lib.hid ((Below.refl _ w).alloc (Nat.le_refl _) (.cells #[.string ⟨#[]⟩, .string ⟨#[]⟩, .int .i64 0, .string ⟨#[]⟩, .int .i64 0, .slice none 0 0] 42))
  have X0 := Lib.hid (box6_new w (.string ⟨#[]⟩) (.string ⟨#[]⟩) (.int .i64 0) (.string ⟨#[]⟩) (.int .i64 0) (.slice none 0 0) 42)
  have HM := Lib.hid (cell_below B0.out hm)
  have hV : w.heap.size < (w.alloc (.cells #[.string ⟨#[]⟩, .string ⟨#[]⟩, .int .i64 0, .string ⟨#[]⟩, .int .i64 0, .slice none 0 0] 42)).heap.size := by simp
  clear hm
  by_cases h3 : p.length = 3
  · obtain ⟨a, b, c, rfl⟩ : ∃ a b c, p = [a, b, c] := by
      match p, h3 with
      | [a, b, c], _ => exact ⟨a, b, c, rfl⟩
    have ha := (hpl a (by simp)).1
    have hb := (hpl b (by simp)).1
    have hc := (hpl c (by simp)).1
    rw [size_list] at ha hb hc
    have TK := fun w => Lib.hid (token_c (bs a) w (by rw [bs_size]; omega))
    have VE := fun w => Lib.hid (version_c (bs c) w (by rw [bs_size]; omega))
    rw [bs_list] at TK VE
    have hst : startL s.data.toList = if token a = true ∧ a.length ≤ 16 ∧ b ≠ [] ∧ b.all tchar = true then (if (versionL c).2 = 0 then ({ method := a, target := b, minor := (versionL c).1 }, 0) else ({}, (versionL c).2)) else ({}, 80) := by unfold startL; rw [hp]
    rw [hst]
    have HPP := Lib.hid hpl
    clear hst hp hpl
    obtain ⟨Bq, rfl⟩ : ∃ Bq : ByteArray, b = Bq.data.toList := ⟨bs b, rfl⟩
    rw [size_list] at hb
    have HW : Hid (∀ w1, w1 = (w.alloc (.cells #[.string ⟨#[]⟩, .string ⟨#[]⟩, .int .i64 0, .string ⟨#[]⟩, .int .i64 0, .slice none 0 0] 42)).alloc (.cells (strs [a, Bq.data.toList, c]).toArray 9) →
        Below w.heap.size w w1 ∧ Box6 w1 w.heap.size (.string ⟨#[]⟩) (.string ⟨#[]⟩) (.int .i64 0) (.string ⟨#[]⟩) (.int .i64 0) (.slice none 0 0) ∧
        w1.cell? ⟨w.heap.size + 1, 0, none⟩ = some (.string (bs a)) ∧ w1.cell? ⟨w.heap.size + 1, 1, none⟩ = some (.string Bq) ∧ w1.cell? ⟨w.heap.size + 1, 2, none⟩ = some (.string (bs c))) := Lib.hid (by
      rintro w1 rfl
      have hsz : (w.alloc (.cells #[.string ⟨#[]⟩, .string ⟨#[]⟩, .int .i64 0, .string ⟨#[]⟩, .int .i64 0, .slice none 0 0] 42)).heap.size = w.heap.size + 1 := by simp
      refine ⟨B0.out.alloc B0.out.size _, X0.out.alloc _, ?_, ?_, ?_⟩ <;> (rw [← hsz, World.cell?_alloc_new])
      · rfl
      · show some (Value.string (bs Bq.data.toList)) = _; rw [list_bs]
      · rfl)
    have hla : (bs a).size = a.length := bs_size a
    have bad : ∀ Q : Prop, ¬ (token a = true ∧ a.length ≤ 16 ∧ Bq.data.toList ≠ [] ∧ Bq.data.toList.all tchar = true) → (if token a = true ∧ a.length ≤ 16 ∧ Bq.data.toList ≠ [] ∧ Bq.data.toList.all tchar = true then (if (versionL c).2 = 0 then (({ method := a, target := Bq.data.toList, minor := (versionL c).1 } : Hd), (0 : Int)) else ({}, (versionL c).2)) else ({}, 80)) = ({}, 80) := fun _ h => if_neg h
    by_cases g1 : token a = true
    · rw [g1] at TK
      by_cases g2 : a.length ≤ 16
      · have q2 : ¬ (16 : Int) < ((bs a).size : Int) := by omega
        have q2' : ¬ (16 : Int) < (a.length : Int) := by omega
        by_cases g3 : Bq.data.toList = []
        · rw [bad True (fun h => h.2.2.1 g3)]
          have g3' : Bq.toList = [] := by rw [Lib.toList_data]; exact g3
          clear g1 g2 g3 bad hla
          go_enter Tryz.func107, Tryz.ntmps107
          go_wp2_with fail
          refine (SP _ HM.out).out.mono ?_
          rintro e w1 ⟨rfl, hw1⟩
          obtain ⟨hB1, hX1, e0, e1, e2⟩ := HW.out _ hw1
          clear hw1
          have B1 := Lib.hid hB1
          have X1 := Lib.hid hX1
          obtain ⟨c0, c1, c2, c3, c4, c5, fz⟩ := X1.out
          have f0 := fz 0; have f1 := fz 1; have f2 := fz 2; have f3 := fz 3; have f4 := fz 4; have f5 := fz 5
          clear hB1 hX1
          clear fz
          go_wp2_with (go_at_call 134; refine (TK _).out.mono ?_; rintro e w3 ⟨rfl, rfl⟩)
          refine bodyPost_ret (ret_start (Box6.stored X1.out _ _ _ _ _ _) rfl rfl) rfl ?_
          exact ⟨{}, rfl, (fun h => absurd h (by decide)), below_set6 B1.out (Nat.le_refl _) _ _ _ _ _ _⟩
        · have g3' : Bq.toList.isEmpty = false := by rw [Lib.toList_data]; cases hq : Bq.data.toList with
            | nil => exact absurd hq g3
            | cons => rfl
          obtain ⟨x, hx⟩ : ∃ x, versionL c = x := ⟨_, rfl⟩
          rw [hx] at VE ⊢
          obtain ⟨mn, ve⟩ := x
          simp only [verVal] at VE
          have HB : Hid (Bq.data.toList.all tchar = false → (if token a = true ∧ a.length ≤ 16 ∧ Bq.data.toList ≠ [] ∧ Bq.data.toList.all tchar = true then (if (mn, ve).2 = 0 then (({ method := a, target := Bq.data.toList, minor := (mn, ve).1 } : Hd), (0 : Int)) else ({}, (mn, ve).2)) else ({}, 80)) = ({}, 80)) := Lib.hid (fun h => if_neg (fun h2 => by rw [h] at h2; exact absurd h2.2.2.2 (by decide)))
          have HG : Hid (Bq.data.toList.all tchar = true → (if token a = true ∧ a.length ≤ 16 ∧ Bq.data.toList ≠ [] ∧ Bq.data.toList.all tchar = true then (if (mn, ve).2 = 0 then (({ method := a, target := Bq.data.toList, minor := (mn, ve).1 } : Hd), (0 : Int)) else ({}, (mn, ve).2)) else ({}, 80)) = (if ve = 0 then (({ method := a, target := Bq.data.toList, minor := mn } : Hd), (0 : Int)) else ({}, ve))) := Lib.hid (fun h => if_pos ⟨g1, g2, g3, h⟩)
          generalize (if token a = true ∧ a.length ≤ 16 ∧ Bq.data.toList ≠ [] ∧ Bq.data.toList.all tchar = true then (if (mn, ve).2 = 0 then (({ method := a, target := Bq.data.toList, minor := (mn, ve).1 } : Hd), (0 : Int)) else ({}, (mn, ve).2)) else ({}, 80)) = v at *
          clear g1 g2 g3 bad hla hx
          go_enter Tryz.func107, Tryz.ntmps107
          go_wp2_with fail
          refine (SP _ HM.out).out.mono ?_
          rintro e w1 ⟨rfl, hw1⟩
          obtain ⟨hB1, hX1, e0, e1, e2⟩ := HW.out _ hw1
          clear hw1
          have B1 := Lib.hid hB1
          have X1 := Lib.hid hX1
          obtain ⟨c0, c1, c2, c3, c4, c5, fz⟩ := X1.out
          have f0 := fz 0; have f1 := fz 1; have f2 := fz 2; have f3 := fz 3; have f4 := fz 4; have f5 := fz 5
          clear fz
          clear hB1 hX1
          go_wp2_with (go_at_call 134; refine (TK _).out.mono ?_; rintro e w3 ⟨rfl, rfl⟩)
          go_loop [5, 38] (fun _ i => ∃ k : Nat, k ≤ Bq.size ∧ i = .int .i64 k ∧ (Bq.data.toList.take k).all tchar = true) (fun _ i => Bq.size - (intOf i).toNat)
          case atStart => exact ⟨0, Nat.zero_le _, rfl, rfl⟩
          case round =>
            obtain ⟨k, hk, rfl, hall⟩ := hrel
            have HA := Lib.hid hall
            clear hall
            by_cases hlt : k < Bq.size
            · by_cases ht : 33 ≤ (Bq[k].toNat : Int) ∧ (Bq[k].toNat : Int) ≤ 126
              · have t1 : ¬ (Bq[k].toNat : Int) < 33 := by omega
                have t2 : ¬ 126 < (Bq[k].toNat : Int) := by omega
                have HN := Lib.hid (all_take_snoc tchar Bq k hlt HA.out (tchar_yes ht.1 ht.2))
                clear ht
                go_wp2
                go_round
                case rel => exact ⟨k + 1, by omega, by go_num, HN.out⟩
                case measure => simp [intOf]; omega
              · have hf := all_of_take tchar Bq k hlt (tchar_no ht)
                obtain rfl := HB.out hf
                have HT := Lib.hid ht
                by_cases t1 : (Bq[k].toNat : Int) < 33
                · clear ht hf
                  go_wp2
                  refine bodyPost_ret (ret_start (Box6.stored X1.out _ _ _ _ _ _) rfl rfl) rfl ?_
                  exact ⟨{}, rfl, (fun h => absurd h (by decide)), below_set6 B1.out (Nat.le_refl _) _ _ _ _ _ _⟩
                · have t2 : 126 < (Bq[k].toNat : Int) := by omega
                  clear ht hf
                  go_wp2
                  refine bodyPost_ret (ret_start (Box6.stored X1.out _ _ _ _ _ _) rfl rfl) rfl ?_
                  exact ⟨{}, rfl, (fun h => absurd h (by decide)), below_set6 B1.out (Nat.le_refl _) _ _ _ _ _ _⟩
            · have hall := HA.out
              rw [take_all Bq k hlt] at hall
              have hv := HG.out hall
              have hv2 : v.2 = ve := by rw [hv]; split <;> simp_all
              have HV1 : Hid (ve = 0 → v.1 = { method := a, target := Bq.data.toList, minor := mn }) := Lib.hid (fun h => by rw [hv, if_pos h])
              obtain ⟨v1, v2⟩ := v
              simp only at hv2 HV1
              subst hv2
              clear hall hv HB HG
              go_wp2_with (go_at_call 129; refine (VE _).out.mono ?_; rintro e w3 ⟨rfl, rfl⟩)
              go_region
              go_wp2
              refine bodyPost_ret (ret_start ((Box6.stored X1.out _ _ _ _ _ _).below (Below.refl _ _).drew) rfl rfl) rfl ?_
              refine ⟨{ method := a, target := Bq.data.toList, minor := mn }, ?_, ?_, (below_set6 B1.out (Nat.le_refl _) _ _ _ _ _ _).drew⟩
              · unfold hd0; simp only [list_bs]; rfl
              · exact fun h => (HV1.out h).symm
      · have q2 : (16 : Int) < ((bs a).size : Int) := by omega
        have q2' : (16 : Int) < (a.length : Int) := by omega
        rw [bad True (fun h => g2 h.2.1)]
        clear g1 g2 bad hla
        go_enter Tryz.func107, Tryz.ntmps107
        go_wp2_with fail
        refine (SP _ HM.out).out.mono ?_
        rintro e w1 ⟨rfl, hw1⟩
        obtain ⟨hB1, hX1, e0, e1, e2⟩ := HW.out _ hw1
        clear hw1
        have B1 := Lib.hid hB1
        have X1 := Lib.hid hX1
        obtain ⟨c0, c1, c2, c3, c4, c5, fz⟩ := X1.out
        have f0 := fz 0; have f1 := fz 1; have f2 := fz 2; have f3 := fz 3; have f4 := fz 4; have f5 := fz 5
        clear hB1 hX1
        clear fz
        go_wp2_with (go_at_call 134; refine (TK _).out.mono ?_; rintro e w3 ⟨rfl, rfl⟩)
        refine bodyPost_ret (ret_start (Box6.stored X1.out _ _ _ _ _ _) rfl rfl) rfl ?_
        exact ⟨{}, rfl, (fun h => absurd h (by decide)), below_set6 B1.out (Nat.le_refl _) _ _ _ _ _ _⟩
    · rw [Bool.eq_false_iff.2 g1] at TK
      rw [bad True (fun h => g1 h.1)]
      clear g1 bad hla
      go_enter Tryz.func107, Tryz.ntmps107
      go_wp2_with fail
      refine (SP _ HM.out).out.mono ?_
      rintro e w1 ⟨rfl, hw1⟩
      obtain ⟨hB1, hX1, e0, e1, e2⟩ := HW.out _ hw1
      clear hw1
      have B1 := Lib.hid hB1
      have X1 := Lib.hid hX1
      obtain ⟨c0, c1, c2, c3, c4, c5, fz⟩ := X1.out
      have f0 := fz 0; have f1 := fz 1; have f2 := fz 2; have f3 := fz 3; have f4 := fz 4; have f5 := fz 5
      clear hB1 hX1
      clear fz
      go_wp2_with (go_at_call 134; refine (TK _).out.mono ?_; rintro e w3 ⟨rfl, rfl⟩)
      refine bodyPost_ret (ret_start (Box6.stored X1.out _ _ _ _ _ _) rfl rfl) rfl ?_
      exact ⟨{}, rfl, (fun h => absurd h (by decide)), below_set6 B1.out (Nat.le_refl _) _ _ _ _ _ _⟩
  · have hst := start_not3 (l := s.data.toList) (by rw [hp]; exact h3)
    rw [hst]
    have bn : ((p.length : Int) != 3) = true := by rw [bne_iff_ne]; omega
    clear hst hp
    go_enter Tryz.func107, Tryz.ntmps107
    go_wp2_with fail
    refine (SP _ HM.out).out.mono ?_
    rintro e w1 ⟨rfl, hw1⟩
    have B1 : Hid (Below w.heap.size w w1) := Lib.hid (by rw [hw1]; exact B0.out.alloc B0.out.size (.cells (strs p).toArray 9))
    have X1 : Hid (Box6 w1 w.heap.size (.string ⟨#[]⟩) (.string ⟨#[]⟩) (.int .i64 0) (.string ⟨#[]⟩) (.int .i64 0) (.slice none 0 0)) := Lib.hid (by rw [hw1]; exact X0.out.alloc (.cells (strs p).toArray 9))
    clear hw1
    obtain ⟨c0, c1, c2, c3, c4, c5, fz⟩ := X1.out
    have f0 := fz 0; have f1 := fz 1; have f2 := fz 2; have f3 := fz 3; have f4 := fz 4; have f5 := fz 5
    clear fz
    go_wp2
    refine bodyPost_ret (ret_start (Box6.stored X1.out _ _ _ _ _ _) rfl rfl) rfl ?_
    exact ⟨{}, rfl, (fun h => absurd h (by decide)), below_set6 B1.out (Nat.le_refl _) _ _ _ _ _ _⟩
end Go.Proofs.YtgmjkkiahanekaaGreatDoor

