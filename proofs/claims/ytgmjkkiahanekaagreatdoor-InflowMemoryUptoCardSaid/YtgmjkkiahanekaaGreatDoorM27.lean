/- The texts InF in one. -/
import Derived.Test.YtgmjkkiahanekaaGreatDoorM19
import Derived.Test.YtgmjkkiahanekaaGreatDoorM18
import Derived.Deep.LoopGhost
import Derived.Deep.DeepCutAuto
import Derived.Laws.EntriesVeiled
import Derived.Test.YtgmjkkiahanekaaGreatDoorM22
import Derived.Test.YtgmjkkiahanekaaGreatDoorM26
/- The contract of the reader's begin (layer 11): a head is read. -/
set_option linter.unusedVariables false
set_option linter.unusedSimpArgs false
namespace Go.Proofs.YtgmjkkiahanekaaGreatDoor
open Go.RowKit Lex

theorem version_pos (s : List UInt8) : 0 ≤ (versionL s).1 := by
  unfold versionL
  split
  · split
    · rename_i a b h1 h2
      split
      · rename_i hd
        split
        · have := hd.2
          unfold digit digitI at this
          simp at this
          show 0 ≤ (b.toNat : Int) - 48
          omega
        · decide
      · decide
    · decide
  · decide
theorem start_minor (l : List UInt8) : 0 ≤ (startL l).1.minor := by
  unfold startL
  split
  · rename_i a b c _
    split
    · split
      · exact version_pos c
      · exact Int.le_refl 0
    · exact Int.le_refl 0
  · exact Int.le_refl 0
theorem start_fields (l : List UInt8) : (startL l).1.fields = [] := by
  unfold startL
  repeat' (first | rfl | split)
theorem start_fb (b : List UInt8) : FB (readL true startL b).1.fields := readAt_fb startL _ start_fields
theorem readAt_head (first : List UInt8 → Hd × Int) (d : List UInt8) : ∃ l : List UInt8, l.length ≤ d.length ∧ ((readAt first d).1 = {} ∨ ∃ fs, (readAt first d).1 = { (first l).1 with fields := fs }) := by
  rcases readAt_cases first d with ⟨e, h1, h2⟩ | ⟨l, e, h1, h3, h2⟩ | ⟨l, e, e2, h1, h3, h4, h2⟩ | ⟨l, e, e2, fs, n, h1, h3, h4, h2⟩ <;> rw [h2]
  · exact ⟨[], Nat.zero_le _, .inl rfl⟩
  · exact ⟨[], Nat.zero_le _, .inl rfl⟩
  · exact ⟨[], Nat.zero_le _, .inl rfl⟩
  · obtain ⟨r, hr, _⟩ := lineL_some h1
    refine ⟨l, ?_, .inr ⟨fs, rfl⟩⟩
    have := congrArg List.length hr
    simp only [List.length_append] at this
    omega
theorem readL_minor (b : List UInt8) : 0 ≤ (readL true startL b).1.minor := by
  obtain ⟨l, _, h | ⟨fs, h⟩⟩ := readAt_head startL (b.drop (if true then 2 * ahead b else 0))
  · show 0 ≤ (readAt startL (b.drop (if true then 2 * ahead b else 0))).1.minor
    rw [h]; decide
  · show 0 ≤ (readAt startL (b.drop (if true then 2 * ahead b else 0))).1.minor
    rw [h]; exact start_minor l
theorem start_target (l : List UInt8) : (startL l).1.target.length ≤ l.length ∧ (startL l).1.method.length ≤ l.length := by
  unfold startL
  split
  · rename_i a b c hp
    have hm : ∀ x ∈ pieces 32 l, x.length ≤ l.length := fun x hx => (pieces_mem 32 l x hx).1
    rw [hp] at hm
    split
    · split
      · exact ⟨hm b (by simp), hm a (by simp)⟩
      · exact ⟨Nat.zero_le _, Nat.zero_le _⟩
    · exact ⟨Nat.zero_le _, Nat.zero_le _⟩
  · exact ⟨Nat.zero_le _, Nat.zero_le _⟩
theorem readL_target (b : List UInt8) : (readL true startL b).1.target.length ≤ b.length := by
  obtain ⟨l, hl, h | ⟨fs, h⟩⟩ := readAt_head startL (b.drop (if true then 2 * ahead b else 0))
  · show (readAt startL (b.drop (if true then 2 * ahead b else 0))).1.target.length ≤ _
    rw [h]; exact Nat.zero_le _
  · show (readAt startL (b.drop (if true then 2 * ahead b else 0))).1.target.length ≤ _
    rw [h]
    have := (start_target l).1
    rw [List.length_drop] at hl
    show (startL l).1.target.length ≤ _
    omega
theorem ret_begin {w : World} {B : Nat} {v0 v1 p n s : Value} (h : Blk w B [v0, v1]) {tmps : Array Value} (h2 : tmps[2]?.getD undef = p) (h3 : tmps[3]?.getD undef = .pointer (some ⟨B, 0, none⟩)) (h4 : tmps[4]?.getD undef = n) (h5 : tmps[5]?.getD undef = s) :
    (results Tryz.f55 tmps).run Tryz.prog w = .ok (.tuple #[p, .agg #[v0, v1], n, s]) w := by
  have c0 := h.c 0 _ rfl
  have c1 := h.c 1 _ rfl
  simp [results, Tryz.results55, go_sem, h2, h3, h4, h5, c0, c1]
theorem keep6 {w w' : World} {a0 a1 a2 a3 a4 a5 : Addr} {v0 v1 v2 v3 v4 v5 : Value} (h : w.cell? a0 = some v0 ∧ w.cell? a1 = some v1 ∧ w.cell? a2 = some v2 ∧ w.cell? a3 = some v3 ∧ w.cell? a4 = some v4 ∧ w.cell? a5 = some v5) (hb : Below w.heap.size w w') :
    w'.cell? a0 = some v0 ∧ w'.cell? a1 = some v1 ∧ w'.cell? a2 = some v2 ∧ w'.cell? a3 = some v3 ∧ w'.cell? a4 = some v4 ∧ w'.cell? a5 = some v5 :=
  ⟨cell_below hb h.1, cell_below hb h.2.1, cell_below hb h.2.2.1, cell_below hb h.2.2.2.1, cell_below hb h.2.2.2.2.1, cell_below hb h.2.2.2.2.2⟩
def BeginPost (w : World) : Option (Rq × Int × Int × Nat) × Int → Ending → World → Prop
  | (none, s), e, w' => e = .returned (.tuple #[.pointer none, .agg #[.int .i64 0, .int .i64 0], .int .i64 0, .int .i64 s]) ∧ Below w.heap.size w w'
  | (some (q, k, l, n), _), e, w' => ∃ Q A c, e = .returned (.tuple #[.pointer (some ⟨Q, 0, none⟩), .agg #[.int .i64 k, .int .i64 l], .int .i64 (n : Int), .int .i64 0]) ∧ Blk w' Q (rqVs q A c) ∧ (A = none → c = 0) ∧
      w'.ownsRow w.heap.size 59 2 (.slice A q.head.fields.length c) q.head.fields.length (fvals q.head.fields) ∧ Below w.heap.size w w' ∧ w.heap.size ≤ Q ∧ ∀ g o, A = some ⟨g, o, none⟩ → g ≠ Q
theorem BeginPost.ok {w w' : World} {e : Ending} {x : Option (Rq × Int × Int × Nat) × Int} {q : Rq} {k l z : Int} {n : Nat} (hx : x = (some (q, k, l, n), z))
    (h : ∃ Q A c, e = .returned (.tuple #[.pointer (some ⟨Q, 0, none⟩), .agg #[.int .i64 k, .int .i64 l], .int .i64 (n : Int), .int .i64 0]) ∧ Blk w' Q (rqVs q A c) ∧ (A = none → c = 0) ∧
      w'.ownsRow w.heap.size 59 2 (.slice A q.head.fields.length c) q.head.fields.length (fvals q.head.fields) ∧ Below w.heap.size w w' ∧ w.heap.size ≤ Q ∧ ∀ g o, A = some ⟨g, o, none⟩ → g ≠ Q) : BeginPost w x e w' := by
  subst hx; exact h
set_option maxRecDepth 100000 in
set_option maxHeartbeats 8000000 in
theorem ibegin_c (R : Nat) (r : In) (M : Int) (w : World) (hb : r.buf.length ≤ 4194000) (h : Three w R r) (hmx : w.cell? ⟨0, 0, none⟩ = some (.int .i64 M)) :
    Calls Tryz.prog 55 #[.pointer (some ⟨R, 0, none⟩)] w (BeginPost w (beginL r.most r.buf)) := by
  have hR : R < w.heap.size := World.block_lt_of_cell? w _ h.c0
  obtain ⟨V, hV⟩ : ∃ V, w.alloc (.cells #[.int .i64 0, .int .i64 0] 96) = V := ⟨_, rfl⟩
  have b0 : Below w.heap.size w V := by rw [← hV]; exact (Below.refl _ w).alloc (Nat.le_refl _) _
  have FV : Hid (Blk V w.heap.size [.int .i64 0, .int .i64 0]) := Lib.hid (by rw [← hV]; exact Blk.new _ _ _ _ rfl)
  have hVz : w.heap.size < V.heap.size := by rw [← hV]; simp
  have R0 := cell_below b0 h.c0
  have R2 := cell_below b0 h.c2
  have MV := Lib.hid (cell_below b0 hmx)
  have RQ := Lib.hid (request_h (bs r.buf) M V (by rw [bs_size]; omega) MV.out)
  rw [bs_list] at RQ
  obtain ⟨x, hx⟩ : ∃ x, beginL r.most r.buf = x := ⟨_, rfl⟩
  rw [hx]
  unfold beginL at hx
  have hfb := Lib.hid (start_fb r.buf)
  have hmi := readL_minor r.buf
  have htg := readL_target r.buf
  unfold ReadPost at RQ
  generalize readL true startL r.buf = z at *
  obtain ⟨hd, n, e⟩ := z
  simp only at RQ hx hfb hmi htg
  have BV := Lib.hid b0
  have HV := Lib.hid hV
  have HX := Lib.hid hx
  have HR0 := Lib.hid R0
  clear b0 hV hx h hmx R0
  go_enter Tryz.func55, Tryz.ntmps55
  go_upto_region 1 with fail
  rw [HV.out]
  go_wp2_with fail
  refine RQ.out.mono ?_
  rintro e1 w1 ⟨A, c, rfl, hA, hown, hb1⟩
  obtain ⟨V2, hV2⟩ : ∃ V2, w1.alloc (.cells #[.string (bs hd.method), .string (bs hd.target), .int .i64 hd.status, .string (bs hd.reason), .int .i64 hd.minor, .slice A hd.fields.length c] 42) = V2 := ⟨_, rfl⟩
  have b2 : Below w1.heap.size w1 V2 := by rw [← hV2]; exact (Below.refl _ w1).alloc (Nat.le_refl _) _
  have hb2 := below_then hb1 b2
  have X2 : Hid (Blk V2 w1.heap.size (hdW hd A c)) := Lib.hid (by rw [← hV2]; exact Blk.new _ _ _ _ rfl)
  have B2 := Lib.hid (below_then BV.out hb2)
  have F2 := Lib.hid (FV.out.below hVz hb2)
  have M2 := Lib.hid (cell_below hb2 MV.out)
  have O2 := Lib.hid (own_below (own_below hown b2) (Below.refl _ V2))
  have hV2z : w1.heap.size < V2.heap.size := by rw [← hV2]; simp
  have hwz : w.heap.size < w1.heap.size := Nat.lt_of_lt_of_le hVz hb1.size
  have HV2 := Lib.hid hV2
  have HR2 := Lib.hid (cell_below hb2 HR0.out)
  have HA := Lib.hid hA
  clear hown hb1 b2 hb2 hV2 R2 RQ HV hA
  unfold hdv
  by_cases he : e = 0
  · subst he
    by_cases hn : n = 0
    · subst hn
      have hx := HX.out
      rw [if_neg (by simp), if_pos rfl] at hx
      subst hx
      have f0 := F2.out.c 0 _ rfl
      have f1 := F2.out.c 1 _ rfl
      have z0 := F2.out.fz 0
      have z1 := F2.out.fz 1
      go_upto_region 2 with fail
      rw [HV2.out]
      go_wp2
      refine bodyPost_ret (ret_begin ((F2.out.set 0 (by simp) _).set 1 (by simp) _) rfl rfl rfl rfl) rfl ?_
      exact ⟨rfl, (B2.out.setCell (Nat.le_refl _) _).setCell (Nat.le_refl _) _⟩
    · have hx := HX.out
      rw [if_neg (fun h => h rfl), if_neg hn] at hx
      have HX1 := Lib.hid hx
      have bn : ((n : Int) == 0) = false := by rw [beq_eq_false_iff_ne]; omega
      have FF : Hid (Flds V2 A hd.fields) := Lib.hid (flds_own O2.out)
      have KP := fun w' (hb : Below V2.heap.size V2 w') => Lib.hid (keep_c (bs hd.method) (bs hd.target) hd.status (bs hd.reason) hd.minor A c hd.fields M w' hfb.out (FF.out.below hb) (cell_below hb M2.out))
      simp only [hv] at KP
      have KPP := Lib.hid KP
      have QQ := Lib.hid (hd6_all X2.out)
      clear hx KP hn
      go_upto_region 2 with fail
      rw [HV2.out]
      go_upto_region 6 with fail
      go_region_held3 (fun w' => w'.cell? ⟨w1.heap.size, 0, none⟩ = some (.string (bs hd.method)) ∧ w'.cell? ⟨w1.heap.size, 1, none⟩ = some (.string (bs hd.target)) ∧ w'.cell? ⟨w1.heap.size, 2, none⟩ = some (.int .i64 hd.status) ∧ w'.cell? ⟨w1.heap.size, 3, none⟩ = some (.string (bs hd.reason)) ∧ w'.cell? ⟨w1.heap.size, 4, none⟩ = some (.int .i64 hd.minor) ∧ w'.cell? ⟨w1.heap.size, 5, none⟩ = some (.slice A hd.fields.length c))
        (first | assumption | exact keep6 QQ.out (Below.drew (Below.refl _ _)) | exact keep6 QQ.out hb4 | exact keep6 QQ.out (hb4.alloc hb4.size _))
        (first | (go_at_call 65; refine (KPP.out _ (Below.drew (Below.refl _ _))).out.mono ?_; rintro e3 w3 ⟨rfl, hb3⟩; have hb4 : Below V2.heap.size V2 w3 := below_then (Below.drew (Below.refl _ _)) hb3))
      rename_i hHeld
      clear hHeld
      obtain ⟨kp, hkp⟩ : ∃ kp, keepF hd.minor hd.fields = kp := ⟨_, rfl⟩
      have HKP := Lib.hid hkp
      rw [hkp]
      obtain ⟨Q, hQ⟩ : ∃ Q, w3.heap.size = Q := ⟨_, rfl⟩
      obtain ⟨V3, hV3⟩ : ∃ V3, w3.alloc (.cells #[.string (bs hd.method), .string (bs hd.target), .int .i64 hd.status, .string (bs hd.reason), .int .i64 hd.minor, .slice A hd.fields.length c, .int .i64 0, .string ⟨#[]⟩, .int .i64 0, .string ⟨#[]⟩, .string ⟨#[]⟩, .bool false, .string ⟨#[]⟩, .int .i64 0, .string ⟨#[]⟩, .bool false, .bool kp, .string ⟨#[]⟩] 46) = V3 := ⟨_, rfl⟩
      have hb5 : Below V2.heap.size V2 V3 := by rw [← hV3]; exact hb4.alloc hb4.size _
      have Q3 : Hid (Blk V3 Q (rqVs { head := hd, keep := kp } A c)) := Lib.hid (by rw [← hV3, ← hQ]; exact Blk.new _ _ _ _ rfl)
      have HV3 := Lib.hid hV3
      have X3 := Lib.hid (X2.out.below hV2z hb5)
      have F3 := Lib.hid (F2.out.below (by omega) hb5)
      have M3 := Lib.hid (cell_below hb5 M2.out)
      have P3 := Lib.hid (cell_below hb5 HR2.out)
      have O3 := Lib.hid (own_below O2.out hb5)
      have B3 := Lib.hid (below_then B2.out hb5)
      have hQ2 : V2.heap.size ≤ Q := by rw [← hQ]; exact hb4.size
      have HQ := Lib.hid hQ
      clear hb3 hb4 hb5 hV3 hkp KPP QQ FF X2 F2 M2 HR2 HV2
      rw [HQ.out]
      go_upto_region 7 with fail
      rw [HV3.out]
      have x0 := X3.out.c 0 _ rfl
      have x1 := X3.out.c 1 _ rfl
      have PS := fun w hm => Lib.hid (parse_c (bs hd.method) (bs hd.target) M w (by rw [bs_size]; omega) hm)
      rw [bs_list, bs_list] at PS
      have HX2 := HX1.out
      obtain ⟨y, hy⟩ : ∃ y, parseT hd.method hd.target = y := ⟨_, rfl⟩
      rw [hy] at PS HX2
      obtain ⟨t, pe⟩ := y
      simp only [tgOut, tgVal] at PS HX2
      have PSS := Lib.hid PS
      have HX3 := Lib.hid HX2
      clear PS HX1 HX2 hy
      go_wp2_with fail
      refine (PSS.out _ M3.out).out.mono ?_
      rintro e4 w4 ⟨rfl, hb4⟩
      have hQw : Q < w4.heap.size := by
        have h1 : Q < V3.heap.size := World.block_lt_of_cell? V3 _ (Q3.out.c 0 _ rfl)
        have h2 := hb4.size
        omega
      have Q4 := Lib.hid (Q3.out.below (World.block_lt_of_cell? V3 _ (Q3.out.c 0 _ rfl)) hb4)
      have s6 := Q4.out.c 6 _ rfl
      have s7 := Q4.out.c 7 _ rfl
      have s8 := Q4.out.c 8 _ rfl
      have s9 := Q4.out.c 9 _ rfl
      have s10 := Q4.out.c 10 _ rfl
      have s11 := Q4.out.c 11 _ rfl
      have t6 := Q4.out.fz 6
      have t7 := Q4.out.fz 7
      have t8 := Q4.out.fz 8
      have t9 := Q4.out.fz 9
      have t10 := Q4.out.fz 10
      have t11 := Q4.out.fz 11
      obtain ⟨V4, hV4⟩ : ∃ V4, (((((w4.setCell ⟨Q, 6, none⟩ (.int .i64 t.form)).setCell ⟨Q, 7, none⟩ (.string (bs t.host))).setCell ⟨Q, 8, none⟩ (.int .i64 t.port)).setCell ⟨Q, 9, none⟩ (.string (bs t.path))).setCell ⟨Q, 10, none⟩ (.string (bs t.query))).setCell ⟨Q, 11, none⟩ (.bool t.has) = V4 := ⟨_, rfl⟩
      have R4 : Hid (Blk V4 Q (rqVs { head := hd, keep := kp, tg := t } A c)) := Lib.hid (by
        rw [← hV4]
        exact (((((Q4.out.set 6 (by simp [rqVs]) _).set 7 (by simp [rqVs]) _).set 8 (by simp [rqVs]) _).set 9 (by simp [rqVs]) _).set 10 (by simp [rqVs]) _).set 11 (by simp [rqVs]) _)
      have A4 : Hid (Away (fun k => k = Q) V3 V4) := Lib.hid (by
        rw [← hV4]
        exact ((((((Away.of hb4).put (by exact rfl) _ _).put (by exact rfl) _ _).put (by exact rfl) _ _).put (by exact rfl) _ _).put (by exact rfl) _ _).put (by exact rfl) _ _)
      have HV4 := Lib.hid hV4
      have hx3 : w1.heap.size < V3.heap.size := X3.out.lt
      have hf3 : w.heap.size < V3.heap.size := F3.out.lt
      have X4 := Lib.hid (X3.out.away hx3 A4.out (by omega))
      have F4 := Lib.hid (F3.out.away hf3 A4.out (by omega))
      have M4 := Lib.hid (A4.out.cell M3.out (by show ¬ (0 : Nat) = Q; omega))
      have P4 := Lib.hid (A4.out.cell P3.out (by show ¬ R = Q; omega))
      have O4 := Lib.hid (own_away O3.out A4.out (fun k hk e => by have := (O2.out.lt k hk).2; omega))
      have B4 := Lib.hid (B3.out.trans (A4.out.below (B := w.heap.size) (by omega) (fun k h => by omega)))
      clear hb4 hV4 Q3 X3 F3 M3 P3 HV3 x0 x1
      go_upto_region 8 with fail
      rw [HV4.out]
      clear s6 s7 s8 s9 s10 s11 t6 t7 t8 t9 t10 t11 HV4 Q4
      by_cases hpe : pe = 0
      · subst hpe
        have HX4 := HX3.out
        rw [if_neg (fun h => h rfl)] at HX4
        obtain ⟨y, hy⟩ : ∃ y, hostL hd t = y := ⟨_, rfl⟩
        rw [hy] at HX4
        have HC := ihost_c Q { head := hd, keep := kp, tg := t } A c M V4 R4.out hfb.out (flds_own O4.out) M4.out hmi rfl rfl
        rw [show hostL ({ head := hd, keep := kp, tg := t } : Rq).head ({ head := hd, keep := kp, tg := t } : Rq).tg = y from hy] at HC
        have HCC := Lib.hid HC
        have hV4z : w4.heap.size = w4.heap.size := rfl
        have hx4 : w1.heap.size < V4.heap.size := X4.out.lt
        have hf4 : w.heap.size < V4.heap.size := F4.out.lt
        have hq4 : Q < V4.heap.size := R4.out.lt
        clear hy HX3 HC hV4z
        cases y with
        | none =>
          simp only at HX4
          subst HX4
          go_wp2_with fail
          refine HCC.out.mono ?_
          rintro e5 w5 ⟨ha5, z, hz, rfl⟩
          have F5 := Lib.hid (F4.out.away hf4 ha5 (by omega))
          have B5 := Lib.hid (B4.out.trans (ha5.below (B := w.heap.size) (by omega) (fun k h => by omega)))
          have hz' : (z != 0) = true := by rw [bne_iff_ne]; exact hz
          have f0 := F5.out.c 0 _ rfl
          have f1 := F5.out.c 1 _ rfl
          have z0 := F5.out.fz 0
          have z1 := F5.out.fz 1
          clear ha5 hz
          go_wp2
          refine bodyPost_ret (ret_begin ((F5.out.set 0 (by simp) _).set 1 (by simp) _) rfl rfl rfl rfl) rfl ?_
          exact ⟨rfl, (B5.out.setCell (Nat.le_refl _) _).setCell (Nat.le_refl _) _⟩
        | some y =>
          obtain ⟨nm, po⟩ := y
          simp only at HX4
          have HX5 := Lib.hid HX4
          clear HX4
          go_wp2_with fail
          refine HCC.out.mono ?_
          rintro e5 w5 ⟨ha5, rfl, hq5⟩
          have Q5 := Lib.hid hq5
          have hz5 := ha5.size
          have X5 := Lib.hid (X4.out.away hx4 ha5 (by omega))
          have F5 := Lib.hid (F4.out.away hf4 ha5 (by omega))
          have M5 := Lib.hid (ha5.cell M4.out (by show ¬ (0 : Nat) = Q; omega))
          have P5 := Lib.hid (ha5.cell P4.out (by show ¬ R = Q; omega))
          have O5 := Lib.hid (own_away O4.out ha5 (fun k hk e => by have := (O2.out.lt k hk).2; omega))
          have B5 := Lib.hid (B4.out.trans (ha5.below (B := w.heap.size) (by omega) (fun k h => by omega)))
          have x5 := X5.out.c 5 _ rfl
          have GX := Lib.hid (get_c A c hd.fields ⟨#[69, 120, 112, 101, 99, 116]⟩ w5 (by decide) (by have := hfb.out.len; omega) (fun f h => by have := hfb.out.nm f h; omega) (fun f h => by have := hfb.out.vl f h; omega) (flds_own O5.out))
          rw [show (⟨#[69, 120, 112, 101, 99, 116]⟩ : ByteArray).data.toList = expectU from rfl, expect_low] at GX
          have HX6 := HX5.out
          generalize getF hd.fields expectN = g at *
          obtain ⟨gv, gn⟩ := g
          simp only at GX HX6
          have HX7 := Lib.hid HX6
          clear ha5 hq5 HX5 HX6 R4 X4 F4 M4 P4 O4 B4 A4 HCC
          go_wp2_with fail
          refine GX.out.mono ?_
          rintro e6 w6 ⟨rfl, hb6⟩
          have hx5 : w1.heap.size < w5.heap.size := X5.out.lt
          have hf5 : w.heap.size < w5.heap.size := F5.out.lt
          have hq5' : Q < w5.heap.size := Q5.out.lt
          have Q6 := Lib.hid (Q5.out.below hq5' hb6)
          have X6 := Lib.hid (X5.out.below hx5 hb6)
          have F6 := Lib.hid (F5.out.below hf5 hb6)
          have M6 := Lib.hid (cell_below hb6 M5.out)
          have P6 := Lib.hid (cell_below hb6 P5.out)
          have O6 := Lib.hid (own_below O5.out hb6)
          have B6 := Lib.hid (below_then B5.out hb6)
          have hz6 := hb6.size
          clear hb6 Q5 X5 F5 M5 P5 O5 B5 x5 GX
          by_cases hex : 0 < gn
          · have hx := HX7.out
            rw [if_pos hex] at hx
            subst hx
            have hexi : (0 : Int) < (gn : Int) := by omega
            have f0 := F6.out.c 0 _ rfl
            have f1 := F6.out.c 1 _ rfl
            have z0 := F6.out.fz 0
            have z1 := F6.out.fz 1
            go_wp2
            refine bodyPost_ret (ret_begin ((F6.out.set 0 (by simp) _).set 1 (by simp) _) rfl rfl rfl rfl) rfl ?_
            exact ⟨rfl, (B6.out.setCell (Nat.le_refl _) _).setCell (Nat.le_refl _) _⟩
          · have HX8 := HX7.out
            rw [if_neg hex] at HX8
            have hexi : ¬ (0 : Int) < (gn : Int) := by omega
            have RS := fun w' (hb : Below w6.heap.size w6 w') => Lib.hid (request_c (bs hd.method) (bs hd.target) hd.status (bs hd.reason) hd.minor A c hd.fields r.most M w' hfb.out ((flds_own O6.out).below hb) (cell_below hb M6.out))
            obtain ⟨y, hy⟩ : ∃ y, reqF hd.minor hd.fields r.most = y := ⟨_, rfl⟩
            rw [hy] at RS HX8
            obtain ⟨k, l, fe⟩ := y
            simp only [hv, frVal] at RS HX8
            have RSS := Lib.hid RS
            have HX9 := Lib.hid HX8
            have QQ := Lib.hid (And.intro P6.out (hd6_all X6.out))
            clear RS HX8 HX7 hy hex
            go_upto_region 13 with fail
            go_cut [8, 12] (fun s8 s12 wx => ∃ B4 : Nat, s8 = .int .i64 fe ∧ s12 = .pointer (some ⟨B4, 0, none⟩) ∧ Blk wx B4 [.int .i64 k, .int .i64 l] ∧ Below w6.heap.size w6 wx ∧ w6.heap.size ≤ B4)
            case first =>
              go_region_held3 (fun w' => w'.cell? ⟨R, 0, none⟩ = some (.int .i64 r.most) ∧ w'.cell? ⟨w1.heap.size, 0, none⟩ = some (.string (bs hd.method)) ∧ w'.cell? ⟨w1.heap.size, 1, none⟩ = some (.string (bs hd.target)) ∧ w'.cell? ⟨w1.heap.size, 2, none⟩ = some (.int .i64 hd.status) ∧ w'.cell? ⟨w1.heap.size, 3, none⟩ = some (.string (bs hd.reason)) ∧ w'.cell? ⟨w1.heap.size, 4, none⟩ = some (.int .i64 hd.minor) ∧ w'.cell? ⟨w1.heap.size, 5, none⟩ = some (.slice A hd.fields.length c))
                (first | assumption | exact keep7 QQ.out (Below.drew (Below.refl _ _)) | exact keep7 QQ.out (Below.drew ((Below.refl _ _).alloc (Nat.le_refl _) _)) | exact keep7 QQ.out hb7 | exact keep7 QQ.out (hb7.alloc hb7.size _) | exact keep7 QQ.out (hb7.setCell (by simp) _) | exact keep7 QQ.out ((hb7.setCell (by simp) _).setCell (by simp) _))
                (first
                  | (go_at_call 85; refine (RSS.out _ (Below.drew (Below.refl _ _))).out.mono ?_; rintro e7 w7 ⟨rfl, hb7'⟩; have hb7 : Below w6.heap.size w6 w7 := below_then (Below.drew (Below.refl _ _)) hb7')
                  | (go_at_call 85; refine (RSS.out _ (Below.drew ((Below.refl _ _).alloc (Nat.le_refl _) (.cells #[.int .i64 0, .int .i64 0] 96)))).out.mono ?_; rintro e7 w7 ⟨rfl, hb7'⟩; have hb7 : Below w6.heap.size w6 w7 := below_then (Below.drew ((Below.refl _ _).alloc (Nat.le_refl _) (.cells #[.int .i64 0, .int .i64 0] 96))) hb7'; have bb7 : Blk w7 w6.heap.size [.int .i64 0, .int .i64 0] := (Blk.drew (blk_only w6 _ _ _ w6.heap.size rfl rfl)).below (by simp) hb7'; have y0 := bb7.c 0 _ rfl; have y1 := bb7.c 1 _ rfl; have z0 := bb7.fz 0; have z1 := bb7.fz 1))
              all_goals first
                | (have bb8 := bb7
                   go_wp2_with fail
                   go_meet
                   exact ⟨w6.heap.size, rfl, rfl, (bb8.set 0 (by simp) _).set 1 (by simp) _, (hb7.setCell (by simp) _).setCell (by simp) _, Nat.le_refl _⟩)
                | (go_wp2_with fail
                   go_meet
                   exact ⟨w7.heap.size, rfl, rfl, blk_only w7 _ _ _ _ rfl rfl, hb7.alloc hb7.size _, hb7.size⟩)
            case rest =>
              obtain ⟨B4, rfl, rfl, hbk, hbv, hB4'⟩ := hcut
              have BK := Lib.hid hbk
              have hbl : B4 < wc.heap.size := hbk.lt
              have hz7 := hbv.size
              have hxl : w1.heap.size < w6.heap.size := X6.out.lt
              have hfl6 : w.heap.size < w6.heap.size := F6.out.lt
              have hql6 : Q < w6.heap.size := Q6.out.lt
              have Q7 := Lib.hid (Q6.out.below hql6 hbv)
              have X7 := Lib.hid (X6.out.below hxl hbv)
              have F7 := Lib.hid (F6.out.below hfl6 hbv)
              have M7 := Lib.hid (cell_below hbv M6.out)
              have O7 := Lib.hid (own_below O6.out hbv)
              have B7 := Lib.hid (below_then B6.out hbv)
              have hfl : w.heap.size < wc.heap.size := by omega
              clear hbk hbv QQ RSS Q6 X6 F6 M6 P6 O6 B6
              by_cases hfe : fe = 0
              · subst hfe
                have HX10 := HX9.out
                rw [if_neg (fun h => h rfl)] at HX10
                have HX11 := Lib.hid HX10
                have x0 := X7.out.c 0 _ rfl
                have k0 := BK.out.c 0 _ rfl
                clear HX10 HX9
                by_cases hk : k = 1
                · subst hk
                  have HX12 := HX11.out
                  rw [if_neg (fun h => h.2 rfl), show decide ((1 : Int) ≠ 1) = false from rfl] at HX12
                  have HX13 := Lib.hid HX12
                  clear HX12 HX11
                  have HX12 := HX13
                  clear HX13
                  have hmt : hd.method = [67, 79, 78, 78, 69, 67, 84] ∨ (hd.method == [67, 79, 78, 78, 69, 67, 84]) = false := by
                    by_cases h : hd.method = [67, 79, 78, 78, 69, 67, 84]
                    · exact .inl h
                    · exact .inr (by rw [beq_eq_false_iff_ne]; exact h)
                  rcases hmt with hmt | hmt
                  all_goals
                    have q15 := Q7.out.c 15 _ rfl
                    have v15 := Q7.out.fz 15
                    obtain ⟨V8, hV8⟩ : ∃ V8, wc.setCell ⟨Q, 15, none⟩ (.bool false) = V8 := ⟨_, rfl⟩
                    have Q8 : Hid (Blk V8 Q (rqVs { head := hd, keep := kp, tg := t, host := nm, port := po, sized := false } A c)) := Lib.hid (by rw [← hV8]; exact Q7.out.set 15 (by simp [rqVs]) _)
                    have A8 : Hid (Away (fun k => k = Q) wc V8) := Lib.hid (by rw [← hV8]; exact (Away.refl _ _).put (by exact rfl) _ _)
                    have HV8 := Lib.hid hV8
                    have K8 := Lib.hid (BK.out.away hbl A8.out (by omega))
                    have F8 := Lib.hid (F7.out.away hfl A8.out (by omega))
                    have M8 := Lib.hid (A8.out.cell M7.out (by show ¬ (0 : Nat) = Q; omega))
                    have O8 := Lib.hid (own_away O7.out A8.out (fun k hk e => by have := (O2.out.lt k hk).2; omega))
                    have B8 := Lib.hid (B7.out.trans (A8.out.below (B := w.heap.size) (by omega) (fun k h => by omega)))
                    have UP := Lib.hid (iupgrade_c Q { head := hd, keep := kp, tg := t, host := nm, port := po, sized := false } A c 1 l M V8 Q8.out hfb.out (flds_own O8.out) M8.out)
                    have k8 := K8.out.c 0 _ rfl
                    have k8' := K8.out.c 1 _ rfl
                    have hz8 : wc.heap.size ≤ V8.heap.size := A8.out.size
                    clear hV8
                    go_upto_region 19 with fail
                    rw [HV8.out]
                    clear q15 v15 HV8
                    go_wp2_with fail
                    refine UP.out.mono ?_
                    rintro e9 w9 ⟨rfl, hb9⟩
                    have hz9 := hb9.size
                    have Q9 := Lib.hid (Q8.out.below (by omega) hb9)
                    have K9 := Lib.hid (K8.out.below (by omega) hb9)
                    have F9 := Lib.hid (F8.out.below (by omega) hb9)
                    have O9 := Lib.hid (own_below O8.out hb9)
                    have B9 := Lib.hid (below_then B8.out hb9)
                    have q17 := Q9.out.c 17 _ rfl
                    have v17 := Q9.out.fz 17
                    obtain ⟨U, hU⟩ : ∃ U, upgradeL hd 1 = U := ⟨_, rfl⟩
                    rw [show upgradeL ({ head := hd, keep := kp, tg := t, host := nm, port := po, sized := false } : Rq).head 1 = U from hU]
                    have HU := Lib.hid hU
                    obtain ⟨V9, hV9⟩ : ∃ V9, w9.setCell ⟨Q, 17, none⟩ (.string (bs U)) = V9 := ⟨_, rfl⟩
                    have Q10 : Hid (Blk V9 Q (rqVs { head := hd, keep := kp, tg := t, host := nm, port := po, sized := false, upg := U } A c)) := Lib.hid (by rw [← hV9]; exact Q9.out.set 17 (by simp [rqVs]) _)
                    have A10 : Hid (Away (fun k => k = Q) w9 V9) := Lib.hid (by rw [← hV9]; exact (Away.refl _ _).put (by exact rfl) _ _)
                    have HV9 := Lib.hid hV9
                    have K10 := Lib.hid (K9.out.away (by omega) A10.out (by omega))
                    have F10 := Lib.hid (F9.out.away (by omega) A10.out (by omega))
                    have O10 := Lib.hid (own_away O9.out A10.out (fun k hk e => by have := (O2.out.lt k hk).2; omega))
                    have B10 := Lib.hid (B9.out.trans (A10.out.below (B := w.heap.size) (by omega) (fun k h => by omega)))
                    clear hb9 hU hV9 Q8 K8 F8 O8 B8 A8 M8 UP k8 k8'
                    go_upto_region 20 with fail
                    rw [HV9.out]
                    clear q17 v17 HV9
                    have k0 := K10.out.c 0 _ rfl
                    have k1 := K10.out.c 1 _ rfl
                    have f0 := F10.out.c 0 _ rfl
                    have f1 := F10.out.c 1 _ rfl
                    have z0 := F10.out.fz 0
                    have z1 := F10.out.fz 1
                    have n1 : ¬ w.heap.size = B4 := by omega
                    have n2 : ¬ B4 = w.heap.size := by omega
                    go_region
                    all_goals
                      go_wp2
                      refine bodyPost_ret (ret_begin ((F10.out.set 0 (by simp) _).set 1 (by simp) _).drew rfl rfl rfl rfl) rfl ?_
                      have FIN := HX12.out
                      rw [← HKP.out] at Q10
                      rw [← HU.out] at Q10
                      refine BeginPost.ok FIN.symm ⟨Q, A, c, rfl, ?_, HA.out, ?_, ?_, by omega, ?_⟩
                      · exact ((Q10.out.far _ _ (by show w.heap.size ≠ Q; omega)).far _ _ (by show w.heap.size ≠ Q; omega)).drew
                      · have o1 := own_away O10.out (away_set2 _ w.heap.size 0 1 (.int .i64 1) (.int .i64 l)) (fun k hk e => by have := (O2.out.lt k hk).1; omega)
                        exact own_from (own_drew o1) (by omega)
                      · exact ((B10.out.setCell (Nat.le_refl _) _).setCell (Nat.le_refl _) _).drew
                      · intro g o hg
                        have := (O2.out.lt g (by rw [hg]; rfl)).2
                        omega
                · have hk' : (k == 1) = false := by rw [beq_eq_false_iff_ne]; exact hk
                  by_cases hmt : hd.method = [67, 79, 78, 78, 69, 67, 84]
                  · have hx := HX11.out
                    rw [if_pos ⟨hmt, hk⟩] at hx
                    subst hx
                    have f0 := F7.out.c 0 _ rfl
                    have f1 := F7.out.c 1 _ rfl
                    have z0 := F7.out.fz 0
                    have z1 := F7.out.fz 1
                    go_wp2
                    refine bodyPost_ret (ret_begin ((F7.out.set 0 (by simp) _).set 1 (by simp) _) rfl rfl rfl rfl) rfl ?_
                    exact ⟨rfl, (B7.out.setCell (Nat.le_refl _) _).setCell (Nat.le_refl _) _⟩
                  · have hmb : (hd.method == [67, 79, 78, 78, 69, 67, 84]) = false := by rw [beq_eq_false_iff_ne]; exact hmt
                    have HX12 := HX11.out
                    rw [if_neg (fun h => hmt h.1), show decide (k ≠ 1) = true from decide_eq_true hk] at HX12
                    have HX13 := Lib.hid HX12
                    clear HX12 HX11
                    have HX12 := HX13
                    clear HX13
                    have q15 := Q7.out.c 15 _ rfl
                    have v15 := Q7.out.fz 15
                    obtain ⟨V8, hV8⟩ : ∃ V8, wc.setCell ⟨Q, 15, none⟩ (.bool true) = V8 := ⟨_, rfl⟩
                    have Q8 : Hid (Blk V8 Q (rqVs { head := hd, keep := kp, tg := t, host := nm, port := po, sized := true } A c)) := Lib.hid (by rw [← hV8]; exact Q7.out.set 15 (by simp [rqVs]) _)
                    have A8 : Hid (Away (fun k => k = Q) wc V8) := Lib.hid (by rw [← hV8]; exact (Away.refl _ _).put (by exact rfl) _ _)
                    have HV8 := Lib.hid hV8
                    have K8 := Lib.hid (BK.out.away hbl A8.out (by omega))
                    have F8 := Lib.hid (F7.out.away hfl A8.out (by omega))
                    have M8 := Lib.hid (A8.out.cell M7.out (by show ¬ (0 : Nat) = Q; omega))
                    have O8 := Lib.hid (own_away O7.out A8.out (fun k hk e => by have := (O2.out.lt k hk).2; omega))
                    have B8 := Lib.hid (B7.out.trans (A8.out.below (B := w.heap.size) (by omega) (fun k h => by omega)))
                    have UP := Lib.hid (iupgrade_c Q { head := hd, keep := kp, tg := t, host := nm, port := po, sized := true } A c k l M V8 Q8.out hfb.out (flds_own O8.out) M8.out)
                    have k8 := K8.out.c 0 _ rfl
                    have k8' := K8.out.c 1 _ rfl
                    have hz8 : wc.heap.size ≤ V8.heap.size := A8.out.size
                    clear hV8
                    go_upto_region 19 with fail
                    rw [show (k != 1) = true from bne_iff_ne.2 hk]
                    rw [HV8.out]
                    clear q15 v15 HV8
                    go_wp2_with fail
                    refine UP.out.mono ?_
                    rintro e9 w9 ⟨rfl, hb9⟩
                    have hz9 := hb9.size
                    have Q9 := Lib.hid (Q8.out.below (by omega) hb9)
                    have K9 := Lib.hid (K8.out.below (by omega) hb9)
                    have F9 := Lib.hid (F8.out.below (by omega) hb9)
                    have O9 := Lib.hid (own_below O8.out hb9)
                    have B9 := Lib.hid (below_then B8.out hb9)
                    have q17 := Q9.out.c 17 _ rfl
                    have v17 := Q9.out.fz 17
                    obtain ⟨U, hU⟩ : ∃ U, upgradeL hd k = U := ⟨_, rfl⟩
                    rw [show upgradeL ({ head := hd, keep := kp, tg := t, host := nm, port := po, sized := true } : Rq).head k = U from hU]
                    have HU := Lib.hid hU
                    obtain ⟨V9, hV9⟩ : ∃ V9, w9.setCell ⟨Q, 17, none⟩ (.string (bs U)) = V9 := ⟨_, rfl⟩
                    have Q10 : Hid (Blk V9 Q (rqVs { head := hd, keep := kp, tg := t, host := nm, port := po, sized := true, upg := U } A c)) := Lib.hid (by rw [← hV9]; exact Q9.out.set 17 (by simp [rqVs]) _)
                    have A10 : Hid (Away (fun k => k = Q) w9 V9) := Lib.hid (by rw [← hV9]; exact (Away.refl _ _).put (by exact rfl) _ _)
                    have HV9 := Lib.hid hV9
                    have K10 := Lib.hid (K9.out.away (by omega) A10.out (by omega))
                    have F10 := Lib.hid (F9.out.away (by omega) A10.out (by omega))
                    have O10 := Lib.hid (own_away O9.out A10.out (fun k hk e => by have := (O2.out.lt k hk).2; omega))
                    have B10 := Lib.hid (B9.out.trans (A10.out.below (B := w.heap.size) (by omega) (fun k h => by omega)))
                    clear hb9 hU hV9 Q8 K8 F8 O8 B8 A8 M8 UP k8 k8'
                    go_upto_region 20 with fail
                    rw [HV9.out]
                    clear q17 v17 HV9
                    have k0 := K10.out.c 0 _ rfl
                    have k1 := K10.out.c 1 _ rfl
                    have f0 := F10.out.c 0 _ rfl
                    have f1 := F10.out.c 1 _ rfl
                    have z0 := F10.out.fz 0
                    have z1 := F10.out.fz 1
                    have n1 : ¬ w.heap.size = B4 := by omega
                    have n2 : ¬ B4 = w.heap.size := by omega
                    go_region
                    all_goals
                      go_wp2
                      refine bodyPost_ret (ret_begin ((F10.out.set 0 (by simp) _).set 1 (by simp) _).drew rfl rfl rfl rfl) rfl ?_
                      have FIN := HX12.out
                      rw [← HKP.out] at Q10
                      rw [← HU.out] at Q10
                      refine BeginPost.ok FIN.symm ⟨Q, A, c, rfl, ?_, HA.out, ?_, ?_, by omega, ?_⟩
                      · exact ((Q10.out.far _ _ (by show w.heap.size ≠ Q; omega)).far _ _ (by show w.heap.size ≠ Q; omega)).drew
                      · have o1 := own_away O10.out (away_set2 _ w.heap.size 0 1 (.int .i64 k) (.int .i64 l)) (fun k hk e => by have := (O2.out.lt k hk).1; omega)
                        exact own_from (own_drew o1) (by omega)
                      · exact ((B10.out.setCell (Nat.le_refl _) _).setCell (Nat.le_refl _) _).drew
                      · intro g o hg
                        have := (O2.out.lt g (by rw [hg]; rfl)).2
                        omega
              · have hx := HX9.out
                rw [if_pos hfe] at hx
                subst hx
                have hfe' : (fe != 0) = true := by rw [bne_iff_ne]; exact hfe
                have f0 := F7.out.c 0 _ rfl
                have f1 := F7.out.c 1 _ rfl
                have z0 := F7.out.fz 0
                have z1 := F7.out.fz 1
                have SC := fun w => Lib.hid (statuses_c fe w)
                go_wp2_with fail
                refine (SC _).out.mono ?_
                rintro e8 w8 ⟨rfl, rfl⟩
                go_wp2
                refine bodyPost_ret (ret_begin ((F7.out.set 0 (by simp) _).set 1 (by simp) _) rfl rfl rfl rfl) rfl ?_
                exact ⟨rfl, (B7.out.setCell (Nat.le_refl _) _).setCell (Nat.le_refl _) _⟩
      · have hx := HX3.out
        rw [if_pos hpe] at hx
        subst hx
        have hpe' : (pe != 0) = true := by rw [bne_iff_ne]; exact hpe
        have f0 := F4.out.c 0 _ rfl
        have f1 := F4.out.c 1 _ rfl
        have z0 := F4.out.fz 0
        have z1 := F4.out.fz 1
        go_wp2
        refine bodyPost_ret (ret_begin ((F4.out.set 0 (by simp) _).set 1 (by simp) _) rfl rfl rfl rfl) rfl ?_
        exact ⟨rfl, (B4.out.setCell (Nat.le_refl _) _).setCell (Nat.le_refl _) _⟩
  · have hx := HX.out
    rw [if_pos he] at hx
    subst hx
    have he' : (e != 0) = true := by rw [bne_iff_ne]; exact he
    have f0 := F2.out.c 0 _ rfl
    have f1 := F2.out.c 1 _ rfl
    have z0 := F2.out.fz 0
    have z1 := F2.out.fz 1
    have SC := fun w => Lib.hid (statuses_c e w)
    go_upto_region 2 with fail
    rw [HV2.out]
    go_wp2_with fail
    refine (SC _).out.mono ?_
    rintro e2 w3 ⟨rfl, rfl⟩
    go_wp2
    refine bodyPost_ret (ret_begin ((F2.out.set 0 (by simp) _).set 1 (by simp) _) rfl rfl rfl rfl) rfl ?_
    exact ⟨rfl, (B2.out.setCell (Nat.le_refl _) _).setCell (Nat.le_refl _) _⟩
end Go.Proofs.YtgmjkkiahanekaaGreatDoor

