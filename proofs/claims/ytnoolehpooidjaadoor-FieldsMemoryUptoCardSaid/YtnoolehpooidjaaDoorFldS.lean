/- The walk over FieldsMemory. -/
import Derived.Test.YtnoolehpooidjaaDoorFldR
import Derived.Test.YtnoolehpooidjaaDoorFldN
set_option linter.unusedVariables false
set_option linter.unusedSimpArgs false
namespace Go.Proofs.YtnoolehpooidjaaDoor
open Go.RowKit Lex

theorem Flds.far {w0 w w' : World} {A : Option Addr} {l : List Fd} {row : Option Nat} (h0 : Flds w0 A l) (h : Flds w A l) (hg : w.grownBy w' row) (hr : ∀ g, row = some g → w0.heap.size ≤ g) : Flds w' A l := by
  intro j hj
  obtain ⟨g, o, e, c1, c2⟩ := h j hj
  obtain ⟨g', o', e', d1, _⟩ := h0 j hj
  rw [e] at e'
  injection e' with e'; injection e' with e1 e2
  subst e1
  have hlt := World.block_lt_of_cell? w0 _ d1
  have hne : some g ≠ row := fun e3 => by have := hr g e3.symm; simp only at hlt; omega
  exact ⟨g, o, e, (hg.cell_far _ (World.block_lt_of_cell? w _ c1) hne).trans c1, (hg.cell_far _ (World.block_lt_of_cell? w _ c2) hne).trans c2⟩
theorem Row.addr {w : World} {lo hi n c : Nat} {a : Option Addr} {xs : List Value} (h : Row w lo hi n a c xs) (hn : 0 < n) : ∃ g, a = some ⟨g, 0, none⟩ := by
  rcases h.own.2 with ⟨he, h0⟩ | ⟨g, cap, cur, he, _⟩
  · omega
  · injection he with e1 _ _
    exact ⟨g, e1⟩
theorem Row.alloc {w : World} {lo hi n c : Nat} {a : Option Addr} {xs : List Value} (h : Row w lo hi n a c xs) (o : Obj) : Row (w.alloc o) lo hi n a c xs := h.below ((Below.refl w.heap.size w).alloc (Nat.le_refl _) o)
/-- The block that a slice's row lies in. -/
abbrev blk (n : Nat) (a : Option Addr) (c : Nat) : Option Nat := (Value.slice a n c).ownBlock
theorem grown_refl (w : World) (row : Option Nat) : w.grownBy w row := ⟨rfl, rfl, rfl, Nat.le_refl _, fun _ _ _ => rfl⟩
theorem empty_flds (w : World) : Flds (w.alloc (.cells #[.string ByteArray.empty, .string ByteArray.empty, .string ByteArray.empty, .string ByteArray.empty] 30)) (some ⟨w.heap.size, 0, none⟩) [([], []), ([], [])] :=
  flds_own (cap := 2) (World.ownsRow_lit (base := w.heap.size) (e := 30) (size := 2) w _ 2 (Nat.le_refl _) (by decide) rfl)
theorem spare_flds (w : World) : Flds (w.alloc (.cells #[.string ⟨#[115, 112, 97, 114, 101]⟩, .string ByteArray.empty, .string ⟨#[114, 111, 111, 109]⟩, .string ByteArray.empty] 30)) (some ⟨w.heap.size, 0, none⟩) [([115, 112, 97, 114, 101], []), ([114, 111, 111, 109], [])] :=
  flds_own (cap := 2) (World.ownsRow_lit (base := w.heap.size) (e := 30) (size := 2) w _ 2 (Nat.le_refl _) (by decide) rfl)

theorem Flds.alloc {w : World} {A : Option Addr} {l : List Fd} (h : Flds w A l) (o : Obj) : Flds (w.alloc o) A l := h.below ((Below.refl w.heap.size w).alloc (Nat.le_refl _) o)
theorem own_some {w : World} {base : Nat} {e : TypeId} {z n : Nat} {v : Value} {xs : List Value} (h : w.ownsRow base e z v (n + 2) xs) : ∃ g c, v = .slice (some ⟨g, 0, none⟩) (n + 2) c ∧ n + 2 ≤ c ∧ (0 : Int) ≤ (n : Int) ∧ n ≤ c := by
  obtain ⟨g, c, rfl, _, _⟩ := h.form (by omega)
  have := own_cap h
  exact ⟨g, c, rfl, this, by omega, by omega⟩
set_option maxRecDepth 100000 in
set_option maxHeartbeats 16000000 in
theorem memory_walk {W : World} (A : Option Addr) (cap : Nat) (l : List Fd) (hA : A = none → cap = 0) (hF : Flds W A l) (hl : In l) (m : Int) (W2 : World) (hW : W2 = W) (hm : W2.cell? ⟨0, 0, none⟩ = some (.int .i64 m)) :
    Calls Tryd.prog 4 #[.slice A l.length cap] W2 fun e w' => e = .returned (.bool true) ∧ Below W2.heap.size W2 w' := by
  subst hW
  have hfb := hl.fb
  obtain ⟨i0, hi, hz0, hz1, hz2⟩ := info_parts info_field
  have AN := Lib.hid (anchor7_c m W2 hm)
  have HA := Lib.hid hA
  have HF := Lib.hid hF
  have HM := Lib.hid hm
  have hl1 := hl.1
  have SE := fun a c w h => Lib.hid (setf_c a c l ⟨#[110, 111, 110, 101, 45, 115, 117, 99, 104]⟩ ⟨#[118]⟩ w (by decide) hfb h)
  have RE := fun a c w h => Lib.hid (removef_c a c l ⟨#[110, 111, 110, 101, 45, 115, 117, 99, 104]⟩ w (by decide) hfb h)
  have ST := fun a c w ha h h2 => Lib.hid (stripf_c a c l m w hfb ha h h2)
  have RS := fun a c w h => Lib.hid (rset_c a c l ⟨#[110, 111, 110, 101, 45, 115, 117, 99, 104]⟩ ⟨#[118]⟩ w (by decide) hfb h)
  have RT := fun a c w h => Lib.hid (rstrip_c a c l w hfb h)
  have hrl := removeF_length l (ByteArray.mk #[110, 111, 110, 101, 45, 115, 117, 99, 104]).data.toList
  have hsl : (setF l (ByteArray.mk #[110, 111, 110, 101, 45, 115, 117, 99, 104]).data.toList (ByteArray.mk #[118]).data.toList).length = (removeF l (ByteArray.mk #[110, 111, 110, 101, 45, 115, 117, 99, 104]).data.toList).length + 1 := by
    show (removeF l _ ++ [_]).length = _
    rw [List.length_append]; rfl
  have hstl : (stripF l).length ≤ l.length := List.length_filter_le _ _
  generalize setF l (ByteArray.mk #[110, 111, 110, 101, 45, 115, 117, 99, 104]).data.toList (ByteArray.mk #[118]).data.toList = S at *
  generalize removeF l (ByteArray.mk #[110, 111, 110, 101, 45, 115, 117, 99, 104]).data.toList = D at *
  generalize stripF l = T at *
  have hSn : S.length ≤ 1048577 := by omega
  have hDn : D.length ≤ 1048576 := by omega
  have hTn : T.length ≤ 1048576 := by omega
  have SL := fun a a' c c' w h h' => Lib.hid (samef_c a a' c c' l w h h' (by omega))
  have SS := fun a a' c c' w h h' => Lib.hid (samef_c a a' c c' S w h h' (by omega))
  have SX := fun a a' c c' w h h' => Lib.hid (samef_c a a' c c' T w h h' (by omega))
  clear hA hF hm hl hfb hsl hrl hstl
  go_enter Tryd.func4, Tryd.ntmps4
  go_wp2_with fail
  refine AN.out.mono ?_
  rintro e w1 ⟨rfl, hb1⟩
  have F1 := Lib.hid (HF.out.below hb1)
  have M1 := Lib.hid (held1 hb1 HM.out)
  have B1 := Lib.hid hb1
  clear hb1
  go_wp2_with (at_builtin; first
    | (refine wpList_copy_flds rfl (.tmp 16) (.tmp 17) rfl rfl A cap l HA.out rfl F1.out (by omega) ?_; intro v2 w2 ho2 hb2; have O2 := Lib.hid ho2; have Z2 := Lib.hid hb2.size)
    | (refine wpList_append_flds rfl (.tmp 18) (.tmp 21) rfl w1.heap.size i0 hi hz0 hz1 hz2 v2 l.length (fvals l) rfl (O2.out.alloc _) (some ⟨w2.heap.size, 0, none⟩) 2 [([115, 112, 97, 114, 101], []), ([114, 111, 111, 109], [])] (fun e => by cases e) rfl (spare_flds w2) (by simp; omega) (by have := Z2.out; simp; omega) ?_; intro v3 w3 ho3 hg3; obtain ⟨g0, c0, rfl, hcap, hln0, hlc⟩ := own_some (n := l.length) ho3))
  have hb23 : Below w1.heap.size w1 w3 := (hb2.alloc Z2.out _).grown hg3 (by have := Z2.out; simp; omega) (fun g hg => (O2.out.lt g hg).1)
  rw [show l.length + List.length [(([115, 112, 97, 114, 101], []) : Fd), ([114, 111, 111, 109], [])] = (l ++ [([115, 112, 97, 114, 101], []), ([114, 111, 111, 109], [])]).length from by rw [List.length_append], ← fvals_append] at ho3
  have hln : (l ++ [(([115, 112, 97, 114, 101], []) : Fd), ([114, 111, 111, 109], [])]).length = l.length + 2 := by rw [List.length_append]; rfl
  have HR := flds_own (A := some ⟨g0, 0, none⟩) (cap := c0) (l := l ++ [(([115, 112, 97, 114, 101], []) : Fd), ([114, 111, 111, 109], [])]) (by rw [hln]; rw [hln] at ho3; exact ho3)
  have hd1 : w3.cell? ⟨g0, l.length * 2, none⟩ = some (.string ⟨#[115, 112, 97, 114, 101]⟩) := by
    obtain ⟨g, o, e, d1, d2⟩ := HR l.length (by simp)
    injection e with e; injection e with e1 e2
    subst e1 e2
    simp only [Nat.zero_add, List.getElem_append_right (Nat.le_refl l.length), Nat.sub_self] at d1
    exact d1
  have hd2 : w3.cell? ⟨g0, (l.length + 1) * 2, none⟩ = some (.string ⟨#[114, 111, 111, 109]⟩) := by
    obtain ⟨g, o, e, d1, d2⟩ := HR (l.length + 1) (by simp)
    injection e with e; injection e with e1 e2
    subst e1 e2
    simp only [Nat.zero_add, List.getElem_append_right (Nat.le_succ l.length), Nat.succ_eq_add_one, Nat.add_sub_cancel_left] at d1
    exact d1
  have AR3 := Lib.hid HR.left
  have F3 := Lib.hid (F1.out.below hb23)
  have M3 := Lib.hid (held1 hb23 M1.out)
  have B3 := Lib.hid (below_then B1.out hb23)
  have HD1 := Lib.hid hd1
  have HD2 := Lib.hid hd2
  clear hb2 ho2 F1 M1 B1 hb23 ho3 hg3 O2 Z2 HR hd1 hd2
  go_wp2_with fail
  refine (SE _ _ _ AR3.out).out.mono ?_
  rintro e w4 ⟨v4, rfl, ho4, hb4⟩
  obtain ⟨aa, ca, rfl, _, RA⟩ := row_of ho4
  have RA4 := Lib.hid RA
  have AR4 := Lib.hid (AR3.out.below hb4)
  have F4 := Lib.hid (F3.out.below hb4)
  have M4 := Lib.hid (held1 hb4 M3.out)
  have B4 := Lib.hid (below_then B3.out hb4)
  have K4 := Lib.hid hb4
  have hz3 := B3.out.size
  have hz4 := hb4.size
  clear hb4 ho4 RA F3 M3 B3
  go_wp2_with fail
  refine (RE _ _ _ AR4.out).out.mono ?_
  rintro e w5 ⟨v5, rfl, ho5, hb5⟩
  obtain ⟨ab, cb, rfl, _, RB⟩ := row_of ho5
  have RB5 := Lib.hid RB
  have RA5 := Lib.hid (RA4.out.below hb5)
  have AR5 := Lib.hid (AR4.out.below hb5)
  have F5 := Lib.hid (F4.out.below hb5)
  have M5 := Lib.hid (held1 hb5 M4.out)
  have B5 := Lib.hid (below_then B4.out hb5)
  have K5 := Lib.hid (below_then K4.out hb5)
  have hz5 := hb5.size
  clear hb5 ho5 RB F4 M4 B4 RA4 AR4 K4
  go_wp2_with fail
  refine (ST _ _ _ (fun e => by cases e) AR5.out M5.out).out.mono ?_
  rintro e w6 ⟨v6, rfl, ho6, hb6⟩
  obtain ⟨ac, cc, rfl, _, RC⟩ := row_of ho6
  have RC6 := Lib.hid RC
  have RB6 := Lib.hid (RB5.out.below hb6)
  have RA6 := Lib.hid (RA5.out.below hb6)
  have AR6 := Lib.hid (AR5.out.below hb6)
  have F6 := Lib.hid (F5.out.below hb6)
  have M6 := Lib.hid (held1 hb6 M5.out)
  have B6 := Lib.hid (below_then B5.out hb6)
  have K6 := Lib.hid (below_then K5.out hb6)
  have hz6 := hb6.size
  clear hb6 ho6 RC F5 M5 B5 RA5 AR5 RB5 K5
  go_wp2_with fail
  refine (SE _ _ _ AR6.out).out.mono ?_
  rintro e w7 ⟨v7, rfl, ho7, hb7⟩
  obtain ⟨ad, cd, rfl, _, RD⟩ := row_of ho7
  have RD7 := Lib.hid RD
  have RC7 := Lib.hid (RC6.out.below hb7)
  have RB7 := Lib.hid (RB6.out.below hb7)
  have RA7 := Lib.hid (RA6.out.below hb7)
  have AR7 := Lib.hid (AR6.out.below hb7)
  have F7 := Lib.hid (F6.out.below hb7)
  have M7 := Lib.hid (held1 hb7 M6.out)
  have B7 := Lib.hid (below_then B6.out hb7)
  have K7 := Lib.hid (below_then K6.out hb7)
  have hz7 := hb7.size
  clear hb7 ho7 RD F6 M6 B6 RA6 AR6 RB6 RC6 K6
  go_wp2_with fail
  refine (ST _ _ _ (fun e => by cases e) AR7.out M7.out).out.mono ?_
  rintro e w8 ⟨v8, rfl, ho8, hb8⟩
  obtain ⟨ae, ce, rfl, _, RE8⟩ := row_of ho8
  have RE8 := Lib.hid RE8
  have RD8 := Lib.hid (RD7.out.below hb8)
  have RC8 := Lib.hid (RC7.out.below hb8)
  have RB8 := Lib.hid (RB7.out.below hb8)
  have RA8 := Lib.hid (RA7.out.below hb8)
  have AR8 := Lib.hid (AR7.out.below hb8)
  have F8 := Lib.hid (F7.out.below hb8)
  have B8 := Lib.hid (below_then B7.out hb8)
  have K8 := Lib.hid (below_then K7.out hb8)
  have hz8 := hb8.size
  clear hb8 ho8 F7 M7 B7 RA7 AR7 RB7 RC7 RD7 K7
  have hd1 := (K8.out.cell (World.block_lt_of_cell? w3 _ HD1.out)).trans HD1.out
  have hd2 := (K8.out.cell (World.block_lt_of_cell? w3 _ HD2.out)).trans HD2.out
  have hk1 : (0 : Int) ≤ ((l.length + 1 : Nat) : Int) := by omega
  go_wp2
  clear hd1 hd2 HD1 HD2
  obtain ⟨wo9, rfl⟩ : ∃ wo : World, wo = w8 := ⟨_, rfl⟩
  go_loopw [10, 70] (fun _ i wr => ∃ k : Nat, k ≤ S.length ∧ i = .int .i64 k ∧ (∃ xs', Row wr w3.heap.size w4.heap.size S.length aa ca xs') ∧ wo9.grownBy wr (blk S.length aa ca)) (fun _ i _ => S.length - (intOf i).toNat)
  case atStart => exact ⟨0, Nat.zero_le _, rfl, ⟨_, RA8.out⟩, grown_refl _ _⟩
  case round =>
    obtain ⟨k, hk, rfl, ⟨xs9, hR⟩, hG⟩ := hrel
    by_cases hlt : k < S.length
    · obtain ⟨g, hAe⟩ := hR.addr (by omega)
      have HRK := Lib.hid hR
      have HGK := Lib.hid hG
      subst hAe
      obtain ⟨⟨u1, d1⟩, e1⟩ := HRK.out.cell (j := k * 2) (by omega)
      obtain ⟨⟨u2, d2⟩, e2⟩ := HRK.out.cell (j := k * 2 + 1) (by omega)
      have k0 : (0 : Int) ≤ (k : Int) := by omega
      have k1 : (k : Int) < (S.length : Int) := by omega
      clear hR hG
      go_wp2
      go_roundw
      case rel => exact ⟨k + 1, by omega, by go_num, (HRK.out.stored k _ _).1, HGK.out.trans (HRK.out.stored k _ _).2⟩
      case measure => simp [intOf]; omega
    · obtain rfl : k = S.length := by omega
      have RA9 := Lib.hid hR
      have hbk := hR.block
      have hsz9 : wo9.heap.size ≤ wr.heap.size := hG.size
      have RB9 := Lib.hid (RB8.out.grown hG (fun g e => by have := hbk g e; omega))
      have RC9 := Lib.hid (RC8.out.grown hG (fun g e => by have := hbk g e; omega))
      have RD9 := Lib.hid (RD8.out.grown hG (fun g e => by have := hbk g e; omega))
      have RE9 := Lib.hid (RE8.out.grown hG (fun g e => by have := hbk g e; omega))
      have F9 := Lib.hid (HF.out.far F8.out hG (fun g e => by have := hbk g e; omega))
      have AR9 := Lib.hid (AR3.out.far AR8.out hG (fun g e => by have := hbk g e; omega))
      have B9 := Lib.hid (B8.out.grown hG B8.out.size (fun g e => by have := hbk g e; omega))
      clear hR hG hbk RA8 RB8 RC8 RD8 RE8 F8 AR8 B8
      go_wp2
      obtain ⟨wo10, rfl⟩ : ∃ wo : World, wo = wr := ⟨_, rfl⟩
      go_loopw [11, 80] (fun _ i wr => ∃ k : Nat, k ≤ D.length ∧ i = .int .i64 k ∧ (∃ xs', Row wr w4.heap.size w5.heap.size D.length ab cb xs') ∧ wo10.grownBy wr (blk D.length ab cb)) (fun _ i _ => D.length - (intOf i).toNat)
      case atStart => exact ⟨0, Nat.zero_le _, rfl, ⟨_, RB9.out⟩, grown_refl _ _⟩
      case round =>
        obtain ⟨k, hk, rfl, ⟨xs10, hR⟩, hG⟩ := hrel
        by_cases hlt : k < D.length
        · obtain ⟨g, hAe⟩ := hR.addr (by omega)
          have HRK := Lib.hid hR
          have HGK := Lib.hid hG
          subst hAe
          obtain ⟨⟨u1, d1⟩, e1⟩ := HRK.out.cell (j := k * 2) (by omega)
          obtain ⟨⟨u2, d2⟩, e2⟩ := HRK.out.cell (j := k * 2 + 1) (by omega)
          have k0 : (0 : Int) ≤ (k : Int) := by omega
          have k1 : (k : Int) < (D.length : Int) := by omega
          clear hR hG
          go_wp2
          go_roundw
          case rel => exact ⟨k + 1, by omega, by go_num, (HRK.out.stored k _ _).1, HGK.out.trans (HRK.out.stored k _ _).2⟩
          case measure => simp [intOf]; omega
        · obtain rfl : k = D.length := by omega
          have RB10 := Lib.hid hR
          have hbk := hR.block
          have hsz10 : wo10.heap.size ≤ wr.heap.size := hG.size
          have RA10 := Lib.hid (RA9.out.grown hG (fun g e => by have := hbk g e; omega))
          have RC10 := Lib.hid (RC9.out.grown hG (fun g e => by have := hbk g e; omega))
          have RD10 := Lib.hid (RD9.out.grown hG (fun g e => by have := hbk g e; omega))
          have RE10 := Lib.hid (RE9.out.grown hG (fun g e => by have := hbk g e; omega))
          have F10 := Lib.hid (HF.out.far F9.out hG (fun g e => by have := hbk g e; omega))
          have AR10 := Lib.hid (AR3.out.far AR9.out hG (fun g e => by have := hbk g e; omega))
          have B10 := Lib.hid (B9.out.grown hG B9.out.size (fun g e => by have := hbk g e; omega))
          clear hR hG hbk RA9 RB9 RC9 RD9 RE9 F9 AR9 B9
          go_wp2
          obtain ⟨wo11, rfl⟩ : ∃ wo : World, wo = wr := ⟨_, rfl⟩
          go_loopw [12, 90] (fun _ i wr => ∃ k : Nat, k ≤ T.length ∧ i = .int .i64 k ∧ (∃ xs', Row wr w5.heap.size w6.heap.size T.length ac cc xs') ∧ wo11.grownBy wr (blk T.length ac cc)) (fun _ i _ => T.length - (intOf i).toNat)
          case atStart => exact ⟨0, Nat.zero_le _, rfl, ⟨_, RC10.out⟩, grown_refl _ _⟩
          case round =>
            obtain ⟨k, hk, rfl, ⟨xs11, hR⟩, hG⟩ := hrel
            by_cases hlt : k < T.length
            · obtain ⟨g, hAe⟩ := hR.addr (by omega)
              have HRK := Lib.hid hR
              have HGK := Lib.hid hG
              subst hAe
              obtain ⟨⟨u1, d1⟩, e1⟩ := HRK.out.cell (j := k * 2) (by omega)
              obtain ⟨⟨u2, d2⟩, e2⟩ := HRK.out.cell (j := k * 2 + 1) (by omega)
              have k0 : (0 : Int) ≤ (k : Int) := by omega
              have k1 : (k : Int) < (T.length : Int) := by omega
              clear hR hG
              go_wp2
              go_roundw
              case rel => exact ⟨k + 1, by omega, by go_num, (HRK.out.stored k _ _).1, HGK.out.trans (HRK.out.stored k _ _).2⟩
              case measure => simp [intOf]; omega
            · obtain rfl : k = T.length := by omega
              have RC11 := Lib.hid hR
              have hbk := hR.block
              have hsz11 : wo11.heap.size ≤ wr.heap.size := hG.size
              have RA11 := Lib.hid (RA10.out.grown hG (fun g e => by have := hbk g e; omega))
              have RB11 := Lib.hid (RB10.out.grown hG (fun g e => by have := hbk g e; omega))
              have RD11 := Lib.hid (RD10.out.grown hG (fun g e => by have := hbk g e; omega))
              have RE11 := Lib.hid (RE10.out.grown hG (fun g e => by have := hbk g e; omega))
              have F11 := Lib.hid (HF.out.far F10.out hG (fun g e => by have := hbk g e; omega))
              have AR11 := Lib.hid (AR3.out.far AR10.out hG (fun g e => by have := hbk g e; omega))
              have B11 := Lib.hid (B10.out.grown hG B10.out.size (fun g e => by have := hbk g e; omega))
              clear hR hG hbk RA10 RB10 RC10 RD10 RE10 F10 AR10 B10
              go_wp2_with (at_builtin; first
                | (refine wpList_append_flds rfl (.tmp 98) (.tmp 101) rfl w3.heap.size i0 hi hz0 hz1 hz2 _ S.length _ rfl (RA11.out.alloc _).own (some ⟨wr.heap.size, 0, none⟩) 2 [([], []), ([], [])] (fun e => by cases e) rfl (empty_flds _) (by simp; omega) (by simp; omega) ?_; intro v12 w12 ho12 hg12; obtain ⟨n12, c12, rfl⟩ := own_slice' ho12; have hq12 := RA11.out.block; have RB12 := Lib.hid ((RB11.out.alloc _).grown hg12 (fun g e => by have := hq12 g e; omega)); have RC12 := Lib.hid ((RC11.out.alloc _).grown hg12 (fun g e => by have := hq12 g e; omega)); have RD12 := Lib.hid ((RD11.out.alloc _).grown hg12 (fun g e => by have := hq12 g e; omega)); have RE12 := Lib.hid ((RE11.out.alloc _).grown hg12 (fun g e => by have := hq12 g e; omega)); have F12 := Lib.hid (HF.out.far (F11.out.alloc _) hg12 (fun g e => by have := hq12 g e; omega)); have AR12 := Lib.hid (AR3.out.far (AR11.out.alloc _) hg12 (fun g e => by have := hq12 g e; omega)); have B12 := Lib.hid ((B11.out.alloc B11.out.size _).grown hg12 (Nat.le_trans B11.out.size (by simp)) (fun g e => by have := hq12 g e; omega)); have hs12 : wr.heap.size ≤ w12.heap.size := Nat.le_trans (by simp) hg12.size; clear hg12 ho12 hq12 F11 AR11 B11)
                | (refine wpList_append_flds rfl (.tmp 104) (.tmp 107) rfl w4.heap.size i0 hi hz0 hz1 hz2 _ D.length _ rfl (RB12.out.alloc _).own (some ⟨w12.heap.size, 0, none⟩) 2 [([], []), ([], [])] (fun e => by cases e) rfl (empty_flds _) (by simp; omega) (by simp; omega) ?_; intro v13 w13 ho13 hg13; obtain ⟨n13, c13, rfl⟩ := own_slice' ho13; have hq13 := RB12.out.block; have RC13 := Lib.hid ((RC12.out.alloc _).grown hg13 (fun g e => by have := hq13 g e; omega)); have RD13 := Lib.hid ((RD12.out.alloc _).grown hg13 (fun g e => by have := hq13 g e; omega)); have RE13 := Lib.hid ((RE12.out.alloc _).grown hg13 (fun g e => by have := hq13 g e; omega)); have F13 := Lib.hid (HF.out.far (F12.out.alloc _) hg13 (fun g e => by have := hq13 g e; omega)); have AR13 := Lib.hid (AR3.out.far (AR12.out.alloc _) hg13 (fun g e => by have := hq13 g e; omega)); have B13 := Lib.hid ((B12.out.alloc B12.out.size _).grown hg13 (Nat.le_trans B12.out.size (by simp)) (fun g e => by have := hq13 g e; omega)); have hs13 : w12.heap.size ≤ w13.heap.size := Nat.le_trans (by simp) hg13.size; clear hg13 ho13 hq13 F12 AR12 B12)
                | (refine wpList_append_flds rfl (.tmp 111) (.tmp 114) rfl w5.heap.size i0 hi hz0 hz1 hz2 _ T.length _ rfl (RC13.out.alloc _).own (some ⟨w13.heap.size, 0, none⟩) 2 [([], []), ([], [])] (fun e => by cases e) rfl (empty_flds _) (by simp; omega) (by simp; omega) ?_; intro v14 w14 ho14 hg14; obtain ⟨n14, c14, rfl⟩ := own_slice' ho14; have hq14 := RC13.out.block; have RD14 := Lib.hid ((RD13.out.alloc _).grown hg14 (fun g e => by have := hq14 g e; omega)); have RE14 := Lib.hid ((RE13.out.alloc _).grown hg14 (fun g e => by have := hq14 g e; omega)); have F14 := Lib.hid (HF.out.far (F13.out.alloc _) hg14 (fun g e => by have := hq14 g e; omega)); have AR14 := Lib.hid (AR3.out.far (AR13.out.alloc _) hg14 (fun g e => by have := hq14 g e; omega)); have B14 := Lib.hid ((B13.out.alloc B13.out.size _).grown hg14 (Nat.le_trans B13.out.size (by simp)) (fun g e => by have := hq14 g e; omega)); have hs14 : w13.heap.size ≤ w14.heap.size := Nat.le_trans (by simp) hg14.size; clear hg14 ho14 hq14 F13 AR13 B13))
              refine (SL (some ⟨g0, 0, none⟩) A c0 cap w14 AR14.out F14.out).out.mono ?_
              rintro e w15 ⟨rfl, hb15⟩
              have F15 := Lib.hid (F14.out.below hb15)
              have RD15 := Lib.hid (RD14.out.below hb15)
              have RE15 := Lib.hid (RE14.out.below hb15)
              have B15 := Lib.hid (below_then B14.out hb15)
              clear hb15 F14 RD14 RE14 B14 AR14
              go_wp2_with fail
              refine (RS A cap w15 F15.out).out.mono ?_
              rintro e w16 ⟨v16, rfl, ho16, hb16⟩
              obtain ⟨a16, c16, rfl, _, hF16⟩ := own_flds ho16
              have K16 := Lib.hid (SS ad a16 cd c16 w16 (RD15.out.below hb16).flds hF16).out
              have F16 := Lib.hid (F15.out.below hb16)
              have RE16 := Lib.hid (RE15.out.below hb16)
              have B16 := Lib.hid (below_then B15.out hb16)
              clear hb16 ho16 hF16 F15 RD15 RE15 B15
              go_wp2_with fail
              refine K16.out.mono ?_
              rintro e w17 ⟨rfl, hb17⟩
              have F17 := Lib.hid (F16.out.below hb17)
              have RE17 := Lib.hid (RE16.out.below hb17)
              have B17 := Lib.hid (below_then B16.out hb17)
              clear hb17 F16 RE16 B16 K16
              go_wp2_with fail
              refine (RT A cap w17 F17.out).out.mono ?_
              rintro e w18 ⟨v18, rfl, ho18, hb18⟩
              obtain ⟨a18, c18, rfl, _, hF18⟩ := own_flds ho18
              have K18 := Lib.hid (SX ae a18 ce c18 w18 (RE17.out.below hb18).flds hF18).out
              have B18 := Lib.hid (below_then B17.out hb18)
              clear hb18 ho18 hF18 F17 RE17 B17
              go_wp2_with fail
              refine K18.out.mono ?_
              rintro e w19 ⟨rfl, hb19⟩
              go_wp2
              go_ret
              exact ⟨rfl, below_then B18.out hb19⟩
end Go.Proofs.YtnoolehpooidjaaDoor
