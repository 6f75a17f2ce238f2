/- The texts EncB in one. -/
import Derived.Test.YtgmjkkiahanekaaGreatDoorM48
import Derived.Test.YtgmjkkiahanekaaGreatDoorM11
/- The contract of the document's Encode (layer 10). -/
set_option linter.unusedVariables false
set_option linter.unusedSimpArgs false
namespace Go.Proofs.YtgmjkkiahanekaaGreatDoor
open Go.RowKit Lex

/-- Behind some rounds: l is told, R rounds are left. -/
def Hexing (n R : Nat) (l : List UInt8) : Prop := l ++ (if l = [] then hexR R n else hexR.hxs R n) = hexR 8 n ∧ (l = [] → n / 16 ^ R = 0) ∧ l.length + R ≤ 8
theorem hexing_skip {n R : Nat} (h : Hexing n (R + 1) []) (hq : n / 16 ^ R % 16 = 0) : Hexing n R [] := by
  obtain ⟨h1, h2, h3⟩ := h
  have h4 := h2 rfl
  have h5 : n / 16 ^ R / 16 = 0 := by rw [Nat.div_div_eq_div_mul, ← Nat.pow_succ]; exact h4
  refine ⟨?_, fun _ => by omega, by simp at h3 ⊢; omega⟩
  rw [← h1, if_pos rfl, if_pos rfl, hexR, if_pos ⟨hq, h5⟩]
theorem hexing_digit {n R : Nat} {l : List UInt8} (h : Hexing n (R + 1) l) (hq : n / 16 ^ R % 16 ≠ 0 ∨ l ≠ []) : Hexing n R (l ++ [hx (n / 16 ^ R % 16)]) := by
  obtain ⟨h1, h2, h3⟩ := h
  refine ⟨?_, fun e => by simp at e, by simp at h3 ⊢; omega⟩
  rw [← h1, if_neg (by simp)]
  by_cases hl : l = []
  · subst hl
    have hq' : n / 16 ^ R % 16 ≠ 0 := hq.elim id (fun h => absurd rfl h)
    rw [if_pos rfl, hexR, if_neg (fun h => hq' h.1), hexR.hxs]
    rfl
  · rw [if_neg hl, hexR.hxs]; simp
theorem hexing_done {n : Nat} {l : List UInt8} (h : Hexing n 0 l) (hn : 0 < n) : l = hexR 8 n := by
  obtain ⟨h1, h2, h3⟩ := h
  by_cases hl : l = []
  · have := h2 hl; simp at this; omega
  · rw [if_neg hl, hexR.hxs, List.append_nil] at h1; exact h1
theorem hx_low {q : Nat} (h : q ≤ 9) : ((hx q).toNat : Int) = 48 + (q : Int) := by
  unfold hx; rw [if_pos (by omega), UInt8.toNat_ofNat']; omega
theorem hx_high {q : Nat} (h : 9 < q) (h2 : q < 16) : ((hx q).toNat : Int) = 97 + (q : Int) - 10 := by
  unfold hx; rw [if_neg (by omega), UInt8.toNat_ofNat']; omega
theorem u8_lo {q : Nat} (h : q < 16) : IntKind.u8.wrap (48 + (q : Int)) = 48 + (q : Int) := by rw [IntKind.wrap_u8]; omega
theorem u8_hi {q : Nat} (h : q < 16) : IntKind.u8.wrap (97 + (q : Int) - 10) = 97 + (q : Int) - 10 := by rw [IntKind.wrap_u8]; omega
theorem q_le {q : Nat} (h : q ≤ 9) : (q : Int) ≤ 9 := by omega
theorem q_gt {q : Nat} (h : ¬ q ≤ 9) : (9 : Int) < (q : Int) ∧ 9 < q := by omega
theorem q_ne {q : Nat} (h : ¬ q = 0) : ¬ (q : Int) = 0 := by omega
theorem pow_div16 (R : Nat) : 16 ^ (R + 1) / 16 = 16 ^ R := by rw [Nat.pow_succ]; exact Nat.mul_div_cancel _ (by decide)
theorem enc_snoc {w5 : World} {base n : Nat} {v : Value} {l : List UInt8} {c : UInt8} {X : Int} (hv : (c.toNat : Int) = X) (h : w5.ownsRow base 5 1 v n (nums8 (byteI l) ++ [.int .u8 X])) : w5.ownsRow base 5 1 v n (nums8 (byteI (l ++ [c]))) := by
  rw [← hv, byteI_snoc] at h; exact h
theorem below_app {w wr w5 : World} {o : Obj} {base : Nat} {e : TypeId} {z n : Nat} {v : Value} {xs : List Value} (hb : Below base w wr) (hs : base ≤ wr.heap.size) (ho : wr.ownsRow base e z v n xs) (hg : (wr.alloc o).grownBy w5 v.ownBlock) : Below base w w5 :=
  (hb.alloc hs o).grown hg (by simp; omega) (fun k hk => (ho.lt k hk).1)
/-- One byte behind bytes of one's own. -/
theorem wp_push {ops : Array Oper} {rest : List Oper} {o : Oper} {a : Act} {Q : Exit → Act → World → Prop} (hgd : o.guard = none) (s x : Operand) (ho : o.op = .call { callee := .builtin .append, args := #[s, x], argTypes := #[71, 71] })
    {w wr : World} {base : Nat} (hw : Below base w wr) (hz' : base ≤ w.heap.size) {v : Value} {n : Nat} {l : List UInt8} (hown : wr.ownsRow base 5 1 v n (nums8 (byteI l))) (hs : a.eval s = v) (hn : n ≤ 1000000000) (c : UInt8) {X : Int} (hX : (c.toNat : Int) = X) (hx : a.eval x = .slice (some ⟨wr.heap.size, 0, none⟩) 1 1)
    (h : ∀ g cap w5, w5.ownsRow base 5 1 (.slice (some ⟨g, 0, none⟩) (n + 1) cap) (n + 1) (nums8 (byteI (l ++ [c]))) → Below base w w5 → wpList Tryz.prog ops Q rest (a.put o.dst (.slice (some ⟨g, 0, none⟩) (n + 1) cap)) w5) :
    wpList Tryz.prog ops Q (o :: rest) a (wr.alloc (.cells #[.int .u8 X] 5)) := by
  have hz : base ≤ wr.heap.size := Nat.le_trans hz' hw.size
  obtain ⟨i0, hi, hz0, hz1, hz2⟩ := info_parts info_u8
  refine wpList_append_lies _ hgd s x 71 ho base 5 i0 (.int .u8 0) 1 1 Tryz.underlying71 hi hz0 hz1 hz2 rfl (by decide) v n _ hs (hown.alloc _) ⟨wr.heap.size, 0, none⟩ 1 1 [.int .u8 X] hx rfl (news1 wr _ _) (ones1 _) (by decide) (by unfold maxLen; omega) (by omega) (by simp; omega) _ rfl ?_
  intro g cap w5 h1 h2 h3 h4
  exact h g cap w5 (enc_snoc hX h1) (below_app hw hz hown h2)
/-- A string behind bytes of one's own. -/
theorem wp_pushs {ops : Array Oper} {rest : List Oper} {o : Oper} {a : Act} {Q : Exit → Act → World → Prop} (hgd : o.guard = none) (s x : Operand) (ho : o.op = .call { callee := .builtin .append, args := #[s, x], argTypes := #[71, 9] })
    {w wr : World} {base : Nat} (hw : Below base w wr) (hz' : base ≤ w.heap.size) {v : Value} {n : Nat} {l : List UInt8} (hown : wr.ownsRow base 5 1 v n (nums8 (byteI l))) (hs : a.eval s = v) (t : ByteArray) (hx : a.eval x = .string t) (hn : n + t.size ≤ 1000000000)
    (h : ∀ A m cap w5, w5.ownsRow base 5 1 (.slice A m cap) (n + t.size) (nums8 (byteI (l ++ t.data.toList))) → Below base w w5 → wpList Tryz.prog ops Q rest (a.put o.dst (.slice A m cap)) w5) :
    wpList Tryz.prog ops Q (o :: rest) a wr := by
  have hz : base ≤ wr.heap.size := Nat.le_trans hz' hw.size
  obtain ⟨i0, hi, hz0, hz1, hz2⟩ := info_parts info_u8
  refine wpList_append_str_lies hgd s x 71 9 ho base 5 i0 Tryz.underlying71 Tryz.underlying9 hi hz0 hz1 hz2 v n _ hs hown t hx (by omega) hz ?_
  intro v' w2 h1 h2 h3 h4
  rw [cells_str, nums_app] at h1
  obtain ⟨A, m, c, rfl⟩ := own_slice h1
  have hB := hw.grown h2 hz (fun k hk => (hown.lt k hk).1)
  exact h A m c w2 h1 hB
set_option maxRecDepth 100000 in
set_option maxHeartbeats 8000000 in
theorem encode_c (s : ByteArray) (hs : s.size ≤ 10000) (w : World) :
    Calls Tryz.prog 59 #[.string s] w fun e w' => ∃ v, e = .returned v ∧ w'.ownsRow w.heap.size 5 1 v (encL s.data.toList).length (nums8 (byteI (encL s.data.toList))) ∧ Below w.heap.size w w' := by
  obtain ⟨i0, hi, hz0, hz1, hz2⟩ := info_parts info_u8
  have hsl : s.data.toList.length = s.size := rfl
  by_cases hz : s.size = 0
  · have hnil : s.data.toList = [] := List.eq_nil_of_length_eq_zero hz
    have he : encL s.data.toList = [] := by unfold encL; rw [if_pos hnil]
    have hzi : (s.size : Int) = 0 := by omega
    rw [he]
    have ON := Lib.hid (World.ownsRow_nil w w.heap.size 5 1)
    clear hnil he hsl
    go_enter Tryz.func59, Tryz.ntmps59
    go_wp2_with fail
    go_loopw [3, 4] (fun v d wr => v = .slice none 0 0 ∧ (∃ D : Nat, d = .int .i64 D) ∧ wr = w) (fun _ d _ => (intOf d).toNat)
    case atStart => exact ⟨rfl, ⟨268435456, rfl⟩, rfl⟩
    case round =>
      obtain ⟨rfl, ⟨D, rfl⟩, rfl⟩ := hrel
      go_wp2
      all_goals go_ret
      all_goals exact ⟨_, rfl, ON.out, Below.refl _ _⟩
  · have hp : 0 < s.size := by omega
    have hpi : (0 : Int) < (s.size : Int) := by omega
    have he : encL s.data.toList = hexR 8 s.size ++ [13, 10] ++ s.data.toList ++ [13, 10] := by
      unfold encL; rw [if_neg (fun e => hz (by have := congrArg List.length e; exact this)), hsl]
    have HE := Lib.hid he
    have H0 : Hid (Hexing s.size 8 []) := Lib.hid ⟨rfl, fun _ => by omega, by simp⟩
    have ON := Lib.hid (World.ownsRow_nil w w.heap.size 5 1)
    clear he hsl
    generalize hn : s.size = n at *
    go_enter Tryz.func59, Tryz.ntmps59
    go_wp2_with fail
    go_loopw [3, 4] (fun x d wr => ∃ (R : Nat) (l : List UInt8) (a : Option Addr) (cc : Nat), x = .slice a l.length cc ∧ d = .int .i64 ((16 ^ R / 16 : Nat) : Int) ∧ R ≤ 8 ∧ Hexing n R l ∧ wr.ownsRow w.heap.size 5 1 x l.length (nums8 (byteI l)) ∧ Below w.heap.size w wr) (fun _ d _ => (intOf d).toNat)
    case atStart => exact ⟨8, [], none, 0, rfl, rfl, Nat.le_refl _, H0.out, ON.out, Below.refl _ _⟩
    case round =>
      obtain ⟨R, l, a, cc, rfl, rfl, hR, hx1, ho, hb⟩ := hrel
      have HX := Lib.hid hx1
      have HO := Lib.hid ho
      have HB := Lib.hid hb
      clear hx1 ho hb
      have hl8 : l.length ≤ 8 := by have := HX.out.2.2; omega
      by_cases hR0 : R = 0
      · subst hR0
        obtain rfl := hexing_done HX.out hp
        have h00 : ((16 ^ 0 / 16 : Nat) : Int) = 0 := rfl
        rw [h00]
        generalize hexR 8 n = l at *
        have L1 : (l ++ [13]).length = l.length + 1 := by simp
        go_wp2_with (at_builtin; first
          | (refine wp_push rfl (.tmp 44) (.tmp 45) rfl HB.out (Nat.le_refl _) HO.out rfl (by omega) 13 rfl rfl ?_; intro g1 c1 w1 ho1 hb1; have O1 := Lib.hid ho1; have B1 := Lib.hid hb1; clear ho1 hb1)
          | (refine wp_push rfl (.tmp 47) (.tmp 48) rfl B1.out (Nat.le_refl _) O1.out rfl (by omega) 10 rfl rfl ?_; intro g2 c2 w2 ho2 hb2; have O2 := Lib.hid ho2; have B2 := Lib.hid hb2; clear ho2 hb2)
          | (refine wp_pushs rfl (.tmp 50) (.tmp 51) rfl B2.out (Nat.le_refl _) O2.out rfl s rfl (by omega) ?_; intro A3 m3 c3 w3 ho3 hb3; rw [hn] at ho3; have O3 := Lib.hid ho3; have B3 := Lib.hid hb3; clear ho3 hb3)
          | (refine wp_push rfl (.tmp 53) (.tmp 54) rfl B3.out (Nat.le_refl _) O3.out rfl (by omega) 13 rfl rfl ?_; intro g4 c4 w4 ho4 hb4; have O4 := Lib.hid ho4; have B4 := Lib.hid hb4; clear ho4 hb4)
          | (refine wp_push rfl (.tmp 56) (.tmp 57) rfl B4.out (Nat.le_refl _) O4.out rfl (by omega) 10 rfl rfl ?_; intro g5 c5 w5 ho5 hb5; have O5 := Lib.hid ho5; have B5 := Lib.hid hb5; clear ho5 hb5))
        go_ret
        refine ⟨_, rfl, ?_, B5.out⟩
        have hlen : (encL s.data.toList).length = l.length + 1 + 1 + n + 1 + 1 := by
          have hsz : s.data.toList.length = n := hn
          rw [HE.out]; simp only [List.length_append, hsz, List.length_cons, List.length_nil]
        rw [hlen, HE.out]
        have := O5.out
        simpa using this
      · obtain ⟨r, rfl⟩ : ∃ r, R = r + 1 := ⟨R - 1, by omega⟩
        rw [pow_div16]
        obtain ⟨q, hq⟩ : ∃ q, n / 16 ^ r % 16 = q := ⟨_, rfl⟩
        have hq16 : q < 16 := by omega
        have HSK : Hid (l = [] → q = 0 → Hexing n r []) := Lib.hid (fun e e2 => by subst e; exact hexing_skip HX.out (hq.trans e2))
        have HDG : Hid (q ≠ 0 ∨ l ≠ [] → Hexing n r (l ++ [hx q])) := Lib.hid (fun e => by have := hexing_digit HX.out (by rw [hq]; exact e); rwa [hq] at this)
        have hDp : 0 < 16 ^ r := Nat.pow_pos (by decide)
        have hDm : 16 ^ r ≤ 16 ^ 7 := Nat.pow_le_pow_right (by decide) (by omega)
        have HREL : Hid (16 ^ r / 16 < 16 ^ r ∧ 16 ^ r = 16 ^ r) := Lib.hid ⟨by omega, rfl⟩
        generalize hD : 16 ^ r = D at *
        have hD2 : 16 ^ r / 16 = D / 16 := by rw [hD]
        have HD2 := Lib.hid hD2
        have hDm2 : D ≤ 268435456 := hDm
        have d1 : ((D : Nat) : Int) = (D : Int) := rfl
        have d0 : ((D : Int) == 0) = false := by simp; omega
        have d2 : 1 ≤ (D : Int) := by omega
        have d5 : (n : Int) / (D : Int) % 16 = (q : Int) := by omega
        have d6 : ((n : Int) / (D : Int)).tmod 16 = (q : Int) := (Int.tmod_eq_emod_of_nonneg (by exact Int.ediv_nonneg (by omega) (by omega))).trans d5
        have d7 : 0 ≤ (n : Int) / (D : Int) ∧ (n : Int) / (D : Int) ≤ (n : Int) := IntWalk.tdiv_le _ _ (by omega) d2
        have d3 : wrap64 ((n : Int) / (D : Int)) = (n : Int) / (D : Int) := by unfold wrap64; omega
        have d8 : (wrap64 ((n : Int) / (D : Int))).tmod 16 = (q : Int) := by rw [d3]; exact d6
        clear d3 d5 d6 d7
        have HM : Hid (((D : Int) / 16).toNat < (D : Int).toNat) := Lib.hid (by omega)
        have HEQ : Hid (Value.int .i64 ((D : Int) / 16) = Value.int .i64 ((16 ^ r / 16 : Nat) : Int)) := Lib.hid (by rw [HD2.out, Int.natCast_ediv]; simp)
        clear hq hD hD2 hDm HD2 d1
        by_cases hskip : l = [] ∧ q = 0
        · obtain ⟨rfl, rfl⟩ := hskip
          have HNX := Lib.hid (HSK.out rfl rfl)
          clear HSK HDG
          go_wp2
          go_roundw
          case rel => exact ⟨r, [], a, cc, rfl, HEQ.out, by omega, HNX.out, HO.out, HB.out⟩
          case measure => exact HM.out
        · have hne : q ≠ 0 ∨ l ≠ [] := by
            by_cases h0 : q = 0
            · exact .inr (fun e => hskip ⟨e, h0⟩)
            · exact .inl h0
          have HNX := Lib.hid (HDG.out hne)
          have hll : q = 0 → ¬ (l.length : Int) = 0 := fun h0 e => hskip ⟨List.eq_nil_of_length_eq_zero (by omega), h0⟩
          clear HDG HSK hskip hne
          by_cases h9 : q ≤ 9
          · have HV := Lib.hid (hx_low h9)
            have h9i := q_le h9
            have w1 := u8_lo hq16
            by_cases h0 : q = 0
            · have hl0 := hll h0
              subst h0
              have HV0 : Hid (((hx 0).toNat : Int) = 48) := Lib.hid (by decide)
              have d9 : (wrap64 ((n : Int) / (D : Int))).tmod 16 = 0 := d8
              clear hll d8 HV h9 h9i w1 hq16
              go_wp2_with (at_builtin; refine wp_push rfl (.tmp 37) (.tmp 39) rfl HB.out (Nat.le_refl _) HO.out rfl (by omega) (hx 0) HV0.out rfl ?_; intro g cap w5 ho5 hb5; have HO5 := Lib.hid ho5; have HB5 := Lib.hid hb5; clear ho5 hb5)
              go_roundw
              case rel => exact ⟨r, l ++ [hx 0], some ⟨g, 0, none⟩, cap, by rw [show (l ++ [hx 0]).length = l.length + 1 by simp], HEQ.out, by omega, HNX.out, by rw [show (l ++ [hx 0]).length = l.length + 1 by simp]; exact HO5.out, HB5.out⟩
              case measure => exact HM.out
            · have q0 : ¬ (q : Int) = 0 := q_ne h0
              clear hll
              go_wp2_with (at_builtin; refine wp_push rfl (.tmp 37) (.tmp 39) rfl HB.out (Nat.le_refl _) HO.out rfl (by omega) (hx q) HV.out rfl ?_; intro g cap w5 ho5 hb5; have HO5 := Lib.hid ho5; have HB5 := Lib.hid hb5; clear ho5 hb5)
              go_roundw
              case rel => exact ⟨r, l ++ [hx q], some ⟨g, 0, none⟩, cap, by rw [show (l ++ [hx q]).length = l.length + 1 by simp], HEQ.out, by omega, HNX.out, by rw [show (l ++ [hx q]).length = l.length + 1 by simp]; exact HO5.out, HB5.out⟩
              case measure => exact HM.out
          · have HV := Lib.hid (hx_high (q_gt h9).2 hq16)
            have h9i := (q_gt h9).1
            have q0 : ¬ (q : Int) = 0 := q_ne (fun e => h9 (by rw [e]; decide))
            have w1 := u8_lo hq16
            have w2 := u8_hi hq16
            clear hll
            go_wp2_with (at_builtin; refine wp_push rfl (.tmp 37) (.tmp 39) rfl HB.out (Nat.le_refl _) HO.out rfl (by omega) (hx q) HV.out rfl ?_; intro g cap w5 ho5 hb5; have HO5 := Lib.hid ho5; have HB5 := Lib.hid hb5; clear ho5 hb5)
            go_roundw
            case rel => exact ⟨r, l ++ [hx q], some ⟨g, 0, none⟩, cap, by rw [show (l ++ [hx q]).length = l.length + 1 by simp], HEQ.out, by omega, HNX.out, by rw [show (l ++ [hx q]).length = l.length + 1 by simp]; exact HO5.out, HB5.out⟩
            case measure => exact HM.out
end Go.Proofs.YtgmjkkiahanekaaGreatDoor

