/- The contracts of lex.Value, Lower, Alike and of the document's Blank, Value, Trim, Lower: each answers what the plain words say, for every text. -/
import Derived.Test.YthaphfedogmliaaLexD
import Derived.Lib.ConvBytes
import Derived.Laws.BytesArg
import Derived.Laws.OwnMore
set_option linter.unusedVariables false
set_option linter.unusedSimpArgs false
namespace Go.Proofs.Ythaphfedogmliaa
open Go.RowKit Lex

theorem okv_true {c : UInt8} (h : okv c = true) : (c.toNat : Int) = 9 ∨ (¬ (c.toNat : Int) = 9 ∧ ¬ (c.toNat : Int) < 32 ∧ ¬ (c.toNat : Int) = 127) := by
  simp [okv] at h; omega
theorem okv_false {c : UInt8} (h : okv c = false) : ¬ (c.toNat : Int) = 9 ∧ ((c.toNat : Int) < 32 ∨ (¬ (c.toNat : Int) < 32 ∧ (c.toNat : Int) = 127)) := by
  simp [okv] at h; omega

theorem beq_nat {c : UInt8} {n : Int} : ((c.toNat : Int) == n) = decide ((c.toNat : Int) = n) := rfl

theorem rblank_c (c : UInt8) (w : World) : Calls Try.prog 51 #[.int .u8 c.toNat] w fun e w' => e = .returned (.bool (blankB c)) ∧ w = w' := by
  go_enter Try.func51, Try.ntmps51
  go_wp2
  all_goals go_ret
  all_goals exact ⟨ret_bool (by unfold blankB; rw [Bool.eq_iff_iff]; simp_all), rfl⟩

theorem get_at (s : ByteArray) (k : Nat) (h : k < s.size) : s.data.toList[k]? = some s[k] := by
  rw [List.getElem?_eq_getElem (by rw [size_list]; exact h)]; rfl

theorem ret_str {a b : ByteArray} (h : a = b) : Ending.returned (.string a) = .returned (.string b) := by rw [h]
theorem drop_blank (s : ByteArray) (t : Nat) (h0 : 0 < t) (ht : t ≤ s.size) (hb : (s.data.toList.drop t).all blankB = true) (h : blankB (s[t - 1]'(by omega)) = true) : (s.data.toList.drop (t - 1)).all blankB = true := by
  rw [List.drop_eq_getElem_cons (i := t - 1) (by rw [size_list]; omega), show t - 1 + 1 = t from by omega, List.all_cons, hb, Bool.and_true]
  exact h

theorem rvalue_c (s : ByteArray) (w : World) (hs : s.size ≤ 9223372036854775807) : Calls Try.prog 40 #[.string s] w fun e w' => e = .returned (.bool (value s.data.toList)) ∧ w = w' := by
  go_enter Try.func40, Try.ntmps40
  go_wp2
  go_loop [3] (fun i => ∃ k : Nat, k ≤ s.size ∧ i = .int .i64 k ∧ (s.data.toList.take k).all okv = true) (fun i => s.size - (intOf i).toNat)
  case atStart => exact ⟨0, Nat.zero_le _, rfl, by simp⟩
  case round =>
    obtain ⟨k, hk, rfl, ha⟩ := hrel
    have HA := Lib.hid ha
    clear ha
    by_cases hlt : k < s.size
    · cases hm : okv s[k] with
      | true =>
        have HM := Lib.hid hm
        have hc := okv_true hm
        clear hm
        rcases hc with h | ⟨h1, h2, h3⟩
        · have g : (((s[k].toNat : Int)) == 127) = false := by simp; omega
          have g' : (((s[k].toNat : Int)) != 9) = false := by simpa using h
          have g2 : (s[k].toNat : Int) < 32 := by omega
          have HH := Lib.hid h
          clear h
          go_wp2
          go_round
          case rel => exact ⟨k + 1, by omega, by go_num, all_take_snoc _ s k hlt HA.out HM.out⟩
          case measure => simp [intOf]; omega
        · have g2 : (((s[k].toNat : Int)) == 127) = false := by simpa using h3
          go_wp2
          go_round
          case rel => exact ⟨k + 1, by omega, by go_num, all_take_snoc _ s k hlt HA.out HM.out⟩
          case measure => simp [intOf]; omega
      | false =>
        have HM := Lib.hid (all_of_take okv s k hlt hm)
        obtain ⟨h1, hc⟩ := okv_false hm
        clear hm
        have g' : (((s[k].toNat : Int)) != 9) = true := by simpa using h1
        rcases hc with h | ⟨h2, h⟩
        · have g2 : (((s[k].toNat : Int)) == 127) = false := by simp; omega
          go_wp2
          go_ret
          exact ⟨ret_bool (by unfold value; rw [HM.out]; rfl), rfl⟩
        · have g2 : (((s[k].toNat : Int)) == 127) = true := by simpa using h
          have HH := Lib.hid h
          clear h
          go_wp2
          go_ret
          exact ⟨ret_bool (by unfold value; rw [HM.out]; rfl), rfl⟩
    · have hval : value s.data.toList = (trim s.data.toList == s.data.toList) := by
        have h := HA.out; rw [take_all s k hlt] at h; unfold value; rw [h, Bool.true_and]
      have HV := Lib.hid hval
      clear hval
      by_cases h0 : s.size = 0
      · have hv2 : (trim s.data.toList == s.data.toList) = true := by
          have : s.data.toList = [] := List.eq_nil_of_length_eq_zero (by rw [size_list]; exact h0)
          rw [this]; rfl
        have HV2 := Lib.hid hv2
        clear hv2
        go_wp2
        go_ret
        exact ⟨ret_bool (by rw [HV.out, HV2.out]), rfl⟩
      · have hp : 0 < s.size := by omega
        have g0 : (((s.size : Int)) == 0) = false := by rw [beq_eq_false_iff_ne]; omega
        have hv2 : (trim s.data.toList == s.data.toList) = (!blankB s[0] && !blankB s[s.size - 1]) := by
          rw [Bool.eq_iff_iff, beq_iff_eq, trim_self, List.head?_eq_getElem?, List.getLast?_eq_getElem?, size_list, get_at s 0 hp, get_at s (s.size - 1) (by omega)]
          simp
        have HV2 := Lib.hid hv2
        clear hv2 h0
        cases hb : blankB s[0] with
        | true =>
          go_wp2_with (go_at_call 51; refine (rblank_c _ _).mono ?_; rintro e w' ⟨rfl, rfl⟩)
          go_ret
          exact ⟨ret_bool (by rw [HV.out, HV2.out, hb]; rfl), rfl⟩
        | false =>
          go_wp2_with fail
          refine (rblank_c _ _).mono ?_
          rintro e w' ⟨rfl, rfl⟩
          go_wp2_with fail
          refine (rblank_c _ _).mono ?_
          rintro e w' ⟨rfl, rfl⟩
          go_wp2
          go_ret
          exact ⟨ret_bool (by rw [HV.out, HV2.out, hb]; rfl), rfl⟩

/-! ### Lower -/
theorem or32_upper (c : UInt8) (h : 65 ≤ (c.toNat : Int)) (h' : (c.toNat : Int) ≤ 90) : bits .or .u8 (c.toNat : Int) 32 = low c.toNat := by
  have key : ∀ n : Nat, n < 256 → 65 ≤ n → n ≤ 90 → n ||| 32 = n + 32 := by decide +kernel
  rw [or32 c, key c.toNat c.toNat_lt (by omega) (by omega)]
  unfold low
  rw [if_pos ⟨h, h'⟩]
  omega

/-- The new row of Lower behind k rounds: block B, the first k bytes made small. -/
structure LowAt (w0 wr : World) (s : ByteArray) (k : Nat) : Prop where
  below : Below w0.heap.size w0 wr
  size : w0.heap.size < wr.heap.size
  done : ∀ j, (h : j < s.size) → j < k → wr.cell? ⟨w0.heap.size, j, none⟩ = some (.int .u8 (low s[j].toNat))
  rest : ∀ j, (h : j < s.size) → k ≤ j → wr.cell? ⟨w0.heap.size, j, none⟩ = some (.int .u8 s[j].toNat)
  free : ∀ j, j < s.size → wr.frozen? ⟨w0.heap.size, j, none⟩ = false

theorem lowAt_start (w : World) (e : TypeId) (s : ByteArray) : LowAt w (Lib.bytesWorld w e s) s 0 := by
  refine ⟨⟨rfl, rfl, rfl, by rw [Lib.bytesWorld_size]; omega, fun k hk => Lib.bytesWorld_at_old w e s k hk⟩, by rw [Lib.bytesWorld_size]; omega, fun j _ h => absurd h (by omega), fun j h _ => ?_, fun j h => ?_⟩
  · rw [Lib.bytesWorld_cell w e s j h]
    rw [List.getD_eq_getElem?_getD, get_at s j h]; rfl
  · simp only [World.frozen?, Lib.bytesWorld_at_new]
    have : s.size ≤ (Lib.bytesCells w e s).size := by
      have e : s.data.size = s.size := rfl
      simp only [Lib.bytesCells, Array.size_append, Array.size_map, Array.size_replicate]
      omega
    simp
    omega

theorem LowAt.keep {w0 wr : World} {s : ByteArray} {k : Nat} (h : LowAt w0 wr s k) (hk : k < s.size) (hl : ¬ (65 ≤ (s[k].toNat : Int) ∧ (s[k].toNat : Int) ≤ 90)) : LowAt w0 wr s (k + 1) :=
  ⟨h.below, h.size, fun j hj hjk => by
    by_cases e : j = k
    · subst e; rw [h.rest j hj (Nat.le_refl _)]; unfold low; rw [if_neg hl]
    · exact h.done j hj (by omega), fun j hj hjk => h.rest j hj (by omega), h.free⟩

theorem LowAt.set {w0 wr : World} {s : ByteArray} {k : Nat} (h : LowAt w0 wr s k) (hk : k < s.size) : LowAt w0 (wr.setCell ⟨w0.heap.size, k, none⟩ (.int .u8 (low s[k].toNat))) s (k + 1) :=
  ⟨h.below.setCell (Nat.le_refl _) _, by simpa using h.size, fun j hj hjk => by
    by_cases e : j = k
    · subst e; rw [World.cell?_setCell_same _ _ _ (h.rest j hj (Nat.le_refl _))]
    · rw [World.cell?_setCell_other _ _ _ _ (by simp only [ne_eq, Addr.mk.injEq, not_and]; omega)]; exact h.done j hj (by omega), fun j hj hjk => by
      rw [World.cell?_setCell_other _ _ _ _ (by simp only [ne_eq, Addr.mk.injEq, not_and]; omega)]; exact h.rest j hj (by omega), fun j hj => by simpa using h.free j hj⟩

def lowNums (s : ByteArray) : List Int := s.data.toList.map fun c => low c.toNat
theorem strOf_low (s : ByteArray) : strOfNums (lowNums s) = bs (lower s.data.toList) := by
  simp [strOfNums, lowNums, bs, lower, lowB, Function.comp_def]
theorem lowNums_length (s : ByteArray) : (lowNums s).length = s.size := by unfold lowNums; rw [List.length_map, size_list]
theorem lowNums_at (s : ByteArray) (j : Nat) (h : j < s.size) : (lowNums s).getD j 0 = low s[j].toNat := by
  rw [List.getD_eq_getElem?_getD]
  unfold lowNums
  rw [List.getElem?_map, get_at s j h]; rfl

theorem lower_c (s : ByteArray) (w : World) (hs : s.size ≤ 9223372036854775807) : Calls Try.prog 56 #[.string s] w fun e w' => e = .returned (.string (bs (lower s.data.toList))) ∧ Below w.heap.size w w' := by
  have hcv := fun (w : World) => Lib.run_convert_string_bytes w 9 59 5 s Try.underlying9 Try.underlying59 Try.underlying5
  have hst := lowAt_start w 5 s
  have HS := Lib.hid hst
  clear hst
  go_enter Try.func56, Try.ntmps56
  go_wp2
  have HC := Lib.hid hcv
  clear hcv
  go_loopw [10] (fun i wr => ∃ k : Nat, k ≤ s.size ∧ i = .int .i64 k ∧ LowAt w wr s k) (fun i _ => s.size - (intOf i).toNat)
  case atStart => exact ⟨0, Nat.zero_le _, rfl, HS.out⟩
  case round =>
    obtain ⟨k, hk, rfl, hA⟩ := hrel
    have HA := Lib.hid hA
    by_cases hlt : k < s.size
    · have c0 := hA.rest k hlt (Nat.le_refl _)
      have f0 := hA.free k hlt
      clear hA
      by_cases hl : 65 ≤ (s[k].toNat : Int) ∧ (s[k].toNat : Int) ≤ 90
      · have hb := or32_upper s[k] hl.1 hl.2
        have HL := Lib.hid (HA.out.set hlt)
        obtain ⟨l1, l2⟩ := hl
        go_wp2
        go_roundw
        case rel => exact ⟨k + 1, by omega, by go_num, HL.out⟩
        case measure => simp [intOf]; omega
      · have HL := Lib.hid (HA.out.keep hlt hl)
        have hl2 : (s[k].toNat : Int) < 65 ∨ (65 ≤ (s[k].toNat : Int) ∧ 90 < (s[k].toNat : Int)) := by omega
        clear hl
        rcases hl2 with h1 | ⟨h1, h2⟩
        · go_wp2
          go_roundw
          case rel => exact ⟨k + 1, by omega, by go_num, HL.out⟩
          case measure => simp [intOf]; omega
        · go_wp2
          go_roundw
          case rel => exact ⟨k + 1, by omega, by go_num, HL.out⟩
          case measure => simp [intOf]; omega
    · have hcv2 := run_convert_bytes_arg (P := Try.prog) wr 59 5 Try.underlying59 Try.underlying5 w.heap.size 0 s.size (grownCap w s.size 0 5) (lowNums s) (lowNums_length s) (fun i hi => by
        rw [Nat.zero_add, HA.out.done i hi (by omega), lowNums_at s i hi]) 9 Try.underlying9
      rw [strOf_low] at hcv2
      clear hA
      go_wp2
      go_ret
      exact ⟨rfl, HA.out.below⟩

theorem alike_c (a b : ByteArray) (w : World) (ha : a.size ≤ 9223372036854775807) (hb : b.size ≤ 9223372036854775807) :
    Calls Try.prog 55 #[.string a, .string b] w fun e w' => e = .returned (.bool (alike a.data.toList b.data.toList)) ∧ Below w.heap.size w w' := by
  have L1 := fun w => Lib.hid (lower_c a w ha)
  have L2 := fun w => Lib.hid (lower_c b w hb)
  by_cases hl : a.size = b.size
  · have g : (((a.size : Int)) == b.size) = true := by rw [beq_iff_eq]; omega
    have HL := Lib.hid hl
    clear hl
    go_enter Try.func55, Try.ntmps55
    go_wp2_with fail
    refine (L1 _).out.mono ?_
    rintro e w1 ⟨rfl, hb1⟩
    go_wp2_with fail
    refine (L2 _).out.mono ?_
    rintro e w2 ⟨rfl, hb2⟩
    go_wp2
    go_ret
    exact ⟨ret_bool (by unfold alike; simp [Lib.toList_data, bs]), hb1.trans (hb2.mono hb1.size)⟩
  · have g : (((a.size : Int)) == b.size) = false := by rw [beq_eq_false_iff_ne]; omega
    have HL := Lib.hid hl
    clear hl
    go_enter Try.func55, Try.ntmps55
    go_wp2
    go_ret
    exact ⟨ret_bool (alike_length (by rw [size_list, size_list]; exact HL.out)).symm, Below.refl _ _⟩

end Go.Proofs.Ythaphfedogmliaa
