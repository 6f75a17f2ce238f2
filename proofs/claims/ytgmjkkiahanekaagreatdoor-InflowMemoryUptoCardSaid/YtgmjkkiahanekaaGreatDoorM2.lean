/- The texts LexF, LexG, PathB in one. -/
import Derived.Test.YtgmjkkiahanekaaGreatDoorM1
import Derived.Lib.ConvBytes
import Derived.Laws.BytesArg
import Derived.Laws.OwnMore
import Derived.OwnWalk
import Derived.Laws.AppendOwn
import Derived.Test.YtgmjkkiahanekaaGreatDoorM0
import Derived.StillTailTactics
/- The contracts of lex.Value, Lower, Alike and of the document's Blank, Value, Trim, Lower: each answers what the plain words say, for every text. -/
set_option linter.unusedVariables false
set_option linter.unusedSimpArgs false
namespace Go.Proofs.YtgmjkkiahanekaaGreatDoor
open Go.RowKit Lex

theorem okv_true {c : UInt8} (h : okv c = true) : (c.toNat : Int) = 9 ∨ (¬ (c.toNat : Int) = 9 ∧ ¬ (c.toNat : Int) < 32 ∧ ¬ (c.toNat : Int) = 127) := by
  simp [okv] at h; omega
theorem okv_false {c : UInt8} (h : okv c = false) : ¬ (c.toNat : Int) = 9 ∧ ((c.toNat : Int) < 32 ∨ (¬ (c.toNat : Int) < 32 ∧ (c.toNat : Int) = 127)) := by
  simp [okv] at h; omega

theorem beq_nat {c : UInt8} {n : Int} : ((c.toNat : Int) == n) = decide ((c.toNat : Int) = n) := rfl

theorem value_c (s : ByteArray) (w : World) (hs : s.size ≤ 9223372036854775807) : Calls Tryz.prog 153 #[.string s] w fun e w' => e = .returned (.bool (value s.data.toList)) ∧ Below w.heap.size w w' := by
  have T := fun w => Lib.hid (trim_c s w hs)
  go_enter Tryz.func153, Tryz.ntmps153
  go_wp2
  go_loop [7] (fun i => ∃ k : Nat, k ≤ s.size ∧ i = .int .i64 k ∧ (s.data.toList.take k).all okv = true) (fun i => s.size - (intOf i).toNat)
  case atStart => exact ⟨0, Nat.zero_le _, rfl, by simp⟩
  case round =>
    obtain ⟨k, hk, rfl, ha⟩ := hrel
    have HA := Lib.hid ha
    clear ha
    by_cases hlt : k < s.size
    · cases hm : okv s[k] with
      | true =>
        have HM := Lib.hid hm
        have hc := okv_true hm
        clear hm
        rcases hc with h | ⟨h1, h2, h3⟩
        · have g : (((s[k].toNat : Int)) == 9) = true := by simpa using h
          have g' : (((s[k].toNat : Int)) != 9) = false := by simpa using h
          have HH := Lib.hid h
          clear h
          go_wp2
          go_round
          case rel => exact ⟨k + 1, by omega, by go_num, all_take_snoc _ s k hlt HA.out HM.out⟩
          case measure => simp [intOf]; omega
        · have g : (((s[k].toNat : Int)) == 9) = false := by simpa using h1
          have g' : (((s[k].toNat : Int)) != 9) = true := by simpa using h1
          have g2 : (((s[k].toNat : Int)) == 127) = false := by simpa using h3
          go_wp2
          go_round
          case rel => exact ⟨k + 1, by omega, by go_num, all_take_snoc _ s k hlt HA.out HM.out⟩
          case measure => simp [intOf]; omega
      | false =>
        have HM := Lib.hid (all_of_take okv s k hlt hm)
        obtain ⟨h1, hc⟩ := okv_false hm
        clear hm
        have g : (((s[k].toNat : Int)) == 9) = false := by simpa using h1
        have g' : (((s[k].toNat : Int)) != 9) = true := by simpa using h1
        rcases hc with h | ⟨h2, h⟩
        · go_wp2
          go_ret
          exact ⟨ret_bool (by unfold value; rw [HM.out]; rfl), Below.refl _ _⟩
        · have g2 : (((s[k].toNat : Int)) == 127) = true := by simpa using h
          have HH := Lib.hid h
          clear h
          go_wp2
          go_ret
          exact ⟨ret_bool (by unfold value; rw [HM.out]; rfl), Below.refl _ _⟩
    · go_wp2_with (go_at_call 131; refine (T _).out.mono ?_; rintro e w1 ⟨rfl, hb⟩)
      go_ret
      exact ⟨ret_bool (by
        have h := HA.out; rw [take_all s k hlt] at h; unfold value; rw [h, Bool.true_and]
        simp [Lib.toList_data, bs]), hb⟩

theorem rblank_c (c : UInt8) (w : World) : Calls Tryz.prog 60 #[.int .u8 c.toNat] w fun e w' => e = .returned (.bool (blankB c)) ∧ w = w' := by
  go_enter Tryz.func60, Tryz.ntmps60
  go_wp2
  all_goals go_ret
  all_goals exact ⟨ret_bool (by unfold blankB; rw [Bool.eq_iff_iff]; simp_all), rfl⟩

theorem get_at (s : ByteArray) (k : Nat) (h : k < s.size) : s.data.toList[k]? = some s[k] := by
  rw [List.getElem?_eq_getElem (by rw [size_list]; exact h)]; rfl

theorem ret_str {a b : ByteArray} (h : a = b) : Ending.returned (.string a) = .returned (.string b) := by rw [h]
theorem drop_blank (s : ByteArray) (t : Nat) (h0 : 0 < t) (ht : t ≤ s.size) (hb : (s.data.toList.drop t).all blankB = true) (h : blankB (s[t - 1]'(by omega)) = true) : (s.data.toList.drop (t - 1)).all blankB = true := by
  rw [List.drop_eq_getElem_cons (i := t - 1) (by rw [size_list]; omega), show t - 1 + 1 = t from by omega, List.all_cons, hb, Bool.and_true]
  exact h

theorem rtrim_c (s : ByteArray) (w : World) (hs : s.size ≤ 9223372036854775807) : Calls Tryz.prog 77 #[.string s] w fun e w' => e = .returned (.string (bs (trim s.data.toList))) ∧ w = w' := by
  go_enter Tryz.func77, Tryz.ntmps77
  go_wp2
  go_loop [3] (fun i => ∃ k : Nat, k ≤ s.size ∧ i = .int .i64 k ∧ (s.data.toList.take k).all blankB = true) (fun i => s.size - (intOf i).toNat)
  case atStart => exact ⟨0, Nat.zero_le _, rfl, by simp⟩
  case round =>
    obtain ⟨k, hk, rfl, ha⟩ := hrel
    have HA := Lib.hid ha
    clear ha
    by_cases hgo : ∃ h : k < s.size, blankB s[k] = true
    · obtain ⟨hlt, hm⟩ := hgo
      go_wp2_with (go_at_call 60; refine (rblank_c _ _).mono ?_; rintro e w' ⟨rfl, rfl⟩)
      go_round
      case rel => exact ⟨k + 1, by omega, by go_num, all_take_snoc _ s k hlt HA.out hm⟩
      case measure => simp [intOf]; omega
    · have hstop : (∃ h : k < s.size, blankB s[k] = false) ∨ ¬ k < s.size := by
        rcases Nat.lt_or_ge k s.size with h | h
        · left; refine ⟨h, ?_⟩
          rw [← Bool.not_eq_true]; exact fun hb => hgo ⟨h, hb⟩
        · right; omega
      have hE : ∀ h : k < s.size, blankB s[k] = false := fun h => by
        rw [← Bool.not_eq_true]; exact fun hb => hgo ⟨h, hb⟩
      have HE := Lib.hid hE
      clear hgo hE
      rcases hstop with ⟨hlt, hm⟩ | hlt
      · go_wp2_with (go_at_call 60; refine (rblank_c _ _).mono ?_; rintro e w' ⟨rfl, rfl⟩)
        go_loop [4] (fun i => ∃ t : Nat, k ≤ t ∧ t ≤ s.size ∧ i = .int .i64 t ∧ (s.data.toList.drop t).all blankB = true) (fun i => (intOf i).toNat)
        case atStart => exact ⟨s.size, by omega, by omega, rfl, by rw [List.drop_of_length_le (by rw [size_list]; omega)]; rfl⟩
        case round =>
          obtain ⟨t, hkt, hts, rfl, hd⟩ := hrel
          have HD := Lib.hid hd
          clear hd
          by_cases hgt : k < t
          · obtain ⟨u, rfl⟩ : ∃ u, t = u + 1 := ⟨t - 1, by omega⟩
            have hx : u < s.size := by omega
            rw [show ((u + 1 : Nat) : Int) = (u : Int) + 1 from rfl]
            cases hb : blankB s[u] with
            | true =>
              go_wp2_with (go_at_call 60; refine (rblank_c _ _).mono ?_; rintro e w' ⟨rfl, rfl⟩)
              go_round
              case rel => exact ⟨u, by omega, by omega, by go_num, drop_blank s (u + 1) (by omega) hts HD.out hb⟩
              case measure => simp [intOf]
            | false =>
              have hst : trim s.data.toList = (s.data.toList.drop k).take (u + 1 - k) :=
                trim_at s.data.toList k (u + 1) (by omega) (by rw [size_list]; exact hts) HA.out HD.out
                  (fun h x hx => by rw [get_at s k (by omega)] at hx; injection hx with hx; rw [← hx]; exact HE.out _)
                  (fun h x hx => by rw [Nat.add_sub_cancel, get_at s u (by omega)] at hx; injection hx with hx; rw [← hx]; exact hb)
              have HS := Lib.hid hst
              clear hst
              go_wp2_with (go_at_call 60; refine (rblank_c _ _).mono ?_; rintro e w' ⟨rfl, rfl⟩)
              all_goals go_ret
              all_goals exact ⟨ret_str (by rw [HS.out, ← list_bs (s.extract k (u + 1)), Lib.extract_data]), rfl⟩
          · have hst : trim s.data.toList = (s.data.toList.drop k).take (t - k) :=
              trim_at s.data.toList k t (by omega) (by rw [size_list]; exact hts) HA.out HD.out (fun h => absurd h (by omega)) (fun h => absurd h (by omega))
            have HS := Lib.hid hst
            clear hst
            go_wp2
            all_goals go_ret
            all_goals exact ⟨ret_str (by rw [HS.out, ← list_bs (s.extract k t), Lib.extract_data]), rfl⟩
      · go_wp2_with (go_at_call 60; refine (rblank_c _ _).mono ?_; rintro e w' ⟨rfl, rfl⟩)
        go_loop [4] (fun i => ∃ t : Nat, k ≤ t ∧ t ≤ s.size ∧ i = .int .i64 t ∧ (s.data.toList.drop t).all blankB = true) (fun i => (intOf i).toNat)
        case atStart => exact ⟨s.size, by omega, by omega, rfl, by rw [List.drop_of_length_le (by rw [size_list]; omega)]; rfl⟩
        case round =>
          obtain ⟨t, hkt, hts, rfl, hd⟩ := hrel
          have HD := Lib.hid hd
          clear hd
          have hgt : ¬ k < t := by omega
          have hst : trim s.data.toList = (s.data.toList.drop k).take (t - k) :=
            trim_at s.data.toList k t (by omega) (by rw [size_list]; exact hts) HA.out HD.out (fun h => absurd h (by omega)) (fun h => absurd h (by omega))
          have HS := Lib.hid hst
          clear hst
          go_wp2
          all_goals go_ret
          all_goals exact ⟨ret_str (by rw [HS.out, ← list_bs (s.extract k t), Lib.extract_data]), rfl⟩

theorem rvalue_c (s : ByteArray) (w : World) (hs : s.size ≤ 9223372036854775807) : Calls Tryz.prog 29 #[.string s] w fun e w' => e = .returned (.bool (value s.data.toList)) ∧ w = w' := by
  go_enter Tryz.func29, Tryz.ntmps29
  go_wp2
  go_loop [3] (fun i => ∃ k : Nat, k ≤ s.size ∧ i = .int .i64 k ∧ (s.data.toList.take k).all okv = true) (fun i => s.size - (intOf i).toNat)
  case atStart => exact ⟨0, Nat.zero_le _, rfl, by simp⟩
  case round =>
    obtain ⟨k, hk, rfl, ha⟩ := hrel
    have HA := Lib.hid ha
    clear ha
    by_cases hlt : k < s.size
    · cases hm : okv s[k] with
      | true =>
        have HM := Lib.hid hm
        have hc := okv_true hm
        clear hm
        rcases hc with h | ⟨h1, h2, h3⟩
        · have g : (((s[k].toNat : Int)) == 127) = false := by simp; omega
          have g' : (((s[k].toNat : Int)) != 9) = false := by simpa using h
          have g2 : (s[k].toNat : Int) < 32 := by omega
          have HH := Lib.hid h
          clear h
          go_wp2
          go_round
          case rel => exact ⟨k + 1, by omega, by go_num, all_take_snoc _ s k hlt HA.out HM.out⟩
          case measure => simp [intOf]; omega
        · have g2 : (((s[k].toNat : Int)) == 127) = false := by simpa using h3
          go_wp2
          go_round
          case rel => exact ⟨k + 1, by omega, by go_num, all_take_snoc _ s k hlt HA.out HM.out⟩
          case measure => simp [intOf]; omega
      | false =>
        have HM := Lib.hid (all_of_take okv s k hlt hm)
        obtain ⟨h1, hc⟩ := okv_false hm
        clear hm
        have g' : (((s[k].toNat : Int)) != 9) = true := by simpa using h1
        rcases hc with h | ⟨h2, h⟩
        · have g2 : (((s[k].toNat : Int)) == 127) = false := by simp; omega
          go_wp2
          go_ret
          exact ⟨ret_bool (by unfold value; rw [HM.out]; rfl), rfl⟩
        · have g2 : (((s[k].toNat : Int)) == 127) = true := by simpa using h
          have HH := Lib.hid h
          clear h
          go_wp2
          go_ret
          exact ⟨ret_bool (by unfold value; rw [HM.out]; rfl), rfl⟩
    · have hval : value s.data.toList = (trim s.data.toList == s.data.toList) := by
        have h := HA.out; rw [take_all s k hlt] at h; unfold value; rw [h, Bool.true_and]
      have HV := Lib.hid hval
      clear hval
      by_cases h0 : s.size = 0
      · have hv2 : (trim s.data.toList == s.data.toList) = true := by
          have : s.data.toList = [] := List.eq_nil_of_length_eq_zero (by rw [size_list]; exact h0)
          rw [this]; rfl
        have HV2 := Lib.hid hv2
        clear hv2
        go_wp2
        go_ret
        exact ⟨ret_bool (by rw [HV.out, HV2.out]), rfl⟩
      · have hp : 0 < s.size := by omega
        have g0 : (((s.size : Int)) == 0) = false := by rw [beq_eq_false_iff_ne]; omega
        have hv2 : (trim s.data.toList == s.data.toList) = (!blankB s[0] && !blankB s[s.size - 1]) := by
          rw [Bool.eq_iff_iff, beq_iff_eq, trim_self, List.head?_eq_getElem?, List.getLast?_eq_getElem?, size_list, get_at s 0 hp, get_at s (s.size - 1) (by omega)]
          simp
        have HV2 := Lib.hid hv2
        clear hv2 h0
        cases hb : blankB s[0] with
        | true =>
          go_wp2_with (go_at_call 60; refine (rblank_c _ _).mono ?_; rintro e w' ⟨rfl, rfl⟩)
          go_ret
          exact ⟨ret_bool (by rw [HV.out, HV2.out, hb]; rfl), rfl⟩
        | false =>
          go_wp2_with fail
          refine (rblank_c _ _).mono ?_
          rintro e w' ⟨rfl, rfl⟩
          go_wp2_with fail
          refine (rblank_c _ _).mono ?_
          rintro e w' ⟨rfl, rfl⟩
          go_wp2
          go_ret
          exact ⟨ret_bool (by rw [HV.out, HV2.out, hb]; rfl), rfl⟩

/-! ### Lower -/
theorem or32_upper (c : UInt8) (h : 65 ≤ (c.toNat : Int)) (h' : (c.toNat : Int) ≤ 90) : bits .or .u8 (c.toNat : Int) 32 = low c.toNat := by
  have key : ∀ n : Nat, n < 256 → 65 ≤ n → n ≤ 90 → n ||| 32 = n + 32 := by decide +kernel
  rw [or32 c, key c.toNat c.toNat_lt (by omega) (by omega)]
  unfold low
  rw [if_pos ⟨h, h'⟩]
  omega

/-- The new row of Lower behind k rounds: block B, the first k bytes made small. -/
structure LowAt (w0 wr : World) (s : ByteArray) (k : Nat) : Prop where
  below : Below w0.heap.size w0 wr
  size : w0.heap.size < wr.heap.size
  done : ∀ j, (h : j < s.size) → j < k → wr.cell? ⟨w0.heap.size, j, none⟩ = some (.int .u8 (low s[j].toNat))
  rest : ∀ j, (h : j < s.size) → k ≤ j → wr.cell? ⟨w0.heap.size, j, none⟩ = some (.int .u8 s[j].toNat)
  free : ∀ j, j < s.size → wr.frozen? ⟨w0.heap.size, j, none⟩ = false

theorem lowAt_start (w : World) (e : TypeId) (s : ByteArray) : LowAt w (Lib.bytesWorld w e s) s 0 := by
  refine ⟨⟨rfl, rfl, rfl, by rw [Lib.bytesWorld_size]; omega, fun k hk => Lib.bytesWorld_at_old w e s k hk⟩, by rw [Lib.bytesWorld_size]; omega, fun j _ h => absurd h (by omega), fun j h _ => ?_, fun j h => ?_⟩
  · rw [Lib.bytesWorld_cell w e s j h]
    rw [List.getD_eq_getElem?_getD, get_at s j h]; rfl
  · simp only [World.frozen?, Lib.bytesWorld_at_new]
    have : s.size ≤ (Lib.bytesCells w e s).size := by
      have e : s.data.size = s.size := rfl
      simp only [Lib.bytesCells, Array.size_append, Array.size_map, Array.size_replicate]
      omega
    simp
    omega

theorem LowAt.keep {w0 wr : World} {s : ByteArray} {k : Nat} (h : LowAt w0 wr s k) (hk : k < s.size) (hl : ¬ (65 ≤ (s[k].toNat : Int) ∧ (s[k].toNat : Int) ≤ 90)) : LowAt w0 wr s (k + 1) :=
  ⟨h.below, h.size, fun j hj hjk => by
    by_cases e : j = k
    · subst e; rw [h.rest j hj (Nat.le_refl _)]; unfold low; rw [if_neg hl]
    · exact h.done j hj (by omega), fun j hj hjk => h.rest j hj (by omega), h.free⟩

theorem LowAt.set {w0 wr : World} {s : ByteArray} {k : Nat} (h : LowAt w0 wr s k) (hk : k < s.size) : LowAt w0 (wr.setCell ⟨w0.heap.size, k, none⟩ (.int .u8 (low s[k].toNat))) s (k + 1) :=
  ⟨h.below.setCell (Nat.le_refl _) _, by simpa using h.size, fun j hj hjk => by
    by_cases e : j = k
    · subst e; rw [World.cell?_setCell_same _ _ _ (h.rest j hj (Nat.le_refl _))]
    · rw [World.cell?_setCell_other _ _ _ _ (by simp only [ne_eq, Addr.mk.injEq, not_and]; omega)]; exact h.done j hj (by omega), fun j hj hjk => by
      rw [World.cell?_setCell_other _ _ _ _ (by simp only [ne_eq, Addr.mk.injEq, not_and]; omega)]; exact h.rest j hj (by omega), fun j hj => by simpa using h.free j hj⟩

def lowNums (s : ByteArray) : List Int := s.data.toList.map fun c => low c.toNat
theorem strOf_low (s : ByteArray) : strOfNums (lowNums s) = bs (lower s.data.toList) := by
  simp [strOfNums, lowNums, bs, lower, lowB, Function.comp_def]
theorem lowNums_length (s : ByteArray) : (lowNums s).length = s.size := by unfold lowNums; rw [List.length_map, size_list]
theorem lowNums_at (s : ByteArray) (j : Nat) (h : j < s.size) : (lowNums s).getD j 0 = low s[j].toNat := by
  rw [List.getD_eq_getElem?_getD]
  unfold lowNums
  rw [List.getElem?_map, get_at s j h]; rfl

theorem lower_c (s : ByteArray) (w : World) (hs : s.size ≤ 9223372036854775807) : Calls Tryz.prog 114 #[.string s] w fun e w' => e = .returned (.string (bs (lower s.data.toList))) ∧ Below w.heap.size w w' := by
  have hcv := fun (w : World) => Lib.run_convert_string_bytes w 9 71 5 s Tryz.underlying9 Tryz.underlying71 Tryz.underlying5
  have hst := lowAt_start w 5 s
  have HS := Lib.hid hst
  clear hst
  go_enter Tryz.func114, Tryz.ntmps114
  go_wp2
  have HC := Lib.hid hcv
  clear hcv
  go_loopw [10] (fun i wr => ∃ k : Nat, k ≤ s.size ∧ i = .int .i64 k ∧ LowAt w wr s k) (fun i _ => s.size - (intOf i).toNat)
  case atStart => exact ⟨0, Nat.zero_le _, rfl, HS.out⟩
  case round =>
    obtain ⟨k, hk, rfl, hA⟩ := hrel
    have HA := Lib.hid hA
    by_cases hlt : k < s.size
    · have c0 := hA.rest k hlt (Nat.le_refl _)
      have f0 := hA.free k hlt
      clear hA
      by_cases hl : 65 ≤ (s[k].toNat : Int) ∧ (s[k].toNat : Int) ≤ 90
      · have hb := or32_upper s[k] hl.1 hl.2
        have HL := Lib.hid (HA.out.set hlt)
        obtain ⟨l1, l2⟩ := hl
        go_wp2
        go_roundw
        case rel => exact ⟨k + 1, by omega, by go_num, HL.out⟩
        case measure => simp [intOf]; omega
      · have HL := Lib.hid (HA.out.keep hlt hl)
        have hl2 : (s[k].toNat : Int) < 65 ∨ (65 ≤ (s[k].toNat : Int) ∧ 90 < (s[k].toNat : Int)) := by omega
        clear hl
        rcases hl2 with h1 | ⟨h1, h2⟩
        · go_wp2
          go_roundw
          case rel => exact ⟨k + 1, by omega, by go_num, HL.out⟩
          case measure => simp [intOf]; omega
        · go_wp2
          go_roundw
          case rel => exact ⟨k + 1, by omega, by go_num, HL.out⟩
          case measure => simp [intOf]; omega
    · have hcv2 := run_convert_bytes_arg (P := Tryz.prog) wr 71 5 Tryz.underlying71 Tryz.underlying5 w.heap.size 0 s.size (grownCap w s.size 0 5) (lowNums s) (lowNums_length s) (fun i hi => by
        rw [Nat.zero_add, HA.out.done i hi (by omega), lowNums_at s i hi]) 9 Tryz.underlying9
      rw [strOf_low] at hcv2
      clear hA
      go_wp2
      go_ret
      exact ⟨rfl, HA.out.below⟩

theorem alike_c (a b : ByteArray) (w : World) (ha : a.size ≤ 9223372036854775807) (hb : b.size ≤ 9223372036854775807) :
    Calls Tryz.prog 110 #[.string a, .string b] w fun e w' => e = .returned (.bool (alike a.data.toList b.data.toList)) ∧ Below w.heap.size w w' := by
  have L1 := fun w => Lib.hid (lower_c a w ha)
  have L2 := fun w => Lib.hid (lower_c b w hb)
  by_cases hl : a.size = b.size
  · have g : (((a.size : Int)) == b.size) = true := by rw [beq_iff_eq]; omega
    have HL := Lib.hid hl
    clear hl
    go_enter Tryz.func110, Tryz.ntmps110
    go_wp2_with fail
    refine (L1 _).out.mono ?_
    rintro e w1 ⟨rfl, hb1⟩
    go_wp2_with fail
    refine (L2 _).out.mono ?_
    rintro e w2 ⟨rfl, hb2⟩
    go_wp2
    go_ret
    exact ⟨ret_bool (by unfold alike; simp [Lib.toList_data, bs]), hb1.trans (hb2.mono hb1.size)⟩
  · have g : (((a.size : Int)) == b.size) = false := by rw [beq_eq_false_iff_ne]; omega
    have HL := Lib.hid hl
    clear hl
    go_enter Tryz.func110, Tryz.ntmps110
    go_wp2
    go_ret
    exact ⟨ret_bool (alike_length (by rw [size_list, size_list]; exact HL.out)).symm, Below.refl _ _⟩

end Go.Proofs.YtgmjkkiahanekaaGreatDoor

/- The contract of the document's Lower (append byte by byte); the walks over LexTexts and LexCase, for all texts. -/
set_option linter.unusedVariables false
set_option linter.unusedSimpArgs false
namespace Go.Proofs.YtgmjkkiahanekaaGreatDoor
open Go.RowKit Lex

theorem info_u8 : (Tryz.prog.info? 5).map (fun i => (i.zero, i.size, i.bytes)) = some (some (.int .u8 0), 1, 1) := by kernel_rfl

def nums8 (xs : List Int) : List Value := xs.map (Value.int .u8)

/-- A row of bytes of the call's own, made a string. -/
theorem own_string8 {w : World} {base n : Nat} {v : Value} {xs : List Int} (h : w.ownsRow base 5 1 v n (nums8 xs)) : (convert 71 9 v).run Tryz.prog w = .ok (.string (strOfNums xs)) w := by
  have hl : xs.length = n := by have := h.1; simpa [nums8] using this
  rcases h.2 with ⟨rfl, h0⟩ | ⟨g, cap, cur, rfl, _⟩
  · subst h0
    obtain rfl : xs = [] := List.eq_nil_of_length_eq_zero hl
    exact run_convert_bytes_nil w 71 5 Tryz.underlying71 Tryz.underlying5 0 0 9 Tryz.underlying9
  · refine run_convert_bytes_arg w 71 5 Tryz.underlying71 Tryz.underlying5 g 0 n cap xs hl (fun i hi => ?_) 9 Tryz.underlying9
    have hc := h.cells (g := g) rfl i (.int .u8 (xs.getD i 0)) (by simp [nums8, List.getElem?_eq_getElem (show i < xs.length by omega), List.getD_eq_getElem?_getD])
    have ha : (⟨g, 0, none⟩ : Addr).add i = ⟨g, 0 + i, none⟩ := by unfold Addr.add; split <;> simp_all
    rw [← ha]; exact hc

theorem lowNums_snoc (s : ByteArray) (k : Nat) (h : k < s.size) : nums8 ((lowNums s).take (k + 1)) = nums8 ((lowNums s).take k) ++ [.int .u8 (low s[k].toNat)] := by
  unfold nums8
  rw [List.take_succ_eq_append_getElem (by rw [lowNums_length]; exact h), List.map_append]
  congr 1
  simp only [List.map_cons, List.map_nil]
  congr 2
  have := lowNums_at s k h
  rw [List.getD_eq_getElem?_getD, List.getElem?_eq_getElem (by rw [lowNums_length]; exact h)] at this
  exact this

set_option maxRecDepth 100000 in
set_option maxHeartbeats 4000000 in
theorem rlower_c (s : ByteArray) (w : World) (hs : s.size ≤ 140737488351232) : Calls Tryz.prog 76 #[.string s] w fun e w' => e = .returned (.string (bs (lower s.data.toList))) ∧ Below w.heap.size w w' := by
  obtain ⟨i0, hi, hz0, hz1, hz2⟩ := info_parts info_u8
  go_enter Tryz.func76, Tryz.ntmps76
  go_wp2
  go_loopw [3, 4] (fun v i wr => ∃ k : Nat, k ≤ s.size ∧ i = .int .i64 k ∧ wr.ownsRow w.heap.size 5 1 v k (nums8 ((lowNums s).take k)) ∧ Below w.heap.size w wr) (fun _ i _ => s.size - (intOf i).toNat)
  case atStart => exact ⟨0, Nat.zero_le _, rfl, World.ownsRow_nil _ _ _ _, Below.refl _ _⟩
  case round =>
    obtain ⟨k, hk, rfl, hown, hB⟩ := hrel
    have HO := Lib.hid hown
    clear hown
    have sw := hB.size
    by_cases hlt : k < s.size
    · obtain ⟨x, hx, hx0, hcase⟩ : ∃ x : Int, low s[k].toNat = x ∧ (0 ≤ x ∧ x ≤ 255) ∧ ((65 ≤ (s[k].toNat : Int) ∧ (s[k].toNat : Int) ≤ 90 ∧ x = s[k].toNat - 65 + 97) ∨ ((s[k].toNat : Int) < 65 ∧ x = s[k].toNat) ∨ (65 ≤ (s[k].toNat : Int) ∧ 90 < (s[k].toNat : Int) ∧ x = s[k].toNat)) := by
        refine ⟨_, rfl, low_range _, ?_⟩
        unfold low
        split
        · left; omega
        · right; omega
      have hsn := lowNums_snoc s k hlt
      rw [hx] at hsn
      have HSN := Lib.hid hsn
      clear hsn
      have c255 : (s[k].toNat : Int) ≤ 255 := by have := s[k].toNat_lt; omega
      rcases hcase with ⟨h1, h2, e⟩ | ⟨h1, e⟩ | ⟨h1, h2, e⟩
      · subst e
        go_wp2_with (at_builtin; refine wpList_append_own _ rfl (.tmp 24) (.tmp 26) 71 rfl w.heap.size 5 i0 (.int .u8 0) 1 1 Tryz.underlying71 hi hz0 hz1 hz2 rfl (by decide) _ k _ rfl (HO.out.alloc _) ⟨wr.heap.size, 0, none⟩ 1 1 [.int .u8 (s[k].toNat - 65 + 97)] rfl rfl ?c1 ?c2 ?c3 ?c4 ?c5 ?_)
        any_goals first | exact cell_one_new _ _ _ | (intro u hu; simp at hu; subst hu; rfl) | (show Value.oneCell' _ = true; rfl) | (unfold maxLen; omega) | omega | (simp; omega)
        intro v' w1 hown' hgrow _
        have hk := HSN.out
        rw [← hk] at hown'
        have HO' := Lib.hid hown'
        have hB' : Below w.heap.size w w1 := (hB.alloc sw _).grown hgrow (by simp; omega) (fun g hg => (HO.out.lt g hg).1)
        clear hown' hgrow hk
        go_wp2
        go_roundw
        case rel => exact ⟨k + 1, by omega, by go_num, HO'.out, hB'⟩
        case measure => simp [intOf]; omega
      · subst e
        go_wp2_with (at_builtin; refine wpList_append_own _ rfl (.tmp 24) (.tmp 26) 71 rfl w.heap.size 5 i0 (.int .u8 0) 1 1 Tryz.underlying71 hi hz0 hz1 hz2 rfl (by decide) _ k _ rfl (HO.out.alloc _) ⟨wr.heap.size, 0, none⟩ 1 1 [.int .u8 (s[k].toNat)] rfl rfl ?d1 ?d2 ?d3 ?d4 ?d5 ?_)
        any_goals first | exact cell_one_new _ _ _ | (intro u hu; simp at hu; subst hu; rfl) | (show Value.oneCell' _ = true; rfl) | (unfold maxLen; omega) | omega | (simp; omega)
        intro v' w1 hown' hgrow _
        have hk := HSN.out
        rw [← hk] at hown'
        have HO' := Lib.hid hown'
        have hB' : Below w.heap.size w w1 := (hB.alloc sw _).grown hgrow (by simp; omega) (fun g hg => (HO.out.lt g hg).1)
        clear hown' hgrow hk
        go_wp2
        go_roundw
        case rel => exact ⟨k + 1, by omega, by go_num, HO'.out, hB'⟩
        case measure => simp [intOf]; omega
      · subst e
        go_wp2_with (at_builtin; refine wpList_append_own _ rfl (.tmp 24) (.tmp 26) 71 rfl w.heap.size 5 i0 (.int .u8 0) 1 1 Tryz.underlying71 hi hz0 hz1 hz2 rfl (by decide) _ k _ rfl (HO.out.alloc _) ⟨wr.heap.size, 0, none⟩ 1 1 [.int .u8 (s[k].toNat)] rfl rfl ?f1 ?f2 ?f3 ?f4 ?f5 ?_)
        any_goals first | exact cell_one_new _ _ _ | (intro u hu; simp at hu; subst hu; rfl) | (show Value.oneCell' _ = true; rfl) | (unfold maxLen; omega) | omega | (simp; omega)
        intro v' w1 hown' hgrow _
        have hk := HSN.out
        rw [← hk] at hown'
        have HO' := Lib.hid hown'
        have hB' : Below w.heap.size w w1 := (hB.alloc sw _).grown hgrow (by simp; omega) (fun g hg => (HO.out.lt g hg).1)
        clear hown' hgrow hk
        go_wp2
        go_roundw
        case rel => exact ⟨k + 1, by omega, by go_num, HO'.out, hB'⟩
        case measure => simp [intOf]; omega
    · have ht : (lowNums s).take k = lowNums s := List.take_of_length_le (by rw [lowNums_length]; omega)
      have hcv2 := own_string8 HO.out
      rw [ht, strOf_low] at hcv2
      clear ht
      go_wp2
      go_ret
      exact ⟨rfl, hB⟩

end Go.Proofs.YtgmjkkiahanekaaGreatDoor

/- The contracts of path.plain, escape, unescape, Decode and the document's Plain, At, Escapes, Decode: each answers what the plain words of PathA say. -/
set_option linter.unusedVariables false
set_option linter.unusedSimpArgs false
namespace Go.Proofs.YtgmjkkiahanekaaGreatDoor
open Go.RowKit Lex

theorem hex_pair (a b : UInt8) : hex [a, b] 2 = (match pair a b with | some n => ((n.toNat : Int), true) | none => (0, false)) := by
  have wa := worth_0 a
  have wb := worth_0 b
  unfold hex number pair
  rw [if_neg (by omega : ¬ (15 : Int) < 2)]
  by_cases h : worth a < 16 ∧ worth b < 16
  · rw [if_pos h, if_neg (by simp; omega)]
    simp only
    rw [UInt8.toNat_ofNat_of_lt' (by rw [UInt8.size]; omega)]
    simp [num]
    omega
  · rw [if_neg h, if_pos (by right; right; simp; omega)]

/-- What an escape at a text's begin is. -/
def escB : List UInt8 → UInt8 × Bool
  | _ :: a :: b :: _ => match pair a b with | some n => (n, true) | none => (0, false)
  | _ => (0, false)

theorem three (s : ByteArray) (h : ¬ s.size < 3) : ∃ c a b r, s.data.toList = c :: a :: b :: r ∧ (s.extract 1 3).data.toList = [a, b] := by
  have hl : 3 ≤ s.data.toList.length := by rw [size_list]; omega
  rw [Lib.extract_data]
  match s.data.toList, hl with
  | c :: a :: b :: r, _ => exact ⟨c, a, b, r, rfl, rfl⟩

theorem ret_esc {a b : Int} {q : Bool} (h : a = b) : Ending.returned (.tuple #[.int .u8 a, .bool q]) = .returned (.tuple #[.int .u8 b, .bool q]) := by rw [h]

theorem escape_c (s : ByteArray) (w : World) (hs : s.size ≤ 9223372036854775807) : Calls Tryz.prog 182 #[.string s] w fun e w' => e = .returned (.tuple #[.int .u8 (escB s.data.toList).1.toNat, .bool (escB s.data.toList).2]) ∧ w = w' := by
  by_cases h3 : s.size < 3
  · have he : escB s.data.toList = (0, false) := by
      have hl : s.data.toList.length < 3 := by rw [size_list]; exact h3
      match s.data.toList, hl with
      | [], _ => rfl
      | [_], _ => rfl
      | [_, _], _ => rfl
    rw [he]
    go_enter Tryz.func182, Tryz.ntmps182
    go_wp2
    go_ret2
    exact ⟨rfl, rfl⟩
  · obtain ⟨c, a, b, r, hl, he⟩ := three s h3
    have K := fun w => Lib.hid (hex_c (s.extract 1 3) 2 w)
    rw [he, hex_pair] at K
    rw [hl]
    clear hl he
    simp only [escB]
    generalize pair a b = p at *
    cases p with
    | none =>
      simp only at K
      go_enter Tryz.func182, Tryz.ntmps182
      go_wp2_with (go_at_call 185; refine (K _).out.mono ?_; rintro e w' ⟨rfl, rfl⟩)
      go_ret2
      exact ⟨rfl, rfl⟩
    | some n =>
      simp only at K
      have hn := n.toNat_lt
      have hn0 : (n.toNat : Int) ≤ 255 := by omega
      go_enter Tryz.func182, Tryz.ntmps182
      go_wp2_with (go_at_call 185; refine (K _).out.mono ?_; rintro e w' ⟨rfl, rfl⟩)
      go_ret2
      exact ⟨ret_esc (by omega), rfl⟩

theorem plainMarks_c (c : UInt8) (w : World) :
    Calls Tryz.prog 159 #[.string ⟨#[45, 46, 95, 126]⟩, .int .u8 c.toNat] w fun e w' => e = .returned (.int .i64 (Lib.indexByte [45, 46, 95, 126] c)) ∧ w = w' :=
  (Tryz.strings_IndexByte ⟨#[45, 46, 95, 126]⟩ c.toNat w).mono fun e w' ⟨he, hw⟩ => ⟨by rw [he]; simp, hw.symm⟩

theorem plain_c (c : UInt8) (w : World) : Calls Tryz.prog 183 #[.int .u8 c.toNat] w fun e w' => e = .returned (.bool (plainB c)) ∧ w = w' := by
  have K := fun w => Lib.hid (plainMarks_c c w)
  have hm := indexByte_neg [45, 46, 95, 126] c
  have hp : plainB c = (letterI c.toNat || digitI c.toNat || decide (0 ≤ Lib.indexByte [45, 46, 95, 126] c)) := by
    unfold plainB letter digit
    congr 1
    rw [Bool.eq_iff_iff, decide_eq_true_eq]
    cases h : ([45, 46, 95, 126] : List UInt8).contains c with
    | false => have := hm.2 h; simp; omega
    | true => simp; rw [← Int.not_lt]; intro hh; rw [hm.1 hh] at h; cases h
  have HP := Lib.hid hp
  clear hp hm
  generalize plainB c = q at *
  generalize Lib.indexByte [45, 46, 95, 126] c = x at *
  generalize (c.toNat : Int) = n at *
  go_enter Tryz.func183, Tryz.ntmps183
  go_wp2_with (go_at_call 159; refine (K _).out.mono ?_; rintro e w' ⟨rfl, rfl⟩)
  all_goals go_ret
  all_goals exact ⟨ret_bool (by rw [HP.out, Bool.eq_iff_iff]; simp [letterI, digitI] <;> omega), rfl⟩

/-- What is left of a text, as a text. -/
theorem rest_data (s : ByteArray) (k : Nat) : (s.extract k s.size).data.toList = s.data.toList.drop k := Lib.extract_to_end s k
theorem drop_at (s : ByteArray) (k : Nat) (h : k < s.size) : s.data.toList.drop k = s[k] :: s.data.toList.drop (k + 1) := by
  rw [List.drop_eq_getElem_cons (by rw [size_list]; exact h)]; rfl

theorem large_at (n : Nat) (h : n < 16) : (⟨#[48, 49, 50, 51, 52, 53, 54, 55, 56, 57, 65, 66, 67, 68, 69, 70]⟩ : ByteArray)[n]'h = large n := by
  have key : ∀ n : Fin 16, (⟨#[48, 49, 50, 51, 52, 53, 54, 55, 56, 57, 65, 66, 67, 68, 69, 70]⟩ : ByteArray)[n.val]'n.isLt = large n.val := by decide +kernel
  exact key ⟨n, h⟩

def nat8 (l : List UInt8) : List Int := l.map fun c => (c.toNat : Int)
theorem nat8_str (l : List UInt8) : strOfNums (nat8 l) = bs l := by
  simp [strOfNums, nat8, Function.comp_def]

/-- What holds of unescape (bad, enc) between two rounds: i bytes gone through, o told. -/
structure Gone (bad : UInt8 → Bool) (enc : UInt8 → List UInt8) (s : ByteArray) (i : Nat) (o : List UInt8) : Prop where
  left : walkE bad enc s.data.toList = (walkE bad enc (s.data.toList.drop i)).map (o ++ ·)
  len : o.length ≤ i
theorem Gone.start {bad enc} (s : ByteArray) : Gone bad enc s 0 [] := ⟨by simp, by simp⟩
theorem Gone.plain {bad enc} {s : ByteArray} {i : Nat} {o : List UInt8} (h : Gone bad enc s i o) (hi : i < s.size) (hb : bad s[i] = false) (hp : s[i] ≠ 37) : Gone bad enc s (i + 1) (o ++ [s[i]]) :=
  ⟨by rw [h.left, drop_at s i hi, walkE_plain hb hp, Option.map_map]; congr 1; funext x; simp, by simp; exact h.len⟩
theorem Gone.bad {bad enc} {s : ByteArray} {i : Nat} {o : List UInt8} (h : Gone bad enc s i o) (hi : i < s.size) (hb : bad s[i] = true) : walkE bad enc s.data.toList = none := by
  rw [h.left, drop_at s i hi, walkE_bad hb]; rfl
theorem Gone.esc {bad enc} {s : ByteArray} {i : Nat} {o : List UInt8} (h : Gone bad enc s i o) (hi : i < s.size) (hb : bad 37 = false) (hp : s[i] = 37) (n : UInt8) (he : escB (s.data.toList.drop i) = (n, true)) (hn : (enc n).length ≤ 3) :
    i + 2 < s.size ∧ Gone bad enc s (i + 3) (o ++ enc n) := by
  have hl := h.left
  have hd := drop_at s i hi
  rw [hp] at hd
  rw [hd] at he hl
  match hr : s.data.toList.drop (i + 1), he with
  | [], he => simp [hr, escB] at he
  | [_], he => simp [hr, escB] at he
  | a :: b :: r, he =>
    have hlen := congrArg List.length hr
    simp [ByteArray.size_data] at hlen
    have hr3 : s.data.toList.drop (i + 3) = r := by
      have : s.data.toList.drop (i + 1 + 2) = (s.data.toList.drop (i + 1)).drop 2 := by rw [List.drop_drop]
      rw [show i + 3 = i + 1 + 2 from rfl, this, hr]; rfl
    rw [hr] at hl
    simp only [escB] at he
    cases hpr : pair a b with
    | none => rw [hpr] at he; cases he
    | some m =>
      rw [hpr] at he
      injection he with he _
      subst he
      rw [walkE_some hb hpr, Option.map_map] at hl
      refine ⟨by omega, ⟨?_, ?_⟩⟩
      · rw [hl, hr3]; congr 1; funext x; simp
      · have := h.len; simp; omega
theorem Gone.stop {bad enc} {s : ByteArray} {i : Nat} {o : List UInt8} (h : Gone bad enc s i o) (hi : i < s.size) (hp : s[i] = 37) (he : (escB (s.data.toList.drop i)).2 = false) : walkE bad enc s.data.toList = none := by
  have hl := h.left
  have hd := drop_at s i hi
  rw [hp] at hd
  rw [hd] at he hl
  match hr : s.data.toList.drop (i + 1), he with
  | [], he => rw [hr, walkE_short (by simp)] at hl; exact hl
  | [_], he => rw [hr, walkE_short (by simp)] at hl; exact hl
  | a :: b :: r, he =>
    rw [hr] at hl
    simp only [escB] at he
    cases hpr : pair a b with
    | none => rw [walkE_none hpr] at hl; exact hl
    | some m => rw [hpr] at he; cases he
theorem Gone.whole {bad enc} {s : ByteArray} {i : Nat} {o : List UInt8} (h : Gone bad enc s i o) (hi : s.size ≤ i) : walkE bad enc s.data.toList = some o := by
  rw [h.left, List.drop_of_length_le (by rw [size_list]; exact hi), walkE_nil]; simp

end Go.Proofs.YtgmjkkiahanekaaGreatDoor

