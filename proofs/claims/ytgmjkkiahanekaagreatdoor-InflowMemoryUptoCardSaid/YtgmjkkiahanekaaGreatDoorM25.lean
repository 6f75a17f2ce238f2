/- The texts TgtX, TgtP in one. -/
import Derived.Test.YtgmjkkiahanekaaGreatDoorM9
import Derived.Test.YtgmjkkiahanekaaGreatDoorM3
import Derived.Test.YtgmjkkiahanekaaGreatDoorShelf
import Derived.Laws.RangeAny
import Derived.Laws.Runes
import Derived.Laws.RangeString
import Derived.Lib.OthersKept
import Derived.Deep.LoopGhost
import Derived.Deep.QuietTactic
import Derived.BigQuiet
import Derived.WalkMore
import Derived.Test.YtgmjkkiahanekaaGreatDoorM24
/- The contract of strings.IndexRune in a text of two plain bytes at a rune from 128 on, and of strings.IndexAny of any text at "/?". -/

set_option linter.unusedVariables false
set_option linter.unusedSimpArgs false
namespace Go.Proofs.YtgmjkkiahanekaaGreatDoor
open Go.RowKit Lex

theorem get_at' (s : ByteArray) (k : Nat) (h : k < s.size) : s.data.toList[k]? = some s[k] := by
  rw [List.getElem?_eq_getElem (by rw [size_list]; exact h)]; rfl

set_option maxHeartbeats 1000000 in
theorem validRune_c (r : Int) (w : World) : Calls Tryz.prog 165 #[.int .i32 r] w fun e w' => e = .returned (.bool (Utf8.valid r)) ∧ w = w' := by
  go_enter Tryz.func165, Tryz.ntmps165
  go_wp2
  all_goals
    go_ret
    exact ⟨ret_bool (by simp only [Utf8.valid]; first | (symm; simp; omega) | (simp; omega)), rfl⟩

set_option maxRecDepth 100000 in
set_option maxHeartbeats 1000000 in
theorem irune_high (r : Int) (w : World) (h : 128 ≤ r) (h2 : r ≤ 2147483647) :
    Calls Tryz.prog 139 #[.string ⟨#[47, 63]⟩, .int .i32 r] w fun e w' => e = .returned (.int .i64 (-1)) ∧ Below w.heap.size w w' := by
  have hlt : ¬ r < 128 := by omega
  by_cases he : r = 65533
  · subst he
    go_enter Tryz.func139, Tryz.ntmps139
    go_wp2
    go_loopg [5, 6] 2 (fun g _ _ wx => ∃ i : Nat, i + g = 2 ∧ wx = w.iter ⟨#[47, 63]⟩ i)
    case atStart => exact ⟨0, rfl, rfl⟩
    case round =>
      obtain ⟨i, hig, rfl⟩ := hrel
      have hB : Below w.heap.size w (w.iter ⟨#[47, 63]⟩ i) := (Below.refl _ w).alloc (Nat.le_refl _) _
      cases gk with
      | zero =>
        obtain rfl : i = 2 := by omega
        have hnx := fun ty => run_next_end (P := Tryz.prog) w ⟨#[47, 63]⟩ 2 ty (by decide)
        go_wp2
        go_ret
        exact ⟨rfl, hB⟩
      | succ g =>
        rcases (by omega : i = 0 ∨ i = 1) with rfl | rfl
        · have hnx := fun ty => run_next_ascii (P := Tryz.prog) w ⟨#[47, 63]⟩ 0 ty (by decide) (by decide)
          have e0 : (((⟨#[47, 63]⟩ : ByteArray)[0]'(by decide)).toNat : Int) = 47 := rfl
          simp only [e0] at hnx
          clear e0
          go_wp2
          go_roundg g
          case measure => omega
          case rel => exact ⟨1, by omega, rfl⟩
        · have hnx := fun ty => run_next_ascii (P := Tryz.prog) w ⟨#[47, 63]⟩ 1 ty (by decide) (by decide)
          have e0 : (((⟨#[47, 63]⟩ : ByteArray)[1]'(by decide)).toNat : Int) = 63 := rfl
          simp only [e0] at hnx
          clear e0
          go_wp2
          go_roundg g
          case measure => omega
          case rel => exact ⟨2, by omega, rfl⟩
  · have hb : (r == 65533) = false := by rw [beq_eq_false_iff_ne]; exact he
    have VR := fun w => Lib.hid (validRune_c r w)
    cases hv : Utf8.valid r with
    | false =>
      rw [hv] at VR
      go_enter Tryz.func139, Tryz.ntmps139
      go_wp2_with (go_at_call 165; refine (VR _).out.mono ?_; rintro e w' ⟨rfl, rfl⟩)
      go_ret
      exact ⟨rfl, Below.refl _ _⟩
    | true =>
      rw [hv] at VR
      obtain ⟨e1, e2, e3⟩ := encode_facts r hv h
      go_enter Tryz.func139, Tryz.ntmps139
      go_wp2_with (go_at_call 165; refine (VR _).out.mono ?_; rintro e w' ⟨rfl, rfl⟩)
      go_step3
      go_wp2
      generalize Utf8.encode r = rs at *
      by_cases h3 : 3 ≤ rs.size
      · refine wp_loop_rounds 1 ?_
        rw [rounds_succ]
        go_wp2
        rw [Exit.noGoto_ret]
        go_ret
        exact ⟨rfl, Below.refl _ _⟩
      · have hz : rs.size = 2 := by omega
        obtain ⟨a, b, rfl⟩ : ∃ a b, rs = ⟨#[a, b]⟩ := by
          obtain ⟨⟨l⟩⟩ := rs
          match l, hz with
          | [a, b], _ => exact ⟨a, b, rfl⟩
        have hb2 : 128 ≤ b.toNat := e3 (Nat.lt_succ_self 1)
        have IB := fun c w => Lib.hid (Tryz.strings_IndexByte ((⟨#[47, 63]⟩ : ByteArray).extract 2 2) c w)
        have hix : ∀ c : UInt8, Lib.indexByte ((⟨#[47, 63]⟩ : ByteArray).extract 2 2).data.toList c = -1 := fun c => rfl
        simp only [hix] at IB
        clear hix
        have hsz : ((⟨#[a, b]⟩ : ByteArray).size : Int) = 2 := rfl
        clear e1 e2 e3 h3 hz
        simp only [hsz, Int.reduceSub]
        refine wp_loop_rounds 1 ?_
        rw [rounds_succ]
        go_wp2
        go_step3
        have x1 : (((⟨#[47, 63]⟩ : ByteArray)[1]'(by decide)).toNat : Int) = 63 := rfl
        have x2 : (((⟨#[a, b]⟩ : ByteArray)[1]'(Nat.lt_succ_self 1)).toNat : Int) = (b.toNat : Int) := rfl
        have x3 : ((63 : Int) != (b.toNat : Int)) = true := by rw [bne_iff_ne]; omega
        go_wp2
        go_quiet (fail)
        generalize hw1 : w.drewN _ = w1
        have B1 : Below w.heap.size w w1 := by rw [← hw1]; exact Drawn.below
        clear hw1
        go_wp2
        go_quiet ((go_at_call 159; exact Calls.quiet_of_same (IB _ _).out))
        go_wp2
        rw [Exit.noGoto_ret]
        simp only [Exit.inBlock, Exit.then]
        rw [Exit.noGoto_ret]
        go_ret
        exact ⟨rfl, below_then B1 Drawn.below⟩

theorem decode_cont (s : ByteArray) (pos : Nat) (h : pos < s.size) (ha : 128 ≤ (s[pos]'h).toNat) : ∀ k, k < (Utf8.decode s pos).2 → ∃ hj : pos + k < s.size, 128 ≤ (s[pos + k]'hj).toNat := by
  have hb0 : ¬ (s.get! (pos + 0)).toNat < 128 := by rw [Go.get_at s pos h]; omega
  have c : ∀ k, (decide (pos + k < s.size) && (s.get! (pos + k)).toNat / 64 == 2) = true → ∃ hj : pos + k < s.size, 128 ≤ (s[pos + k]'hj).toNat := by
    intro k hk
    simp only [Bool.and_eq_true, decide_eq_true_eq, beq_iff_eq] at hk
    refine ⟨hk.1, ?_⟩
    have e := Go.get_at s (pos + k) hk.1
    rw [Nat.add_zero] at e
    rw [← e]; omega
  have z : ∃ hj : pos + 0 < s.size, 128 ≤ (s[pos + 0]'hj).toNat := ⟨h, ha⟩
  intro k hk
  simp only [Utf8.decode, if_neg hb0] at hk
  split at hk
  · rename_i h1
    simp only [Bool.and_eq_true] at h1
    have c1 := c 1 (by simpa using h1.2)
    split at hk <;> (rcases (by simp only at hk; omega : k = 0 ∨ k = 1) with rfl | rfl <;> assumption)
  · split at hk
    · rename_i h1
      simp only [Bool.and_eq_true] at h1
      have c1 := c 1 (by simpa using h1.1.2)
      have c2 := c 2 (by simpa using h1.2)
      split at hk <;> (rcases (by simp only at hk; omega : k = 0 ∨ k = 1 ∨ k = 2) with rfl | rfl | rfl <;> assumption)
    · split at hk
      · rename_i h1
        simp only [Bool.and_eq_true] at h1
        have c1 := c 1 (by simpa using h1.1.1.2)
        have c2 := c 2 (by simpa using h1.1.2)
        have c3 := c 3 (by simpa using h1.2)
        split at hk <;> (rcases (by simp only at hk; omega : k = 0 ∨ k = 1 ∨ k = 2 ∨ k = 3) with rfl | rfl | rfl | rfl <;> assumption)
      · obtain rfl : k = 0 := by simp only at hk; omega
        exact z

/-- No slash and no question mark before a place. -/
def None47 (s : ByteArray) (i : Nat) : Prop := ∀ j (h : j < s.size), j < i → s[j] ≠ 47 ∧ s[j] ≠ 63
theorem None47.noAny {s : ByteArray} {i : Nat} (h : None47 s i) : Lib.NoAny s.data.toList [47, 63] i := by
  intro j b hj hb
  have hj2 : j < s.size := by
    have := (List.getElem?_eq_some_iff.1 hb).1
    rwa [size_list] at this
  rw [get_at' s j hj2] at hb
  injection hb with hb
  have := h j hj2 hj
  simp only [List.contains_cons, List.contains_nil, Bool.or_false, Bool.or_eq_false_iff, beq_eq_false_iff_ne]
  rw [← hb]
  exact this
theorem iterAt_below {w wx : World} {s : ByteArray} (h : Below w.heap.size w wx) (p : Nat) : Below w.heap.size w (wx.iterAt w.heap.size s p) :=
  ⟨h.os, h.tape, h.output, by have := h.size; simpa [World.iterAt] using this, fun k hk => (Lib.iterAt_other wx w.heap.size k s p (by omega)).trans (h.block k hk)⟩
set_option maxRecDepth 100000 in
set_option maxHeartbeats 4000000 in
theorem ixany_short (s : ByteArray) (w : World) (h8 : s.size ≤ 8) :
    Calls Tryz.prog 111 #[.string s, .string ⟨#[47, 63]⟩] w fun e w' => e = .returned (.int .i64 (Lib.indexAny s.data.toList [47, 63])) ∧ Below w.heap.size w w' := by
  have h8z : decide ((8 : Int) < (s.size : Int)) = false := decide_eq_false (by omega)
  have US := fun w => Lib.hid (Tryz.strings_shouldUseASCIISet (s.size : Int) w)
  rw [h8z] at US
  clear h8z
  go_enter Tryz.func111, Tryz.ntmps111
  go_wp2_with (go_at_call 140; refine (US _).out.mono ?_; rintro e w' ⟨rfl, hw⟩; rw [hw])
  go_loopg [9, 10] s.size (fun g _ _ wx => ∃ (i : Nat), i ≤ s.size ∧ s.size ≤ i + g ∧ None47 s i ∧ wx.heap[w.heap.size]? = some (.stringIter s i) ∧ Below w.heap.size w wx)
  case atStart => exact ⟨0, Nat.zero_le _, by omega, fun j _ h => absurd h (Nat.not_lt_zero _), World.iter_heap w s 0, (Below.refl _ w).alloc (Nat.le_refl _) _⟩
  case round =>
    obtain ⟨i, hi, hg, hno, hit, hB⟩ := hrel
    have HN := Lib.hid hno
    have HIT := Lib.hid hit
    clear hno
    by_cases hlt : i < s.size
    · cases gk with
      | zero => omega
      | succ g =>
        have hat : ∀ p : Nat, (wr.iterAt w.heap.size s p).heap[w.heap.size]? = some (.stringIter s p) ∧ Below w.heap.size w (wr.iterAt w.heap.size s p) := fun p => ⟨Lib.iterAt_heap wr w.heap.size s i p HIT.out, iterAt_below hB p⟩
        have HAT := Lib.hid hat
        clear hat hit
        by_cases ha : s[i].toNat < 128
        · have hnx := fun ty => Lib.run_next_ascii_at (P := Tryz.prog) wr w.heap.size s i ty HIT.out hlt ha
          have IR := fun w => Lib.hid (Tryz.strings_IndexRune_ascii ⟨#[47, 63]⟩ (s[i].toNat : Int) w (by omega) (by omega))
          have hback : ((s[i].toNat : Int)).toNat.toUInt8 = s[i] := by simp
          rw [hback] at IR
          by_cases hin : s[i] = 47 ∨ s[i] = 63
          · have hge : (0 : Int) ≤ Lib.indexByte (ByteArray.mk #[47, 63]).data.toList s[i] := by rcases hin with h | h <;> rw [h] <;> decide
            have HV := Lib.hid (show Lib.indexAny s.data.toList [47, 63] = i from Lib.indexAny_hit HN.out.noAny (get_at' s i hlt) (by rcases hin with h | h <;> rw [h] <;> decide))
            obtain ⟨q, hq⟩ : ∃ q, Lib.indexByte (ByteArray.mk #[47, 63]).data.toList s[i] = q := ⟨_, rfl⟩
            rw [hq] at hge IR
            clear hq hback hin
            go_wp2_with (go_at_call 139; refine (IR _).out.mono ?_; rintro e w' ⟨rfl, hw⟩; rw [hw])
            go_ret
            exact ⟨ret_int HV.out.symm, (HAT.out _).2⟩
          · have h1 := not_or.1 hin
            have hq : Lib.indexByte (ByteArray.mk #[47, 63]).data.toList s[i] = -1 := by
              apply indexByte_no
              intro x hx
              have : x = 47 ∨ x = 63 := by simpa using hx
              rcases this with rfl | rfl
              · exact fun e => h1.1 e.symm
              · exact fun e => h1.2 e.symm
            have HS := Lib.hid (show None47 s (i + 1) from fun j hj hj2 => by
              by_cases e : j = i
              · subst e; exact h1
              · exact HN.out j hj (by omega))
            rw [hq] at IR
            clear hq hback hin h1
            go_wp2_with (go_at_call 139; refine (IR _).out.mono ?_; rintro e w' ⟨rfl, hw⟩; rw [hw])
            go_roundg g
            case measure => omega
            case rel => exact ⟨i + 1, by omega, by omega, HS.out, (HAT.out _).1, (HAT.out _).2⟩
        · have hnx := fun ty => Lib.run_next_any_at (P := Tryz.prog) wr w.heap.size s i ty HIT.out hlt
          obtain ⟨d1, d2⟩ := decode_high s i hlt (by omega)
          have d3 := decode_le s i
          have dc := decode_cont s i hlt (by omega)
          have IR := fun w => Lib.hid (irune_high (Utf8.decode s i).1 w (by omega) (by omega))
          generalize Utf8.decode s i = d at *
          obtain ⟨c, wd⟩ := d
          simp only at d1 d2 d3 dc IR hnx
          have hsz : i + wd ≤ s.size := by
            obtain ⟨h1, _⟩ := dc (wd - 1) (by omega)
            omega
          have HS := Lib.hid (show None47 s (i + wd) from fun j hj hj2 => by
            by_cases e : j < i
            · exact HN.out j hj e
            · obtain ⟨h1, h2⟩ := dc (j - i) (by omega)
              have e2 : i + (j - i) = j := by omega
              simp only [e2] at h2
              refine ⟨fun e => ?_, fun e => ?_⟩ <;> (rw [e] at h2; revert h2; decide))
          clear dc ha
          go_wp2_with (go_at_call 139; refine (IR _).out.mono ?_; rintro e w2 ⟨rfl, hb2⟩)
          go_roundg g
          case measure => omega
          case rel => exact ⟨i + wd, hsz, by omega, HS.out, (hb2.block _ (by have := Array.getElem?_eq_some_iff.1 (HAT.out (i + wd)).1; exact this.1)).trans (HAT.out _).1, below_then (HAT.out _).2 hb2⟩
    · have hnx := fun ty => Lib.run_next_end_at (P := Tryz.prog) wr w.heap.size s i ty HIT.out hlt
      have HV := Lib.hid (show Lib.indexAny s.data.toList [47, 63] = -1 from Lib.indexAny_none (by rw [size_list]; have h := HN.out.noAny; rwa [show i = s.size by omega] at h))
      clear hit
      go_wp2
      go_ret
      exact ⟨ret_int HV.out.symm, hB⟩
theorem ixany_c (s : ByteArray) (w : World) (hs : s.size ≤ 140737488) :
    Calls Tryz.prog 111 #[.string s, .string ⟨#[47, 63]⟩] w fun e w' => e = .returned (.int .i64 (Lib.indexAny s.data.toList [47, 63])) ∧ Below w.heap.size w w' := by
  by_cases h8 : s.size ≤ 8
  · exact ixany_short s w h8
  · refine (Tryz.strings_IndexAny_long (fun w => by kernel_rfl) s ⟨#[47, 63]⟩ w (by decide) (by omega) (by omega) (by decide) ?_).mono fun e w' ⟨he, hw⟩ => ⟨he, by rw [hw]; exact ((Below.refl _ w).alloc (Nat.le_refl _) _).alloc (by simp) _⟩
    intro j b hb
    match j, hb with
    | 0, hb => injection hb with hb; rw [← hb]; decide
    | 1, hb => injection hb with hb; rw [← hb]; decide
    | j + 2, hb => cases hb
end Go.Proofs.YtgmjkkiahanekaaGreatDoor

/- The contract of Parse: other methods than CONNECT. -/
set_option linter.unusedVariables false
set_option linter.unusedSimpArgs false
namespace Go.Proofs.YtgmjkkiahanekaaGreatDoor
open Go.RowKit Lex

theorem indexAny_lt (chars : List UInt8) : ∀ l : List UInt8, Lib.indexAny l chars < l.length
  | [] => by simp [Lib.indexAny]
  | b :: l => by
    have ih := indexAny_lt chars l
    unfold Lib.indexAny
    split
    · simp only [List.length_cons]; omega
    · split
      · simp only [List.length_cons]; omega
      · simp only [List.length_cons]; omega

set_option maxRecDepth 100000 in
set_option maxHeartbeats 1000000 in
theorem parse_star (w : World) : Calls Tryz.prog 82 #[.string (bs optionsL), .string (bs [42])] w fun e w' => e = .returned (tgOut ({ form := 4 }, 0)) ∧ Below w.heap.size w w' := by
  show Calls Tryz.prog 82 #[.string ⟨#[79, 80, 84, 73, 79, 78, 83]⟩, .string ⟨#[42]⟩] w _
  go_enter Tryz.func82, Tryz.ntmps82
  go_wp2_with fail
  exact bodyPost_ret (ret_parse (box6_new w _ _ _ _ _ _ _) rfl rfl) rfl ⟨rfl, (Below.refl _ w).alloc (Nat.le_refl _) _⟩

set_option maxRecDepth 100000 in
set_option maxHeartbeats 1000000 in
theorem parse_origin (M s : ByteArray) (m : Int) (w : World) (hM : M.data.toList ≠ connectL) (hs : s.size ≤ 4194304) (h47 : s.data.toList.head? = some 47) (hm : w.cell? ⟨0, 0, none⟩ = some (.int .i64 m)) :
    Calls Tryz.prog 82 #[.string M, .string s] w fun e w' => e = .returned (tgOut (localT { form := 1 } s.data.toList)) ∧ Below w.heap.size w w' := by
  have LC := fun w hm => Lib.hid (local_c 1 0 ⟨#[]⟩ s m w hs hm)
  rw [show localT { form := 1, host := (ByteArray.mk #[]).data.toList, port := 0 } s.data.toList = localT { form := 1 } s.data.toList from rfl] at LC
  generalize localT { form := 1 } s.data.toList = x at *
  have HP := fun w => Lib.hid (Tryz.strings_HasPrefix s ⟨#[47]⟩ w)
  rw [show (ByteArray.mk #[47]).data.toList = [47] from rfl, slash_prefix, decide_eq_true h47] at HP
  have bM : (M.toList == [67, 79, 78, 78, 69, 67, 84]) = false := by rw [Lib.toList_data, beq_eq_false_iff_ne]; exact hM
  have b42 : ¬ s.toList = [42] := by rw [Lib.toList_data]; intro e; rw [e] at h47; revert h47; decide
  have HM := Lib.hid hm
  simp only [tgOut, tgVal] at LC ⊢
  clear h47 hM hm
  go_enter Tryz.func82, Tryz.ntmps82
  go_wp2_with (go_at_call 62; refine (HP _).out.mono ?_; rintro e w' ⟨rfl, hw⟩; rw [hw])
  refine (LC _ (cell_below ((Below.refl _ w).alloc (Nat.le_refl _) _) HM.out)).out.mono ?_
  rintro e w1 ⟨rfl, hb1⟩
  have B := Lib.hid (show Below w.heap.size w w1 from ((Below.refl _ w).alloc (Nat.le_refl _) _).trans (hb1.mono (by simp)))
  have BX := Lib.hid ((box6_new w _ _ _ _ _ _ _).below hb1)
  obtain ⟨c0, c1, c2, c3, c4, c5, fz⟩ := BX.out
  have f0 := fz 0
  have f1 := fz 1
  have f2 := fz 2
  have f3 := fz 3
  have f4 := fz 4
  have f5 := fz 5
  clear fz
  clear hb1
  go_wp2
  (try simp only [Exit.inBlock, Exit.then]); refine bodyPost_ret (ret_parse (Box6.stored BX.out _ _ _ _ _ _) rfl rfl) rfl ?_
  refine ⟨rfl, ?_⟩
  repeat refine Below.setCell ?_ (by simp) _
  exact B.out

set_option maxRecDepth 100000 in
set_option maxHeartbeats 1000000 in
theorem parse_short (M s : ByteArray) (w : World) (hM : M.data.toList ≠ connectL) (h42 : s.data.toList = [42] → M.data.toList ≠ optionsL) (h7 : s.size < 7) (h47 : s.data.toList.head? ≠ some 47) :
    Calls Tryz.prog 82 #[.string M, .string s] w fun e w' => e = .returned (tgOut ({}, 60)) ∧ Below w.heap.size w w' := by
  have bM : (M.toList == [67, 79, 78, 78, 69, 67, 84]) = false := by rw [Lib.toList_data, beq_eq_false_iff_ne]; exact hM
  have HP := fun w => Lib.hid (Tryz.strings_HasPrefix s ⟨#[47]⟩ w)
  rw [show (ByteArray.mk #[47]).data.toList = [47] from rfl, slash_prefix, decide_eq_false h47] at HP
  by_cases hs : s.data.toList = [42]
  · have bO : (M.toList == [79, 80, 84, 73, 79, 78, 83]) = false := by rw [Lib.toList_data, beq_eq_false_iff_ne]; exact h42 hs
    obtain rfl : s = ⟨#[42]⟩ := bytes_ext hs
    clear h42 hs h47 hM
    go_enter Tryz.func82, Tryz.ntmps82
    go_wp2_with (go_at_call 62; refine (HP _).out.mono ?_; rintro e w' ⟨rfl, hw⟩; rw [hw])
    exact bodyPost_ret (ret_parse (box6_new w _ _ _ _ _ _ _) rfl rfl) rfl ⟨rfl, (Below.refl _ w).alloc (Nat.le_refl _) _⟩
  · have b42 : ¬ s.toList = [42] := by rw [Lib.toList_data]; exact hs
    have h7' : ¬ (7 : Int) ≤ (s.size : Int) := by omega
    have h7'' : (s.size : Int) < 7 := by omega
    clear h42 h47 hM hs
    go_enter Tryz.func82, Tryz.ntmps82
    go_wp2_with (go_at_call 62; refine (HP _).out.mono ?_; rintro e w' ⟨rfl, hw⟩; rw [hw])
    exact bodyPost_ret (ret_parse (box6_new w _ _ _ _ _ _ _) rfl rfl) rfl ⟨rfl, (Below.refl _ w).alloc (Nat.le_refl _) _⟩

set_option maxRecDepth 100000 in
set_option maxHeartbeats 1000000 in
theorem parse_other (M s : ByteArray) (w : World) (hM : M.data.toList ≠ connectL) (hs : s.size ≤ 4194304) (h7 : 7 ≤ s.size) (h47 : s.data.toList.head? ≠ some 47) (hh : alike (s.data.toList.take 7) httpL = false) :
    Calls Tryz.prog 82 #[.string M, .string s] w fun e w' => e = .returned (tgOut ({}, 60)) ∧ Below w.heap.size w w' := by
  have bM : (M.toList == [67, 79, 78, 78, 69, 67, 84]) = false := by rw [Lib.toList_data, beq_eq_false_iff_ne]; exact hM
  have b42 : ¬ s.toList = [42] := by rw [Lib.toList_data]; intro e; have := congrArg List.length e; rw [size_list] at this; simp at this; omega
  have HP := fun w => Lib.hid (Tryz.strings_HasPrefix s ⟨#[47]⟩ w)
  rw [show (ByteArray.mk #[47]).data.toList = [47] from rfl, slash_prefix, decide_eq_false h47] at HP
  have h7' : (7 : Int) ≤ (s.size : Int) := by omega
  have AL := fun w => Lib.hid (alike_c (s.extract 0 7) ⟨#[104, 116, 116, 112, 58, 47, 47]⟩ w (by rw [ByteArray.size_extract]; omega) (by decide))
  rw [show (s.extract 0 7).data.toList = s.data.toList.take 7 from by rw [Lib.extract_data]; simp, show (ByteArray.mk #[104, 116, 116, 112, 58, 47, 47]).data.toList = httpL from rfl, hh] at AL
  clear h47 hM hh
  go_enter Tryz.func82, Tryz.ntmps82
  go_wp2_with (go_at_call 62; refine (HP _).out.mono ?_; rintro e w' ⟨rfl, hw⟩; rw [hw])
  refine (AL _).out.mono ?_
  rintro e w1 ⟨rfl, hb1⟩
  have B := Lib.hid (show Below w.heap.size w w1 from ((Below.refl _ w).alloc (Nat.le_refl _) _).trans (hb1.mono (by simp)))
  have BX := Lib.hid ((box6_new w _ _ _ _ _ _ _).below hb1)
  obtain ⟨c0, c1, c2, c3, c4, c5, fz⟩ := BX.out
  have f0 := fz 0
  have f1 := fz 1
  have f2 := fz 2
  have f3 := fz 3
  have f4 := fz 4
  have f5 := fz 5
  clear fz
  clear hb1
  go_wp2
  (try simp only [Exit.inBlock, Exit.then]); refine bodyPost_ret (ret_parse (Box6.stored BX.out _ _ _ _ _ _) rfl rfl) rfl ?_
  refine ⟨rfl, ?_⟩
  repeat refine Below.setCell ?_ (by simp) _
  exact B.out

set_option maxRecDepth 100000 in
set_option maxHeartbeats 4000000 in
theorem parse_abs (M s : ByteArray) (m : Int) (w : World) (hM : M.data.toList ≠ connectL) (hs : s.size ≤ 4194000) (h7 : 7 ≤ s.size) (h47 : s.data.toList.head? ≠ some 47) (hh : alike (s.data.toList.take 7) httpL = true) (hm : w.cell? ⟨0, 0, none⟩ = some (.int .i64 m)) :
    Calls Tryz.prog 82 #[.string M, .string s] w fun e w' => e = .returned (tgOut (absT (s.data.toList.drop 7))) ∧ Below w.heap.size w w' := by
  have bM : (M.toList == [67, 79, 78, 78, 69, 67, 84]) = false := by rw [Lib.toList_data, beq_eq_false_iff_ne]; exact hM
  have b42 : ¬ s.toList = [42] := by rw [Lib.toList_data]; intro e; have := congrArg List.length e; rw [size_list] at this; simp at this; omega
  have HP := fun w => Lib.hid (Tryz.strings_HasPrefix s ⟨#[47]⟩ w)
  rw [show (ByteArray.mk #[47]).data.toList = [47] from rfl, slash_prefix, decide_eq_false h47] at HP
  have h7' : (7 : Int) ≤ (s.size : Int) := by omega
  have AL := fun w => Lib.hid (alike_c (s.extract 0 7) ⟨#[104, 116, 116, 112, 58, 47, 47]⟩ w (by rw [ByteArray.size_extract]; omega) (by decide))
  rw [show (s.extract 0 7).data.toList = s.data.toList.take 7 from by rw [Lib.extract_data]; simp, show (ByteArray.mk #[104, 116, 116, 112, 58, 47, 47]).data.toList = httpL from rfl, hh] at AL
  have HM := Lib.hid hm
  rw [show s.data.toList.drop 7 = (s.extract 7 s.size).data.toList from (Lib.extract_to_end s 7).symm]
  have hT : (s.extract 7 s.size).size ≤ 4194000 := by rw [ByteArray.size_extract]; omega
  obtain ⟨T, hTE⟩ : ∃ T, s.extract 7 s.size = T := ⟨_, rfl⟩
  rw [hTE] at hT ⊢
  have HTE := Lib.hid hTE
  generalize ho : absT T.data.toList = out
  have HO := Lib.hid ho
  have IX := fun w => Lib.hid (ixany_c T w (by omega))
  clear h47 hM hh hm hTE ho
  go_enter Tryz.func82, Tryz.ntmps82
  go_wp2_with (go_at_call 62; refine (HP _).out.mono ?_; rintro e w' ⟨rfl, hw⟩; rw [hw])
  refine (AL _).out.mono ?_
  rintro e w1 ⟨rfl, hb1⟩
  have B1 := Lib.hid (show Below w.heap.size w w1 from ((Below.refl _ w).alloc (Nat.le_refl _) _).trans (hb1.mono (by simp)))
  have BX1 := Lib.hid ((box6_new w _ _ _ _ _ _ _).below hb1)
  clear hb1 HP AL
  go_wp2_with fail
  rw [HTE.out]
  clear b42
  refine (IX _).out.mono ?_
  rintro e w2 ⟨rfl, hb2⟩
  have B2 := Lib.hid (below_then B1.out hb2)
  have BX2 := Lib.hid (BX1.out.below hb2)
  have M2 := Lib.hid (cell_below B2.out HM.out)
  clear hb2 IX
  have hge := Lib.indexAny_ge [47, 63] T.data.toList
  have hlt := indexAny_lt [47, 63] T.data.toList
  have hen : endT T.data.toList = if Lib.indexAny T.data.toList [47, 63] < 0 then T.data.toList.length else (Lib.indexAny T.data.toList [47, 63]).toNat := rfl
  rw [size_list] at hlt hen
  generalize Lib.indexAny T.data.toList [47, 63] = E at *
  by_cases hE : E = -1
  · subst hE
    have hj : endT T.data.toList = T.size := by rw [hen, if_pos (by decide)]
    clear hen hge hlt
    have e7 : T.data.toList = T.data.toList.take T.size := (List.take_of_length_le (by rw [size_list]; exact Nat.le_refl _)).symm
    have er : T.data.toList.drop T.size = [] := List.drop_eq_nil_of_le (by rw [size_list]; exact Nat.le_refl _)
    have hab := absT_at hj
    rw [← e7, er, if_neg (by simp)] at hab
    have AU := fun w hm => Lib.hid (auth_c T m w (by omega) hm)
    have HP2 := fun w => Lib.hid (Tryz.strings_HasPrefix ByteArray.empty ⟨#[47]⟩ w)
    rw [show Lib.hasPrefix ByteArray.empty.data.toList (ByteArray.mk #[47]).data.toList = false from rfl] at HP2
    cases ha : authB T.data.toList with
    | none =>
      rw [ha] at AU hab
      simp only at hab
      obtain rfl : out = ({}, 61) := HO.out.symm.trans hab
      simp only [authVal] at AU
      clear hj hab e7 er ha HP2
      go_wp2_with fail
      refine (AU _ M2.out).out.mono ?_
      rintro e w3 ⟨rfl, hb3⟩
      have B := Lib.hid (below_then B2.out hb3)
      have BX := Lib.hid (BX2.out.below hb3)
      obtain ⟨c0, c1, c2, c3, c4, c5, fz⟩ := BX.out
      have f0 := fz 0
      have f1 := fz 1
      have f2 := fz 2
      have f3 := fz 3
      have f4 := fz 4
      have f5 := fz 5
      clear fz
      clear hb3
      go_wp2
      (try simp only [Exit.inBlock, Exit.then]); refine bodyPost_ret (ret_parse (Box6.stored BX.out _ _ _ _ _ _) rfl rfl) rfl ?_
      refine ⟨rfl, ?_⟩
      repeat refine Below.setCell ?_ (by simp) _
      exact B.out
    | some x =>
      obtain ⟨h, p⟩ := x
      rw [ha] at AU hab
      simp only at hab
      simp only [authVal] at AU
      have HOUT := Lib.hid (HO.out.symm.trans hab)
      have LC := fun w hm => Lib.hid (local_c 2 p (bs h) ⟨#[47]⟩ m w (by decide) hm)
      rw [show (bs h).data.toList = h from rfl, show (ByteArray.mk #[47]).data.toList = [47] from rfl, ← HOUT.out] at LC
      have hemp : (ByteArray.mk #[47] ++ ByteArray.empty) = ByteArray.mk #[47] := rfl
      have HEMP := Lib.hid hemp
      obtain ⟨t, n⟩ := out
      simp only [tgOut, tgVal] at LC
      clear hj hab e7 er ha hemp
      go_wp2_with fail
      refine (AU _ M2.out).out.mono ?_
      rintro e w3 ⟨rfl, hb3⟩
      have B3 := Lib.hid (below_then B2.out hb3)
      have BX3 := Lib.hid (BX2.out.below hb3)
      have M3 := Lib.hid (cell_below hb3 M2.out)
      clear hb3
      go_wp2_with (go_at_call 62; refine (HP2 _).out.mono ?_; rintro e w' ⟨rfl, hw⟩; rw [hw])
      try rw [HEMP.out]
      refine (LC _ M3.out).out.mono ?_
      rintro e w4 ⟨rfl, hb4⟩
      have B := Lib.hid (below_then B3.out hb4)
      have BX := Lib.hid (BX3.out.below hb4)
      obtain ⟨c0, c1, c2, c3, c4, c5, fz⟩ := BX.out
      have f0 := fz 0
      have f1 := fz 1
      have f2 := fz 2
      have f3 := fz 3
      have f4 := fz 4
      have f5 := fz 5
      clear fz
      clear hb4
      go_wp2
      (try simp only [Exit.inBlock, Exit.then]); refine bodyPost_ret (ret_parse (Box6.stored BX.out _ _ _ _ _ _) rfl rfl) rfl ?_
      refine ⟨rfl, ?_⟩
      repeat refine Below.setCell ?_ (by simp) _
      exact B.out
  · obtain ⟨k, rfl⟩ : ∃ k : Nat, E = k := ⟨E.toNat, by omega⟩
    have hj : endT T.data.toList = k := by rw [hen, if_neg (by omega)]; simp
    have hk0 : (0 : Int) ≤ (k : Int) := by omega
    have hk : k ≤ T.size := by omega
    have hk1 : (k : Int) ≤ (T.size : Int) := by omega
    clear hen hge hlt hE
    have e7 : (T.extract 0 k).data.toList = T.data.toList.take k := by rw [Lib.extract_data]; simp
    have er : (T.extract k T.size).data.toList = T.data.toList.drop k := Lib.extract_to_end T k
    have hab := absT_at hj
    rw [← e7, ← er] at hab
    have AU := fun w hm => Lib.hid (auth_c (T.extract 0 k) m w (by rw [ByteArray.size_extract]; omega) hm)
    have HP2 := fun w => Lib.hid (Tryz.strings_HasPrefix (T.extract k T.size) ⟨#[47]⟩ w)
    rw [show (ByteArray.mk #[47]).data.toList = [47] from rfl, slash_prefix] at HP2
    cases ha : authB (T.extract 0 k).data.toList with
    | none =>
      rw [ha] at AU hab
      simp only at hab
      obtain rfl : out = ({}, 61) := HO.out.symm.trans hab
      simp only [authVal] at AU
      clear hj hab e7 er ha HP2
      go_wp2_with fail
      refine (AU _ M2.out).out.mono ?_
      rintro e w3 ⟨rfl, hb3⟩
      have B := Lib.hid (below_then B2.out hb3)
      have BX := Lib.hid (BX2.out.below hb3)
      obtain ⟨c0, c1, c2, c3, c4, c5, fz⟩ := BX.out
      have f0 := fz 0
      have f1 := fz 1
      have f2 := fz 2
      have f3 := fz 3
      have f4 := fz 4
      have f5 := fz 5
      clear fz
      clear hb3
      go_wp2
      (try simp only [Exit.inBlock, Exit.then]); refine bodyPost_ret (ret_parse (Box6.stored BX.out _ _ _ _ _ _) rfl rfl) rfl ?_
      refine ⟨rfl, ?_⟩
      repeat refine Below.setCell ?_ (by simp) _
      exact B.out
    | some x =>
      obtain ⟨h, p⟩ := x
      rw [ha] at AU hab
      simp only at hab
      simp only [authVal] at AU
      have hrs : (T.extract k T.size).size ≤ 4194000 := by rw [ByteArray.size_extract]; omega
      by_cases hs47 : (T.extract k T.size).data.toList.head? = some 47
      · rw [if_pos hs47] at hab
        rw [decide_eq_true hs47] at HP2
        have HOUT := Lib.hid (HO.out.symm.trans hab)
        have LC := fun w hm => Lib.hid (local_c 2 p (bs h) (T.extract k T.size) m w (by omega) hm)
        rw [show (bs h).data.toList = h from rfl, ← HOUT.out] at LC
        obtain ⟨t, n⟩ := out
        simp only [tgOut, tgVal] at LC
        clear hj hab e7 er ha hs47
        go_wp2_with fail
        refine (AU _ M2.out).out.mono ?_
        rintro e w3 ⟨rfl, hb3⟩
        have B3 := Lib.hid (below_then B2.out hb3)
        have BX3 := Lib.hid (BX2.out.below hb3)
        have M3 := Lib.hid (cell_below hb3 M2.out)
        clear hb3
        go_wp2_with (go_at_call 62; refine (HP2 _).out.mono ?_; rintro e w' ⟨rfl, hw⟩; rw [hw])
        refine (LC _ M3.out).out.mono ?_
        rintro e w4 ⟨rfl, hb4⟩
        have B := Lib.hid (below_then B3.out hb4)
        have BX := Lib.hid (BX3.out.below hb4)
        obtain ⟨c0, c1, c2, c3, c4, c5, fz⟩ := BX.out
        have f0 := fz 0
        have f1 := fz 1
        have f2 := fz 2
        have f3 := fz 3
        have f4 := fz 4
        have f5 := fz 5
        clear fz
        clear hb4
        go_wp2
        (try simp only [Exit.inBlock, Exit.then]); refine bodyPost_ret (ret_parse (Box6.stored BX.out _ _ _ _ _ _) rfl rfl) rfl ?_
        refine ⟨rfl, ?_⟩
        repeat refine Below.setCell ?_ (by simp) _
        exact B.out
      · rw [if_neg hs47] at hab
        rw [decide_eq_false hs47] at HP2
        have HOUT := Lib.hid (HO.out.symm.trans hab)
        have LC := fun w hm => Lib.hid (local_c 2 p (bs h) (⟨#[47]⟩ ++ T.extract k T.size) m w (by rw [ByteArray.size_append]; show 1 + _ ≤ _; omega) hm)
        rw [show (bs h).data.toList = h from rfl, show ((⟨#[47]⟩ : ByteArray) ++ T.extract k T.size).data.toList = 47 :: (T.extract k T.size).data.toList from by rw [ByteArray.data_append, Array.toList_append]; rfl, ← HOUT.out] at LC
        have hcat : (ByteArray.mk #[47]).size + (T.extract k T.size).size ≤ 4194304 := by show 1 + _ ≤ _; omega
        obtain ⟨t, n⟩ := out
        simp only [tgOut, tgVal] at LC
        clear hj hab e7 er ha hs47
        go_wp2_with fail
        refine (AU _ M2.out).out.mono ?_
        rintro e w3 ⟨rfl, hb3⟩
        have B3 := Lib.hid (below_then B2.out hb3)
        have BX3 := Lib.hid (BX2.out.below hb3)
        have M3 := Lib.hid (cell_below hb3 M2.out)
        clear hb3
        go_wp2_with (go_at_call 62; refine (HP2 _).out.mono ?_; rintro e w' ⟨rfl, hw⟩; rw [hw])
        refine (LC _ M3.out).out.mono ?_
        rintro e w4 ⟨rfl, hb4⟩
        have B := Lib.hid (below_then B3.out hb4)
        have BX := Lib.hid (BX3.out.below hb4)
        obtain ⟨c0, c1, c2, c3, c4, c5, fz⟩ := BX.out
        have f0 := fz 0
        have f1 := fz 1
        have f2 := fz 2
        have f3 := fz 3
        have f4 := fz 4
        have f5 := fz 5
        clear fz
        clear hb4
        go_wp2
        (try simp only [Exit.inBlock, Exit.then]); refine bodyPost_ret (ret_parse (Box6.stored BX.out _ _ _ _ _ _) rfl rfl) rfl ?_
        refine ⟨rfl, ?_⟩
        repeat refine Below.setCell ?_ (by simp) _
        exact B.out
end Go.Proofs.YtgmjkkiahanekaaGreatDoor

