/- The texts FldH, FrmB, FrmC in one. -/
import Derived.Test.YtgmjkkiahanekaaDoorM6
import Derived.Test.YtgmjkkiahanekaaDoorM1
import Derived.Outline
/- The contracts of fields.Has and Strip and of the document's One and Strip, for every list of fields. -/
set_option linter.unusedVariables false
set_option linter.unusedSimpArgs false
namespace Go.Proofs.YtgmjkkiahanekaaDoor
open Go.RowKit Lex

theorem has1_c (x el : ByteArray) (B : Nat) (w : World) (hx : x.size ≤ 9223372036854775807) (hel : el.size ≤ 9223372036854775807) (hc : w.cell? ⟨B, 0, none⟩ = some (.string el)) :
    Calls Tryd.prog 49 #[.string x, .pointer (some ⟨B, 0, none⟩)] w fun e w' => e = .returned (.bool (alike x.data.toList el.data.toList)) ∧ Below w.heap.size w w' := by
  have AL := fun w => Lib.hid (alike_c x el w hx hel)
  go_enter Tryd.func49, Tryd.ntmps49
  go_wp2_with (go_at_call 45; refine (AL _).out.mono ?_; rintro e w1 ⟨rfl, hb⟩)
  go_ret
  exact ⟨rfl, hb⟩

/-- A number that is not below nought just if something is there. -/
def IdxOf (b : Bool) (w : World) (e : Ending) (w' : World) : Prop := ∃ r : Int, e = .returned (.int .i64 r) ∧ decide (0 ≤ r) = b ∧ Below w.heap.size w w'

set_option maxRecDepth 100000 in
set_option maxHeartbeats 4000000 in
theorem indexFunc_c (A : Option Addr) (cap : Nat) (l : List (List UInt8)) (el : ByteArray) (B : Nat) (w : World) (hl : l.length ≤ 140737488351232) (hm : ∀ x ∈ l, x.length ≤ 140737488351232) (hel : el.size ≤ 140737488351232) (hc : w.cell? ⟨B, 0, none⟩ = some (.string el)) (hT : Texts w A l) :
    Calls Tryd.prog 63 #[.slice A l.length cap, .func (.func 49) #[] #[.pointer (some ⟨B, 0, none⟩)]] w (IdxOf (l.any fun x => alike x el.data.toList) w) := by
  have HT := Lib.hid hT
  have HM := Lib.hid hm
  have HC := Lib.hid hc
  clear hT hm hc
  go_enter Tryd.func63, Tryd.ntmps63
  go_wp2
  go_loopw [5, 8] (fun _ i wr => ∃ k : Nat, k ≤ l.length ∧ i = .int .i64 k ∧ (l.take k).any (fun x => alike x el.data.toList) = false ∧ Below w.heap.size w wr) (fun _ i _ => l.length - (intOf i).toNat)
  case atStart => exact ⟨0, Nat.zero_le _, rfl, by simp, Below.refl _ _⟩
  case round =>
    obtain ⟨k, hk, rfl, ha, hB⟩ := hrel
    have HA := Lib.hid ha
    clear ha
    by_cases hlt : k < l.length
    · obtain ⟨g, hA, c1⟩ := HT.out.below hB k hlt
      subst hA
      have AL := fun (w' : World) h => Lib.hid (has1_c (bs l[k]) el B w' (Nat.le_trans (HM.out _ (List.getElem_mem hlt)) (by decide)) (by omega) h)
      rw [bs_list] at AL
      have hcb := held1 hB HC.out
      have k0 : (0 : Int) ≤ (k : Int) := by omega
      have k1 : (k : Int) < (l.length : Int) := by omega
      cases hal : alike l[k] el.data.toList with
      | true =>
        have HY := Lib.hid (any_at (p := fun x => alike x el.data.toList) hlt hal)
        rw [hal] at AL
        clear hal
        go_wp2_with fail
        refine (AL _ (by exact hcb)).out.mono ?_
        rintro e w2 ⟨rfl, hb2⟩
        have HB2 := Lib.hid (below_then hB hb2)
        clear hb2 hcb c1
        go_wp2
        go_ret
        exact ⟨_, rfl, by rw [HY.out]; simp, HB2.out⟩
      | false =>
        have HN := Lib.hid (any_take_false (p := fun x => alike x el.data.toList) hlt HA.out hal)
        rw [hal] at AL
        clear hal
        go_wp2_with fail
        refine (AL _ (by exact hcb)).out.mono ?_
        rintro e w2 ⟨rfl, hb2⟩
        have HB2 := Lib.hid (below_then hB hb2)
        clear hb2 hcb c1
        go_wp2
        go_roundw
        case rel => exact ⟨k + 1, by omega, by go_num, HN.out, HB2.out⟩
        case measure => simp [intOf]; omega
    · obtain rfl : k = l.length := by omega
      have ha := HA.out
      rw [List.take_length] at ha
      have HA2 := Lib.hid ha
      clear ha
      go_wp2
      go_ret
      exact ⟨_, rfl, by rw [HA2.out]; rfl, hB⟩

theorem containsFunc_c (A : Option Addr) (cap : Nat) (l : List (List UInt8)) (el : ByteArray) (B : Nat) (w : World) (hl : l.length ≤ 140737488351232) (hm : ∀ x ∈ l, x.length ≤ 140737488351232) (hel : el.size ≤ 140737488351232) (hc : w.cell? ⟨B, 0, none⟩ = some (.string el)) (hT : Texts w A l) :
    Calls Tryd.prog 48 #[.slice A l.length cap, .func (.func 49) #[] #[.pointer (some ⟨B, 0, none⟩)]] w fun e w' => e = .returned (.bool (l.any fun x => alike x el.data.toList)) ∧ Below w.heap.size w w' := by
  have IX := fun (w' : World) hc hT => Lib.hid (indexFunc_c A cap l el B w' hl hm hel hc hT)
  generalize (l.any fun x => alike x el.data.toList) = b at *
  have HT := Lib.hid hT
  clear hT
  go_enter Tryd.func48, Tryd.ntmps48
  go_wp2_with fail
  refine (IX _ hc HT.out).out.mono ?_
  rintro e w1 ⟨r, rfl, hr, hb⟩
  have HR := Lib.hid hr
  clear hr
  go_wp2
  go_ret
  exact ⟨ret_bool HR.out, hb⟩

set_option maxRecDepth 100000 in
set_option maxHeartbeats 4000000 in
theorem hasf_c (A : Option Addr) (cap : Nat) (fs : List Fd) (name el : ByteArray) (m : Int) (w : World) (hnm : name.size ≤ 140737488351232) (hel : el.size ≤ 140737488351232) (hB : FB fs) (hF : Flds w A fs) (hm : w.cell? ⟨0, 0, none⟩ = some (.int .i64 m)) :
    Calls Tryd.prog 35 #[.slice A fs.length cap, .string name, .string el] w fun e w' => e = .returned (.bool (hasF fs name.data.toList el.data.toList)) ∧ Below w.heap.size w w' := by
  have EL := fun w h h2 => Lib.hid (elementsf_c A cap fs name m w hnm hB.len (fun f hf => Nat.le_trans (hB.nm f hf) (by decide)) (fun f hf => hB.vl f hf) h h2)
  have hmem := fun x h => elementsF_mem (name := name.data.toList) (x := x) hB h
  have hlen := elementsF_length hB fs.length name.data.toList
  rw [List.take_length] at hlen
  unfold hasF
  generalize elementsF fs name.data.toList = l at *
  have CF := fun (w' : World) a c hc hT => Lib.hid (containsFunc_c a c l el w.heap.size w' (by omega) (fun x hx => Nat.le_trans (hmem x hx) (by decide)) hel hc hT)
  have HF := Lib.hid hF
  have HM := Lib.hid hm
  clear hmem hB hF hm
  go_enter Tryd.func35, Tryd.ntmps35
  go_wp2_with fail
  refine (EL _ (by exact HF.out.below ((Below.refl _ _).alloc (Nat.le_refl _) _)) (by exact held1 ((Below.refl _ _).alloc (Nat.le_refl _) _) HM.out)).out.mono ?_
  rintro e w1 ⟨v, rfl, hown, hb⟩
  obtain ⟨a, c, rfl⟩ := own_slice' hown
  have HT := Lib.hid (texts_of hown)
  have HCC := Lib.hid (held1 hb (show (w.alloc (.cells #[.string el] 9)).cell? ⟨w.heap.size, 0, none⟩ = some (.string el) by rw [World.cell?_alloc_new]; rfl))
  have HBB := Lib.hid (belowA hb)
  clear hown hb
  go_wp2_with fail
  refine (CF _ _ _ HCC.out HT.out).out.mono ?_
  rintro e w2 ⟨rfl, hb2⟩
  go_wp2
  go_ret
  exact ⟨rfl, below_then HBB.out hb2⟩
end Go.Proofs.YtgmjkkiahanekaaDoor

/- The contracts of frame.has, frame.length, frame.coding over every head. -/
set_option linter.unusedVariables false
set_option linter.unusedSimpArgs false
namespace Go.Proofs.YtgmjkkiahanekaaDoor
open Go.RowKit Lex

/-- A head, as a value. -/
def hv (m t : ByteArray) (s : Int) (r : ByteArray) (mi : Int) (A : Option Addr) (n c : Nat) : Value := .agg #[.string m, .string t, .int .i64 s, .string r, .int .i64 mi, .slice A n c]

set_option maxRecDepth 100000 in
set_option maxHeartbeats 1000000 in
theorem has_c (m t : ByteArray) (s : Int) (r : ByteArray) (mi : Int) (A : Option Addr) (cap : Nat) (fs : List Fd) (name : ByteArray) (w : World) (hnm : name.size ≤ 140737488351232) (hB : FB fs) (hF : Flds w A fs) :
    Calls Tryd.prog 32 #[hv m t s r mi A fs.length cap, .string name] w fun e w' => e = .returned (.bool (decide (0 < (getF fs name.data.toList).2))) ∧ Below w.heap.size w w' := by
  have G := fun w h => Lib.hid (get_c A cap fs name w hnm (by have := hB.len; omega) (fun f hf => by have := hB.nm f hf; omega) (fun f hf => by have := hB.vl f hf; omega) h)
  have HF := Lib.hid (hF.below ((Below.refl _ w).alloc (Nat.le_refl _) (.cells #[.string m, .string t, .int .i64 s, .string r, .int .i64 mi, .slice A fs.length cap] 39)))
  clear hF hB
  generalize getF fs name.data.toList = g at *
  obtain ⟨v, n⟩ := g
  simp only at G ⊢
  unfold hv
  go_enter Tryd.func32, Tryd.ntmps32
  go_wp2_with fail
  refine (G _ HF.out).out.mono ?_
  rintro e w1 ⟨rfl, hb⟩
  have hB1 := Lib.hid (belowA hb)
  clear hb
  go_wp2
  go_ret
  exact ⟨by first | rfl | (apply ret_bool; rw [Bool.eq_iff_iff, decide_eq_true_eq, decide_eq_true_eq]; omega), hB1.out⟩

def lenVal : Option (Option Int) → Value
  | none => .tuple #[.int .i64 0, .bool false]
  | some st => .tuple #[.int .i64 (st.getD 0), .bool true]
/-- What is known in the midst of the lengths. -/
structure LenAt (fs : List Fd) (st : Option Int) (R : List (List UInt8)) : Prop where
  eq : lengthF fs = lenGo st R
theorem LenAt.bad {fs : List Fd} {st : Option Int} {p : List UInt8} {R : List (List UInt8)} (h : LenAt fs st (p :: R)) {n : Int} (hd : decimal (trim p) 15 = (n, false)) : lengthF fs = none := by
  rw [h.eq, lenGo_cons_bad (by unfold partN; rw [hd]; rfl)]
theorem LenAt.ok {fs : List Fd} {st : Option Int} {p : List UInt8} {R : List (List UInt8)} (h : LenAt fs st (p :: R)) {n : Int} (hd : decimal (trim p) 15 = (n, true)) (hs : st = none ∨ st = some n) : LenAt fs (some n) R :=
  ⟨by rw [h.eq, lenGo_cons_ok (by unfold partN; rw [hd]; rfl) hs]⟩
theorem LenAt.ne {fs : List Fd} {st : Option Int} {p : List UInt8} {R : List (List UInt8)} (h : LenAt fs st (p :: R)) {n : Int} (hd : decimal (trim p) 15 = (n, true)) (hs : ¬ (st = none ∨ st = some n)) : lengthF fs = none := by
  rw [h.eq, lenGo_cons_ne (by unfold partN; rw [hd]; rfl) hs]

set_option maxRecDepth 100000 in
set_option maxHeartbeats 4000000 in
theorem length_c (m t : ByteArray) (s : Int) (r : ByteArray) (mi : Int) (A : Option Addr) (cap : Nat) (fs : List Fd) (M : Int) (w : World) (hB : FB fs) (hF : Flds w A fs) (hm : w.cell? ⟨0, 0, none⟩ = some (.int .i64 M)) :
    Calls Tryd.prog 34 #[hv m t s r mi A fs.length cap] w fun e w' => e = .returned (lenVal (lengthF fs)) ∧ Below w.heap.size w w' := by
  generalize hv0 : lenVal (lengthF fs) = out
  have HOUT := Lib.hid hv0
  have HF := Lib.hid hF
  have HM := Lib.hid hm
  have HBB := Lib.hid hB
  have hl := hB.len
  clear hF hB hm hv0
  unfold hv
  go_enter Tryd.func34, Tryd.ntmps34
  go_wp2
  go_loopw [4, 5, 7, 9, 10, 11, 15, 27] (fun num fi _ _ _ _ i _ wr => ∃ (k : Nat) (st : Option Int), k ≤ fs.length ∧ i = .int .i64 k ∧ num = .int .i64 (st.getD 0) ∧ fi = .bool st.isNone ∧ LenAt fs st (partsF (fs.drop k)) ∧ Below w.heap.size w wr) (fun _ _ _ _ _ _ i _ _ => fs.length - (intOf i).toNat)
  case atStart => exact ⟨0, none, Nat.zero_le _, rfl, rfl, rfl, ⟨rfl⟩, (Below.refl _ w).alloc (Nat.le_refl _) _⟩
  case round =>
    obtain ⟨k, st, hk, rfl, rfl, rfl, hL, hB⟩ := hrel
    have HL := Lib.hid hL
    clear hL
    by_cases hlt : k < fs.length
    · obtain ⟨g, o, hA, c1, c2⟩ := HF.out.below hB k hlt
      subst hA
      have hg := World.block_lt_of_cell? wr _ c1
      have hn1 := HBB.out.nm _ (List.getElem_mem hlt)
      have hn2 := HBB.out.vl _ (List.getElem_mem hlt)
      have AL := fun w => Lib.hid (alike_c (bs fs[k].1) ⟨#[67, 111, 110, 116, 101, 110, 116, 45, 76, 101, 110, 103, 116, 104]⟩ w (by rw [bs_size]; omega) (by decide))
      have SP := fun w hm => Lib.hid (split_c (bs fs[k].2) 44 M w (by rw [bs_size]; omega) hm)
      have hpl := pieces_length 44 fs[k].2
      have hpm := pieces_mem 44 fs[k].2
      have hdr := HL.out
      rw [show partsF (fs.drop k) = _ from partsF_drop fs k hlt] at hdr
      rw [bs_list] at AL SP
      rw [show (ByteArray.mk #[67, 111, 110, 116, 101, 110, 116, 45, 76, 101, 110, 103, 116, 104]).data.toList = clenU from rfl, alike_low clen_low] at AL
      obtain ⟨f, hf⟩ : ∃ f, fs[k] = f := ⟨_, rfl⟩
      rw [hf] at c1 c2 AL SP hpl hpm hdr hn1 hn2
      clear hf
      cases hal : alike f.1 clenL with
      | false =>
        rw [hal] at AL hdr
        have HN := Lib.hid (show LenAt fs st (partsF (fs.drop (k + 1))) by simpa using hdr)
        clear hal hdr hpm hpl SP
        go_wp2_with (go_at_call 45; refine (AL _).out.mono ?_; rintro e w1 ⟨rfl, hb⟩)
        go_roundw
        case rel => exact ⟨k + 1, st, by omega, by go_num, rfl, rfl, HN.out, below_then hB (belowA hb)⟩
        case measure => simp [intOf]; omega
      | true =>
        rw [hal, if_pos rfl] at hdr
        rw [hal] at AL
        have HD := Lib.hid hdr
        have HPM := Lib.hid hpm
        clear hal hdr hpm
        generalize pieces 44 f.2 = ps at *
        go_wp2_with fail
        refine (AL _).out.mono ?_
        rintro e w1 ⟨rfl, hb⟩
        have d2 := held1 hb (cell_second wr (.string (bs f.1)) (.string (bs f.2)) 79)
        have HB1 := Lib.hid (below_then hB (belowA hb))
        clear hb c1 c2 hB
        go_wp2_with fail
        refine (SP _ (held1 HB1.out HM.out)).out.mono ?_
        rintro e w2 ⟨rfl, hw2⟩
        rw [hw2]
        clear hw2
        have HB2 := Lib.hid (HB1.out.alloc HB1.out.size (.cells (strs ps).toArray 9))
        have HBL := Lib.hid (heap_alloc_new w1 (.cells (strs ps).toArray 9))
        clear d2
        go_wp2
        go_loopw [4, 5, 9, 10, 11, 27] (fun num fi _ _ _ j wr => ∃ (q : Nat) (st : Option Int), q ≤ ps.length ∧ j = .int .i64 q ∧ num = .int .i64 (st.getD 0) ∧ fi = .bool st.isNone ∧ LenAt fs st (ps.drop q ++ partsF (fs.drop (k + 1))) ∧ Below w.heap.size w wr ∧ wr.heap[w1.heap.size]? = some (.cells (strs ps).toArray 9 (0, 0))) (fun _ _ _ _ _ j _ => ps.length - (intOf j).toNat)
        case atStart => exact ⟨0, st, Nat.zero_le _, rfl, rfl, rfl, HD.out, HB2.out, HBL.out⟩
        case round =>
          obtain ⟨q, st2, hq, rfl, rfl, rfl, hL2, hB3, hbl⟩ := hrel
          have HL2 := Lib.hid hL2
          have HB3 := Lib.hid hB3
          have HBL2 := Lib.hid hbl
          clear hL2 hB3 hbl HL HD
          by_cases hlq : q < ps.length
          · have hc : wr.cell? ⟨w1.heap.size, q, none⟩ = some (.string (bs ps[q])) := by
              have := cell_of_row wr w1.heap.size q (strs ps).toArray 9 (0, 0) HBL2.out
              rw [this]
              simp [strs, hlq]
            have hxl := (HPM.out ps[q] (List.getElem_mem hlq)).1
            have hdc := HL2.out
            rw [drop_cons ps q hlq, List.cons_append] at hdc
            obtain ⟨x, hx⟩ : ∃ x, ps[q] = x := ⟨_, rfl⟩
            rw [hx] at hc hxl hdc
            have K := fun w => Lib.hid (trim_c (bs x) w (by show x.length ≤ _; omega))
            have D := fun w => Lib.hid (decimal_c (bs (trim x)) 15 w)
            rw [bs_list] at K D
            have hbad := fun n h => hdc.bad (n := n) h
            have hok := fun n h hs => hdc.ok (n := n) h hs
            have hne := fun n h hs => hdc.ne (n := n) h hs
            generalize hdv : decimal (trim x) 15 = dv at *
            obtain ⟨n, okb⟩ := dv
            simp only at D
            clear hx hdc
            cases okb with
            | false =>
              have HV := Lib.hid (show out = .tuple #[.int .i64 0, .bool false] by rw [← HOUT.out, hbad n rfl]; rfl)
              clear hbad hok hne hdv
              go_wp2_with fail
              refine (K _).out.mono ?_
              rintro e w3 ⟨rfl, hb3⟩
              go_wp2_with fail
              refine (D _).out.mono ?_
              rintro e w' ⟨rfl, rfl⟩
              go_wp2
              go_ret2
              exact ⟨by rw [HV.out]; rfl, below_then HB3.out hb3⟩
            | true =>
              by_cases hst : st2 = none ∨ st2 = some n
              · have HN := Lib.hid (hok n rfl hst)
                have HS2 : st2 = none ∨ (st2 = some n) := hst
                clear hbad hok hne hdv hst
                rcases HS2 with rfl | rfl
                all_goals
                  simp only [Option.isNone_none, Option.isNone_some, Option.getD_some, Option.getD_none]
                  go_wp2_with fail
                  refine (K _).out.mono ?_
                  rintro e w3 ⟨rfl, hb3⟩
                  have HB4 := Lib.hid (below_then HB3.out hb3)
                  have HBL4 := Lib.hid ((hb3.block w1.heap.size (by have := Array.getElem?_eq_some_iff.1 HBL2.out; exact this.1)).trans HBL2.out)
                  clear hb3
                  go_wp2_with fail
                  refine (D _).out.mono ?_
                  rintro e w' ⟨rfl, rfl⟩
                  go_wp2
                  go_roundw
                  case rel => exact ⟨q + 1, some n, by omega, by go_num, rfl, rfl, HN.out, HB4.out, HBL4.out⟩
                  case measure => simp [intOf]; omega
              · have HV := Lib.hid (show out = .tuple #[.int .i64 0, .bool false] by rw [← HOUT.out, hne n rfl hst]; rfl)
                obtain ⟨y, rfl⟩ : ∃ y, st2 = some y := by
                  cases st2 with
                  | none => exact absurd (.inl rfl) hst
                  | some y => exact ⟨y, rfl⟩
                have bn : (n != y) = true := by rw [bne_iff_ne]; rintro rfl; exact hst (.inr rfl)
                clear hbad hok hne hdv hst
                simp only [Option.isNone_some, Option.getD_some]
                go_wp2_with fail
                refine (K _).out.mono ?_
                rintro e w3 ⟨rfl, hb3⟩
                have HB4 := Lib.hid (below_then HB3.out hb3)
                clear hb3
                go_wp2_with fail
                refine (D _).out.mono ?_
                rintro e w' ⟨rfl, rfl⟩
                go_wp2
                go_ret2
                exact ⟨by rw [HV.out]; rfl, HB4.out⟩
          · have hdn : ps.drop q = [] := List.drop_eq_nil_of_le (by omega)
            have HN := Lib.hid (show LenAt fs st2 (partsF (fs.drop (k + 1))) by have h := HL2.out; rwa [hdn, List.nil_append] at h)
            clear hdn
            go_wp2
            go_roundw
            case rel => exact ⟨k + 1, st2, by omega, by go_num, rfl, rfl, HN.out, HB3.out⟩
            case measure => simp [intOf]; omega
    · have hd : fs.drop k = [] := List.drop_eq_nil_of_le (by omega)
      have HV := Lib.hid (show out = .tuple #[.int .i64 (st.getD 0), .bool true] by
        have h := HL.out.eq
        rw [hd, partsF_nil] at h
        rw [← HOUT.out, h]; rfl)
      clear hd
      go_wp2
      go_ret2
      exact ⟨by rw [HV.out]; rfl, hB⟩
end Go.Proofs.YtgmjkkiahanekaaDoor

/- The contract of frame.coding over every head. -/
set_option linter.unusedVariables false
set_option linter.unusedSimpArgs false
namespace Go.Proofs.YtgmjkkiahanekaaDoor
open Go.RowKit Lex

theorem elementsF_lowN {a b : List UInt8} (h : lower a = lower b) (l : List Fd) : elementsF l a = elementsF l b := by unfold elementsF; rw [valuesF_low h]
theorem code_not {l : List (List UInt8)} (h : countC l ≠ 1) : codeL l = 3 := by
  by_cases hl : l = []
  · subst hl; rfl
  · exact Classical.byContradiction fun h3 => h ((code_last hl).1 h3).1
def codeVal (c : Int) : Value := .tuple #[.bool (decide (c = 1)), .bool (decide (c ≠ 3))]
set_option maxRecDepth 100000 in
set_option maxHeartbeats 4000000 in
theorem coding_c (m t : ByteArray) (s : Int) (r : ByteArray) (mi : Int) (A : Option Addr) (cap : Nat) (fs : List Fd) (M : Int) (w : World) (hB : FB fs) (hF : Flds w A fs) (hm : w.cell? ⟨0, 0, none⟩ = some (.int .i64 M)) :
    Calls Tryd.prog 33 #[hv m t s r mi A fs.length cap] w fun e w' => e = .returned (codeVal (codeF fs)) ∧ Below w.heap.size w w' := by
  have EL := fun w h hm => Lib.hid (elementsf_c A cap fs ⟨#[84, 114, 97, 110, 115, 102, 101, 114, 45, 69, 110, 99, 111, 100, 105, 110, 103]⟩ M w (by decide) hB.len (fun f hf => Nat.le_trans (hB.nm f hf) (by decide)) (fun f hf => Nat.le_trans (hB.vl f hf) (by decide)) h hm)
  rw [show (ByteArray.mk #[84, 114, 97, 110, 115, 102, 101, 114, 45, 69, 110, 99, 111, 100, 105, 110, 103]).data.toList = tencU from rfl, elementsF_lowN tenc_low] at EL
  have hmem := fun x h => elementsF_mem (name := tencL) (x := x) hB h
  have HMM := Lib.hid hmem
  have hlen := elementsF_length hB fs.length tencL
  rw [List.take_length] at hlen
  have HF := Lib.hid (hF.below ((Below.refl _ w).alloc (Nat.le_refl _) (.cells #[.string m, .string t, .int .i64 s, .string r, .int .i64 mi, .slice A fs.length cap] 39)))
  have HM := Lib.hid (held1 ((Below.refl _ w).alloc (Nat.le_refl _) (.cells #[.string m, .string t, .int .i64 s, .string r, .int .i64 mi, .slice A fs.length cap] 39)) hm)
  unfold codeF
  clear hmem hB hF hm
  generalize elementsF fs tencL = l at *
  generalize hout : codeVal (codeL l) = out
  have HOUT := Lib.hid hout
  clear hout
  unfold hv
  go_enter Tryd.func33, Tryd.ntmps33
  go_wp2_with fail
  refine (EL _ HF.out HM.out).out.mono ?_
  rintro e w1 ⟨v, rfl, hown, hb⟩
  have HB1 := Lib.hid (belowA hb)
  obtain ⟨a, c, rfl⟩ := own_slice' hown
  have HT := Lib.hid (texts_of hown)
  clear hown hb
  go_wp2
  go_loopw [5, 7, 13] (fun n _ i wr => ∃ k : Nat, k ≤ l.length ∧ i = .int .i64 k ∧ n = .int .i64 (countC (l.take k)) ∧ Below w1.heap.size w1 wr) (fun _ _ i _ => l.length - (intOf i).toNat)
  case atStart => exact ⟨0, Nat.zero_le _, rfl, rfl, Below.refl _ _⟩
  case round =>
    obtain ⟨k, hk, rfl, rfl, hB⟩ := hrel
    have hcl : countC (l.take k) ≤ l.length := by
      unfold countC
      exact Nat.le_trans (List.length_filter_le _ _) (by rw [List.length_take]; omega)
    by_cases hlt : k < l.length
    · obtain ⟨g, hA, c1⟩ := HT.out.below hB k hlt
      subst hA
      have AL := fun w => Lib.hid (alike_c (bs l[k]) ⟨#[99, 104, 117, 110, 107, 101, 100]⟩ w (Nat.le_trans (HMM.out _ (List.getElem_mem hlt)) (by decide)) (by decide))
      rw [bs_list, show (ByteArray.mk #[99, 104, 117, 110, 107, 101, 100]).data.toList = chunkedL from rfl] at AL
      have HC := Lib.hid (countC_snoc l k hlt)
      have hchk : chk l[k] = alike l[k] chunkedL := rfl
      cases hal : alike l[k] chunkedL with
      | true =>
        have HC2 := Lib.hid (show countC (l.take (k + 1)) = countC (l.take k) + 1 by rw [HC.out, hchk, hal]; rfl)
        rw [hal] at AL
        clear hal hchk HC
        generalize countC (l.take k) = q at *
        go_wp2_with (go_at_call 45; refine (AL _).out.mono ?_; rintro e w2 ⟨rfl, hb2⟩)
        go_roundw
        case rel => exact ⟨k + 1, by omega, by go_num, by rw [HC2.out]; go_num, below_then hB hb2⟩
        case measure => simp [intOf]; omega
      | false =>
        have HC2 := Lib.hid (show countC (l.take (k + 1)) = countC (l.take k) by rw [HC.out, hchk, hal]; rfl)
        rw [hal] at AL
        clear hal hchk HC
        generalize countC (l.take k) = q at *
        go_wp2_with (go_at_call 45; refine (AL _).out.mono ?_; rintro e w2 ⟨rfl, hb2⟩)
        go_roundw
        case rel => exact ⟨k + 1, by omega, by go_num, by rw [HC2.out], below_then hB hb2⟩
        case measure => simp [intOf]; omega
    · obtain rfl : k = l.length := by omega
      rw [List.take_length] at hcl ⊢
      have HB2 := Lib.hid (below_then HB1.out hB)
      by_cases h1 : countC l = 1
      · have hl : l ≠ [] := by rintro rfl; cases h1
        have hpos : 0 < l.length := List.length_pos_iff.2 hl
        obtain ⟨g, hA, c1⟩ := HT.out.below hB (l.length - 1) (by omega)
        subst hA
        have hlast : l[l.length - 1] = l.getLast hl := (List.getLast_eq_getElem hl).symm
        have hcode := code_last hl
        have AL := fun w => Lib.hid (alike_c (bs l[l.length - 1]) ⟨#[99, 104, 117, 110, 107, 101, 100]⟩ w (Nat.le_trans (HMM.out _ (List.getElem_mem (by omega))) (by decide)) (by decide))
        rw [bs_list, show (ByteArray.mk #[99, 104, 117, 110, 107, 101, 100]).data.toList = chunkedL from rfl] at AL
        have hchk : chk (l.getLast hl) = alike l[l.length - 1] chunkedL := by rw [hlast]; rfl
        rw [hchk] at hcode
        rw [h1]
        have hp1 : (0 : Int) ≤ (l.length : Int) - 1 := by omega
        cases hal : alike l[l.length - 1] chunkedL with
        | true =>
          rw [hal] at AL hcode
          have h3 : codeL l ≠ 3 := hcode.2 ⟨h1, rfl⟩
          have ha := code_alone h3
          by_cases hl1 : l.length = 1
          · have HV := Lib.hid (show out = .tuple #[.bool true, .bool true] by rw [← HOUT.out]; unfold codeVal; rw [decide_eq_true (ha.2 hl1), decide_eq_true h3])
            have hlb : ((l.length : Int) == 1) = true := by rw [hl1]; rfl
            clear ha h3 hcode hal hchk hlast h1 hl1 HOUT
            go_wp2_with (go_at_call 45; refine (AL _).out.mono ?_; rintro e w2 ⟨rfl, hb2⟩)
            go_ret2
            exact ⟨by rw [HV.out]; rfl, below_then HB2.out hb2⟩
          · have HV := Lib.hid (show out = .tuple #[.bool false, .bool true] by rw [← HOUT.out]; unfold codeVal; rw [decide_eq_false (fun h => hl1 (ha.1 h)), decide_eq_true h3])
            have hlb : ((l.length : Int) == 1) = false := by rw [beq_eq_false_iff_ne]; omega
            clear ha h3 hcode hal hchk hlast h1 hl1 HOUT
            go_wp2_with (go_at_call 45; refine (AL _).out.mono ?_; rintro e w2 ⟨rfl, hb2⟩)
            go_ret2
            exact ⟨by rw [HV.out]; rfl, below_then HB2.out hb2⟩
        | false =>
          rw [hal] at AL hcode
          have h3 : codeL l = 3 := Classical.byContradiction fun h => by have := (hcode.1 h).2; cases this
          have HV := Lib.hid (show out = .tuple #[.bool false, .bool false] by rw [← HOUT.out, h3]; rfl)
          clear h3 hcode hal hchk hlast h1 HOUT
          go_wp2_with (go_at_call 45; refine (AL _).out.mono ?_; rintro e w2 ⟨rfl, hb2⟩)
          go_ret2
          exact ⟨by rw [HV.out]; rfl, below_then HB2.out hb2⟩
      · have HV := Lib.hid (show out = .tuple #[.bool false, .bool false] by rw [← HOUT.out, code_not h1]; rfl)
        have hb1 : ((countC l : Int) == 1) = false := by rw [beq_eq_false_iff_ne]; omega
        clear HOUT h1
        generalize countC l = q at *
        go_wp2
        go_ret2
        exact ⟨by rw [HV.out]; rfl, HB2.out⟩
end Go.Proofs.YtgmjkkiahanekaaDoor

