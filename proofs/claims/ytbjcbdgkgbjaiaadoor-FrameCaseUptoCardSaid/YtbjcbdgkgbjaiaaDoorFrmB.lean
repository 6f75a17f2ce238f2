/- The contracts of frame.has, frame.length, frame.coding over every head. -/
import Derived.Test.YtbjcbdgkgbjaiaaDoorFrmA
import Derived.Test.YtbjcbdgkgbjaiaaDoorFldH
import Derived.Test.YtbjcbdgkgbjaiaaDoorLexD
import Derived.Outline
set_option linter.unusedVariables false
set_option linter.unusedSimpArgs false
namespace Go.Proofs.YtbjcbdgkgbjaiaaDoor
open Go.RowKit Lex

/-- A head, as a value. -/
def hv (m t : ByteArray) (s : Int) (r : ByteArray) (mi : Int) (A : Option Addr) (n c : Nat) : Value := .agg #[.string m, .string t, .int .i64 s, .string r, .int .i64 mi, .slice A n c]

set_option maxRecDepth 100000 in
set_option maxHeartbeats 1000000 in
theorem has_c (m t : ByteArray) (s : Int) (r : ByteArray) (mi : Int) (A : Option Addr) (cap : Nat) (fs : List Fd) (name : ByteArray) (w : World) (hnm : name.size ≤ 140737488351232) (hB : FB fs) (hF : Flds w A fs) :
    Calls Tryd.prog 21 #[hv m t s r mi A fs.length cap, .string name] w fun e w' => e = .returned (.bool (decide (0 < (getF fs name.data.toList).2))) ∧ Below w.heap.size w w' := by
  have G := fun w h => Lib.hid (get_c A cap fs name w hnm (by have := hB.len; omega) (fun f hf => by have := hB.nm f hf; omega) (fun f hf => by have := hB.vl f hf; omega) h)
  have HF := Lib.hid (hF.below ((Below.refl _ w).alloc (Nat.le_refl _) (.cells #[.string m, .string t, .int .i64 s, .string r, .int .i64 mi, .slice A fs.length cap] 24)))
  clear hF hB
  generalize getF fs name.data.toList = g at *
  obtain ⟨v, n⟩ := g
  simp only at G ⊢
  unfold hv
  go_enter Tryd.func21, Tryd.ntmps21
  go_wp2_with fail
  refine (G _ HF.out).out.mono ?_
  rintro e w1 ⟨rfl, hb⟩
  have hB1 := Lib.hid (belowA hb)
  clear hb
  go_wp2
  go_ret
  exact ⟨by first | rfl | (apply ret_bool; rw [Bool.eq_iff_iff, decide_eq_true_eq, decide_eq_true_eq]; omega), hB1.out⟩

def lenVal : Option (Option Int) → Value
  | none => .tuple #[.int .i64 0, .bool false]
  | some st => .tuple #[.int .i64 (st.getD 0), .bool true]
/-- What is known in the midst of the lengths. -/
structure LenAt (fs : List Fd) (st : Option Int) (R : List (List UInt8)) : Prop where
  eq : lengthF fs = lenGo st R
theorem LenAt.bad {fs : List Fd} {st : Option Int} {p : List UInt8} {R : List (List UInt8)} (h : LenAt fs st (p :: R)) {n : Int} (hd : decimal (trim p) 15 = (n, false)) : lengthF fs = none := by
  rw [h.eq, lenGo_cons_bad (by unfold partN; rw [hd]; rfl)]
theorem LenAt.ok {fs : List Fd} {st : Option Int} {p : List UInt8} {R : List (List UInt8)} (h : LenAt fs st (p :: R)) {n : Int} (hd : decimal (trim p) 15 = (n, true)) (hs : st = none ∨ st = some n) : LenAt fs (some n) R :=
  ⟨by rw [h.eq, lenGo_cons_ok (by unfold partN; rw [hd]; rfl) hs]⟩
theorem LenAt.ne {fs : List Fd} {st : Option Int} {p : List UInt8} {R : List (List UInt8)} (h : LenAt fs st (p :: R)) {n : Int} (hd : decimal (trim p) 15 = (n, true)) (hs : ¬ (st = none ∨ st = some n)) : lengthF fs = none := by
  rw [h.eq, lenGo_cons_ne (by unfold partN; rw [hd]; rfl) hs]

set_option maxRecDepth 100000 in
set_option maxHeartbeats 4000000 in
theorem length_c (m t : ByteArray) (s : Int) (r : ByteArray) (mi : Int) (A : Option Addr) (cap : Nat) (fs : List Fd) (M : Int) (w : World) (hB : FB fs) (hF : Flds w A fs) (hm : w.cell? ⟨0, 0, none⟩ = some (.int .i64 M)) :
    Calls Tryd.prog 23 #[hv m t s r mi A fs.length cap] w fun e w' => e = .returned (lenVal (lengthF fs)) ∧ Below w.heap.size w w' := by
  generalize hv0 : lenVal (lengthF fs) = out
  have HOUT := Lib.hid hv0
  have HF := Lib.hid hF
  have HM := Lib.hid hm
  have HBB := Lib.hid hB
  have hl := hB.len
  clear hF hB hm hv0
  unfold hv
  go_enter Tryd.func23, Tryd.ntmps23
  go_wp2
  go_loopw [4, 5, 7, 9, 10, 11, 15, 27] (fun num fi _ _ _ _ i _ wr => ∃ (k : Nat) (st : Option Int), k ≤ fs.length ∧ i = .int .i64 k ∧ num = .int .i64 (st.getD 0) ∧ fi = .bool st.isNone ∧ LenAt fs st (partsF (fs.drop k)) ∧ Below w.heap.size w wr) (fun _ _ _ _ _ _ i _ _ => fs.length - (intOf i).toNat)
  case atStart => exact ⟨0, none, Nat.zero_le _, rfl, rfl, rfl, ⟨rfl⟩, (Below.refl _ w).alloc (Nat.le_refl _) _⟩
  case round =>
    obtain ⟨k, st, hk, rfl, rfl, rfl, hL, hB⟩ := hrel
    have HL := Lib.hid hL
    clear hL
    by_cases hlt : k < fs.length
    · obtain ⟨g, o, hA, c1, c2⟩ := HF.out.below hB k hlt
      subst hA
      have hg := World.block_lt_of_cell? wr _ c1
      have hn1 := HBB.out.nm _ (List.getElem_mem hlt)
      have hn2 := HBB.out.vl _ (List.getElem_mem hlt)
      have AL := fun w => Lib.hid (alike_c (bs fs[k].1) ⟨#[67, 111, 110, 116, 101, 110, 116, 45, 76, 101, 110, 103, 116, 104]⟩ w (by rw [bs_size]; omega) (by decide))
      have SP := fun w hm => Lib.hid (split_c (bs fs[k].2) 44 M w (by rw [bs_size]; omega) hm)
      have hpl := pieces_length 44 fs[k].2
      have hpm := pieces_mem 44 fs[k].2
      have hdr := HL.out
      rw [show partsF (fs.drop k) = _ from partsF_drop fs k hlt] at hdr
      rw [bs_list] at AL SP
      rw [show (ByteArray.mk #[67, 111, 110, 116, 101, 110, 116, 45, 76, 101, 110, 103, 116, 104]).data.toList = clenU from rfl, alike_low clen_low] at AL
      obtain ⟨f, hf⟩ : ∃ f, fs[k] = f := ⟨_, rfl⟩
      rw [hf] at c1 c2 AL SP hpl hpm hdr hn1 hn2
      clear hf
      cases hal : alike f.1 clenL with
      | false =>
        rw [hal] at AL hdr
        have HN := Lib.hid (show LenAt fs st (partsF (fs.drop (k + 1))) by simpa using hdr)
        clear hal hdr hpm hpl SP
        go_wp2_with (go_at_call 34; refine (AL _).out.mono ?_; rintro e w1 ⟨rfl, hb⟩)
        go_roundw
        case rel => exact ⟨k + 1, st, by omega, by go_num, rfl, rfl, HN.out, below_then hB (belowA hb)⟩
        case measure => simp [intOf]; omega
      | true =>
        rw [hal, if_pos rfl] at hdr
        rw [hal] at AL
        have HD := Lib.hid hdr
        have HPM := Lib.hid hpm
        clear hal hdr hpm
        generalize pieces 44 f.2 = ps at *
        go_wp2_with fail
        refine (AL _).out.mono ?_
        rintro e w1 ⟨rfl, hb⟩
        have d2 := held1 hb (cell_second wr (.string (bs f.1)) (.string (bs f.2)) 34)
        have HB1 := Lib.hid (below_then hB (belowA hb))
        clear hb c1 c2 hB
        go_wp2_with fail
        refine (SP _ (held1 HB1.out HM.out)).out.mono ?_
        rintro e w2 ⟨rfl, hw2⟩
        rw [hw2]
        clear hw2
        have HB2 := Lib.hid (HB1.out.alloc HB1.out.size (.cells (strs ps).toArray 9))
        have HBL := Lib.hid (heap_alloc_new w1 (.cells (strs ps).toArray 9))
        clear d2
        go_wp2
        go_loopw [4, 5, 9, 10, 11, 27] (fun num fi _ _ _ j wr => ∃ (q : Nat) (st : Option Int), q ≤ ps.length ∧ j = .int .i64 q ∧ num = .int .i64 (st.getD 0) ∧ fi = .bool st.isNone ∧ LenAt fs st (ps.drop q ++ partsF (fs.drop (k + 1))) ∧ Below w.heap.size w wr ∧ wr.heap[w1.heap.size]? = some (.cells (strs ps).toArray 9 (0, 0))) (fun _ _ _ _ _ j _ => ps.length - (intOf j).toNat)
        case atStart => exact ⟨0, st, Nat.zero_le _, rfl, rfl, rfl, HD.out, HB2.out, HBL.out⟩
        case round =>
          obtain ⟨q, st2, hq, rfl, rfl, rfl, hL2, hB3, hbl⟩ := hrel
          have HL2 := Lib.hid hL2
          have HB3 := Lib.hid hB3
          have HBL2 := Lib.hid hbl
          clear hL2 hB3 hbl HL HD
          by_cases hlq : q < ps.length
          · have hc : wr.cell? ⟨w1.heap.size, q, none⟩ = some (.string (bs ps[q])) := by
              have := cell_of_row wr w1.heap.size q (strs ps).toArray 9 (0, 0) HBL2.out
              rw [this]
              simp [strs, hlq]
            have hxl := (HPM.out ps[q] (List.getElem_mem hlq)).1
            have hdc := HL2.out
            rw [drop_cons ps q hlq, List.cons_append] at hdc
            obtain ⟨x, hx⟩ : ∃ x, ps[q] = x := ⟨_, rfl⟩
            rw [hx] at hc hxl hdc
            have K := fun w => Lib.hid (trim_c (bs x) w (by show x.length ≤ _; omega))
            have D := fun w => Lib.hid (decimal_c (bs (trim x)) 15 w)
            rw [bs_list] at K D
            have hbad := fun n h => hdc.bad (n := n) h
            have hok := fun n h hs => hdc.ok (n := n) h hs
            have hne := fun n h hs => hdc.ne (n := n) h hs
            generalize hdv : decimal (trim x) 15 = dv at *
            obtain ⟨n, okb⟩ := dv
            simp only at D
            clear hx hdc
            cases okb with
            | false =>
              have HV := Lib.hid (show out = .tuple #[.int .i64 0, .bool false] by rw [← HOUT.out, hbad n rfl]; rfl)
              clear hbad hok hne hdv
              go_wp2_with fail
              refine (K _).out.mono ?_
              rintro e w3 ⟨rfl, hb3⟩
              go_wp2_with fail
              refine (D _).out.mono ?_
              rintro e w' ⟨rfl, rfl⟩
              go_wp2
              go_ret2
              exact ⟨by rw [HV.out]; rfl, below_then HB3.out hb3⟩
            | true =>
              by_cases hst : st2 = none ∨ st2 = some n
              · have HN := Lib.hid (hok n rfl hst)
                have HS2 : st2 = none ∨ (st2 = some n) := hst
                clear hbad hok hne hdv hst
                rcases HS2 with rfl | rfl
                all_goals
                  simp only [Option.isNone_none, Option.isNone_some, Option.getD_some, Option.getD_none]
                  go_wp2_with fail
                  refine (K _).out.mono ?_
                  rintro e w3 ⟨rfl, hb3⟩
                  have HB4 := Lib.hid (below_then HB3.out hb3)
                  have HBL4 := Lib.hid ((hb3.block w1.heap.size (by have := Array.getElem?_eq_some_iff.1 HBL2.out; exact this.1)).trans HBL2.out)
                  clear hb3
                  go_wp2_with fail
                  refine (D _).out.mono ?_
                  rintro e w' ⟨rfl, rfl⟩
                  go_wp2
                  go_roundw
                  case rel => exact ⟨q + 1, some n, by omega, by go_num, rfl, rfl, HN.out, HB4.out, HBL4.out⟩
                  case measure => simp [intOf]; omega
              · have HV := Lib.hid (show out = .tuple #[.int .i64 0, .bool false] by rw [← HOUT.out, hne n rfl hst]; rfl)
                obtain ⟨y, rfl⟩ : ∃ y, st2 = some y := by
                  cases st2 with
                  | none => exact absurd (.inl rfl) hst
                  | some y => exact ⟨y, rfl⟩
                have bn : (n != y) = true := by rw [bne_iff_ne]; rintro rfl; exact hst (.inr rfl)
                clear hbad hok hne hdv hst
                simp only [Option.isNone_some, Option.getD_some]
                go_wp2_with fail
                refine (K _).out.mono ?_
                rintro e w3 ⟨rfl, hb3⟩
                have HB4 := Lib.hid (below_then HB3.out hb3)
                clear hb3
                go_wp2_with fail
                refine (D _).out.mono ?_
                rintro e w' ⟨rfl, rfl⟩
                go_wp2
                go_ret2
                exact ⟨by rw [HV.out]; rfl, HB4.out⟩
          · have hdn : ps.drop q = [] := List.drop_eq_nil_of_le (by omega)
            have HN := Lib.hid (show LenAt fs st2 (partsF (fs.drop (k + 1))) by have h := HL2.out; rwa [hdn, List.nil_append] at h)
            clear hdn
            go_wp2
            go_roundw
            case rel => exact ⟨k + 1, st2, by omega, by go_num, rfl, rfl, HN.out, HB3.out⟩
            case measure => simp [intOf]; omega
    · have hd : fs.drop k = [] := List.drop_eq_nil_of_le (by omega)
      have HV := Lib.hid (show out = .tuple #[.int .i64 (st.getD 0), .bool true] by
        have h := HL.out.eq
        rw [hd, partsF_nil] at h
        rw [← HOUT.out, h]; rfl)
      clear hd
      go_wp2
      go_ret2
      exact ⟨by rw [HV.out]; rfl, hB⟩
end Go.Proofs.YtbjcbdgkgbjaiaaDoor
