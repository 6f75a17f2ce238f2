/- The contracts of route.fits and Domain, for every domain and every host. -/
import Derived.Test.YthaphfedogmliaaRouteA
import Derived.Test.YthaphfedogmliaaShelf
import Derived.WalkKit
import Derived.WalkLawsBesides
import Derived.WalkSpells
import Derived.Tactics
import Derived.Tactics2
import Derived.LoopTactic
import Derived.Outline
import Derived.Below
import Derived.Lib.Hide
set_option linter.unusedVariables false
set_option linter.unusedSimpArgs false
namespace Go.Proofs.Ythaphfedogmliaa
open Go.RowKit Lex

theorem ret_int {k : IntKind} {a b : Int} (h : a = b) : Ending.returned (.int k a) = .returned (.int k b) := by rw [h]
theorem ret_bool {a b : Bool} (h : a = b) : Ending.returned (.bool a) = .returned (.bool b) := by rw [h]
theorem bcell {W w1 : World} (hb : Below W.heap.size W w1) : (∀ b o, b < W.heap.size → w1.cell? ⟨b, o, none⟩ = W.cell? ⟨b, o, none⟩) ∧ (∀ b o, b < W.heap.size → w1.frozen? ⟨b, o, none⟩ = W.frozen? ⟨b, o, none⟩) :=
  ⟨fun b o h => hb.cell (p := ⟨b, o, none⟩) h, fun b o h => hb.frozen (p := ⟨b, o, none⟩) h⟩
theorem below_then {W w1 w2 : World} (h : Below W.heap.size W w1) (k : Below w1.heap.size w1 w2) : Below W.heap.size W w2 := h.trans (k.mono h.size)
theorem empty_toList {s : ByteArray} (h : s.size = 0) : s.toList = [] := by
  rw [ByteArray.toList_eq]; exact List.eq_nil_of_length_eq_zero (by rw [size_list]; exact h)
theorem nonempty_toList {s : ByteArray} (h : s.size ≠ 0) : s.toList.isEmpty = false := by
  rw [ByteArray.toList_eq, isEmpty_size]; simpa using h
theorem bytes_ext {a b : ByteArray} (h : a.data.toList = b.data.toList) : a = b := by
  rw [← list_bs a, ← list_bs b, h]

theorem fits_c (d h : ByteArray) (w : World) (hd : d.size ≤ 9223372036854775000) (hh : h.size ≤ 9223372036854775000) : Calls Try.prog 21 #[.string d, .string h] w fun e w' => e = .returned (.int .i64 (fits d.data.toList h.data.toList)) ∧ w = w' := by
  have K := fun w => Lib.hid ((Try.strings_CutPrefix d ⟨#[42, 46]⟩ w))
  unfold fits
  by_cases h1 : d.data.toList = [42]
  · rw [if_pos h1]
    have e : d = ⟨#[42]⟩ := bytes_ext h1
    subst e
    rw [show Lib.hasPrefix (⟨#[42]⟩ : ByteArray).data.toList (⟨#[42, 46]⟩ : ByteArray).data.toList = false from by decide] at K
    go_enter Try.func21, Try.ntmps21
    go_wp2_with (go_at_call 18; refine (K _).out.mono ?_; rintro e w' ⟨rfl, rfl⟩)
    go_ret
    exact ⟨rfl, rfl⟩
  · rw [if_neg h1]
    have n1 : (d.toList == [42]) = false := by rw [Lib.toList_data, beq_eq_false_iff_ne]; exact h1
    cases hpre : ([42, 46] : List UInt8).isPrefixOf d.data.toList with
    | false =>
      have e1 : Lib.hasPrefix d.data.toList (⟨#[42, 46]⟩ : ByteArray).data.toList = false := hpre
      rw [e1] at K
      rw [show wildB d.data.toList h.data.toList = false from by unfold wildB; rw [hpre]; rfl, if_neg (by simp)]
      clear e1 hpre h1
      by_cases he : d.data.toList = h.data.toList
      · rw [if_pos he]
        have n2 : (d.toList == h.toList) = true := by rw [Lib.toList_data, Lib.toList_data, beq_iff_eq]; exact he
        clear he
        go_enter Try.func21, Try.ntmps21
        go_wp2_with (go_at_call 18; refine (K _).out.mono ?_; rintro e w' ⟨rfl, rfl⟩)
        go_ret
        exact ⟨rfl, rfl⟩
      · rw [if_neg he]
        have n2 : (d.toList == h.toList) = false := by rw [Lib.toList_data, Lib.toList_data, beq_eq_false_iff_ne]; exact he
        clear he
        go_enter Try.func21, Try.ntmps21
        go_wp2_with (go_at_call 18; refine (K _).out.mono ?_; rintro e w' ⟨rfl, rfl⟩)
        go_ret
        exact ⟨rfl, rfl⟩
    | true =>
      have e1 : Lib.hasPrefix d.data.toList (⟨#[42, 46]⟩ : ByteArray).data.toList = true := hpre
      have e2 : Lib.trimPrefix d.data.toList (⟨#[42, 46]⟩ : ByteArray).data.toList = d.data.toList.drop 2 := by unfold Lib.trimPrefix; rw [e1, if_pos rfl]; rfl
      have hle : 2 ≤ d.size := by
        have := (List.isPrefixOf_iff_prefix.1 hpre).length_le
        rw [size_list] at this; exact this
      rw [e1, e2] at K
      obtain ⟨r, hr, hrs⟩ : ∃ r : ByteArray, r = ⟨(d.data.toList.drop 2).toArray⟩ ∧ r.size + 2 = d.size := ⟨_, rfl, by
        show (d.data.toList.drop 2).length + 2 = d.size
        rw [List.length_drop, size_list]; omega⟩
      rw [← hr] at K
      have S := fun w => Lib.hid ((Try.strings_HasSuffix h (⟨#[46]⟩ ++ r) w (by omega)))
      have e3 : ((⟨#[46]⟩ : ByteArray) ++ r).data.toList = 46 :: d.data.toList.drop 2 := by rw [hr, ByteArray.data_append]; simp
      have hsz : ((⟨#[46]⟩ : ByteArray) ++ r).size = r.size + 1 := by rw [ByteArray.size_append]; show 1 + r.size = _; omega
      have z0 : (⟨#[46]⟩ : ByteArray).size + r.size ≤ 9223372036854775807 := by show 1 + r.size ≤ _; omega
      rw [e3] at S
      have hw : wildB d.data.toList h.data.toList = (Lib.hasSuffix h.data.toList (46 :: d.data.toList.drop 2) && decide ((r.size : Int) + 1 < h.size)) := by
        unfold wildB Lib.hasSuffix
        rw [hpre, Bool.true_and]
        congr 1
        rw [size_list, size_list, Bool.eq_iff_iff]; simp; omega
      rw [hw]
      have HR := Lib.hid hr
      have HS := Lib.hid hrs
      have hrb : r.size ≤ 9223372036854775000 := by omega
      have hdl := size_list d
      have HL := Lib.hid hdl
      clear hr hrs e3 hw e1 e2 hpre hsz h1 hdl
      cases hsx : Lib.hasSuffix h.data.toList (46 :: d.data.toList.drop 2) with
      | false =>
        rw [hsx] at S
        rw [Bool.false_and, if_neg (by simp)]
        clear hsx
        by_cases he : d.data.toList = h.data.toList
        · rw [if_pos he]
          have n2 : (d.toList == h.toList) = true := by rw [Lib.toList_data, Lib.toList_data, beq_iff_eq]; exact he
          clear he
          go_enter Try.func21, Try.ntmps21
          go_wp2_with (first | (go_at_call 18; refine (K _).out.mono ?_; rintro e w' ⟨rfl, rfl⟩) | (go_at_call 37; refine (S _).out.mono ?_; rintro e w' ⟨rfl, rfl⟩))
          go_ret
          exact ⟨rfl, rfl⟩
        · rw [if_neg he]
          have n2 : (d.toList == h.toList) = false := by rw [Lib.toList_data, Lib.toList_data, beq_eq_false_iff_ne]; exact he
          clear he
          go_enter Try.func21, Try.ntmps21
          go_wp2_with (first | (go_at_call 18; refine (K _).out.mono ?_; rintro e w' ⟨rfl, rfl⟩) | (go_at_call 37; refine (S _).out.mono ?_; rintro e w' ⟨rfl, rfl⟩))
          go_ret
          exact ⟨rfl, rfl⟩
      | true =>
        rw [hsx] at S
        rw [Bool.true_and]
        clear hsx
        by_cases hlt : (r.size : Int) + 1 < h.size
        · rw [if_pos (by simpa using hlt)]
          go_enter Try.func21, Try.ntmps21
          go_wp2_with (first | (go_at_call 18; refine (K _).out.mono ?_; rintro e w' ⟨rfl, rfl⟩) | (go_at_call 37; refine (S _).out.mono ?_; rintro e w' ⟨rfl, rfl⟩))
          go_ret
          exact ⟨ret_int (by rw [HL.out]), rfl⟩
        · rw [if_neg (by simpa using hlt)]
          by_cases he : d.data.toList = h.data.toList
          · rw [if_pos he]
            have n2 : (d.toList == h.toList) = true := by rw [Lib.toList_data, Lib.toList_data, beq_iff_eq]; exact he
            clear he
            go_enter Try.func21, Try.ntmps21
            go_wp2_with (first | (go_at_call 18; refine (K _).out.mono ?_; rintro e w' ⟨rfl, rfl⟩) | (go_at_call 37; refine (S _).out.mono ?_; rintro e w' ⟨rfl, rfl⟩))
            go_ret
            exact ⟨rfl, rfl⟩
          · rw [if_neg he]
            have n2 : (d.toList == h.toList) = false := by rw [Lib.toList_data, Lib.toList_data, beq_eq_false_iff_ne]; exact he
            clear he
            go_enter Try.func21, Try.ntmps21
            go_wp2_with (first | (go_at_call 18; refine (K _).out.mono ?_; rintro e w' ⟨rfl, rfl⟩) | (go_at_call 37; refine (S _).out.mono ?_; rintro e w' ⟨rfl, rfl⟩))
            go_ret
            exact ⟨rfl, rfl⟩

/-- The vhosts' domains, as they lie in a world. -/
def Doms (w : World) (A : Option Addr) (ds : List (List UInt8)) : Prop := ∀ j (h : j < ds.length), ∃ (g o : Nat) (ra : Option Addr) (rn rc : Nat), A = some ⟨g, o, none⟩ ∧ w.cell? ⟨g, o + j * 2, none⟩ = some (.string (bs ds[j])) ∧ w.cell? ⟨g, o + j * 2 + 1, none⟩ = some (.slice ra rn rc)
theorem Doms.below {w w' : World} {A : Option Addr} {ds : List (List UInt8)} (h : Doms w A ds) (hb : Below w.heap.size w w') : Doms w' A ds := by
  intro j hj
  obtain ⟨g, o, ra, rn, rc, e, c1, c2⟩ := h j hj
  exact ⟨g, o, ra, rn, rc, e, (hb.cell (World.block_lt_of_cell? w _ c1)).trans c1, (hb.cell (World.block_lt_of_cell? w _ c2)).trans c2⟩

set_option maxRecDepth 100000 in
set_option maxHeartbeats 2000000 in
theorem domain_c (c0 c1 c2 c3 c4 c5 f l : Value) (A : Option Addr) (cap : Nat) (ds : List (List UInt8)) (h : ByteArray) (w : World) (hD : Doms w A ds) (hl : ds.length ≤ 1099511627776) (hds : ∀ x ∈ ds, x.length ≤ 9223372036854775000) (hh : h.size ≤ 9223372036854775000) :
    Calls Try.prog 10 #[.agg #[c0, c1, c2, c3, c4, c5, f, l, .slice A ds.length cap], .string h] w fun e w' => e = .returned (.int .i64 (domain ds h.data.toList)) ∧ Below w.heap.size w w' := by
  have HD := Lib.hid hD
  have F := fun j hj w => Lib.hid (fits_c (bs (ds[j]'hj)) h w (hds _ (List.getElem_mem hj)) hh)
  have F0 := fits_0
  have HS : ∀ k, k < ds.length → Hid (domK ds h.data.toList (k + 1) = if (domK ds h.data.toList k).1 < fits (ds.getD k []) h.data.toList then (fits (ds.getD k []) h.data.toList, (k : Int)) else domK ds h.data.toList k) := fun k _ => Lib.hid rfl
  clear hD
  go_enter Try.func10, Try.ntmps10
  go_wp2
  go_loopw [5, 6, 13] (fun b a i wr => ∃ k : Nat, k ≤ ds.length ∧ i = .int .i64 k ∧ b = .int .i64 (domK ds h.data.toList k).1 ∧ a = .int .i64 (domK ds h.data.toList k).2 ∧ Below w.heap.size w wr) (fun _ _ i _ => ds.length - (intOf i).toNat)
  case atStart => exact ⟨0, Nat.zero_le _, rfl, rfl, rfl, (Below.refl _ _).alloc (Nat.le_refl _) _⟩
  case round =>
    obtain ⟨k, hk, rfl, rfl, rfl, hB⟩ := hrel
    by_cases hlt : k < ds.length
    · obtain ⟨g, o, ra, rn, rc, hA, hc1, hc2⟩ := HD.out.below hB k hlt
      subst hA
      have FK := fun w => F k hlt w
      have S := HS k hlt
      have hgd : ds.getD k [] = ds[k] := by rw [List.getD_eq_getElem?_getD, List.getElem?_eq_getElem hlt]; rfl
      rw [hgd] at S
      rw [bs_list] at FK
      have hg := World.block_lt_of_cell? wr _ hc1
      have hz := hB.size
      clear hgd
      generalize fits ds[k] h.data.toList = n at *
      by_cases hgt : (domK ds h.data.toList k).1 < n
      · rw [if_pos hgt] at S
        go_wp2_with (go_at_call 21; refine (FK _).out.mono ?_; rintro e w1 ⟨rfl, rfl⟩)
        go_roundw
        case rel => exact ⟨k + 1, by omega, by go_num, by rw [S.out], by rw [S.out], hB.alloc hz _⟩
        case measure => simp [intOf]; omega
      · rw [if_neg hgt] at S
        go_wp2_with (go_at_call 21; refine (FK _).out.mono ?_; rintro e w1 ⟨rfl, rfl⟩)
        go_roundw
        case rel => exact ⟨k + 1, by omega, by go_num, by rw [S.out], by rw [S.out], hB.alloc hz _⟩
        case measure => simp [intOf]; omega
    · obtain rfl : k = ds.length := by omega
      go_wp2
      go_ret
      exact ⟨rfl, hB⟩
end Go.Proofs.Ythaphfedogmliaa
