/- The contract of route.Rewrite, for every route and path; the laws' anchor. -/
import Derived.Test.YthaphfedogmliaaRouteB
set_option linter.unusedVariables false
set_option linter.unusedSimpArgs false
namespace Go.Proofs.Ythaphfedogmliaa
open Go.RowKit Lex

def rewriteL (pre : Bool) (rp rw p : List UInt8) : List UInt8 :=
  if rw = [] then p else if (pre && Lib.hasPrefix p rp && !(Lib.trimPrefix p rp).isEmpty) = true then Lib.trimSuffix rw [47] ++ 47 :: Lib.trimPrefix (Lib.trimPrefix p rp) [47] else rw
theorem ret_str {a b : ByteArray} (h : a = b) : Ending.returned (.string a) = .returned (.string b) := by rw [h]
theorem trimPrefix_length (a b : List UInt8) : (Lib.trimPrefix a b).length ≤ a.length := by
  unfold Lib.trimPrefix; split
  · rw [List.length_drop]; omega
  · exact Nat.le_refl _
theorem trimSuffix_length (a b : List UInt8) : (Lib.trimSuffix a b).length ≤ a.length := by
  unfold Lib.trimSuffix; split
  · rw [List.length_take]; omega
  · exact Nat.le_refl _

set_option maxRecDepth 100000 in
set_option maxHeartbeats 2000000 in
theorem rewrite_c (pre : Bool) (rp : ByteArray) (v2 v3 v4 v5 v6 v7 v8 : Value) (rw : ByteArray) (v10 v11 v12 : Value) (p : ByteArray) (w : World) (hrw : rw.size ≤ 4611686018427387000) (hp : p.size ≤ 4611686018427387000) :
    Calls Try.prog 9 #[.agg #[.bool pre, .string rp, v2, v3, v4, v5, v6, v7, v8, .string rw, v10, v11, v12], .string p] w fun e w' => e = .returned (.string (bs (rewriteL pre rp.data.toList rw.data.toList p.data.toList))) ∧ Below w.heap.size w w' := by
  have K := fun w => Lib.hid (Try.strings_CutPrefix p rp w)
  have S := fun w => Lib.hid (Try.strings_TrimSuffix rw ⟨#[47]⟩ w (by omega))
  rw [show (⟨#[47]⟩ : ByteArray).data.toList = [47] from rfl] at S
  have hT := trimPrefix_length p.data.toList rp.data.toList
  rw [size_list] at hT
  unfold rewriteL
  by_cases h0 : rw.data.toList = []
  · rw [if_pos h0]
    have e : rw = ⟨#[]⟩ := bytes_ext h0
    subst e
    clear h0 K S
    go_enter Try.func9, Try.ntmps9
    go_wp2
    go_ret
    exact ⟨ret_str (list_bs p).symm, (Below.refl _ _).alloc (Nat.le_refl _) _⟩
  · rw [if_neg h0]
    have n0 : rw.toList = [] ↔ False := by rw [Lib.toList_data]; exact iff_false_intro h0
    have n1 : rw.toList.isEmpty = false := by rw [Lib.toList_data]; cases hq : rw.data.toList with
      | nil => exact absurd hq h0
      | cons => rfl
    generalize hr : Lib.trimPrefix p.data.toList rp.data.toList = r at *
    generalize hb : Lib.hasPrefix p.data.toList rp.data.toList = b at *
    have T := fun w => Lib.hid (Try.strings_TrimPrefix (bs r) ⟨#[47]⟩ w)
    rw [show (⟨#[47]⟩ : ByteArray).data.toList = [47] from rfl, bs_list] at T
    have hs1 := trimSuffix_length rw.data.toList [47]
    have hs2 := trimPrefix_length r [47]
    rw [size_list] at hs1
    clear h0 hr hb
    generalize hx : Lib.trimSuffix rw.data.toList [47] = x at *
    generalize hy : Lib.trimPrefix r [47] = y at *
    have hfin : bs (x ++ 47 :: y) = (bs x ++ ⟨#[47]⟩) ++ bs y := bytes_ext (by simp [bs, ByteArray.data_append])
    have HF := Lib.hid hfin
    have z1 : x.length + 1 ≤ 9223372036854775807 := by omega
    have z2 : x.length + 1 + y.length ≤ 9223372036854775807 := by omega
    clear hx hy hfin hs1 hs2 hT
    cases pre <;> cases b <;> cases hre' : r.isEmpty
    all_goals
      go_enter Try.func9, Try.ntmps9
      go_wp2_with (first | (go_at_call 18; refine (K _).out.mono ?_; rintro e w' ⟨rfl, rfl⟩) | (go_at_call 19; refine (S _).out.mono ?_; rintro e w' ⟨rfl, rfl⟩) | (go_at_call 20; refine (T _).out.mono ?_; rintro e w' ⟨rfl, rfl⟩))
      go_ret
      first
        | exact ⟨ret_str (list_bs rw).symm, (Below.refl _ _).alloc (Nat.le_refl _) _⟩
        | (exfalso; simp at *; done)
        | exact ⟨ret_str HF.out.symm, (Below.refl _ _).alloc (Nat.le_refl _) _⟩

theorem doms_new (w : World) (C : Array Value) (T : TypeId) (ds : List (List UInt8)) (hC : ∀ j (h : j < ds.length), C[j * 2]? = some (.string (bs ds[j])) ∧ ∃ ra rn rc, C[j * 2 + 1]? = some (.slice ra rn rc)) : Doms (w.alloc (.cells C T)) (some ⟨w.heap.size, 0, none⟩) ds := by
  intro j hj
  obtain ⟨h1, ra, rn, rc, h2⟩ := hC j hj
  exact ⟨w.heap.size, 0, ra, rn, rc, rfl, by rw [Nat.zero_add, World.cell?_alloc_new]; exact h1, by rw [Nat.zero_add, World.cell?_alloc_new]; exact h2⟩

set_option maxRecDepth 100000 in
set_option maxHeartbeats 2000000 in
theorem anchor15_c (w : World) : Calls Try.prog 5 #[] w fun e w' => e = .returned (.bool true) ∧ Below w.heap.size w w' := by
  have D : Hid (Doms (w.alloc (.cells #[.string ⟨#[42]⟩, .slice none 0 0, .string ⟨#[42, 46, 101, 120, 46, 99, 111, 109]⟩, .slice none 0 0, .string ⟨#[42, 46, 98, 46, 101, 120, 46, 99, 111, 109]⟩, .slice none 0 0, .string ⟨#[101, 120, 46, 99, 111, 109]⟩, .slice none 0 0] 36)) (some ⟨w.heap.size, 0, none⟩)
      [[42], [42, 46, 101, 120, 46, 99, 111, 109], [42, 46, 98, 46, 101, 120, 46, 99, 111, 109], [101, 120, 46, 99, 111, 109]]) := Lib.hid (doms_new _ _ _ _ fun j hj => by
    match j, hj with
    | 0, _ => exact ⟨rfl, _, _, _, rfl⟩
    | 1, _ => exact ⟨rfl, _, _, _, rfl⟩
    | 2, _ => exact ⟨rfl, _, _, _, rfl⟩
    | 3, _ => exact ⟨rfl, _, _, _, rfl⟩)
  have K := fun c0 c1 c2 c3 c4 c5 f l cap h w' hD hh => Lib.hid (domain_c c0 c1 c2 c3 c4 c5 f l (some ⟨w.heap.size, 0, none⟩) cap [[42], [42, 46, 101, 120, 46, 99, 111, 109], [42, 46, 98, 46, 101, 120, 46, 99, 111, 109], [101, 120, 46, 99, 111, 109]] h w' hD (by decide) (by decide) hh)
  have R := fun w => Lib.hid (rewrite_c true ⟨#[47, 97, 112, 105]⟩ (.string ByteArray.empty) (.string ByteArray.empty) (.string ByteArray.empty) (.int .i64 0) (.string ByteArray.empty) (.int .i64 0) (.string ByteArray.empty) ⟨#[47, 120]⟩ (.int .i64 0) (.int .i64 0) (.bool false) ⟨#[47, 97, 112, 105, 47, 118]⟩ w (by decide) (by decide))
  rw [show rewriteL true (⟨#[47, 97, 112, 105]⟩ : ByteArray).data.toList (⟨#[47, 120]⟩ : ByteArray).data.toList (⟨#[47, 97, 112, 105, 47, 118]⟩ : ByteArray).data.toList = [47, 120, 47, 118] from by decide] at R
  go_enter Try.func5, Try.ntmps5
  go_wp2_with fail
  refine (K _ _ _ _ _ _ _ _ _ ⟨#[97, 46, 98, 46, 101, 120, 46, 99, 111, 109]⟩ _ (by exact D.out.below ((Below.refl _ _).alloc (Nat.le_refl _) _)) (by decide)).out.mono ?_
  rw [show domain [[42], [42, 46, 101, 120, 46, 99, 111, 109], [42, 46, 98, 46, 101, 120, 46, 99, 111, 109], [101, 120, 46, 99, 111, 109]] (⟨#[97, 46, 98, 46, 101, 120, 46, 99, 111, 109]⟩ : ByteArray).data.toList = 2 from by decide]
  rintro e w1 ⟨rfl, hb⟩
  have hz := hb.size
  simp only [World.size_alloc] at hz
  obtain ⟨hc, hf⟩ := bcell hb
  have D1 := Lib.hid ((D.out.below ((Below.refl _ _).alloc (Nat.le_refl _) _)).below hb)
  have HB := Lib.hid hb
  clear hb
  go_wp2_with fail
  refine (K _ _ _ _ _ _ _ _ _ ⟨#[46, 101, 120, 46, 99, 111, 109]⟩ _ (by exact D1.out) (by decide)).out.mono ?_
  rw [show domain [[42], [42, 46, 101, 120, 46, 99, 111, 109], [42, 46, 98, 46, 101, 120, 46, 99, 111, 109], [101, 120, 46, 99, 111, 109]] (⟨#[46, 101, 120, 46, 99, 111, 109]⟩ : ByteArray).data.toList = 0 from by decide]
  rintro e w2 ⟨rfl, hb2⟩
  have b2 := below_then HB.out hb2
  clear hb2 hc hf hz
  go_wp2_with fail
  refine (R _).out.mono ?_
  rintro e w3 ⟨rfl, hb3⟩
  have b3 := below_then b2 hb3
  clear b2 hb3
  go_wp2
  go_ret
  exact ⟨rfl, ((Below.refl _ _).alloc (Nat.le_refl _) _).trans (((Below.refl _ _).alloc (Nat.le_refl _) _).trans (b3.mono (by simp)) |>.mono (by simp))⟩
end Go.Proofs.Ythaphfedogmliaa
