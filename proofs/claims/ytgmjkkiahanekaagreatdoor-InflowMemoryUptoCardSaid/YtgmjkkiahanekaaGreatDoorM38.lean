/- The texts HdW in one. -/
import Derived.Test.YtgmjkkiahanekaaGreatDoorM37
/- The contracts of the document's version, upTo and Start. -/
set_option linter.unusedVariables false
set_option linter.unusedSimpArgs false
namespace Go.Proofs.YtgmjkkiahanekaaGreatDoor
open Go.RowKit Lex

theorem eight {s : ByteArray} (h : s.size = 8) : s.data.toList = [s[0], s[1], s[2], s[3], s[4], s[5], s[6], s[7]] := by
  have e : s.data.toList = s.data.toList.drop 0 := rfl
  rw [e, byte_at s 0 (by omega), byte_at s 1 (by omega), byte_at s 2 (by omega), byte_at s 3 (by omega), byte_at s 4 (by omega), byte_at s 5 (by omega), byte_at s 6 (by omega), byte_at s 7 (by omega),
    List.drop_eq_nil_of_le (by rw [size_list]; omega)]
theorem version8 (a0 a1 a2 a3 a4 a5 a6 a7 : UInt8) : versionL [a0, a1, a2, a3, a4, a5, a6, a7] =
    (if a0 = 72 ∧ a1 = 84 ∧ a2 = 84 ∧ a3 = 80 ∧ a4 = 47 ∧ a6 = 46 then (if digit a5 = true ∧ digit a7 = true then (if a5 = 49 then ((a7.toNat : Int) - 48, 0) else (0, 81)) else (0, 80)) else (0, 80)) := by
  unfold versionL
  simp only [httpV, List.length_cons, List.length_nil, List.take_succ_cons, List.take_zero, List.getElem?_cons_succ, List.getElem?_cons_zero, List.cons.injEq, Option.some.injEq, and_true, true_and]
  simp only [and_assoc]
theorem digit_iff (c : UInt8) : digit c = true ↔ ¬ (c.toNat : Int) < 48 ∧ ¬ (57 : Int) < (c.toNat : Int) := by
  have key : ∀ c : Fin 256, digit (UInt8.ofNat c.val) = true ↔ ¬ (c.val : Int) < 48 ∧ ¬ (57 : Int) < (c.val : Int) := by decide +kernel
  have := key ⟨c.toNat, c.toNat_lt⟩
  simpa using this
theorem ne_cases (c v : UInt8) (n : Int) (h : (v.toNat : Int) = n) : (((c.toNat : Int) != n) = true ∧ c ≠ v) ∨ (((c.toNat : Int) != n) = false ∧ c = v) := by
  rw [neN c v n h]
  by_cases hc : c = v
  · exact .inr ⟨by rw [decide_eq_true hc]; rfl, hc⟩
  · exact .inl ⟨by rw [decide_eq_false hc]; rfl, hc⟩
set_option maxRecDepth 100000 in
set_option maxHeartbeats 4000000 in
theorem rversion_c (s : ByteArray) (w : World) (hs : s.size ≤ 9223372036854775806) :
    Calls Tryz.prog 149 #[.string s] w fun e w' => e = .returned (verVal (versionL s.data.toList)) ∧ w = w' := by
  by_cases h8 : s.size = 8
  · have b8 : ((s.size : Int) != 8) = false := by rw [bne_eq_false_iff_eq]; omega
    obtain ⟨v, hv⟩ : ∃ v, versionL s.data.toList = v := ⟨_, rfl⟩
    rw [hv]
    rw [eight h8, version8] at hv
    have cs : ((((s[0].toNat : Int) != 72) = true ∨
        (((s[0].toNat : Int) != 72) = false ∧ ((s[1].toNat : Int) != 84) = true) ∨
        (((s[0].toNat : Int) != 72) = false ∧ ((s[1].toNat : Int) != 84) = false ∧ ((s[2].toNat : Int) != 84) = true) ∨
        (((s[0].toNat : Int) != 72) = false ∧ ((s[1].toNat : Int) != 84) = false ∧ ((s[2].toNat : Int) != 84) = false ∧ ((s[3].toNat : Int) != 80) = true) ∨
        (((s[0].toNat : Int) != 72) = false ∧ ((s[1].toNat : Int) != 84) = false ∧ ((s[2].toNat : Int) != 84) = false ∧ ((s[3].toNat : Int) != 80) = false ∧ ((s[4].toNat : Int) != 47) = true) ∨
        (((s[0].toNat : Int) != 72) = false ∧ ((s[1].toNat : Int) != 84) = false ∧ ((s[2].toNat : Int) != 84) = false ∧ ((s[3].toNat : Int) != 80) = false ∧ ((s[4].toNat : Int) != 47) = false ∧ ((s[6].toNat : Int) != 46) = true)) ∧ v = (0, 80)) ∨
        ((((s[0].toNat : Int) != 72) = false ∧ ((s[1].toNat : Int) != 84) = false ∧ ((s[2].toNat : Int) != 84) = false ∧ ((s[3].toNat : Int) != 80) = false ∧ ((s[4].toNat : Int) != 47) = false ∧ ((s[6].toNat : Int) != 46) = false) ∧
          ((((s[5].toNat : Int) < 48 ∨ (¬ (s[5].toNat : Int) < 48 ∧ (57 : Int) < (s[5].toNat : Int)) ∨ (¬ (s[5].toNat : Int) < 48 ∧ ¬ (57 : Int) < (s[5].toNat : Int) ∧ (s[7].toNat : Int) < 48) ∨ (¬ (s[5].toNat : Int) < 48 ∧ ¬ (57 : Int) < (s[5].toNat : Int) ∧ ¬ (s[7].toNat : Int) < 48 ∧ (57 : Int) < (s[7].toNat : Int))) ∧ v = (0, 80)) ∨
            ((¬ (s[5].toNat : Int) < 48 ∧ ¬ (57 : Int) < (s[5].toNat : Int) ∧ ¬ (s[7].toNat : Int) < 48 ∧ ¬ (57 : Int) < (s[7].toNat : Int)) ∧
              ((((s[5].toNat : Int) != 49) = true ∧ v = (0, 81)) ∨ (((s[5].toNat : Int) != 49) = false ∧ v = ((s[7].toNat : Int) - 48, 0)))))) := by
      rcases ne_cases s[0] 72 72 rfl with ⟨p0, q0⟩ | ⟨p0, q0⟩
      · exact .inl ⟨.inl p0, by rw [← hv, if_neg (fun h => q0 h.1)]⟩
      rcases ne_cases s[1] 84 84 rfl with ⟨p1, q1⟩ | ⟨p1, q1⟩
      · exact .inl ⟨.inr (.inl ⟨p0, p1⟩), by rw [← hv, if_neg (fun h => q1 h.2.1)]⟩
      rcases ne_cases s[2] 84 84 rfl with ⟨p2, q2⟩ | ⟨p2, q2⟩
      · exact .inl ⟨.inr (.inr (.inl ⟨p0, p1, p2⟩)), by rw [← hv, if_neg (fun h => q2 h.2.2.1)]⟩
      rcases ne_cases s[3] 80 80 rfl with ⟨p3, q3⟩ | ⟨p3, q3⟩
      · exact .inl ⟨.inr (.inr (.inr (.inl ⟨p0, p1, p2, p3⟩))), by rw [← hv, if_neg (fun h => q3 h.2.2.2.1)]⟩
      rcases ne_cases s[4] 47 47 rfl with ⟨p4, q4⟩ | ⟨p4, q4⟩
      · exact .inl ⟨.inr (.inr (.inr (.inr (.inl ⟨p0, p1, p2, p3, p4⟩)))), by rw [← hv, if_neg (fun h => q4 h.2.2.2.2.1)]⟩
      rcases ne_cases s[6] 46 46 rfl with ⟨p6, q6⟩ | ⟨p6, q6⟩
      · exact .inl ⟨.inr (.inr (.inr (.inr (.inr ⟨p0, p1, p2, p3, p4, p6⟩)))), by rw [← hv, if_neg (fun h => q6 h.2.2.2.2.2)]⟩
      refine .inr ⟨⟨p0, p1, p2, p3, p4, p6⟩, ?_⟩
      rw [if_pos ⟨q0, q1, q2, q3, q4, q6⟩] at hv
      simp only [digit_iff] at hv
      by_cases hd : (¬ (s[5].toNat : Int) < 48 ∧ ¬ (57 : Int) < (s[5].toNat : Int)) ∧ ¬ (s[7].toNat : Int) < 48 ∧ ¬ (57 : Int) < (s[7].toNat : Int)
      · rw [if_pos hd] at hv
        refine .inr ⟨⟨hd.1.1, hd.1.2, hd.2.1, hd.2.2⟩, ?_⟩
        rcases ne_cases s[5] 49 49 rfl with ⟨p5, q5⟩ | ⟨p5, q5⟩
        · exact .inl ⟨p5, by rw [← hv, if_neg q5]⟩
        · exact .inr ⟨p5, by rw [← hv, if_pos q5]⟩
      · rw [if_neg hd] at hv
        exact .inl ⟨by omega, hv.symm⟩
    clear hv
    rcases cs with ⟨cs, rfl⟩ | ⟨⟨p0, p1, p2, p3, p4, p6⟩, cs⟩
    · rcases cs with p0 | ⟨p0, p1⟩ | ⟨p0, p1, p2⟩ | ⟨p0, p1, p2, p3⟩ | ⟨p0, p1, p2, p3, p4⟩ | ⟨p0, p1, p2, p3, p4, p6⟩
      all_goals
        go_enter Tryz.func149, Tryz.ntmps149
        go_wp2
        go_ret2
        exact ⟨rfl, rfl⟩
    · rcases cs with ⟨cs, rfl⟩ | ⟨⟨d1, d2, d3, d4⟩, cs⟩
      · rcases cs with d1 | ⟨d1, d2⟩ | ⟨d1, d2, d3⟩ | ⟨d1, d2, d3, d4⟩
        all_goals
          go_enter Tryz.func149, Tryz.ntmps149
          go_wp2
          go_ret2
          exact ⟨rfl, rfl⟩
      · rcases cs with ⟨p5, rfl⟩ | ⟨p5, rfl⟩
        all_goals
          go_enter Tryz.func149, Tryz.ntmps149
          go_wp2
          go_ret2
          exact ⟨rfl, rfl⟩
  · have hv : versionL s.data.toList = (0, 80) := by unfold versionL; rw [if_neg]; rw [size_list]; exact fun h => h8 h.1
    have b8 : ((s.size : Int) != 8) = true := by rw [bne_iff_ne]; omega
    rw [hv]
    go_enter Tryz.func149, Tryz.ntmps149
    go_wp2
    go_ret2
    exact ⟨rfl, rfl⟩
def not32 (c : UInt8) : Bool := decide (c ≠ 32)
/-- Where the next blank stands, from k on. -/
def UpTo (l : List UInt8) (a b : Nat) : Prop := a ≤ b ∧ b ≤ l.length ∧ ((l.drop a).take (b - a)).all not32 = true ∧ (b < l.length → l[b]? = some 32)
set_option maxRecDepth 100000 in
set_option maxHeartbeats 1000000 in
theorem upto_c (s : ByteArray) (a : Nat) (w : World) (hs : s.size ≤ 9223372036854775806) (ha : a ≤ s.size) :
    Calls Tryz.prog 148 #[.string s, .int .i64 a] w fun e w' => ∃ b, e = .returned (.int .i64 (b : Nat)) ∧ UpTo s.data.toList a b ∧ w = w' := by
  go_enter Tryz.func148, Tryz.ntmps148
  go_wp2
  go_loop [1] (fun i => ∃ k : Nat, a ≤ k ∧ k ≤ s.size ∧ i = .int .i64 k ∧ ((s.data.toList.drop a).take (k - a)).all not32 = true) (fun i => s.size - (intOf i).toNat)
  case atStart => exact ⟨a, Nat.le_refl _, ha, rfl, by rw [Nat.sub_self]; rfl⟩
  case round =>
    obtain ⟨k, hak, hk, rfl, hal⟩ := hrel
    have HA := Lib.hid hal
    clear hal
    by_cases hlt : k < s.size
    · rcases ne_cases s[k] 32 32 rfl with ⟨p, q⟩ | ⟨p, q⟩
      · have HN : Hid (((s.data.toList.drop a).take (k + 1 - a)).all not32 = true) := Lib.hid (by
          rw [show k + 1 - a = (k - a) + 1 by omega, List.take_add_one, List.all_append, HA.out, List.getElem?_drop, show a + (k - a) = k by omega, at_list s k hlt]
          simp [not32, q])
        clear q
        go_wp2
        go_round
        case rel => exact ⟨k + 1, by omega, by omega, by go_num, HN.out⟩
        case measure => simp [intOf]; omega
      · have HP : Hid (UpTo s.data.toList a k) := Lib.hid ⟨hak, by rw [size_list]; exact hk, HA.out, fun _ => by rw [at_list s k hlt, q]⟩
        clear q
        go_wp2
        go_ret
        exact ⟨k, rfl, HP.out, rfl⟩
    · have HP : Hid (UpTo s.data.toList a k) := Lib.hid ⟨hak, by rw [size_list]; exact hk, HA.out, fun h => by rw [size_list] at h; exact absurd h hlt⟩
      go_wp2
      go_ret
      exact ⟨k, rfl, HP.out, rfl⟩

theorem ret_rstart {w : World} {B : Nat} {v0 v1 v2 v3 v4 v5 e : Value} (h : Box6 w B v0 v1 v2 v3 v4 v5) {tmps : Array Value} (h4 : tmps[2]?.getD undef = .pointer (some ⟨B, 0, none⟩)) (h5 : tmps[3]?.getD undef = e) :
    (results Tryz.f118 tmps).run Tryz.prog w = .ok (.tuple #[.agg #[v0, v1, v2, v3, v4, v5], e]) w := by
  simp [results, Tryz.results118, go_sem, h4, h5, h.c0, h.c1, h.c2, h.c3, h.c4, h.c5]
theorem not32_ne {l : List UInt8} (h : l.all not32 = true) : ∀ x ∈ l, x ≠ 32 := fun x hx => by simpa [not32] using List.all_eq_true.1 h x hx
theorem start_1 {x r : List UInt8} (hx : x.all not32 = true) (h : ¬ (token x = true ∧ x.length ≤ 16)) : startL (x ++ 32 :: r) = ({}, 80) := by
  unfold startL; rw [pieces_at r (not32_ne hx)]; split
  · rename_i a b c e; injection e with e1 _; subst e1; rw [if_neg (fun g => h ⟨g.1, g.2.1⟩)]
  · rfl
theorem start_0 {x : List UInt8} (hx : x.all not32 = true) : startL x = ({}, 80) := start_not3 (by rw [pieces_no (not32_ne hx)]; simp)
theorem start_2 {x r : List UInt8} (hx : x.all not32 = true) (hr : r.all not32 = true) : startL (x ++ 32 :: r) = ({}, 80) := start_not3 (by rw [pieces_at r (not32_ne hx), pieces_no (not32_ne hr)]; simp)
theorem start_3 {x y c : List UInt8} (hx : x.all not32 = true) (hy : y.all not32 = true) (h : ¬ (y ≠ [] ∧ y.all tchar = true)) : startL (x ++ 32 :: (y ++ 32 :: c)) = ({}, 80) := by
  unfold startL; rw [pieces_at _ (not32_ne hx), pieces_at _ (not32_ne hy)]; split
  · rename_i a b d e; injection e with e1 e2; injection e2 with e2 e3; subst e1 e2; rw [if_neg (fun g => h ⟨g.2.2.1, g.2.2.2⟩)]
  · rfl
theorem version_blank {c : List UInt8} (h : ¬ c.all not32 = true) : versionL c = (0, 80) := by
  by_cases h8 : c.length = 8
  · match c, h8 with
    | [a0, a1, a2, a3, a4, a5, a6, a7], _ =>
      rw [version8]
      split
      · rename_i g
        obtain ⟨rfl, rfl, rfl, rfl, rfl, rfl⟩ := g
        split
        · rename_i g
          exfalso
          apply h
          have d5 : a5 ≠ 32 := by rintro rfl; exact absurd g.1 (by decide)
          have d7 : a7 ≠ 32 := by rintro rfl; exact absurd g.2 (by decide)
          simp [not32, d5, d7]
        · rfl
      · rfl
  · unfold versionL; rw [if_neg (fun g => h8 g.1)]
theorem start_4 {x y c : List UInt8} (hx : x.all not32 = true) (hy : y.all not32 = true) (ht : token x = true) (hl : x.length ≤ 16) (hy0 : y ≠ []) (hya : y.all tchar = true) :
    startL (x ++ 32 :: (y ++ 32 :: c)) = if (versionL c).2 = 0 then ({ method := x, target := y, minor := (versionL c).1 }, 0) else ({}, (versionL c).2) := by
  unfold startL; rw [pieces_at _ (not32_ne hx), pieces_at _ (not32_ne hy)]
  by_cases hc : c.all not32 = true
  · rw [pieces_no (not32_ne hc)]
    simp only
    rw [if_pos ⟨ht, hl, hy0, hya⟩]
  · rw [version_blank hc, if_neg (by decide)]
    split
    · rename_i a b d e
      exfalso
      injection e with _ e; injection e with _ e
      obtain ⟨z, hz, hz2⟩ : ∃ z ∈ c, ¬ not32 z = true := by simpa [List.all_eq_true] using hc
      have : (32 : UInt8) ∈ c := by simp [not32] at hz2; rw [← hz2]; exact hz
      obtain ⟨u, v, huv⟩ := List.append_of_mem this
      have hcount : ∀ u : List UInt8, 2 ≤ (pieces 32 (u ++ 32 :: v)).length := by
        intro u
        induction u with
        | nil => simp only [List.nil_append, pieces, if_true, List.length_cons]; have := pieces_ne 32 v; cases h : pieces 32 v with
          | nil => exact absurd h this
          | cons => simp
        | cons q u ih =>
          simp only [List.cons_append, pieces]
          split
          · simp only [List.length_cons]; omega
          · split
            · rename_i hq; rw [hq] at ih; simpa using ih
            · rename_i hq; exact absurd hq (pieces_ne _ _)
      have h2 := hcount u
      rw [← huv, e] at h2
      simp at h2
    · rfl
theorem upto_split {s : ByteArray} {a b : Nat} (h : UpTo s.data.toList a b) (hb : b < s.size) : s.data.toList.drop a = (s.extract a b).data.toList ++ 32 :: (s.extract (b + 1) s.size).data.toList ∧ (s.extract a b).data.toList.all not32 = true ∧ (s.extract a b).data.toList.length = b - a := by
  obtain ⟨h1, h2, h3, h4⟩ := h
  rw [size_list] at h2 h4
  have e := h4 hb
  rw [at_list s b hb] at e
  injection e with e
  refine ⟨?_, by rw [ext_list]; exact h3, by rw [ext_list, List.length_take, List.length_drop, size_list]; omega⟩
  have e2 : (s.extract (b + 1) s.size).data.toList = s.data.toList.drop (b + 1) := by rw [ext_list, List.take_of_length_le (by rw [List.length_drop, size_list]; exact Nat.le_refl _)]
  rw [e2, ext_list, ← e, ← byte_at s b hb]
  conv => lhs; rw [← List.take_append_drop (b - a) (s.data.toList.drop a)]
  rw [List.drop_drop, show a + (b - a) = b by omega]
theorem upto_all {s : ByteArray} {a b : Nat} (h : UpTo s.data.toList a b) (hb : ¬ b < s.size) : (s.data.toList.drop a).all not32 = true := by
  obtain ⟨h1, h2, h3, h4⟩ := h
  rw [size_list] at h2
  rw [List.take_of_length_le (by rw [List.length_drop, size_list]; omega)] at h3
  exact h3
theorem all_snoc_at {p : UInt8 → Bool} {s : ByteArray} {a k : Nat} (h : ((s.data.toList.drop a).take (k - a)).all p = true) (ha : a ≤ k) (hk : k < s.size) (hp : p s[k] = true) : ((s.data.toList.drop a).take (k + 1 - a)).all p = true := by
  rw [show k + 1 - a = (k - a) + 1 by omega, List.take_add_one, List.all_append, h, List.getElem?_drop, show a + (k - a) = k by omega, at_list s k hk]
  simp [hp]
theorem all_bad_at {p : UInt8 → Bool} {s : ByteArray} {a k b : Nat} (ha : a ≤ k) (hk : k < b) (hb : b ≤ s.size) (hks : k < s.size) (hp : p s[k] = false) : ¬ (s.extract a b).data.toList.all p = true := by
  intro h
  rw [ext_list, List.all_eq_true] at h
  have := h s[k] (by
    have e : ((s.data.toList.drop a).take (b - a))[k - a]? = some s[k] := by rw [List.getElem?_take, if_pos (by omega), List.getElem?_drop, show a + (k - a) = k by omega, at_list s k hks]
    exact List.mem_of_getElem? e)
  rw [hp] at this; exact absurd this (by decide)
set_option maxRecDepth 100000 in
set_option maxHeartbeats 8000000 in
theorem rstart_c (s : ByteArray) (w : World) (hs : s.size ≤ 4194304) :
    Calls Tryz.prog 118 #[.string s] w (FirstPost (startL s.data.toList) w) := by
  have B0 := Lib.hid ((Below.refl _ w).alloc (Nat.le_refl _) (.cells #[.string ⟨#[]⟩, .string ⟨#[]⟩, .int .i64 0, .string ⟨#[]⟩, .int .i64 0, .slice none 0 0] 42))
  have X0 := Lib.hid (box6_new w (.string ⟨#[]⟩) (.string ⟨#[]⟩) (.int .i64 0) (.string ⟨#[]⟩) (.int .i64 0) (.slice none 0 0) 42)
  obtain ⟨x, hx⟩ : ∃ x, startL s.data.toList = x := ⟨_, rfl⟩
  rw [hx]
  have HX := Lib.hid hx
  clear hx
  have UP0 := fun w => Lib.hid (upto_c s 0 w (by omega) (Nat.zero_le _))
  simp only [Int.natCast_zero] at UP0
  obtain ⟨V, hV⟩ : ∃ V, w.alloc (.cells #[.string ⟨#[]⟩, .string ⟨#[]⟩, .int .i64 0, .string ⟨#[]⟩, .int .i64 0, .slice none 0 0] 42) = V := ⟨_, rfl⟩
  have hVs : V.heap.size = w.heap.size + 1 := by rw [← hV]; simp
  rw [hV] at B0 X0
  have HV := Lib.hid hV
  clear hV
  obtain ⟨c0, c1, c2, c3, c4, c5, fz⟩ := X0.out
  have f0 := fz 0; have f1 := fz 1; have f2 := fz 2; have f3 := fz 3; have f4 := fz 4; have f5 := fz 5
  clear fz
  go_enter Tryz.func118, Tryz.ntmps118
  go_wp2_with fail
  rw [HV.out]
  refine (UP0 _).out.mono ?_
  rintro e w1 ⟨a, rfl, hu, rfl⟩
  by_cases ha : a < s.size
  · obtain ⟨e1, hx1, hl1⟩ := upto_split hu ha
    rw [List.drop_zero] at e1
    have TK := fun w => Lib.hid (rtoken_c (s.extract 0 a) w (by rw [← size_list, hl1]; omega))
    have q1 : ¬ (s.size : Int) ≤ (a : Int) := by omega
    have ha1 : a ≤ s.size := by omega
    by_cases hg : a ≤ 16 ∧ token (s.extract 0 a).data.toList = true
    · have E1 := Lib.hid e1
      have HX1 := Lib.hid hx1
      have HL1 := Lib.hid hl1
      have HT := Lib.hid hg.2
      have q2 : ¬ (16 : Int) < (a : Int) := by omega
      rw [hg.2] at TK
      have UP1 := fun w => Lib.hid (upto_c s (a + 1) w (by omega) (by omega))
      rw [show (((a + 1 : Nat)) : Int) = (a : Int) + 1 from rfl] at UP1
      clear e1 hx1 hl1 hg hu UP0
      go_wp2_with (go_at_call 53; refine (TK _).out.mono ?_; rintro e w2 ⟨rfl, rfl⟩)
      refine (UP1 _).out.mono ?_
      rintro e w2 ⟨b, rfl, hu, rfl⟩
      by_cases hb : b < s.size
      · obtain ⟨e2, hx2, hl2⟩ := upto_split hu hb
        have hab := hu.1
        have e3 : s.data.toList = (s.extract 0 a).data.toList ++ 32 :: ((s.extract (a + 1) b).data.toList ++ 32 :: (s.extract (b + 1) s.size).data.toList) := by
          rw [← e2]
          have := E1.out
          rw [show (s.extract (a + 1) s.size).data.toList = s.data.toList.drop (a + 1) from by rw [ext_list, List.take_of_length_le (by rw [List.length_drop, size_list]; exact Nat.le_refl _)]] at this
          exact this
        have p1 : ¬ (s.size : Int) ≤ (b : Int) := by omega
        by_cases hb1 : b = a + 1
        · have p2 : ((b : Int) == (a : Int) + 1) = true := by rw [beq_iff_eq]; omega
          have hst : startL s.data.toList = ({}, 80) := by rw [e3]; exact start_3 HX1.out hx2 (fun g => g.1 (List.eq_nil_of_length_eq_zero (by omega)))
          obtain rfl := HX.out.symm.trans hst
          clear e2 hx2 hl2 e3 hu hst
          go_wp2
          refine bodyPost_ret (ret_rstart (Box6.stored X0.out _ _ _ _ _ _) rfl rfl) rfl ?_
          exact first_bad (by decide) (below_set6 B0.out (Nat.le_refl _) _ _ _ _ _ _)
        · have p2 : ((b : Int) == (a : Int) + 1) = false := by rw [beq_eq_false_iff_ne]; omega
          have VE := fun w => Lib.hid (rversion_c (s.extract (b + 1) s.size) w (by rw [← size_list, ext_list, List.length_take, List.length_drop, size_list]; omega))
          have E3 := Lib.hid e3
          have HX2 := Lib.hid hx2
          have HL2 := Lib.hid hl2
          clear e2 hx2 hl2 e3 hu UP1 TK
          go_wp2_with fail
          go_loop [6] (fun i => ∃ k : Nat, a + 1 ≤ k ∧ k ≤ b ∧ i = .int .i64 k ∧ ((s.data.toList.drop (a + 1)).take (k - (a + 1))).all tchar = true) (fun i => b - (intOf i).toNat)
          case atStart => exact ⟨a + 1, Nat.le_refl _, hab, rfl, by rw [Nat.sub_self]; rfl⟩
          case round =>
            obtain ⟨k, hk0, hkb, rfl, hall⟩ := hrel
            have HA := Lib.hid hall
            clear hall
            by_cases hlt : k < b
            · have hks : k < s.size := by omega
              by_cases ht : 33 ≤ (s[k].toNat : Int) ∧ (s[k].toNat : Int) ≤ 126
              · have t1 : ¬ (s[k].toNat : Int) ≤ 32 := by omega
                have t2 : ¬ (127 : Int) ≤ (s[k].toNat : Int) := by omega
                have HN := Lib.hid (all_snoc_at HA.out hk0 hks (tchar_yes ht.1 ht.2))
                clear ht
                go_wp2
                go_round
                case rel => exact ⟨k + 1, by omega, by omega, by go_num, HN.out⟩
                case measure => simp [intOf]; omega
              · have hbad := all_bad_at (p := tchar) hk0 hlt (by omega : b ≤ s.size) hks (tchar_no ht)
                have hst : startL s.data.toList = ({}, 80) := by rw [E3.out]; exact start_3 HX1.out HX2.out (fun g => hbad g.2)
                obtain rfl := HX.out.symm.trans hst
                rcases (by omega : (s[k].toNat : Int) ≤ 32 ∨ (¬ (s[k].toNat : Int) ≤ 32 ∧ (127 : Int) ≤ (s[k].toNat : Int))) with t1 | ⟨t1, t2⟩
                all_goals
                  clear ht hbad hst
                  go_wp2
                  refine bodyPost_ret (ret_rstart (Box6.stored X0.out _ _ _ _ _ _) rfl rfl) rfl ?_
                  exact first_bad (by decide) (below_set6 B0.out (Nat.le_refl _) _ _ _ _ _ _)
            · obtain rfl : k = b := by omega
              have h4 : startL s.data.toList = (if (versionL (s.extract (k + 1) s.size).data.toList).2 = 0 then ({ method := (s.extract 0 a).data.toList, target := (s.extract (a + 1) k).data.toList, minor := (versionL (s.extract (k + 1) s.size).data.toList).1 }, 0) else ({}, (versionL (s.extract (k + 1) s.size).data.toList).2)) := by
                rw [E3.out]; exact start_4 HX1.out HX2.out HT.out (by rw [HL1.out]; omega) (fun g => by have := HL2.out; rw [g] at this; simp at this; omega) (by rw [ext_list]; exact HA.out)
              have hst := HX.out.symm.trans h4
              clear h4
              obtain ⟨y, hy⟩ : ∃ y, versionL (s.extract (k + 1) s.size).data.toList = y := ⟨_, rfl⟩
              rw [hy] at hst VE
              obtain ⟨mn, ve⟩ := y
              simp only [verVal] at VE hst
              have hk1 : (k : Int) < (s.size : Int) := by omega
              by_cases hve : ve = 0
              · subst hve
                rw [if_pos rfl] at hst
                subst hst
                have ve0 : ((0 : Int) != 0) = false := rfl
                clear hy HX
                go_wp2_with (go_at_call 149; refine (VE _).out.mono ?_; rintro e w3 ⟨rfl, rfl⟩)
                have s1 : (a : Int) ≤ (s.size : Int) := by omega
                have s2 : (a : Int) + 1 ≤ (k : Int) := by omega
                have s3 : (k : Int) ≤ (s.size : Int) := by omega
                have s4 : (0 : Int) ≤ (a : Int) := by omega
                have s5 : (0 : Int) ≤ (a : Int) + 1 := by omega
                have s6 : (0 : Int) ≤ (k : Int) := by omega
                go_region
                go_wp2
                refine bodyPost_ret (ret_rstart ((Box6.stored X0.out _ _ _ _ _ _).below (Below.refl _ _).drew) rfl rfl) rfl ?_
                refine ⟨{ method := (s.extract 0 a).data.toList, target := (s.extract (a + 1) k).data.toList, minor := mn }, ?_, fun _ => rfl, (below_set6 B0.out (Nat.le_refl _) _ _ _ _ _ _).drew⟩
                unfold hd0; simp only [list_bs]; rfl
              · rw [if_neg hve] at hst
                subst hst
                have ve0 : (ve != 0) = true := by rw [bne_iff_ne]; exact hve
                clear hy HX
                go_wp2_with (go_at_call 149; refine (VE _).out.mono ?_; rintro e w3 ⟨rfl, rfl⟩)
                refine bodyPost_ret (ret_rstart (Box6.stored X0.out _ _ _ _ _ _) rfl rfl) rfl ?_
                exact first_bad hve (below_set6 B0.out (Nat.le_refl _) _ _ _ _ _ _)
      · have hall := upto_all hu hb
        have p1 : (s.size : Int) ≤ (b : Int) := by omega
        have hst : startL s.data.toList = ({}, 80) := by
          have := E1.out
          rw [show (s.extract (a + 1) s.size).data.toList = s.data.toList.drop (a + 1) from by rw [ext_list, List.take_of_length_le (by rw [List.length_drop, size_list]; exact Nat.le_refl _)]] at this
          rw [this]; exact start_2 HX1.out hall
        obtain rfl := HX.out.symm.trans hst
        clear hall hu hst
        go_wp2
        refine bodyPost_ret (ret_rstart (Box6.stored X0.out _ _ _ _ _ _) rfl rfl) rfl ?_
        exact first_bad (by decide) (below_set6 B0.out (Nat.le_refl _) _ _ _ _ _ _)
    · have hst : startL s.data.toList = ({}, 80) := by rw [e1]; exact start_1 hx1 (fun g => hg ⟨by omega, g.1⟩)
      obtain rfl := HX.out.symm.trans hst
      clear hst
      rcases (by omega : (16 : Int) < (a : Int) ∨ ¬ (16 : Int) < (a : Int)) with q2 | q2
      case' inr =>
        have q3 : token (s.extract 0 a).data.toList = false := by
          cases h : token (s.extract 0 a).data.toList
          · rfl
          · exact absurd ⟨by omega, h⟩ hg
        rw [q3] at TK
      all_goals
        clear e1 hx1 hl1 hg hu UP0
        go_wp2_with (go_at_call 53; refine (TK _).out.mono ?_; rintro e w2 ⟨rfl, rfl⟩)
        refine bodyPost_ret (ret_rstart (Box6.stored X0.out _ _ _ _ _ _) rfl rfl) rfl ?_
        exact first_bad (by decide) (below_set6 B0.out (Nat.le_refl _) _ _ _ _ _ _)
  · have hall := upto_all hu ha
    rw [List.drop_zero] at hall
    have q1 : (s.size : Int) ≤ (a : Int) := by omega
    obtain rfl := HX.out.symm.trans (start_0 hall)
    clear hall hu UP0
    go_wp2
    refine bodyPost_ret (ret_rstart (Box6.stored X0.out _ _ _ _ _ _) rfl rfl) rfl ?_
    exact first_bad (by decide) (below_set6 B0.out (Nat.le_refl _) _ _ _ _ _ _)
end Go.Proofs.YtgmjkkiahanekaaGreatDoor

