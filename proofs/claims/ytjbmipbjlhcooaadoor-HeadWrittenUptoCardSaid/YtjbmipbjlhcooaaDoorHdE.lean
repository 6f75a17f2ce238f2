/- The contract of head.start. -/
import Derived.Test.YtjbmipbjlhcooaaDoorHdD
import Derived.Test.YtjbmipbjlhcooaaDoorPathG
set_option linter.unusedVariables false
set_option linter.unusedSimpArgs false
namespace Go.Proofs.YtjbmipbjlhcooaaDoor
open Go.RowKit Lex

def hd0 (h : Hd) : Value := .agg #[.string (bs h.method), .string (bs h.target), .int .i64 h.status, .string (bs h.reason), .int .i64 h.minor, .slice none 0 0]
def FirstPost (x : Hd × Int) (w : World) (e : Ending) (w' : World) : Prop := ∃ h : Hd, e = .returned (.tuple #[hd0 h, .int .i64 x.2]) ∧ (x.2 = 0 → h = x.1) ∧ Below w.heap.size w w'
theorem ret_start {w : World} {B : Nat} {v0 v1 v2 v3 v4 v5 e : Value} (h : Box6 w B v0 v1 v2 v3 v4 v5) {tmps : Array Value} (h4 : tmps[2]?.getD undef = .pointer (some ⟨B, 0, none⟩)) (h5 : tmps[3]?.getD undef = e) :
    (results Tryd.f47 tmps).run Tryd.prog w = .ok (.tuple #[.agg #[v0, v1, v2, v3, v4, v5], e]) w := by
  simp [results, Tryd.results47, go_sem, h4, h5, h.c0, h.c1, h.c2, h.c3, h.c4, h.c5]
theorem start_not3 {l : List UInt8} (h : (pieces 32 l).length ≠ 3) : startL l = ({}, 80) := by
  unfold startL
  split
  · rename_i e; rw [e] at h; exact absurd rfl h
  · rfl
theorem below_set6 {W w : World} {B : Nat} (h : Below W.heap.size W w) (hB : W.heap.size ≤ B) (u0 u1 u2 u3 u4 u5 : Value) : Below W.heap.size W ((((((w.setCell ⟨B, 0, none⟩ u0).setCell ⟨B, 1, none⟩ u1).setCell ⟨B, 2, none⟩ u2).setCell ⟨B, 3, none⟩ u3).setCell ⟨B, 4, none⟩ u4).setCell ⟨B, 5, none⟩ u5) :=
  (((((h.setCell hB _).setCell hB _).setCell hB _).setCell hB _).setCell hB _).setCell hB _
theorem tchar_no {c : UInt8} (h : ¬ (33 ≤ (c.toNat : Int) ∧ (c.toNat : Int) ≤ 126)) : tchar c = false := by unfold tchar; simp only [Bool.and_eq_false_iff, decide_eq_false_iff_not]; omega
theorem tchar_yes {c : UInt8} (h1 : 33 ≤ (c.toNat : Int)) (h2 : (c.toNat : Int) ≤ 126) : tchar c = true := by simp [tchar, h1, h2]
set_option maxRecDepth 100000 in
set_option maxHeartbeats 4000000 in
theorem start_c (s : ByteArray) (M : Int) (w : World) (hs : s.size ≤ 4194304) (hm : w.cell? ⟨0, 0, none⟩ = some (.int .i64 M)) :
    Calls Tryd.prog 47 #[.string s] w (FirstPost (startL s.data.toList) w) := by
  have SP := fun w h => Lib.hid (split_c s 32 M w (by omega) h)
  have hpl := pieces_mem 32 s.data.toList
  generalize hp : pieces 32 s.data.toList = p at *
  have B0 := Lib.hid ((Below.refl _ w).alloc (Nat.le_refl _) (.cells #[.string ⟨#[]⟩, .string ⟨#[]⟩, .int .i64 0, .string ⟨#[]⟩, .int .i64 0, .slice none 0 0] 43))
  have X0 := Lib.hid (box6_new w (.string ⟨#[]⟩) (.string ⟨#[]⟩) (.int .i64 0) (.string ⟨#[]⟩) (.int .i64 0) (.slice none 0 0) 43)
  have HM := Lib.hid (cell_below B0.out hm)
  have hV : w.heap.size < (w.alloc (.cells #[.string ⟨#[]⟩, .string ⟨#[]⟩, .int .i64 0, .string ⟨#[]⟩, .int .i64 0, .slice none 0 0] 43)).heap.size := by simp
  clear hm
  by_cases h3 : p.length = 3
  · obtain ⟨a, b, c, rfl⟩ : ∃ a b c, p = [a, b, c] := by
      match p, h3 with
      | [a, b, c], _ => exact ⟨a, b, c, rfl⟩
    have ha := (hpl a (by simp)).1
    have hb := (hpl b (by simp)).1
    have hc := (hpl c (by simp)).1
    rw [size_list] at ha hb hc
    have TK := fun w => Lib.hid (token_c (bs a) w (by rw [bs_size]; omega))
    have VE := fun w => Lib.hid (version_c (bs c) w (by rw [bs_size]; omega))
    rw [bs_list] at TK VE
    have hst : startL s.data.toList = if token a = true ∧ a.length ≤ 16 ∧ b ≠ [] ∧ b.all tchar = true then (if (versionL c).2 = 0 then ({ method := a, target := b, minor := (versionL c).1 }, 0) else ({}, (versionL c).2)) else ({}, 80) := by unfold startL; rw [hp]
    rw [hst]
    have HPP := Lib.hid hpl
    clear hst hp hpl
    obtain ⟨Bq, rfl⟩ : ∃ Bq : ByteArray, b = Bq.data.toList := ⟨bs b, rfl⟩
    rw [size_list] at hb
    have HW : Hid (∀ w1, w1 = (w.alloc (.cells #[.string ⟨#[]⟩, .string ⟨#[]⟩, .int .i64 0, .string ⟨#[]⟩, .int .i64 0, .slice none 0 0] 43)).alloc (.cells (strs [a, Bq.data.toList, c]).toArray 9) →
        Below w.heap.size w w1 ∧ Box6 w1 w.heap.size (.string ⟨#[]⟩) (.string ⟨#[]⟩) (.int .i64 0) (.string ⟨#[]⟩) (.int .i64 0) (.slice none 0 0) ∧
        w1.cell? ⟨w.heap.size + 1, 0, none⟩ = some (.string (bs a)) ∧ w1.cell? ⟨w.heap.size + 1, 1, none⟩ = some (.string Bq) ∧ w1.cell? ⟨w.heap.size + 1, 2, none⟩ = some (.string (bs c))) := Lib.hid (by
      rintro w1 rfl
      have hsz : (w.alloc (.cells #[.string ⟨#[]⟩, .string ⟨#[]⟩, .int .i64 0, .string ⟨#[]⟩, .int .i64 0, .slice none 0 0] 43)).heap.size = w.heap.size + 1 := by simp
      refine ⟨B0.out.alloc B0.out.size _, X0.out.alloc _, ?_, ?_, ?_⟩ <;> (rw [← hsz, World.cell?_alloc_new])
      · rfl
      · show some (Value.string (bs Bq.data.toList)) = _; rw [list_bs]
      · rfl)
    have hla : (bs a).size = a.length := bs_size a
    have bad : ∀ Q : Prop, ¬ (token a = true ∧ a.length ≤ 16 ∧ Bq.data.toList ≠ [] ∧ Bq.data.toList.all tchar = true) → (if token a = true ∧ a.length ≤ 16 ∧ Bq.data.toList ≠ [] ∧ Bq.data.toList.all tchar = true then (if (versionL c).2 = 0 then (({ method := a, target := Bq.data.toList, minor := (versionL c).1 } : Hd), (0 : Int)) else ({}, (versionL c).2)) else ({}, 80)) = ({}, 80) := fun _ h => if_neg h
    by_cases g1 : token a = true
    · rw [g1] at TK
      by_cases g2 : a.length ≤ 16
      · have q2 : ¬ (16 : Int) < ((bs a).size : Int) := by omega
        have q2' : ¬ (16 : Int) < (a.length : Int) := by omega
        by_cases g3 : Bq.data.toList = []
        · rw [bad True (fun h => h.2.2.1 g3)]
          have g3' : Bq.toList = [] := by rw [Lib.toList_data]; exact g3
          clear g1 g2 g3 bad hla
          go_enter Tryd.func47, Tryd.ntmps47
          go_wp2_with fail
          refine (SP _ HM.out).out.mono ?_
          rintro e w1 ⟨rfl, hw1⟩
          obtain ⟨hB1, hX1, e0, e1, e2⟩ := HW.out _ hw1
          clear hw1
          have B1 := Lib.hid hB1
          have X1 := Lib.hid hX1
          obtain ⟨c0, c1, c2, c3, c4, c5, fz⟩ := X1.out
          have f0 := fz 0; have f1 := fz 1; have f2 := fz 2; have f3 := fz 3; have f4 := fz 4; have f5 := fz 5
          clear hB1 hX1
          clear fz
          go_wp2_with (go_at_call 52; refine (TK _).out.mono ?_; rintro e w3 ⟨rfl, rfl⟩)
          refine bodyPost_ret (ret_start (Box6.stored X1.out _ _ _ _ _ _) rfl rfl) rfl ?_
          exact ⟨{}, rfl, (fun h => absurd h (by decide)), below_set6 B1.out (Nat.le_refl _) _ _ _ _ _ _⟩
        · have g3' : Bq.toList.isEmpty = false := by rw [Lib.toList_data]; cases hq : Bq.data.toList with
            | nil => exact absurd hq g3
            | cons => rfl
          obtain ⟨x, hx⟩ : ∃ x, versionL c = x := ⟨_, rfl⟩
          rw [hx] at VE ⊢
          obtain ⟨mn, ve⟩ := x
          simp only [verVal] at VE
          have HB : Hid (Bq.data.toList.all tchar = false → (if token a = true ∧ a.length ≤ 16 ∧ Bq.data.toList ≠ [] ∧ Bq.data.toList.all tchar = true then (if (mn, ve).2 = 0 then (({ method := a, target := Bq.data.toList, minor := (mn, ve).1 } : Hd), (0 : Int)) else ({}, (mn, ve).2)) else ({}, 80)) = ({}, 80)) := Lib.hid (fun h => if_neg (fun h2 => by rw [h] at h2; exact absurd h2.2.2.2 (by decide)))
          have HG : Hid (Bq.data.toList.all tchar = true → (if token a = true ∧ a.length ≤ 16 ∧ Bq.data.toList ≠ [] ∧ Bq.data.toList.all tchar = true then (if (mn, ve).2 = 0 then (({ method := a, target := Bq.data.toList, minor := (mn, ve).1 } : Hd), (0 : Int)) else ({}, (mn, ve).2)) else ({}, 80)) = (if ve = 0 then (({ method := a, target := Bq.data.toList, minor := mn } : Hd), (0 : Int)) else ({}, ve))) := Lib.hid (fun h => if_pos ⟨g1, g2, g3, h⟩)
          generalize (if token a = true ∧ a.length ≤ 16 ∧ Bq.data.toList ≠ [] ∧ Bq.data.toList.all tchar = true then (if (mn, ve).2 = 0 then (({ method := a, target := Bq.data.toList, minor := (mn, ve).1 } : Hd), (0 : Int)) else ({}, (mn, ve).2)) else ({}, 80)) = v at *
          clear g1 g2 g3 bad hla hx
          go_enter Tryd.func47, Tryd.ntmps47
          go_wp2_with fail
          refine (SP _ HM.out).out.mono ?_
          rintro e w1 ⟨rfl, hw1⟩
          obtain ⟨hB1, hX1, e0, e1, e2⟩ := HW.out _ hw1
          clear hw1
          have B1 := Lib.hid hB1
          have X1 := Lib.hid hX1
          obtain ⟨c0, c1, c2, c3, c4, c5, fz⟩ := X1.out
          have f0 := fz 0; have f1 := fz 1; have f2 := fz 2; have f3 := fz 3; have f4 := fz 4; have f5 := fz 5
          clear fz
          clear hB1 hX1
          go_wp2_with (go_at_call 52; refine (TK _).out.mono ?_; rintro e w3 ⟨rfl, rfl⟩)
          go_loop [5, 38] (fun _ i => ∃ k : Nat, k ≤ Bq.size ∧ i = .int .i64 k ∧ (Bq.data.toList.take k).all tchar = true) (fun _ i => Bq.size - (intOf i).toNat)
          case atStart => exact ⟨0, Nat.zero_le _, rfl, rfl⟩
          case round =>
            obtain ⟨k, hk, rfl, hall⟩ := hrel
            have HA := Lib.hid hall
            clear hall
            by_cases hlt : k < Bq.size
            · by_cases ht : 33 ≤ (Bq[k].toNat : Int) ∧ (Bq[k].toNat : Int) ≤ 126
              · have t1 : ¬ (Bq[k].toNat : Int) < 33 := by omega
                have t2 : ¬ 126 < (Bq[k].toNat : Int) := by omega
                have HN := Lib.hid (all_take_snoc tchar Bq k hlt HA.out (tchar_yes ht.1 ht.2))
                clear ht
                go_wp2
                go_round
                case rel => exact ⟨k + 1, by omega, by go_num, HN.out⟩
                case measure => simp [intOf]; omega
              · have hf := all_of_take tchar Bq k hlt (tchar_no ht)
                obtain rfl := HB.out hf
                have HT := Lib.hid ht
                by_cases t1 : (Bq[k].toNat : Int) < 33
                · clear ht hf
                  go_wp2
                  refine bodyPost_ret (ret_start (Box6.stored X1.out _ _ _ _ _ _) rfl rfl) rfl ?_
                  exact ⟨{}, rfl, (fun h => absurd h (by decide)), below_set6 B1.out (Nat.le_refl _) _ _ _ _ _ _⟩
                · have t2 : 126 < (Bq[k].toNat : Int) := by omega
                  clear ht hf
                  go_wp2
                  refine bodyPost_ret (ret_start (Box6.stored X1.out _ _ _ _ _ _) rfl rfl) rfl ?_
                  exact ⟨{}, rfl, (fun h => absurd h (by decide)), below_set6 B1.out (Nat.le_refl _) _ _ _ _ _ _⟩
            · have hall := HA.out
              rw [take_all Bq k hlt] at hall
              have hv := HG.out hall
              have hv2 : v.2 = ve := by rw [hv]; split <;> simp_all
              have HV1 : Hid (ve = 0 → v.1 = { method := a, target := Bq.data.toList, minor := mn }) := Lib.hid (fun h => by rw [hv, if_pos h])
              obtain ⟨v1, v2⟩ := v
              simp only at hv2 HV1
              subst hv2
              clear hall hv HB HG
              go_wp2_with (go_at_call 75; refine (VE _).out.mono ?_; rintro e w3 ⟨rfl, rfl⟩)
              go_region
              go_wp2
              refine bodyPost_ret (ret_start ((Box6.stored X1.out _ _ _ _ _ _).below (Below.refl _ _).drew) rfl rfl) rfl ?_
              refine ⟨{ method := a, target := Bq.data.toList, minor := mn }, ?_, ?_, (below_set6 B1.out (Nat.le_refl _) _ _ _ _ _ _).drew⟩
              · unfold hd0; simp only [list_bs]; rfl
              · exact fun h => (HV1.out h).symm
      · have q2 : (16 : Int) < ((bs a).size : Int) := by omega
        have q2' : (16 : Int) < (a.length : Int) := by omega
        rw [bad True (fun h => g2 h.2.1)]
        clear g1 g2 bad hla
        go_enter Tryd.func47, Tryd.ntmps47
        go_wp2_with fail
        refine (SP _ HM.out).out.mono ?_
        rintro e w1 ⟨rfl, hw1⟩
        obtain ⟨hB1, hX1, e0, e1, e2⟩ := HW.out _ hw1
        clear hw1
        have B1 := Lib.hid hB1
        have X1 := Lib.hid hX1
        obtain ⟨c0, c1, c2, c3, c4, c5, fz⟩ := X1.out
        have f0 := fz 0; have f1 := fz 1; have f2 := fz 2; have f3 := fz 3; have f4 := fz 4; have f5 := fz 5
        clear hB1 hX1
        clear fz
        go_wp2_with (go_at_call 52; refine (TK _).out.mono ?_; rintro e w3 ⟨rfl, rfl⟩)
        refine bodyPost_ret (ret_start (Box6.stored X1.out _ _ _ _ _ _) rfl rfl) rfl ?_
        exact ⟨{}, rfl, (fun h => absurd h (by decide)), below_set6 B1.out (Nat.le_refl _) _ _ _ _ _ _⟩
    · rw [Bool.eq_false_iff.2 g1] at TK
      rw [bad True (fun h => g1 h.1)]
      clear g1 bad hla
      go_enter Tryd.func47, Tryd.ntmps47
      go_wp2_with fail
      refine (SP _ HM.out).out.mono ?_
      rintro e w1 ⟨rfl, hw1⟩
      obtain ⟨hB1, hX1, e0, e1, e2⟩ := HW.out _ hw1
      clear hw1
      have B1 := Lib.hid hB1
      have X1 := Lib.hid hX1
      obtain ⟨c0, c1, c2, c3, c4, c5, fz⟩ := X1.out
      have f0 := fz 0; have f1 := fz 1; have f2 := fz 2; have f3 := fz 3; have f4 := fz 4; have f5 := fz 5
      clear hB1 hX1
      clear fz
      go_wp2_with (go_at_call 52; refine (TK _).out.mono ?_; rintro e w3 ⟨rfl, rfl⟩)
      refine bodyPost_ret (ret_start (Box6.stored X1.out _ _ _ _ _ _) rfl rfl) rfl ?_
      exact ⟨{}, rfl, (fun h => absurd h (by decide)), below_set6 B1.out (Nat.le_refl _) _ _ _ _ _ _⟩
  · have hst := start_not3 (l := s.data.toList) (by rw [hp]; exact h3)
    rw [hst]
    have bn : ((p.length : Int) != 3) = true := by rw [bne_iff_ne]; omega
    clear hst hp
    go_enter Tryd.func47, Tryd.ntmps47
    go_wp2_with fail
    refine (SP _ HM.out).out.mono ?_
    rintro e w1 ⟨rfl, hw1⟩
    have B1 : Hid (Below w.heap.size w w1) := Lib.hid (by rw [hw1]; exact B0.out.alloc B0.out.size (.cells (strs p).toArray 9))
    have X1 : Hid (Box6 w1 w.heap.size (.string ⟨#[]⟩) (.string ⟨#[]⟩) (.int .i64 0) (.string ⟨#[]⟩) (.int .i64 0) (.slice none 0 0)) := Lib.hid (by rw [hw1]; exact X0.out.alloc (.cells (strs p).toArray 9))
    clear hw1
    obtain ⟨c0, c1, c2, c3, c4, c5, fz⟩ := X1.out
    have f0 := fz 0; have f1 := fz 1; have f2 := fz 2; have f3 := fz 3; have f4 := fz 4; have f5 := fz 5
    clear fz
    go_wp2
    refine bodyPost_ret (ret_start (Box6.stored X1.out _ _ _ _ _ _) rfl rfl) rfl ?_
    exact ⟨{}, rfl, (fun h => absurd h (by decide)), below_set6 B1.out (Nat.le_refl _) _ _ _ _ _ _⟩
end Go.Proofs.YtjbmipbjlhcooaaDoor
