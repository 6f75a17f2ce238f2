/- The texts InX in one. -/
import Derived.Test.YtgmjkkiahanekaaGreatDoorM35
import Derived.Test.YtgmjkkiahanekaaGreatDoorM39
import Derived.Test.YtgmjkkiahanekaaGreatDoorM7
/- The walk over InflowSmuggles. -/
set_option linter.unusedVariables false
set_option linter.unusedSimpArgs false
namespace Go.Proofs.YtgmjkkiahanekaaGreatDoor
open Go.RowKit Lex

theorem texts_new (w : World) (ss : List (List UInt8)) (cs : Array Value) (T : TypeId) (h : cs.toList = ss.map fun s => .string (bs s)) : TextsO (w.alloc (.cells cs T)) (some ⟨w.heap.size, 0, none⟩) ss := fun j hj => by
  refine ⟨w.heap.size, 0, rfl, ?_⟩
  rw [Nat.zero_add, World.cell?_alloc_new, ← Array.getElem?_toList, h, List.getElem?_map, List.getElem?_eq_getElem hj]
  rfl
def okP (c : UInt8) : Bool := !(decide ((c.toNat : Int) ≤ 32) || decide ((127 : Int) ≤ (c.toNat : Int)) || decide ((c.toNat : Int) = 37) || decide ((c.toNat : Int) = 46) || decide ((c.toNat : Int) = 63) || decide ((c.toNat : Int) = 35))
theorem okP_tchar {c : UInt8} (h : okP c = true) : tchar c = true := by
  unfold okP at h
  unfold tchar
  simp only [Bool.not_eq_true', Bool.or_eq_false_iff, decide_eq_false_iff_not] at h
  simp only [Bool.and_eq_true, decide_eq_true_eq]
  omega
def smug0 (p : List UInt8) (k : Nat) : List UInt8 := wfirst postM (47 :: p) ++ 13 :: 10 :: (hostH ++ badK k ++ [13, 10])
def smug1 (t : List UInt8) : List UInt8 := [48, 13, 10, 13, 10] ++ t
def smug2 : List UInt8 := [71, 69, 84, 32, 47, 32, 72, 84, 84, 80, 47, 49, 46, 49, 13, 10, 72, 111, 115, 116, 58, 32, 104, 13, 10, 13, 10]
theorem smug_text (p : ByteArray) (k : Nat) : (((⟨#[80, 79, 83, 84, 32, 47]⟩ ++ p) ++ ⟨#[32, 72, 84, 84, 80, 47, 49, 46, 49, 13, 10, 72, 111, 115, 116, 58, 32, 104, 13, 10]⟩) ++ bs (badK k)) ++ ⟨#[13, 10]⟩ = bs (smug0 p.data.toList k) := by
  refine bytes_ext ?_
  unfold smug0 wfirst postM hostH httpE
  simp [bs_list]
theorem smug_text0 (p : ByteArray) : (((⟨#[80, 79, 83, 84, 32, 47]⟩ ++ p) ++ ⟨#[32, 72, 84, 84, 80, 47, 49, 46, 49, 13, 10, 72, 111, 115, 116, 58, 32, 104, 13, 10]⟩) ++ ⟨#[67, 111, 110, 116, 101, 110, 116, 45, 76, 101, 110, 103, 116, 104, 58, 32, 51, 13, 10, 84, 114, 97, 110, 115, 102, 101, 114, 45, 69, 110, 99, 111, 100, 105, 110, 103, 58, 32, 99, 104, 117, 110, 107, 101, 100, 13, 10]⟩) ++ ⟨#[13, 10]⟩ = bs (smug0 p.data.toList 0) := smug_text p 0
theorem smug_text1 (p : ByteArray) : (((⟨#[80, 79, 83, 84, 32, 47]⟩ ++ p) ++ ⟨#[32, 72, 84, 84, 80, 47, 49, 46, 49, 13, 10, 72, 111, 115, 116, 58, 32, 104, 13, 10]⟩) ++ ⟨#[67, 111, 110, 116, 101, 110, 116, 45, 76, 101, 110, 103, 116, 104, 58, 32, 51, 13, 10, 67, 111, 110, 116, 101, 110, 116, 45, 76, 101, 110, 103, 116, 104, 58, 32, 52, 13, 10]⟩) ++ ⟨#[13, 10]⟩ = bs (smug0 p.data.toList 1) := smug_text p 1
theorem smug_text2 (p : ByteArray) : (((⟨#[80, 79, 83, 84, 32, 47]⟩ ++ p) ++ ⟨#[32, 72, 84, 84, 80, 47, 49, 46, 49, 13, 10, 72, 111, 115, 116, 58, 32, 104, 13, 10]⟩) ++ ⟨#[67, 111, 110, 116, 101, 110, 116, 45, 76, 101, 110, 103, 116, 104, 58, 32, 51, 10]⟩) ++ ⟨#[13, 10]⟩ = bs (smug0 p.data.toList 2) := smug_text p 2
theorem smug_text3 (p : ByteArray) : (((⟨#[80, 79, 83, 84, 32, 47]⟩ ++ p) ++ ⟨#[32, 72, 84, 84, 80, 47, 49, 46, 49, 13, 10, 72, 111, 115, 116, 58, 32, 104, 13, 10]⟩) ++ ⟨#[84, 114, 97, 110, 115, 102, 101, 114, 45, 69, 110, 99, 111, 100, 105, 110, 103, 58, 32, 99, 104, 117, 110, 107, 101, 100, 44, 32, 105, 100, 101, 110, 116, 105, 116, 121, 13, 10]⟩) ++ ⟨#[13, 10]⟩ = bs (smug0 p.data.toList 3) := smug_text p 3
theorem smug_text4 (p : ByteArray) : (((⟨#[80, 79, 83, 84, 32, 47]⟩ ++ p) ++ ⟨#[32, 72, 84, 84, 80, 47, 49, 46, 49, 13, 10, 72, 111, 115, 116, 58, 32, 104, 13, 10]⟩) ++ ⟨#[67, 111, 110, 116, 101, 110, 116, 45, 76, 101, 110, 103, 116, 104, 32, 58, 32, 51, 13, 10]⟩) ++ ⟨#[13, 10]⟩ = bs (smug0 p.data.toList 4) := smug_text p 4
theorem smug_text5 (p : ByteArray) : (((⟨#[80, 79, 83, 84, 32, 47]⟩ ++ p) ++ ⟨#[32, 72, 84, 84, 80, 47, 49, 46, 49, 13, 10, 72, 111, 115, 116, 58, 32, 104, 13, 10]⟩) ++ ⟨#[67, 111, 110, 116, 101, 110, 116, 45, 76, 101, 110, 103, 116, 104, 58, 32, 51, 44, 32, 51, 120, 13, 10]⟩) ++ ⟨#[13, 10]⟩ = bs (smug0 p.data.toList 5) := smug_text p 5
theorem smug_tail (t : ByteArray) : ⟨#[48, 13, 10, 13, 10]⟩ ++ t = bs (smug1 t.data.toList) := by
  refine bytes_ext ?_
  unfold smug1
  simp
theorem bad_len (k : Nat) (hk : k < 6) : (badK k).length ≤ 60 := by
  match k, hk with
  | 0, _ => decide
  | 1, _ => decide
  | 2, _ => decide
  | 3, _ => decide
  | 4, _ => decide
  | 5, _ => decide
  | k + 6, h => omega
theorem smug_len {p : List UInt8} (hp : p.length ≤ 500) {k : Nat} (hk : k < 6) : (smug0 p k).length ≤ 1000 := by
  have := bad_len k hk
  unfold smug0
  simp only [List.length_append, wfirst_length, List.length_cons, List.length_nil, postM, hostH]
  omega
theorem texts_three {w : World} {T : TypeId} {x0 x1 x2 : ByteArray} {s0 s1 s2 : List UInt8} {B : Nat} (hB : w.heap.size = B) (h0 : x0 = bs s0) (h1 : x1 = bs s1) (h2 : x2 = bs s2) : TextsO (w.alloc (.cells #[.string x0, .string x1, .string x2] T)) (some ⟨B, 0, none⟩) [s0, s1, s2] := by
  subst hB
  exact texts_new _ _ _ _ (by rw [h0, h1, h2]; rfl)
theorem below_al {W w : World} (h : Below W.heap.size W w) (o : Obj) : Below W.heap.size W (w.alloc o) := h.alloc h.size o
set_option maxRecDepth 100000 in
set_option maxHeartbeats 8000000 in
theorem smuggles_walk {W : World} (k : Int) (hk : (Lit.int .i64 k).wf = true) (p : ByteArray) (hp : p.size ≤ 1048576) (t : ByteArray) (ht : t.size ≤ 1048576) (M : Int) (W2 : World) (hW : W2 = W) (hm : W2.cell? ⟨0, 0, none⟩ = some (.int .i64 M)) :
    Calls Tryz.prog 5 #[.int .i64 k, .string p, .string t] W2 fun e w' => e = .returned (.bool true) ∧ Below W2.heap.size W2 w' := by
  subst hW
  have AN := Lib.hid (anchor11_c M W2 hm)
  have HM := Lib.hid hm
  clear hm
  go_enter Tryz.func5, Tryz.ntmps5
  go_wp2_with fail
  refine AN.out.mono ?_
  rintro e w1 ⟨rfl, hb1⟩
  have B1 := Lib.hid hb1
  have M1 := Lib.hid (cell_below hb1 HM.out)
  clear hb1
  go_wp2_with fail
  go_loop [16] (fun i => ∃ j : Nat, j ≤ p.size ∧ i = .int .i64 j ∧ (p.data.toList.take j).all okP = true) (fun i => p.size - (intOf i).toNat)
  case atStart => exact ⟨0, Nat.zero_le _, rfl, rfl⟩
  case round =>
    obtain ⟨j, hj, rfl, hall⟩ := hrel
    by_cases hlt : j < p.size
    · have hcs := List.take_succ_eq_append_getElem (l := p.data.toList) (i := j) (by rw [size_list]; exact hlt)
      have hget : p.data.toList[j]'(by rw [size_list]; exact hlt) = p[j] := rfl
      rw [hget] at hcs
      have bye : ∀ (P : Prop), P → P := fun _ h => h
      by_cases c1 : (p[j].toNat : Int) ≤ 32
      · clear hcs hget
        go_wp2_with fail
        go_ret
        exact ⟨rfl, B1.out⟩
      by_cases c2 : (127 : Int) ≤ (p[j].toNat : Int)
      · clear hcs hget
        go_wp2_with fail
        go_ret
        exact ⟨rfl, B1.out⟩
      by_cases c3 : (p[j].toNat : Int) = 37
      · have d3 : ((p[j].toNat : Int) == 37) = true := by rw [beq_iff_eq]; exact c3
        clear hcs hget c3
        go_wp2_with fail
        go_ret
        exact ⟨rfl, B1.out⟩
      have d3 : ((p[j].toNat : Int) == 37) = false := by rw [beq_eq_false_iff_ne]; exact c3
      by_cases c4 : (p[j].toNat : Int) = 46
      · have d4 : ((p[j].toNat : Int) == 46) = true := by rw [beq_iff_eq]; exact c4
        clear hcs hget c3 c4
        go_wp2_with fail
        go_ret
        exact ⟨rfl, B1.out⟩
      have d4 : ((p[j].toNat : Int) == 46) = false := by rw [beq_eq_false_iff_ne]; exact c4
      by_cases c5 : (p[j].toNat : Int) = 63
      · have d5 : ((p[j].toNat : Int) == 63) = true := by rw [beq_iff_eq]; exact c5
        clear hcs hget c3 c4 c5
        go_wp2_with fail
        go_ret
        exact ⟨rfl, B1.out⟩
      have d5 : ((p[j].toNat : Int) == 63) = false := by rw [beq_eq_false_iff_ne]; exact c5
      by_cases c6 : (p[j].toNat : Int) = 35
      · have d6 : ((p[j].toNat : Int) == 35) = true := by rw [beq_iff_eq]; exact c6
        clear hcs hget c3 c4 c5 c6
        go_wp2_with fail
        go_ret
        exact ⟨rfl, B1.out⟩
      have d6 : ((p[j].toNat : Int) == 35) = false := by rw [beq_eq_false_iff_ne]; exact c6
      have hok : okP p[j] = true := by
        unfold okP
        simp only [Bool.not_eq_true', Bool.or_eq_false_iff, decide_eq_false_iff_not]
        exact ⟨⟨⟨⟨⟨c1, c2⟩, c3⟩, c4⟩, c5⟩, c6⟩
      have HN : Hid ((p.data.toList.take (j + 1)).all okP = true) := Lib.hid (by rw [hcs, List.all_append, hall, List.all_cons, hok]; rfl)
      clear hcs hget hok hall
      go_wp2_with fail
      go_round
      case rel => exact ⟨j + 1, by omega, by go_num, HN.out⟩
      case measure => simp [intOf]; omega
    · obtain rfl : j = p.size := by omega
      rw [List.take_of_length_le (by rw [size_list]; exact Nat.le_refl _)] at hall
      have HP : Hid (p.data.toList.all tchar = true) := Lib.hid (all_imp hall (fun c hc => okP_tchar hc))
      clear hall
      by_cases a1 : k < 0
      · go_wp2_with fail
        go_ret
        exact ⟨rfl, B1.out⟩
      by_cases a2 : 5 < k
      · go_wp2_with fail
        go_ret
        exact ⟨rfl, B1.out⟩
      by_cases a3 : (500 : Int) < (p.size : Int)
      · go_wp2_with fail
        go_ret
        exact ⟨rfl, B1.out⟩
      have hpl : p.data.toList.length ≤ 500 := by rw [size_list]; omega
      have htl : t.data.toList.length = t.size := size_list t
      have RDF : ∀ n, n < 6 → Hid (∀ A w, TextsO w A [smug0 p.data.toList n, smug1 t.data.toList, smug2] → w.cell? ⟨0, 0, none⟩ = some (.int .i64 M) →
          Hid (Calls Tryz.prog 17 #[.int .i64 100, .slice A 3 3] w fun e w' => ∃ v As, e = .returned (.tuple #[v, .int .i64 400, .bool true]) ∧ OutAt w' w.heap.size (fun _ => False) v [] As ∧ Below w.heap.size w w')) := fun n hn => Lib.hid (by
        intro A w hT hm0
        have hdoc := smug_docs HP.out (by omega) n hn (smug1 t.data.toList ++ smug2)
        have hflat : [smug0 p.data.toList n, smug1 t.data.toList, smug2].flatten = wfirst postM (47 :: p.data.toList) ++ 13 :: 10 :: (hostH ++ badK n ++ [13, 10]) ++ (smug1 t.data.toList ++ smug2) := by
          unfold smug0; simp
        rw [← hflat] at hdoc
        have hln : [smug0 p.data.toList n, smug1 t.data.toList, smug2].flatten.length ≤ 4194000 := by
          have := smug_len hpl hn
          simp only [List.flatten_cons, List.flatten_nil, List.length_append, smug1, smug2, List.length_cons, List.length_nil]
          omega
        have RD := read_c 100 (by decide) A 3 [smug0 p.data.toList n, smug1 t.data.toList, smug2] M w hT hln (by simp) (by rw [hdoc]; exact Nat.zero_le _) hm0
        rw [hdoc] at RD
        exact Lib.hid RD)
      have hcases : k = 0 ∨ k = 1 ∨ k = 2 ∨ k = 3 ∨ k = 4 ∨ k = 5 := by omega
      have R0 := RDF 0 (by decide)
      have R1 := RDF 1 (by decide)
      have R2 := RDF 2 (by decide)
      have R3 := RDF 3 (by decide)
      have R4 := RDF 4 (by decide)
      have R5 := RDF 5 (by decide)
      clear hpl htl RDF HP
      rcases hcases with rfl | rfl | rfl | rfl | rfl | rfl
      · go_wp2_with fail
        refine (R0.out _ _ (texts_three ?_ ?_ ?_ ?_) (cell_below (below_al (below_al B1.out _) _) HM.out)).out.mono ?_
        · simp
        · exact smug_text0 p
        · exact smug_tail t
        · rfl
        rintro e w3 ⟨v, As, rfl, ho, hb3⟩
        obtain ⟨Ao, co, rfl⟩ := own_form ho.own
        have B3 := Lib.hid (below_then (below_al (below_al B1.out _) _) hb3)
        clear ho hb3
        go_wp2
        go_ret
        exact ⟨rfl, B3.out⟩
      · go_wp2_with fail
        refine (R1.out _ _ (texts_three ?_ ?_ ?_ ?_) (cell_below (below_al (below_al B1.out _) _) HM.out)).out.mono ?_
        · simp
        · exact smug_text1 p
        · exact smug_tail t
        · rfl
        rintro e w3 ⟨v, As, rfl, ho, hb3⟩
        obtain ⟨Ao, co, rfl⟩ := own_form ho.own
        have B3 := Lib.hid (below_then (below_al (below_al B1.out _) _) hb3)
        clear ho hb3
        go_wp2
        go_ret
        exact ⟨rfl, B3.out⟩
      · go_wp2_with fail
        refine (R2.out _ _ (texts_three ?_ ?_ ?_ ?_) (cell_below (below_al (below_al B1.out _) _) HM.out)).out.mono ?_
        · simp
        · exact smug_text2 p
        · exact smug_tail t
        · rfl
        rintro e w3 ⟨v, As, rfl, ho, hb3⟩
        obtain ⟨Ao, co, rfl⟩ := own_form ho.own
        have B3 := Lib.hid (below_then (below_al (below_al B1.out _) _) hb3)
        clear ho hb3
        go_wp2
        go_ret
        exact ⟨rfl, B3.out⟩
      · go_wp2_with fail
        refine (R3.out _ _ (texts_three ?_ ?_ ?_ ?_) (cell_below (below_al (below_al B1.out _) _) HM.out)).out.mono ?_
        · simp
        · exact smug_text3 p
        · exact smug_tail t
        · rfl
        rintro e w3 ⟨v, As, rfl, ho, hb3⟩
        obtain ⟨Ao, co, rfl⟩ := own_form ho.own
        have B3 := Lib.hid (below_then (below_al (below_al B1.out _) _) hb3)
        clear ho hb3
        go_wp2
        go_ret
        exact ⟨rfl, B3.out⟩
      · go_wp2_with fail
        refine (R4.out _ _ (texts_three ?_ ?_ ?_ ?_) (cell_below (below_al (below_al B1.out _) _) HM.out)).out.mono ?_
        · simp
        · exact smug_text4 p
        · exact smug_tail t
        · rfl
        rintro e w3 ⟨v, As, rfl, ho, hb3⟩
        obtain ⟨Ao, co, rfl⟩ := own_form ho.own
        have B3 := Lib.hid (below_then (below_al (below_al B1.out _) _) hb3)
        clear ho hb3
        go_wp2
        go_ret
        exact ⟨rfl, B3.out⟩
      · go_wp2_with fail
        refine (R5.out _ _ (texts_three ?_ ?_ ?_ ?_) (cell_below (below_al (below_al B1.out _) _) HM.out)).out.mono ?_
        · simp
        · exact smug_text5 p
        · exact smug_tail t
        · rfl
        rintro e w3 ⟨v, As, rfl, ho, hb3⟩
        obtain ⟨Ao, co, rfl⟩ := own_form ho.own
        have B3 := Lib.hid (below_then (below_al (below_al B1.out _) _) hb3)
        clear ho hb3
        go_wp2
        go_ret
        exact ⟨rfl, B3.out⟩
end Go.Proofs.YtgmjkkiahanekaaGreatDoor

