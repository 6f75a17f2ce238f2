/- The walk over RouteLongest. -/
import Derived.Test.YtnoolehpooidjaaRouteC
import Derived.Deep.QuietTactic
import Derived.BigQuiet
import Derived.Deep.AppendLies
import Derived.Deep.RegionHeldLaw
import Derived.Deep.RegionLaw
import Derived.Deep.RegionHeld3
import Derived.Laws.OwnMore
import Derived.OwnWalk
import Derived.IntWalk
import Derived.OpenShut
set_option linter.unusedVariables false
set_option linter.unusedSimpArgs false
namespace Go.Proofs.Ytnoolehpooidjaa
open Go.RowKit Lex

def str3 (a b c : ByteArray) (k : Nat) : ByteArray := if k = 0 then a else if k = 1 then b else c
def lowC (c : UInt8) : Bool := decide (97 ≤ (c.toNat : Int)) && decide ((c.toNat : Int) ≤ 122)

theorem str3_all {a b c : ByteArray} (h : ∀ k, k < 3 → lowers (str3 a b c k).data.toList) : lowers a.data.toList ∧ lowers b.data.toList ∧ lowers c.data.toList :=
  ⟨h 0 (by omega), h 1 (by omega), h 2 (by omega)⟩

theorem own_drew {w : World} {B : Nat} {e : TypeId} {z : Nat} {v : Value} {n : Nat} {xs : List Value} (h : w.ownsRow B e z v n xs) : w.drew.ownsRow B e z v n xs := h
theorem news2 (w : World) (a b : Value) (e : TypeId) : ∀ j u, [a, b][j]? = some u → (w.alloc (.cells #[a, b] e)).cell? ((⟨w.heap.size, 0, none⟩ : Addr).add j) = some u :=
  fun j u hu => World.news_of_block (cs := #[a, b]) (heap_alloc_new w _) j u hu
theorem ones_vhost (d : List UInt8) : ∀ u ∈ [Value.string (bs d), Value.slice none 0 0], u.oneCell' = true := by
  intro u hu
  simp only [List.mem_cons, List.not_mem_nil, or_false] at hu
  rcases hu with rfl | rfl <;> rfl
theorem own_set {w : World} {base : Nat} {e : TypeId} {z : Nat} {v : Value} {n : Nat} {xs : List Value} (h : w.ownsRow base e z v n xs) (a : Addr) (u : Value) (hne : v.ownBlock ≠ some a.block) : (w.setCell a u).ownsRow base e z v n xs :=
  h.kept (row := some a.block) ⟨rfl, rfl, rfl, by simp, fun k _ hk => Below.heap_setCell w a u k (fun e => hk (by rw [e]))⟩ (.inr hne)
theorem held1 {w w1 : World} {a : Addr} {v : Value} (hb : Below w.heap.size w w1) (h : w.cell? a = some v) : w1.cell? a = some v := (hb.cell (World.block_lt_of_cell? w _ h)).trans h
theorem held2 {w w1 w2 : World} {a : Addr} {v : Value} (hb : Below w.heap.size w w1) (hb2 : Below w1.heap.size w1 w2) (h : w.cell? a = some v) : w2.cell? a = some v := held1 hb2 (held1 hb h)
/-- Vhosts without routes, cell by cell. -/
def vhosts (ds : List (List UInt8)) : List Value := ds.flatMap fun d => [.string (bs d), .slice none 0 0]
theorem vhosts_snoc (ds : List (List UInt8)) (k : Nat) (h : k < ds.length) : vhosts (ds.take (k + 1)) = vhosts (ds.take k) ++ [.string (bs ds[k]), .slice none 0 0] := by
  unfold vhosts
  rw [List.take_succ_eq_append_getElem h, List.flatMap_append]; rfl
theorem vhosts_at : ∀ (ds : List (List UInt8)) (k : Nat) (h : k < ds.length), (vhosts ds)[k * 2]? = some (.string (bs ds[k])) ∧ (vhosts ds)[k * 2 + 1]? = some (.slice none 0 0)
  | d :: ds, 0, _ => ⟨rfl, rfl⟩
  | d :: ds, k + 1, h => by
    have := vhosts_at ds k (by simpa using h)
    have e1 : vhosts (d :: ds) = .string (bs d) :: .slice none 0 0 :: vhosts ds := rfl
    rw [e1, show (k + 1) * 2 = k * 2 + 1 + 1 from by omega]
    exact this
theorem doms_own {w : World} {base : Nat} {e : TypeId} {A : Option Addr} {cap : Nat} {ds : List (List UInt8)} (h : w.ownsRow base e 2 (.slice A ds.length cap) ds.length (vhosts ds)) : Doms w A ds := by
  intro j hj
  obtain ⟨h1, h2⟩ := vhosts_at ds j hj
  rcases h.2 with ⟨_, h0⟩ | ⟨g, cap', cur, he, _, _, _⟩
  · omega
  · injection he with e1 e2 e3
    subst e1
    have a1 := World.ownsRow.cells h (g := g) rfl _ _ h1
    have a2 := World.ownsRow.cells h (g := g) rfl _ _ h2
    have ad : ∀ k, (⟨g, 0, none⟩ : Addr).add k = ⟨g, 0 + k, none⟩ := fun k => by unfold Addr.add; split <;> simp_all
    rw [ad] at a1 a2
    exact ⟨g, 0, none, 0, 0, rfl, a1, by rw [Nat.add_assoc]; exact a2⟩
theorem dom4_D1 (c : ByteArray) : (⟨#[42, 46]⟩ : ByteArray) ++ c = bs (42 :: 46 :: c.data.toList) := bytes_ext (by simp [bs, ByteArray.data_append])
theorem dom4_D2 (b c : ByteArray) : (⟨#[42, 46]⟩ : ByteArray) ++ b ++ ⟨#[46]⟩ ++ c = bs (42 :: 46 :: (b.data.toList ++ 46 :: c.data.toList)) := bytes_ext (by simp [bs, ByteArray.data_append])
theorem dom4_D3 (a b c : ByteArray) : a ++ ⟨#[46]⟩ ++ b ++ ⟨#[46]⟩ ++ c = bs (a.data.toList ++ 46 :: (b.data.toList ++ 46 :: c.data.toList)) := bytes_ext (by simp [bs, ByteArray.data_append])
theorem host4_H1 (c : ByteArray) : (⟨#[113, 46]⟩ : ByteArray) ++ c = bs (113 :: 46 :: c.data.toList) := bytes_ext (by simp [bs, ByteArray.data_append])
theorem host4_H2 (b c : ByteArray) : (⟨#[113, 46]⟩ : ByteArray) ++ b ++ ⟨#[46]⟩ ++ c = bs (113 :: 46 :: (b.data.toList ++ 46 :: c.data.toList)) := bytes_ext (by simp [bs, ByteArray.data_append])

/-- The config that is built, in its block: all is nought but the vhosts. -/
structure Built (w : World) (G : Nat) (v : Value) : Prop where
  c0 : w.cell? ⟨G, 0, none⟩ = some (.int .i64 0)
  c1 : w.cell? ⟨G, 1, none⟩ = some (.int .i64 0)
  c2 : w.cell? ⟨G, 2, none⟩ = some (.int .i64 0)
  c3 : w.cell? ⟨G, 3, none⟩ = some (.int .i64 0)
  c4 : w.cell? ⟨G, 4, none⟩ = some (.int .i64 0)
  c5 : w.cell? ⟨G, 5, none⟩ = some (.int .i64 0)
  c6 : w.cell? ⟨G, 6, none⟩ = some (.slice none 0 0)
  c7 : w.cell? ⟨G, 7, none⟩ = some (.slice none 0 0)
  c8 : w.cell? ⟨G, 8, none⟩ = some v
  free : w.frozen? ⟨G, 8, none⟩ = false
  lt : G < w.heap.size
theorem Built.start (w : World) (T : TypeId) (G : Nat) (hG : w.heap.size = G) : Built (w.alloc (.cells #[.int .i64 0, .int .i64 0, .int .i64 0, .int .i64 0, .int .i64 0, .int .i64 0, .slice none 0 0, .slice none 0 0, .slice none 0 0] T)) G (.slice none 0 0) := by
  subst hG
  refine ⟨?_, ?_, ?_, ?_, ?_, ?_, ?_, ?_, ?_, ?_, by simp⟩
  all_goals first | (rw [World.cell?_alloc_new]; rfl) | exact World.frozen?_alloc_new _ _ _ _
theorem Built.keep {w w' : World} {G : Nat} {v : Value} (h : Built w G v) (hb : w'.heap[G]? = w.heap[G]?) : Built w' G v := by
  have hc : ∀ k, w'.cell? ⟨G, k, none⟩ = w.cell? ⟨G, k, none⟩ := fun k => World.cell?_of_block (a := ⟨G, k, none⟩) hb
  have hf : w'.frozen? ⟨G, 8, none⟩ = w.frozen? ⟨G, 8, none⟩ := World.frozen?_of_block (a := ⟨G, 8, none⟩) hb
  have hlt : G < w'.heap.size := by
    rcases Nat.lt_or_ge G w'.heap.size with hl | hl
    · exact hl
    · rw [Array.getElem?_eq_none hl] at hb
      have := h.lt
      rw [Array.getElem?_eq_getElem this] at hb; cases hb
  exact ⟨by rw [hc]; exact h.c0, by rw [hc]; exact h.c1, by rw [hc]; exact h.c2, by rw [hc]; exact h.c3, by rw [hc]; exact h.c4, by rw [hc]; exact h.c5, by rw [hc]; exact h.c6, by rw [hc]; exact h.c7, by rw [hc]; exact h.c8, by rw [hf]; exact h.free, hlt⟩
theorem Built.below {w w' : World} {B G : Nat} {v : Value} (h : Built w G v) (hb : Below B w w') (hB : G < B) : Built w' G v := h.keep (hb.block G hB)
theorem Built.grown {w w' : World} {row : Option Nat} {G : Nat} {v : Value} (h : Built w G v) (hg : w.grownBy w' row) (hn : some G ≠ row) : Built w' G v := h.keep (hg.block G h.lt hn)
theorem Built.set {w : World} {G : Nat} {v : Value} (h : Built w G v) (v' : Value) : Built (w.setCell ⟨G, 8, none⟩ v') G v' := by
  have hne : ∀ k, k ≠ 8 → (w.setCell ⟨G, 8, none⟩ v').cell? ⟨G, k, none⟩ = w.cell? ⟨G, k, none⟩ := fun k hk => World.cell?_setCell_other _ _ _ _ (by intro e; injection e with _ e2; exact hk e2.symm)
  exact ⟨by rw [hne 0 (by decide)]; exact h.c0, by rw [hne 1 (by decide)]; exact h.c1, by rw [hne 2 (by decide)]; exact h.c2, by rw [hne 3 (by decide)]; exact h.c3, by rw [hne 4 (by decide)]; exact h.c4, by rw [hne 5 (by decide)]; exact h.c5, by rw [hne 6 (by decide)]; exact h.c6, by rw [hne 7 (by decide)]; exact h.c7,
    World.cell?_setCell_same _ _ _ h.c8, by rw [World.frozen?_setCell]; exact h.free, by simpa using h.lt⟩

theorem info_vhost : (Try.prog.info? 32).map (fun i => (i.zero, i.size, i.bytes)) = some (some (.agg #[.string ByteArray.empty, .slice none 0 0]), 2, 40) := by kernel_rfl

set_option maxRecDepth 100000 in
set_option maxHeartbeats 4000000 in
theorem longest_walk (a : ByteArray) (ha : a.size ≤ 1048576) (b : ByteArray) (hb : b.size ≤ 1048576) (c : ByteArray) (hc : c.size ≤ 1048576) (t : Int) (ht : (Lit.int .i64 t).wf = true) (W : World) {w : World} (hW : W = w) :
    Calls Try.prog 3 #[.string a, .string b, .string c, .int .i64 t] W fun e w' => e = .returned (.bool true) ∧ Below W.heap.size W w' := by
  subst hW
  have A := Lib.hid (anchor15_c W)
  go_enter Try.func3, Try.ntmps3
  go_wp2_with fail
  refine A.out.mono ?_
  rintro e w1 ⟨rfl, hb1⟩
  go_wp2
  go_loop [10, 11, 25, 30] (fun s i k j => ∃ n : Nat, n ≤ 3 ∧ k = .int .i64 n ∧ ∀ m, m < n → lowers (str3 a b c m).data.toList) (fun _ _ k _ => 3 - (intOf k).toNat)
  case atStart => exact ⟨0, by omega, rfl, fun m h => absurd h (by omega)⟩
  case round =>
    obtain ⟨n, hn, rfl, hl⟩ := hrel
    have HL := Lib.hid hl
    clear hl
    by_cases hlt : n < 3
    · obtain ⟨s, hs⟩ : ∃ s, str3 a b c n = s := ⟨_, rfl⟩
      have hsz : s.size ≤ 1048576 := by rw [← hs]; unfold str3; split; · exact ha
                                        split; · exact hb
                                        exact hc
      have ix : ∀ w, (Instr.index 23 (.agg #[.string a, .string b, .string c]) (.int .i64 (n : Int))).run Try.prog w = .ok (.string s) w := fun w => by
        rw [← hs]
        rcases (by omega : n = 0 ∨ n = 1 ∨ n = 2) with rfl | rfl | rfl
        · kernel_rfl
        · kernel_rfl
        · kernel_rfl
      have HS := Lib.hid hs
      clear hs
      go_wp2
      go_loop [11, 30] (fun i j => ∃ m : Nat, m ≤ s.size ∧ j = .int .i64 m ∧ (s.data.toList.take m).all lowC = true) (fun _ j => s.size - (intOf j).toNat)
      case atStart => exact ⟨0, Nat.zero_le _, rfl, by simp⟩
      case round =>
        obtain ⟨m, hm, rfl, hall⟩ := hrel
        have HA := Lib.hid hall
        clear hall
        by_cases hmt : m < s.size
        · have hsn := all_take_snoc lowC s m hmt HA.out
          have HSN := Lib.hid hsn
          have hcl : lowC s[m] = (decide (97 ≤ (s[m].toNat : Int)) && decide ((s[m].toNat : Int) ≤ 122)) := rfl
          have HC := Lib.hid hcl
          clear hsn hcl
          by_cases h1 : (s[m].toNat : Int) < 97
          · go_wp2
            go_ret
            exact ⟨rfl, hb1⟩
          · by_cases h2 : 122 < (s[m].toNat : Int)
            · go_wp2
              go_ret
              exact ⟨rfl, hb1⟩
            · go_wp2
              go_round
              case rel => exact ⟨m + 1, by omega, by go_num, HSN.out (by rw [HC.out]; simp; omega)⟩
              case measure => simp [intOf]; omega
        · have ht := take_all s m hmt
          have hall := HA.out
          rw [ht] at hall
          have HT := Lib.hid hall
          clear hall ht HA
          by_cases h0 : s.size = 0
          · have e1 := empty_toList h0
            have H0 := Lib.hid h0
            clear h0
            go_wp2
            go_ret
            exact ⟨rfl, hb1⟩
          · have e1 := nonempty_toList h0
            have e2 : s.toList = [] ↔ False := by rw [Lib.toList_data]; exact iff_false_intro fun h => h0 (by rw [← size_list, h]; rfl)
            have hlo : lowers s.data.toList := ⟨fun h => h0 (by rw [← size_list, h]; rfl), fun x hx => by
              have := List.all_eq_true.1 HT.out x hx
              simpa [lowC] using this⟩
            have HLO := Lib.hid hlo
            clear hlo
            go_wp2
            go_round
            case rel => exact ⟨n + 1, by omega, by go_num, fun q hq => by
              by_cases e : q = n
              · subst e; rw [HS.out]; exact HLO.out
              · exact HL.out q (by omega)⟩
            case measure => simp [intOf]; omega
    · obtain rfl : n = 3 := by omega
      obtain ⟨la, lb, lc⟩ := str3_all HL.out
      have LA := Lib.hid la
      have LB := Lib.hid lb
      have LC := Lib.hid lc
      clear la lb lc HL
      by_cases h0 : t < 0
      · go_wp2
        go_ret
        exact ⟨rfl, hb1⟩
      · obtain ⟨T, rfl⟩ : ∃ T : Nat, t = T := ⟨t.toNat, by omega⟩
        have htm : (T : Int) ≤ 9223372036854775807 := (bounds_i64 ht).2
        clear h0 ht
        obtain ⟨W0, hW0⟩ : ∃ W0, (w1.alloc (.cells #[.string ⟨#[42]⟩, .string (⟨#[42, 46]⟩ ++ c), .string (⟨#[42, 46]⟩ ++ b ++ ⟨#[46]⟩ ++ c), .string (a ++ ⟨#[46]⟩ ++ b ++ ⟨#[46]⟩ ++ c)] 9)).alloc
          (.cells #[.int .i64 0, .int .i64 0, .int .i64 0, .int .i64 0, .int .i64 0, .int .i64 0, .slice none 0 0, .slice none 0 0, .slice none 0 0] 29) = W0 := ⟨_, rfl⟩
        have hcB : ∀ q, q < 4 → W0.cell? ⟨w1.heap.size, q, none⟩ = some (.string (bs ((dom4 a.data.toList b.data.toList c.data.toList).getD q []))) := by
          intro q hq
          rw [← hW0, World.cell?_alloc_past _ _ _ (by simp), World.cell?_alloc_new]
          rcases (by omega : q = 0 ∨ q = 1 ∨ q = 2 ∨ q = 3) with rfl | rfl | rfl | rfl
          · rfl
          · exact congrArg some (congrArg Value.string (dom4_D1 c))
          · exact congrArg some (congrArg Value.string (dom4_D2 b c))
          · exact congrArg some (congrArg Value.string (dom4_D3 a b c))
        have hBu : Built W0 (w1.heap.size + 1) (.slice none 0 0) := by rw [← hW0]; exact Built.start _ _ _ (by simp)
        have hB0 : Below W.heap.size W W0 := by rw [← hW0]; exact (hb1.alloc hb1.size _).alloc (by have := hb1.size; simp; omega) _
        have hz0 : W0.heap.size = w1.heap.size + 2 := by rw [← hW0]; simp
        have HCB := Lib.hid hcB
        have HBU := Lib.hid hBu
        have HB0 := Lib.hid hB0
        have HZ0 := Lib.hid hz0
        have hw1 := hb1.size
        clear hcB hBu hB0 hz0 hb1
        obtain ⟨dl, hdl⟩ : ∃ dl, turned a.data.toList b.data.toList c.data.toList T = dl := ⟨_, rfl⟩
        have hdn : dl.length = 4 := by rw [← hdl]; rfl
        have hdt : ∀ j, j < 4 → dl.getD j [] = (dom4 a.data.toList b.data.toList c.data.toList).getD ((j + T) % 4) [] := fun j hj => by rw [← hdl]; exact turned_at hj
        have HDL := Lib.hid hdl
        have HDN := Lib.hid hdn
        have HDT := Lib.hid hdt
        clear hdl hdn hdt
        obtain ⟨i0, hi, hz1, hz2, hz3⟩ := info_parts info_vhost
        go_wp2
        clear hW0
        generalize w1.heap.size = B at *
        go_loopw [15] (fun i wr => ∃ (n : Nat) (v : Value), n ≤ 4 ∧ i = .int .i64 n ∧ wr.ownsRow (B + 2) 32 2 v n (vhosts (dl.take n)) ∧ Built wr (B + 1) v ∧ Below (B + 1) W0 wr) (fun i _ => 4 - (intOf i).toNat)
        case atStart => exact ⟨0, _, by omega, rfl, World.ownsRow_nil _ _ _ _, HBU.out, Below.refl _ _⟩
        case round =>
          obtain ⟨n, v, hn, rfl, hown, hbu, hbel⟩ := hrel
          by_cases hlt : n < 4
          · obtain ⟨r, hr, hr4⟩ : ∃ r : Nat, T % 4 = r ∧ r < 4 := ⟨_, rfl, by omega⟩
            obtain ⟨q, hq, hq4⟩ : ∃ q : Nat, (n + r) % 4 = q ∧ q < 4 := ⟨_, rfl, by omega⟩
            have hcq := (hbel.cell (p := ⟨B, q, none⟩) (by show B < B + 1; omega)).trans (HCB.out q hq4)
            have hdq := HDT.out n hlt
            rw [show (n + T) % 4 = q from by omega] at hdq
            rw [← hdq] at hcq
            have hGB : B < wr.heap.size := by have := hbu.lt; omega
            have e1 : (T : Int).tmod 4 = (r : Int) := by rw [Int.tmod_eq_emod_of_nonneg (by omega)]; omega
            have e2 : IntKind.i64.wrap ((n : Int) + (r : Int)) = (n : Int) + r := IntWalk.i64_in _ (by omega)
            have e3 : ((n : Int) + (r : Int)).tmod 4 = (q : Int) := by rw [Int.tmod_eq_emod_of_nonneg (by omega)]; omega
            have q0 : (0 : Int) ≤ (q : Int) := by omega
            have q1 : (q : Int) < 4 := by omega
            have HR := Lib.hid hr
            have HQ := Lib.hid hq
            have HD := Lib.hid hdq
            have HO := Lib.hid hown
            have HBB := Lib.hid hbu
            have HBE := Lib.hid hbel
            obtain ⟨_, _, _, _, _, _, _, _, hv8, hfr, hG⟩ := hbu
            have hne1 : some (B + 1) ≠ v.ownBlock := fun e => by have := (hown.lt _ e.symm).1; omega
            have hne2 : some B ≠ v.ownBlock := fun e => by have := (hown.lt _ e.symm).1; omega
            clear hr hq hdq hown hbel
            obtain ⟨d, hd1⟩ : ∃ d, dl.getD n [] = d := ⟨_, rfl⟩
            rw [hd1] at hcq
            have HD1 := Lib.hid hd1
            clear hd1
            go_wp2
            go_region_law
              ((refine step_append_lies _ (by rfl) (.tmp 72) (.tmp 84) 27 (by rfl) (B + 2) 32 i0 (.agg #[.string ByteArray.empty, .slice none 0 0]) 2 40 Try.underlying27 hi hz1 hz2 hz3 (by rfl) (by decide) v n (vhosts (dl.take n)) (by rfl) (by first | exact HO.out.alloc _ | exact own_drew (HO.out.alloc _)) ⟨wr.heap.size, 0, none⟩ 1 1 [.string (bs d), .slice none 0 0] (by rfl) (by rfl) (by exact news2 _ _ _ _) (ones_vhost d) (by decide) (by unfold maxLen; omega) (by omega) (by simp; omega) (wr.heap.size + 1) (by simp) ?_; intro g cap w2 hown' hgrow hgg hglt; have hk1 := ((hgrow.cell_far ⟨B + 1, 8, none⟩ (Nat.lt_of_lt_of_le hG (by simp)) hne1).trans (World.cell?_alloc_past _ _ _ hG)).trans hv8; have hk2 := ((hgrow.frozen_far ⟨B + 1, 8, none⟩ (Nat.lt_of_lt_of_le hG (by simp)) hne1).trans (World.frozen?_alloc_past _ _ _ hG)).trans hfr))
            all_goals
              have e4 := vhosts_snoc dl n (by have := HDN.out; omega)
              have e5 : dl[n]'(by have := HDN.out; omega) = dl.getD n [] := by rw [List.getD_eq_getElem?_getD, List.getElem?_eq_getElem (by have := HDN.out; omega)]; rfl
              rw [e5, HD1.out] at e4
              rw [← e4] at hown'
              have HO' := Lib.hid (own_set hown' ⟨B + 1, 8, none⟩ (.slice (some ⟨g, 0, none⟩) (n + 1) cap) (fun e => by have := (hown'.lt _ e).1; simp at this))
              have HB' := Lib.hid (((HBB.out.below (Below.alloc (Below.refl (B + 2) wr) hG _).drew (by omega)).grown hgrow hne1).set (.slice (some ⟨g, 0, none⟩) (n + 1) cap))
              have HE' := Lib.hid ((Below.grown (HBE.out.alloc (by omega) _).drew hgrow (by simp; omega) (fun k hk => by have := (HO.out.lt k hk).1; omega)).setCell (p := ⟨B + 1, 8, none⟩) (Nat.le_refl _) (.slice (some ⟨g, 0, none⟩) (n + 1) cap))
              clear hown' hgrow hgg hglt hk1 hk2 e1 e2 e3 e4 e5 hcq hv8 hfr hne1 hne2
              go_wp2
              go_roundw
              case rel => exact ⟨n + 1, _, by omega, by go_num, HO'.out, HB'.out, HE'.out⟩
              case measure => simp [intOf]; omega
          · obtain rfl : n = 4 := by omega
            rw [show ((4 : Nat) : Int) = 4 from rfl]
            have hd4 : dl.take 4 = dl := List.take_of_length_le (by have := HDN.out; omega)
            rw [hd4] at hown
            obtain ⟨g, cap, rfl, hg1, hg2⟩ := hown.form (by decide)
            have hdo : Doms wr (some ⟨g, 0, none⟩) dl := doms_own (cap := cap) (by rw [HDN.out]; exact hown)
            obtain ⟨W4, hW4⟩ : ∃ W4, wr.alloc (.cells #[.string ⟨#[]⟩, .string (⟨#[113, 46]⟩ ++ c), .string (⟨#[113, 46]⟩ ++ b ++ ⟨#[46]⟩ ++ c), .string (a ++ ⟨#[46]⟩ ++ b ++ ⟨#[46]⟩ ++ c)] 9) = W4 := ⟨_, rfl⟩
            have hB4 : Below wr.heap.size wr W4 := by rw [← hW4]; exact (Below.refl _ _).alloc (Nat.le_refl _) _
            have hz4 : W4.heap.size = wr.heap.size + 1 := by rw [← hW4]; simp
            have hch : ∀ q, q < 4 → W4.cell? ⟨wr.heap.size, q, none⟩ = some (.string (bs ((host4 a.data.toList b.data.toList c.data.toList).getD q []))) := by
              intro q hq
              rw [← hW4, World.cell?_alloc_new]
              rcases (by omega : q = 0 ∨ q = 1 ∨ q = 2 ∨ q = 3) with rfl | rfl | rfl | rfl
              · rfl
              · exact congrArg some (congrArg Value.string (host4_H1 c))
              · exact congrArg some (congrArg Value.string (host4_H2 b c))
              · exact congrArg some (congrArg Value.string (dom4_D3 a b c))
            have hbu4 := hbu.below hB4 hbu.lt
            have hdo4 := hdo.below hB4
            have hcb4 : ∀ q, q < 4 → W4.cell? ⟨B, q, none⟩ = some (.string (bs ((dom4 a.data.toList b.data.toList c.data.toList).getD q []))) := fun q hq =>
              (hB4.cell (p := ⟨B, q, none⟩) (by show B < wr.heap.size; have := hbu.lt; omega)).trans ((hbel.cell (p := ⟨B, q, none⟩) (by show B < B + 1; omega)).trans (HCB.out q hq))
            have hB0' := HB0.out.trans (hbel.mono (by omega))
            have hBW : Below W.heap.size W W4 := (HB0.out.trans (hbel.mono (by omega))).trans (hB4.mono (by have := hbel.size; have := HZ0.out; omega))
            have HCH := Lib.hid hch
            have HBU4 := Lib.hid hbu4
            have HDO4 := Lib.hid hdo4
            have HCB4 := Lib.hid hcb4
            have hWH : W.heap.size ≤ wr.heap.size := by have := hB0'.size; omega
            have HBW := Lib.hid hBW
            have HZ4 := Lib.hid hz4
            have hgz : B + 1 < wr.heap.size := hbu.lt
            have HBEST := Lib.hid (turned_best LA.out LB.out LC.out (by rw [size_list, size_list]; omega) T)
            have HLEN := Lib.hid (turned_len (a := a.data.toList) (b := b.data.toList) (c := c.data.toList) (N := 1048576) (by rw [size_list]; exact ha) (by rw [size_list]; exact hb) (by rw [size_list]; exact hc) T)
            rw [HDL.out] at HBEST HLEN
            clear hd4 hown hdo hB4 hz4 hch hbu4 hdo4 hcb4 hBW hbu hbel HBU HB0 HZ0 HCB hB0'
            go_wp2
            clear hW4
            generalize wr.heap.size = H at *
            go_loopw [16, 17, 18, 103] (fun _ _ _ i wk => ∃ k : Nat, k ≤ 4 ∧ i = .int .i64 k ∧ Below (H + 1) W4 wk) (fun _ _ _ i _ => 4 - (intOf i).toNat)
            case atStart => exact ⟨0, by omega, rfl, Below.refl _ _⟩
            case round =>
              obtain ⟨k, hk, rfl, hwk⟩ := hrel
              have hwz := hwk.size
              have hwH : H + 1 ≤ wr.heap.size := by have := HZ4.out; omega
              obtain ⟨i, hi4, hwon, hdom⟩ := HBEST.out k (by omega)
              have hbk := HBU4.out.below hwk (by omega)
              have hdk := HDO4.out.below (w' := wr) (by rw [HZ4.out]; exact hwk)
              have hdi : dl[i]'(by rw [HDN.out]; exact hi4) = (dom4 a.data.toList b.data.toList c.data.toList).getD (won a.data.toList k) [] := by
                have h1 := HDT.out i hi4
                rw [hwon, List.getD_eq_getElem?_getD, List.getElem?_eq_getElem (by rw [HDN.out]; exact hi4)] at h1
                exact h1
              have K := fun (h : ByteArray) w' hD (hh : h.size ≤ 9223372036854775000) => Lib.hid (domain_c (.int .i64 0) (.int .i64 0) (.int .i64 0) (.int .i64 0) (.int .i64 0) (.int .i64 0) (.slice none 0 0) (.slice none 0 0) (some ⟨g, 0, none⟩) cap dl h w' hD (by rw [HDN.out]; decide) (fun x hx => by have := HLEN.out x hx; omega) hh)
              rw [HDN.out] at K
              obtain ⟨g', o', ra, rn, rc, eA, hcd, hcr⟩ := hdk i (by rw [HDN.out]; exact hi4)
              obtain ⟨rfl, rfl⟩ : g' = g ∧ o' = 0 := by injection eA with e; injection e with e1 e2; exact ⟨e1.symm, e2.symm⟩
              rw [hdi] at hcd
              have i0' : (0 : Int) ≤ (i : Int) := by omega
              have i1' : (i : Int) < 4 := by omega
              by_cases hlt : k < 4
              · have hck := (hwk.cell (p := ⟨H, k, none⟩) (by show H < H + 1; omega)).trans (HCH.out k hlt)
                have hcb := (hwk.cell (p := ⟨B, k, none⟩) (by show B < H + 1; omega)).trans (HCB4.out k hlt)
                have hhl : ((host4 a.data.toList b.data.toList c.data.toList).getD k []).length ≤ 9223372036854775000 := by
                  rcases (by omega : k = 0 ∨ k = 1 ∨ k = 2 ∨ k = 3) with rfl | rfl | rfl | rfl
                  · show 0 ≤ _; omega
                  · show (113 :: 46 :: c.data.toList).length ≤ _; simp only [List.length_cons, size_list]; omega
                  · show (113 :: 46 :: (b.data.toList ++ 46 :: c.data.toList)).length ≤ _; simp only [List.length_cons, List.length_append, size_list]; omega
                  · show (a.data.toList ++ 46 :: (b.data.toList ++ 46 :: c.data.toList)).length ≤ _; simp only [List.length_cons, List.length_append, size_list]; omega
                generalize hH : (host4 a.data.toList b.data.toList c.data.toList).getD k [] = hst at *
                have K1 := Lib.hid (K (bs hst) wr hdk hhl).out
                have E1 := hdom
                have HD1 := Lib.hid hdom
                obtain ⟨c0, c1, c2, c3, c4, c5, c6, c7, c8, c9, c10⟩ := hbk
                clear hdk hdom hH hdi eA K E1
                have KB := hwk
                have HKB := Lib.hid KB
                by_cases hwk2 : won a.data.toList k = k
                · rw [hwk2] at hcd
                  generalize (dom4 a.data.toList b.data.toList c.data.toList).getD k [] = dk at *
                  have HW := Lib.hid hwon
                  have HW2 := Lib.hid hwk2
                  clear hwon hwk2 hwk KB
                  go_wp2_with fail
                  refine K1.out.mono ?_
                  rw [HD1.out]
                  rintro e w5 ⟨rfl, hb5⟩
                  have hcd5 := (hb5.cell (World.block_lt_of_cell? wr _ hcd)).trans hcd
                  have hcb5 := (hb5.cell (World.block_lt_of_cell? wr _ hcb)).trans hcb
                  have c85 := (hb5.cell (World.block_lt_of_cell? wr _ c8)).trans c8
                  have HB5 := Lib.hid (HKB.out.trans (hb5.mono hwH))
                  clear hcd hcb c0 c1 c2 c3 c4 c5 c6 c7 c8 c9 c10 hck hcr hb5
                  rw [Nat.zero_add] at hcd5
                  have k0 : (0 : Int) ≤ (k : Int) := by omega
                  have k4 : (k : Int) < 4 := by omega
                  go_wp2
                  go_quiet (fail)
                  go_wp2
                  go_roundw
                  case rel => exact ⟨k + 1, by omega, by go_num, HB5.out.trans (c := w5.drewN nq) ⟨rfl, rfl, rfl, Nat.le_refl _, fun _ _ => rfl⟩⟩
                  case measure => simp [intOf]; omega
                · have hsp : k = 2 ∧ a.data.toList = [113] ∧ won a.data.toList k = 3 := by
                    unfold won at hwk2 ⊢
                    rcases (by omega : k = 0 ∨ k = 1 ∨ k = 2 ∨ k = 3) with rfl | rfl | rfl | rfl
                    · simp at hwk2
                    · simp at hwk2
                    · by_cases hq : a.data.toList = [113]
                      · exact ⟨rfl, hq, by simp [hq]⟩
                      · simp [hq] at hwk2
                    · simp at hwk2
                  obtain ⟨rfl, hq, hw3⟩ := hsp
                  rw [hw3] at hcd
                  have hne : (dom4 a.data.toList b.data.toList c.data.toList).getD 3 [] ≠ (dom4 a.data.toList b.data.toList c.data.toList).getD 2 [] := by
                    rw [hq]; intro e; exact absurd (List.head_eq_of_cons_eq (show (113 : UInt8) :: _ = 42 :: _ from e)) (by decide)
                  generalize (dom4 a.data.toList b.data.toList c.data.toList).getD 3 [] = d3 at *
                  generalize (dom4 a.data.toList b.data.toList c.data.toList).getD 2 [] = d2 at *
                  have n1 : (d3 == d2) = false := by rw [beq_eq_false_iff_ne]; exact hne
                  have n2 : (d3 != d2) = true := by rw [bne_iff_ne]; exact hne
                  have q1 : (a.toList == [113]) = true := by rw [Lib.toList_data, beq_iff_eq]; exact hq
                  have HW := Lib.hid hwon
                  clear hwon hwk2 hwk KB hw3 hq hne
                  go_wp2_with fail
                  refine K1.out.mono ?_
                  rw [HD1.out]
                  rintro e w5 ⟨rfl, hb5⟩
                  have hcd5 := (hb5.cell (World.block_lt_of_cell? wr _ hcd)).trans hcd
                  have hcb5 := (hb5.cell (World.block_lt_of_cell? wr _ hcb)).trans hcb
                  have c85 := (hb5.cell (World.block_lt_of_cell? wr _ c8)).trans c8
                  have HB5 := Lib.hid (HKB.out.trans (hb5.mono hwH))
                  clear hcd hcb c0 c1 c2 c3 c4 c5 c6 c7 c8 c9 c10 hck hcr hb5
                  rw [Nat.zero_add] at hcd5
                  go_wp2
                  go_quiet (fail)
                  go_wp2
                  go_ret
                  exact ⟨rfl, HBW.out.trans ((HB5.out.trans (c := w5.drewN nq) ⟨rfl, rfl, rfl, Nat.le_refl _, fun _ _ => rfl⟩).mono (by omega))⟩
              · obtain rfl : k = 4 := by omega
                rw [show won a.data.toList 4 = 0 from rfl, show (dom4 a.data.toList b.data.toList c.data.toList).getD 0 [] = [42] from rfl] at hcd
                rw [show (host4 a.data.toList b.data.toList c.data.toList).getD 4 [] = c.data.toList from rfl] at hdom
                have K1 := fun w' hD => Lib.hid (K c w' hD (by omega)).out
                rw [hdom] at K1
                have HDK := Lib.hid hdk
                have HKB := Lib.hid hwk
                rw [Nat.zero_add] at hcd
                obtain ⟨c0, c1, c2, c3, c4, c5, c6, c7, c8, c9, c10⟩ := hbk
                clear hdk hdom hdi eA K hwk hcr hwon
                go_wp2
                go_region_held3 (fun w' => Below (H + 1) W4 w' ∧ w'.cell? ⟨B + 1, 0, none⟩ = some (.int .i64 0) ∧ w'.cell? ⟨B + 1, 1, none⟩ = some (.int .i64 0) ∧ w'.cell? ⟨B + 1, 2, none⟩ = some (.int .i64 0) ∧ w'.cell? ⟨B + 1, 3, none⟩ = some (.int .i64 0) ∧ w'.cell? ⟨B + 1, 4, none⟩ = some (.int .i64 0) ∧ w'.cell? ⟨B + 1, 5, none⟩ = some (.int .i64 0) ∧
                    w'.cell? ⟨B + 1, 6, none⟩ = some (.slice none 0 0) ∧ w'.cell? ⟨B + 1, 7, none⟩ = some (.slice none 0 0) ∧ w'.cell? ⟨B + 1, 8, none⟩ = some (.slice (some ⟨g', 0, none⟩) 4 cap) ∧ w'.cell? ⟨g', i * 2, none⟩ = some (.string (bs [42])))
                  (first
                    | exact ⟨(HKB.out.drew.trans (hb5.mono hwH)).trans (hb6.mono (Nat.le_trans hwH hb5.size)), held2 hb5 hb6 c0, held2 hb5 hb6 c1, held2 hb5 hb6 c2, held2 hb5 hb6 c3, held2 hb5 hb6 c4, held2 hb5 hb6 c5, held2 hb5 hb6 c6, held2 hb5 hb6 c7, held2 hb5 hb6 c8, held2 hb5 hb6 hcd⟩
                    | exact ⟨HKB.out.drew.trans (hb5.mono hwH), held1 hb5 c0, held1 hb5 c1, held1 hb5 c2, held1 hb5 c3, held1 hb5 c4, held1 hb5 c5, held1 hb5 c6, held1 hb5 c7, held1 hb5 c8, held1 hb5 hcd⟩
                    | exact ⟨HKB.out.drew, c0, c1, c2, c3, c4, c5, c6, c7, c8, hcd⟩)
                  (first
                    | (go_at_call 7; refine (K1 _ (by exact HDK.out)).out.mono ?_; rintro e w5 ⟨rfl, hb5⟩)
                    | (go_at_call 7; refine (K1 _ (by exact Doms.below (w := wr.drew) HDK.out hb5)).out.mono ?_; rintro e w6 ⟨rfl, hb6⟩))
                go_wp2
                go_ret
                exact ⟨rfl, HBW.out.trans (((HKB.out.drew.trans (hb5.mono hwH)).trans (hb6.mono (Nat.le_trans hwH hb5.size))).mono (by omega))⟩
end Go.Proofs.Ytnoolehpooidjaa
