/- The contract of strings.Split at one byte in plain words, and of path.Normal, for every text of at most 4194304 bytes. -/
import Derived.Test.YtjbmipbjlhcooaaDoorPathF
import Derived.Test.YtjbmipbjlhcooaaDoorPathE
import Derived.Deep.OwnRows
set_option linter.unusedVariables false
set_option linter.unusedSimpArgs false
namespace Go.Proofs.YtjbmipbjlhcooaaDoor
open Go.RowKit Lex

def strs (ps : List (List UInt8)) : List Value := ps.map fun x => .string (bs x)

theorem split_c (s : ByteArray) (c : UInt8) (m : Int) (w : World) (hs : s.size < 4294967281) (hm : w.cell? ⟨0, 0, none⟩ = some (.int .i64 m)) :
    Calls Tryd.prog 74 #[.string s, .string ⟨#[c]⟩] w fun e w' =>
      e = .returned (.slice (some ⟨w.heap.size, 0, none⟩) (pieces c s.data.toList).length (pieces c s.data.toList).length) ∧ w' = w.alloc (.cells (strs (pieces c s.data.toList)).toArray 9) := by
  have h := Tryd.strings_Split s ⟨#[c]⟩ m w hs hm (Nat.le_refl 1)
  have h1 : Lib.countB s ⟨#[c]⟩ + 1 = (pieces c s.data.toList).length := pieces_count c s.data.toList
  have h2 : (Lib.splitB ⟨#[c]⟩ 0 (Lib.countB s ⟨#[c]⟩) s).map Value.string = strs (pieces c s.data.toList) := by
    have := Lib.splitB_data ⟨#[c]⟩ 0 (Lib.countB s ⟨#[c]⟩) s
    rw [← split_one]
    unfold Lib.split strs
    have e : Lib.splitK [c] 0 (Lib.count s.data.toList [c]) s.data.toList = (Lib.splitB ⟨#[c]⟩ 0 (Lib.countB s ⟨#[c]⟩) s).map (·.data.toList) := this.symm
    rw [e, List.map_map]
    rfl
  rw [h1, h2] at h
  exact h

theorem info_str : (Tryd.prog.info? 9).map (fun i => (i.zero, i.size, i.bytes)) = some (some (.string ByteArray.empty), 1, 16) := by kernel_rfl

/-- A row of the call's own, cut short. -/
theorem own_take {w : World} {B : Nat} {e : TypeId} {g cap n : Nat} {xs : List Value} (h : w.ownsRow B e 1 (.slice (some ⟨g, 0, none⟩) n cap) n xs) (m : Nat) (hm : m ≤ n) : w.ownsRow B e 1 (.slice (some ⟨g, 0, none⟩) m cap) m (xs.take m) := by
  obtain ⟨h1, h2⟩ := h
  refine ⟨by rw [List.length_take]; omega, ?_⟩
  rcases h2 with ⟨h, _⟩ | ⟨g', cap', cur, he, a, b, c, d, f, k⟩
  · cases h
  · injection he with e1 e2 e3
    injection e1 with e1
    injection e1 with e1
    subst e1 e3
    refine .inr ⟨g, cap, cur, rfl, a, b, by omega, d, f, ?_⟩
    rw [← k, List.take_take]
    congr 1
    omega

def normVal (o : Option (List UInt8)) : Value := .tuple #[.string (bs (o.getD [])), .int .i64 (if o.isSome then 0 else 50)]

theorem slash_prefix (p : List UInt8) : Lib.hasPrefix p [47] = decide (p.head? = some 47) := by
  unfold Lib.hasPrefix
  cases p with
  | nil => rfl
  | cons a p =>
    rw [Bool.eq_iff_iff, List.isPrefixOf_iff_prefix, decide_eq_true_eq]
    constructor
    · rintro ⟨t, ht⟩; injection ht with h _; rw [h]; rfl
    · intro h; injection h with h; subst h; exact ⟨p, rfl⟩

theorem slash_c (p : List UInt8) (w : World) : Calls Tryd.prog 41 #[.string (bs p), .string ⟨#[47]⟩] w fun e w' => e = .returned (.bool (decide (p.head? = some 47))) ∧ w = w' :=
  (Tryd.strings_HasPrefix (bs p) ⟨#[47]⟩ w).mono fun e w' ⟨he, hw⟩ => ⟨by rw [he, show (⟨#[47]⟩ : ByteArray).data.toList = [47] from rfl, bs_list, slash_prefix], hw.symm⟩

theorem own_slice' {w : World} {B n z : Nat} {e : TypeId} {v : Value} {xs : List Value} (h : w.ownsRow B e z v n xs) : ∃ A c, v = .slice A n c := by
  rcases h.2 with ⟨rfl, rfl⟩ | ⟨g, cap, cur, rfl, _⟩
  · exact ⟨none, 0, rfl⟩
  · exact ⟨_, cap, rfl⟩

theorem join_c {B g cap : Nat} (kept : List (List UInt8)) (w : World) (h : w.ownsRow B 9 1 (.slice (some ⟨g, 0, none⟩) kept.length cap) kept.length (strs kept)) (hn : kept.length ≤ 140737488355328) (hl : (Lib.join kept [47]).length ≤ 140737488355328) :
    Calls Tryd.prog 85 #[.slice (some ⟨g, 0, none⟩) kept.length cap, .string ⟨#[47]⟩] w fun e w' => e = .returned (.string (bs (Lib.join kept [47]))) ∧ Below w.heap.size w w' := by
  have hm : (kept.map bs).map (·.data.toList) = kept := by rw [List.map_map]; exact List.map_id _
  have hc : kept.length ≤ cap := by
    rcases h.2 with ⟨h, _⟩ | ⟨g', cap', cur, he, a, b, c, _⟩
    · cases h
    · injection he with e1 e2 e3; subst e3; exact c
  have hg : g < w.heap.size := (h.lt g rfl).2
  have k := Tryd.strings_Join g 0 cap (kept.map bs) ⟨#[47]⟩ w (fun j x hx => by
    have := h.cells (g := g) rfl j (.string x) (by
      simp only [List.getElem?_map, Option.map_eq_some_iff] at hx
      obtain ⟨y, hy, rfl⟩ := hx
      simp [strs, hy])
    have ha : (⟨g, 0, none⟩ : Addr).add j = ⟨g, 0 + j, none⟩ := by unfold Addr.add; split <;> simp_all
    rw [← ha]; exact this) hg (by rw [List.length_map]; exact hn) (by rw [List.length_map]; exact hc) (by rw [hm]; exact hl)
  rw [List.length_map, hm] at k
  exact k

/-- Whether the piece ahead of k is one of dots, or empty. -/
def openAt (ps : List (List UInt8)) : Nat → Bool
  | 0 => false
  | k + 1 => ((ps[k]?).map dots).getD false
theorem openAt_next {ps : List (List UInt8)} {k : Nat} (h : k < ps.length) : openAt ps (k + 1) = dots ps[k] := by simp [openAt, h]
theorem openAt_last (ps : List (List UInt8)) : openAt ps ps.length = (ps.getLast?.map dots).getD false := by
  cases h : ps.length with
  | zero => have : ps = [] := List.eq_nil_of_length_eq_zero h
            subst this; rfl
  | succ n => rw [List.getLast?_eq_getElem?, h]; rfl

/-- What is kept behind k pieces. -/
structure Kept (ps kept : List (List UInt8)) (k N : Nat) : Prop where
  left : normK [] ps = normK kept (ps.drop k)
  len : kept.length ≤ k
  each : ∀ x ∈ kept, x.length ≤ N
theorem Kept.start (ps : List (List UInt8)) (N : Nat) : Kept ps [] 0 N := ⟨by simp, by simp, by simp⟩
theorem drop_cons {α : Type} (l : List α) (k : Nat) (h : k < l.length) : l.drop k = l[k] :: l.drop (k + 1) := List.drop_eq_getElem_cons h
theorem Kept.up {ps kept : List (List UInt8)} {k N : Nat} (h : Kept ps kept k N) (hk : k < ps.length) (hx : ps[k] = [46, 46]) (hn : kept ≠ []) : Kept ps kept.dropLast (k + 1) N := by
  refine ⟨?_, by have := h.len; simp; omega, fun x hx => h.each x (List.dropLast_subset _ hx)⟩
  rw [h.left, drop_cons ps k hk, hx]
  simp only [normK, if_true]
  rw [if_neg hn]
theorem Kept.out {ps kept : List (List UInt8)} {k N : Nat} (h : Kept ps kept k N) (hk : k < ps.length) (hx : ps[k] = [46, 46]) (hn : kept = []) : normK [] ps = none := by
  rw [h.left, drop_cons ps k hk, hx]
  simp only [normK, if_true]
  rw [if_pos hn]
theorem Kept.stay {ps kept : List (List UInt8)} {k N : Nat} (h : Kept ps kept k N) (hk : k < ps.length) (hx : ps[k] ≠ [46, 46]) (hd : dots ps[k] = true) : Kept ps kept (k + 1) N := by
  refine ⟨?_, by have := h.len; omega, h.each⟩
  rw [h.left, drop_cons ps k hk]
  simp only [normK]
  rw [if_neg hx, if_pos hd]
theorem Kept.keep {ps kept : List (List UInt8)} {k N : Nat} (h : Kept ps kept k N) (hk : k < ps.length) (hd : dots ps[k] = false) (hl : ps[k].length ≤ N) : Kept ps (kept ++ [ps[k]]) (k + 1) N := by
  refine ⟨?_, by have := h.len; simp; omega, fun x hx => ?_⟩
  · rw [h.left, drop_cons ps k hk]
    simp only [normK]
    rw [if_neg (by intro e; rw [e] at hd; revert hd; decide), if_neg (by rw [hd]; simp)]
  · rcases List.mem_append.1 hx with h1 | h1
    · exact h.each x h1
    · simp at h1; subst h1; exact hl

theorem ret_norm {a : ByteArray} {l : List UInt8} (h : a.data.toList = l) : Ending.returned (.tuple #[.string a, .int .i64 0]) = .returned (normVal (some l)) := by
  subst h
  simp [normVal, list_bs]
theorem below_then {W w1 w2 : World} (h : Below W.heap.size W w1) (k : Below w1.heap.size w1 w2) : Below W.heap.size W w2 := h.trans (k.mono h.size)

set_option maxRecDepth 100000 in
set_option maxHeartbeats 4000000 in
theorem normal_c (s : ByteArray) (m : Int) (w : World) (hs : s.size ≤ 4194304) (hm : w.cell? ⟨0, 0, none⟩ = some (.int .i64 m)) :
    Calls Tryd.prog 67 #[.string s] w fun e w' => e = .returned (normVal (normal s.data.toList)) ∧ Below w.heap.size w w' := by
  obtain ⟨i0, hi, hz0, hz1, hz2⟩ := info_parts info_str
  have K := fun w => Lib.hid (unescape_c s w (by omega))
  unfold normal
  cases hu : unesc s.data.toList with
  | none =>
    rw [hu] at K
    simp only [optStr] at K
    clear hu
    go_enter Tryd.func67, Tryd.ntmps67
    go_wp2_with (go_at_call 84; refine (K _).out.mono ?_; rintro e w1 ⟨rfl, hb⟩)
    go_ret2
    exact ⟨rfl, hb⟩
  | some p =>
    have hpl := unesc_length hu
    rw [size_list] at hpl
    rw [hu] at K
    simp only [optStr, Option.getD_some, Option.isSome_some] at K
    have P := fun w => Lib.hid (slash_c p w)
    clear hu
    by_cases h47 : p.head? = some 47
    · rw [decide_eq_true h47] at P
      simp only [h47, if_true]
      obtain ⟨t, rfl⟩ : ∃ t, p = 47 :: t := by
        cases p with
        | nil => cases h47
        | cons a t => simp at h47; exact ⟨t, by rw [h47]⟩
      have hx : ((bs (47 :: t)).extract 1 (bs (47 :: t)).size).data.toList = t := by rw [Lib.extract_to_end]; rfl
      have hsz : (bs (47 :: t)).size = t.length + 1 := rfl
      have htl : t.length < 4194304 := by simp at hpl; omega
      have SP := fun (w : World) (h : w.cell? ⟨0, 0, none⟩ = some (.int .i64 m)) => Lib.hid (split_c ((bs (47 :: t)).extract 1 (bs (47 :: t)).size) 47 m w (by simp [hsz]; omega) h)
      rw [hx] at SP
      simp only [List.tail_cons]
      have hp1 : 1 ≤ (bs (47 :: t)).size := by rw [hsz]; omega
      have HX := Lib.hid hx
      have HSZ := Lib.hid hsz
      have HH := Lib.hid h47
      clear hx h47 hsz
      go_enter Tryd.func67, Tryd.ntmps67
      go_wp2_with fail
      refine (K _).out.mono ?_
      rintro e w1 ⟨rfl, hb⟩
      have hm1 := cell_below hb hm
      go_wp2_with fail
      refine (P _).out.mono ?_
      rintro e w2 ⟨rfl, rfl⟩
      go_wp2_with fail
      refine (SP _ hm1).out.mono ?_
      rintro e w2 ⟨rfl, hw2⟩
      rw [hw2]
      clear hw2
      have b1 := hb.alloc hb.size (.cells (strs (pieces 47 t)).toArray 9)
      have hblk : (w1.alloc (.cells (strs (pieces 47 t)).toArray 9)).heap[w1.heap.size]? = some (.cells (strs (pieces 47 t)).toArray 9 (0, 0)) := heap_alloc_new w1 _
      have hsz1 : w1.heap.size + 1 ≤ (w1.alloc (.cells (strs (pieces 47 t)).toArray 9)).heap.size := by simp
      have hpc := pieces_length 47 t
      have hpm := pieces_mem 47 t
      have sw1 := hb.size
      have PM := Lib.hid hpm
      have BL := Lib.hid hblk
      clear hb hm1 hm hpm hblk
      generalize hps : pieces 47 t = ps at *
      have HPS := Lib.hid hps
      clear hps
      generalize w1.heap.size = B at *
      go_wp2
      go_loopw [6, 7, 27] (fun v o i wr => ∃ (k : Nat) (kept : List (List UInt8)), k ≤ ps.length ∧ i = .int .i64 k ∧ o = .bool (openAt ps k) ∧ wr.ownsRow (B + 1) 9 1 v kept.length (strs kept) ∧ Below w.heap.size w wr ∧ B + 1 ≤ wr.heap.size ∧ wr.heap[B]? = some (.cells (strs ps).toArray 9 (0, 0)) ∧ Kept ps kept k t.length) (fun _ _ i _ => ps.length - (intOf i).toNat)
      case atStart => exact ⟨0, [], Nat.zero_le _, rfl, rfl, World.ownsRow_nil _ _ _ _, b1, hsz1, BL.out, Kept.start _ _⟩
      case round =>
        clear b1 hsz1
        obtain ⟨k, kept, hk, rfl, rfl, hown, hB, hz, hblk, hK⟩ := hrel
        have HO := Lib.hid hown
        have HK := Lib.hid hK
        have BL := Lib.hid hblk
        have klen := hK.len
        clear hown hK hblk
        by_cases hlt : k < ps.length
        · have hc : wr.cell? ⟨B, k, none⟩ = some (.string (bs ps[k])) := by
            have := cell_of_row wr B k (strs ps).toArray 9 (0, 0) BL.out
            rw [this]
            simp [strs, hlt]
          have hxl := (PM.out ps[k] (List.getElem_mem hlt)).1
          obtain ⟨x, hx⟩ : ∃ x, ps[k] = x := ⟨_, rfl⟩
          rw [hx] at hc hxl
          have HX := Lib.hid hx
          clear hx
          have hne : ps[k] = x := HX.out
          by_cases h2 : x = [46, 46]
          · subst h2
            by_cases hk0 : kept = []
            · have HN := Lib.hid (HK.out.out hlt hne hk0)
              obtain ⟨A, c, hv⟩ := own_slice' HO.out
              rw [hv]
              have hl0 : kept.length = 0 := by rw [hk0]; rfl
              rw [hl0]
              clear hv hne
              go_wp2
              go_ret2
              exact ⟨by rw [HPS.out, HN.out]; rfl, hB⟩
            · have HN := Lib.hid (HK.out.up hlt hne hk0)
              have hl1 : 0 < kept.length := List.length_pos_iff.2 hk0
              have hform := HO.out.form hl1
              obtain ⟨g, cap, hv, _⟩ := hform
              have ho := HO.out
              rw [hv] at ho
              have ht := own_take ho (kept.length - 1) (by omega)
              have e1 : (strs kept).take (kept.length - 1) = strs kept.dropLast := by unfold strs; rw [← List.map_take, List.dropLast_eq_take]
              have e2 : kept.dropLast.length = kept.length - 1 := by simp
              rw [e1, ← e2] at ht
              have HT := Lib.hid ht
              have hcap : kept.length ≤ cap := by
                rcases ho.2 with ⟨h, _⟩ | ⟨g', cap', cur, he, a, b, c, _⟩
                · cases h
                · injection he with e1 e2 e3; subst e3; exact c
              have hop := openAt_next hlt
              rw [hne] at hop
              have HOP := Lib.hid hop
              have g0 : ((kept.length : Int) == 0) = false := by rw [beq_eq_false_iff_ne]; omega
              have E2 := Lib.hid e2
              rw [hv]
              clear hv ho ht e1 hne hop hk0 e2
              go_wp2
              go_roundw
              case rel => exact ⟨k + 1, kept.dropLast, by omega, by go_num, by rw [HOP.out]; rfl, by rw [E2.out] at HT; rw [E2.out]; exact HT.out, hB, hz, BL.out, HN.out⟩
              case measure => simp [intOf]; omega
          · by_cases hd : dots x = true
            · have HN := Lib.hid (HK.out.stay hlt (by rw [hne]; exact h2) (by rw [hne]; exact hd))
              have hop := openAt_next hlt
              rw [hne, hd] at hop
              have HOP := Lib.hid hop
              have hc2 : x = [] ∨ x = [46] := by
                simp [dots] at hd
                rcases hd with (h | h) | h
                · exact .inl h
                · exact .inr h
                · exact absurd h h2
              clear hne hop hd h2
              rcases hc2 with rfl | rfl
              · go_wp2
                go_roundw
                case rel => exact ⟨k + 1, kept, by omega, by go_num, by rw [HOP.out], HO.out, hB, hz, BL.out, HN.out⟩
                case measure => simp [intOf]; omega
              · go_wp2
                go_roundw
                case rel => exact ⟨k + 1, kept, by omega, by go_num, by rw [HOP.out], HO.out, hB, hz, BL.out, HN.out⟩
                case measure => simp [intOf]; omega
            · have hd' : dots x = false := by simpa using hd
              have HN := Lib.hid (HK.out.keep hlt (by rw [hne]; exact hd') (by rw [hne]; exact hxl))
              have hop := openAt_next hlt
              rw [hne, hd'] at hop
              have HOP := Lib.hid hop
              have f0 : ¬ x = [] := by intro h; subst h; revert hd'; decide
              have f1 : ¬ x = [46] := by intro h; subst h; revert hd'; decide
              have f2 : (x == [46, 46]) = false := by rw [beq_eq_false_iff_ne]; exact h2
              have f3 : x.isEmpty = false := by cases x <;> simp_all
              have f4 : (x == [46]) = false := by rw [beq_eq_false_iff_ne]; exact f1
              clear hne hop hd hd' h2
              go_wp2_with (at_builtin; refine wpList_append_own _ rfl (.tmp 60) (.tmp 62) 91 rfl (B + 1) 9 i0 (.string ByteArray.empty) 1 16 Tryd.underlying91 hi hz0 hz1 hz2 rfl (by decide) _ kept.length _ rfl (HO.out.alloc _) ⟨wr.heap.size, 0, none⟩ 1 1 [.string (bs x)] rfl rfl ?_ ?_ ?_ ?_ ?_ ?_)
              any_goals first | exact cell_one_new _ _ _ | (intro u hu; simp at hu; subst hu; rfl) | (show Value.oneCell' _ = true; rfl) | (unfold maxLen; omega) | omega | (simp; omega)
              intro v' w3 hown' hgrow _
              have e1 : strs kept ++ [.string (bs x)] = strs (kept ++ [x]) := by simp [strs]
              rw [e1] at hown'
              have HO' := Lib.hid hown'
              have hB' : Below w.heap.size w w3 := (hB.alloc (by omega) _).grown hgrow (by simp; omega) (fun g hg => by have := (HO.out.lt g hg).1; omega)
              have hz' : B + 1 ≤ w3.heap.size := by have := hgrow.size; simp at this; omega
              have hblk' := (hgrow.block B (by simp; omega) (fun q => by have := (HO.out.lt B q.symm).1; omega)).trans ((Below.heap_alloc wr _ B (by omega)).trans BL.out)
              have BL' := Lib.hid hblk'
              clear hown' hgrow e1 hblk'
              go_wp2
              go_roundw
              case rel => exact ⟨k + 1, kept ++ [x], by omega, by go_num, by rw [HOP.out], by rw [List.length_append]; exact HO'.out, hB', hz', BL'.out, by rw [← HX.out]; exact HN.out⟩
              case measure => simp [intOf]; omega
        · have hke : k = ps.length := by omega
          have hfin : normK [] ps = some kept := by
            rw [HK.out.left, List.drop_of_length_le (by omega)]; rfl
          have hop : openAt ps k = (ps.getLast?.map dots).getD false := by rw [hke, openAt_last]
          have HF := Lib.hid hfin
          have HOP := Lib.hid hop
          have jl := join_length kept t.length HK.out.each
          have jl2 : kept.length * (t.length + 1) ≤ 4194304 * 4194304 := Nat.mul_le_mul (by omega) (by omega)
          have HKE := Lib.hid hke
          clear hfin hop hke
          have hz47 : ∀ l : List UInt8, l.length ≤ 35184372088832 → (⟨#[47]⟩ : ByteArray).size + (bs l).size ≤ 9223372036854775807 := fun l hl => by
            show 1 + l.length ≤ _; omega
          have hz48 : ∀ l : List UInt8, l.length ≤ 35184372088832 → ((⟨#[47]⟩ : ByteArray) ++ bs l).size + (⟨#[47]⟩ : ByteArray).size ≤ 9223372036854775807 := fun l hl => by
            rw [ByteArray.size_append]; show 1 + l.length + 1 ≤ _; omega
          by_cases hk0 : kept = []
          · have hl0 : kept.length = 0 := by rw [hk0]; rfl
            obtain ⟨A, c, hv⟩ := own_slice' HO.out
            rw [hv, hl0]
            have J := fun w => Lib.hid (Tryd.strings_Join_none A c ⟨#[47]⟩ w)
            subst hk0
            clear hv HO hl0 jl jl2 hz47 hz48
            cases ho : openAt ps k with
            | true =>
              have HOO := Lib.hid ho
              clear ho
              go_wp2_with (go_at_call 85; refine (J _).out.mono ?_; rintro e w4 ⟨rfl, hw4⟩; rw [hw4]; clear hw4)
              go_ret2
              exact ⟨by rw [HPS.out, HF.out]; exact ret_norm (by simp [build, Lib.join, ByteArray.data_append]), hB⟩
            | false =>
              have HOO := Lib.hid ho
              clear ho
              go_wp2_with (go_at_call 85; refine (J _).out.mono ?_; rintro e w4 ⟨rfl, hw4⟩; rw [hw4]; clear hw4)
              go_ret2
              exact ⟨by rw [HPS.out, HF.out]; exact ret_norm (by simp [build, Lib.join, ByteArray.data_append]), hB⟩
          · have hl1 : 0 < kept.length := List.length_pos_iff.2 hk0
            obtain ⟨g, cap, hv, _⟩ := HO.out.form hl1
            have ho := HO.out
            rw [hv] at ho
            have J := Lib.hid (join_c kept _ ho (by omega) (by omega))
            have z1 := hz47 (Lib.join kept [47]) (by omega)
            have z2 := hz48 (Lib.join kept [47]) (by omega)
            have HK0 := Lib.hid hk0
            rw [hv]
            clear hv ho hk0 hz47 hz48 jl jl2
            generalize hJ : bs (Lib.join kept [47]) = jb at *
            have HJ := Lib.hid hJ
            clear hJ
            cases ho : openAt ps k with
            | true =>
              have HOO := Lib.hid ho
              clear ho
              go_wp2_with (go_at_call 85; refine J.out.mono ?_; rintro e w4 ⟨rfl, hb4⟩)
              go_ret2
              exact ⟨by rw [HPS.out, HF.out, ← HOP.out, HOO.out, ← HJ.out]; exact ret_norm (by simp [build, HK0.out, ByteArray.data_append]), below_then hB hb4⟩
            | false =>
              have HOO := Lib.hid ho
              clear ho
              go_wp2_with (go_at_call 85; refine J.out.mono ?_; rintro e w4 ⟨rfl, hb4⟩)
              go_ret2
              exact ⟨by rw [HPS.out, HF.out, ← HOP.out, HOO.out, ← HJ.out]; exact ret_norm (by simp [build, HK0.out, ByteArray.data_append]), below_then hB hb4⟩
    · rw [decide_eq_false h47] at P
      simp only [h47, if_false]
      go_enter Tryd.func67, Tryd.ntmps67
      go_wp2_with (first | (go_at_call 84; refine (K _).out.mono ?_; rintro e w1 ⟨rfl, hb⟩) | (go_at_call 41; refine (P _).out.mono ?_; rintro e w2 ⟨rfl, rfl⟩))
      go_ret2
      exact ⟨rfl, hb⟩

end Go.Proofs.YtjbmipbjlhcooaaDoor
