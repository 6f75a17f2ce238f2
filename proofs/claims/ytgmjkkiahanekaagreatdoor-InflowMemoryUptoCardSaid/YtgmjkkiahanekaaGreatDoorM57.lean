/- The texts InMm in one. -/
import Derived.Test.YtgmjkkiahanekaaGreatDoorM39
import Derived.Test.YtgmjkkiahanekaaGreatDoorM56
import Derived.Test.YtgmjkkiahanekaaGreatDoorM53
import Derived.Test.YtgmjkkiahanekaaGreatDoorM32
import Derived.Maps.AppendAt
import Derived.Laws.OwnMore
import Derived.BigQuiet
import Derived.Deep.DeepCutAuto
/- The walk over InflowMemory. -/
set_option linter.unusedVariables false
set_option linter.unusedSimpArgs false
namespace Go.Proofs.YtgmjkkiahanekaaGreatDoor
open Go.RowKit Lex

theorem flines1_snoc (l : List Fd) (f : Fd) : flines1 (l ++ [f]) = flines1 l ++ (fline1 f ++ [13, 10]) := by
  induction l with
  | nil => simp [flines1]
  | cons g l ih => simp only [List.cons_append, flines1, ih, List.append_assoc]
/-- The text so far. -/
def memP (l : List Fd) : List UInt8 := wfirst getW [47] ++ 13 :: 10 :: flines1 (memF l)
theorem memP_snoc (l : List Fd) (f : Fd) : memP (l ++ [f]) = memP l ++ (fline1 (xFd f) ++ [13, 10]) := by
  unfold memP memF
  rw [List.map_append, ← List.cons_append, List.map_cons, List.map_nil, flines1_snoc]
  simp
theorem memT_eq (l : List Fd) : memT l = memP l ++ [13, 10] := by unfold memT memP getOf; simp
theorem mem_line (n v X : List UInt8) : bs X ++ ((⟨#[88, 45]⟩ : ByteArray) ++ bs n ++ ⟨#[58, 32]⟩ ++ bs v ++ ⟨#[13, 10]⟩) = bs (X ++ (fline1 (xFd (n, v)) ++ [13, 10])) := by
  refine bytes_ext ?_
  simp [fline1, xFd]
theorem mem_len (n v : List UInt8) : (fline1 (xFd (n, v)) ++ [13, 10]).length = n.length + v.length + 6 := by simp [fline1, xFd]; omega
theorem mem_start : (⟨#[71, 69, 84, 32, 47, 32, 72, 84, 84, 80, 47, 49, 46, 49, 13, 10, 72, 111, 115, 116, 58, 32, 104, 13, 10]⟩ : ByteArray) = bs (memP []) := by kernel_rfl
theorem grown_refl (w : World) (row : Option Nat) : w.grownBy w row := ⟨rfl, rfl, rfl, Nat.le_refl _, fun _ _ _ => rfl⟩
theorem more_row (w : World) : (w.alloc (.cells #[.string ⟨#[109, 111, 114, 101]⟩, .string ⟨#[]⟩, .string ⟨#[109, 111, 114, 101]⟩, .string ⟨#[]⟩] 59)).ownsRow 0 59 2 (.slice (some ⟨w.heap.size, 0, none⟩) 2 2) 2 [.string ⟨#[109, 111, 114, 101]⟩, .string ⟨#[]⟩, .string ⟨#[109, 111, 114, 101]⟩, .string ⟨#[]⟩] :=
  World.ownsRow_lit (base := 0) (e := 59) (size := 2) w _ 2 (Nat.zero_le _) (by decide) rfl
theorem more_one : ∀ u ∈ [Value.string ⟨#[109, 111, 114, 101]⟩, .string ⟨#[]⟩, .string ⟨#[109, 111, 114, 101]⟩, .string ⟨#[]⟩], u.oneCell' = true := by
  intro u hu
  simp only [List.mem_cons, List.not_mem_nil, or_false] at hu
  rcases hu with rfl | rfl | rfl | rfl <;> rfl
theorem flds_one {w : World} {B : Nat} {n v : List UInt8} {T : TypeId} (hB : w.heap.size = B) : Flds (w.alloc (.cells #[.string (bs n), .string (bs v)] T)) (some ⟨B, 0, none⟩) [(n, v)] := fun j hj => by
  have : j = 0 := by simpa using hj
  subst this
  subst hB
  exact ⟨w.heap.size, 0, rfl, by rw [World.cell?_alloc_new]; rfl, by rw [World.cell?_alloc_new]; rfl⟩
theorem below_flds {W w w3 : World} {o1 o2 : Obj} {nq : Nat} (h : Below W.heap.size W w) (h3 : Below (((w.alloc o1).drewN nq).alloc o2).heap.size (((w.alloc o1).drewN nq).alloc o2) w3) : Below w.heap.size w w3 ∧ Below W.heap.size W w3 := by
  have b1 : Below w.heap.size w (((w.alloc o1).drewN nq).alloc o2) := (below_drewN ((Below.refl _ w).alloc (Nat.le_refl _) o1) nq).alloc (by simp) o2
  exact ⟨below_then b1 h3, below_then h (below_then b1 h3)⟩
set_option maxRecDepth 100000 in
set_option maxHeartbeats 8000000 in
theorem memory_walk11 {W : World} (A : Option Addr) (cap : Nat) (l : List Fd) (hnil : A = none → cap = 0) (hF : Flds W A l) (hfb : l.length ≤ 1048576 ∧ ∀ f ∈ l, f.1.length ≤ 1048576 ∧ f.2.length ≤ 1048576) (M : Int) (W2 : World) (hW : W2 = W) (hm : W2.cell? ⟨0, 0, none⟩ = some (.int .i64 M)) :
    Calls Tryz.prog 7 #[.slice A l.length cap] W2 fun e w' => e = .returned (.bool true) ∧ Below W2.heap.size W2 w' := by
  subst hW
  have AN := Lib.hid (anchor11_c M W2 hm)
  have HM := Lib.hid hm
  have HF := Lib.hid hF
  have hBl : FB l := ⟨by omega, fun f hf => by have := (hfb.2 f hf).1; omega, fun f hf => by have := (hfb.2 f hf).2; omega⟩
  have HBL := Lib.hid hBl
  have HFB := Lib.hid hfb.2
  have hll : l.length ≤ 1048576 := hfb.1
  clear hm hF hBl hfb hnil
  obtain ⟨i0, hi, hz0, hz1, hz2⟩ := info_parts info_field
  go_enter Tryz.func7, Tryz.ntmps7
  go_wp2_with fail
  refine AN.out.mono ?_
  rintro e w1 ⟨rfl, hb1⟩
  have B1 := Lib.hid hb1
  clear hb1 AN
  go_wp2_with fail
  go_loopw [3, 24] (fun s i wr => ∃ k : Nat, k ≤ l.length ∧ i = .int .i64 k ∧ s = .string (bs (memP (l.take k))) ∧ (∀ f ∈ l.take k, badF f = false ∧ f.1.length + f.2.length ≤ 400) ∧ (memP (l.take k)).length ≤ 6000 ∧ (0 < k → l.length ≤ 30) ∧ Below W2.heap.size W2 wr) (fun _ i _ => l.length - (intOf i).toNat)
  case atStart => exact ⟨0, Nat.zero_le _, rfl, by rw [mem_start]; rfl, fun f hf => by simp at hf, by rw [List.take_zero]; decide, fun h => absurd h (Nat.lt_irrefl 0), B1.out⟩
  case round =>
    obtain ⟨k, hk, rfl, rfl, hall, hlen, h30, hB⟩ := hrel
    have HB := Lib.hid hB
    have HALL := Lib.hid hall
    have H30 := Lib.hid h30
    clear hB hall h30
    by_cases hlt : k < l.length
    · obtain ⟨g, o, hA, c0, c1⟩ := HF.out.below (HB.out.mono (Nat.le_refl _)) k hlt
      have hfx := HFB.out l[k] (List.getElem_mem hlt)
      obtain ⟨f, hf⟩ : ∃ f, l[k] = f := ⟨_, rfl⟩
      rw [hf] at c0 c1 hfx
      obtain ⟨n, v⟩ := f
      simp only at c0 c1 hfx
      have hsn := memP_snoc (l.take k) (n, v)
      rw [← hf, ← List.take_succ_eq_append_getElem hlt, hf] at hsn
      have HSN := Lib.hid hsn
      have HFE := Lib.hid hf
      have HK := Lib.hid hlt
      have k0 : (0 : Int) ≤ (k : Int) := by omega
      have k1 : (k : Int) < (l.length : Int) := by omega
      have hnz : (bs n).size = n.length := bs_size n
      have hvz : (bs v).size = v.length := bs_size v
      have hbad1 : FB [(n, v)] := ⟨by simp, fun f hf => by rw [List.mem_singleton] at hf; subst hf; show n.length ≤ _; omega, fun f hf => by rw [List.mem_singleton] at hf; subst hf; show v.length ≤ _; omega⟩
      have CK := fun A w h => Lib.hid (rcheckf_c A 1 [(n, v)] w hbad1 h)
      simp only [List.length_singleton] at CK
      have ON := fun w h => Lib.hid (rone_c (some ⟨g, o, none⟩) cap l (bs n) w (by rw [bs_size]; omega) HBL.out h)
      simp only [bs_list] at ON
      obtain ⟨X, hX⟩ : ∃ X, memP (l.take k) = X := ⟨_, rfl⟩
      rw [hX] at hlen HSN
      rw [hX]
      subst hA
      clear hsn hf hX
      go_wp2_with fail
      go_quiet (fail)
      have hck : checkF [(n, v)] = if badF (n, v) = true then 70 else 0 := by unfold checkF; simp
      rw [hck] at CK
      clear hck
      by_cases d1 : badF (n, v) = true
      · rw [if_pos d1] at CK
        go_wp2_with fail
        refine (CK _ _ (flds_one (by simp))).out.mono ?_
        rintro e w3 ⟨rfl, hb3⟩
        have BB := Lib.hid (below_flds HB.out hb3).2
        clear hb3
        go_wp2
        go_ret
        exact ⟨rfl, BB.out⟩
      rw [if_neg d1] at CK
      by_cases d2 : oneF l n = true
      · rw [d2] at ON
        go_wp2_with fail
        refine (CK _ _ (flds_one (by simp))).out.mono ?_
        rintro e w3 ⟨rfl, hb3⟩
        have BB := below_flds HB.out hb3
        have FF := Lib.hid ((HF.out.below HB.out).below BB.1)
        have B3 := Lib.hid BB.2
        clear hb3 BB
        go_wp2_with fail
        refine (ON _ FF.out).out.mono ?_
        rintro e w4 ⟨rfl, hb4⟩
        have B4 := Lib.hid (below_then B3.out hb4)
        clear hb4
        go_wp2
        go_ret
        exact ⟨rfl, B4.out⟩
      rw [show oneF l n = false from by simpa using d2] at ON
      clear d2
      by_cases d3 : 400 < n.length + v.length
      · have d3' : (400 : Int) < ((bs n).size : Int) + ((bs v).size : Int) := by omega
        go_wp2_with fail
        refine (CK _ _ (flds_one (by simp))).out.mono ?_
        rintro e w3 ⟨rfl, hb3⟩
        have BB := below_flds HB.out hb3
        have FF := Lib.hid ((HF.out.below HB.out).below BB.1)
        have B3 := Lib.hid BB.2
        clear hb3 BB
        go_wp2_with fail
        refine (ON _ FF.out).out.mono ?_
        rintro e w4 ⟨rfl, hb4⟩
        have B4 := Lib.hid (below_then B3.out hb4)
        clear hb4
        go_wp2
        go_ret
        exact ⟨rfl, B4.out⟩
      have d3' : ¬ (400 : Int) < ((bs n).size : Int) + ((bs v).size : Int) := by omega
      have hXz : (bs X).size = X.length := bs_size X
      by_cases d4 : 5000 < X.length
      · have d4' : (5000 : Int) < ((bs X).size : Int) := by omega
        go_wp2_with fail
        refine (CK _ _ (flds_one (by simp))).out.mono ?_
        rintro e w3 ⟨rfl, hb3⟩
        have BB := below_flds HB.out hb3
        have FF := Lib.hid ((HF.out.below HB.out).below BB.1)
        have B3 := Lib.hid BB.2
        clear hb3 BB
        go_wp2_with fail
        refine (ON _ FF.out).out.mono ?_
        rintro e w4 ⟨rfl, hb4⟩
        have B4 := Lib.hid (below_then B3.out hb4)
        clear hb4
        go_wp2
        go_ret
        exact ⟨rfl, B4.out⟩
      have d4' : ¬ (5000 : Int) < ((bs X).size : Int) := by omega
      by_cases d5 : 30 < l.length
      · have d5' : (30 : Int) < (l.length : Int) := by omega
        go_wp2_with fail
        refine (CK _ _ (flds_one (by simp))).out.mono ?_
        rintro e w3 ⟨rfl, hb3⟩
        have BB := below_flds HB.out hb3
        have FF := Lib.hid ((HF.out.below HB.out).below BB.1)
        have B3 := Lib.hid BB.2
        clear hb3 BB
        go_wp2_with fail
        refine (ON _ FF.out).out.mono ?_
        rintro e w4 ⟨rfl, hb4⟩
        have B4 := Lib.hid (below_then B3.out hb4)
        clear hb4
        go_wp2
        go_ret
        exact ⟨rfl, B4.out⟩
      have d5' : ¬ (30 : Int) < (l.length : Int) := by omega
      go_wp2_with fail
      refine (CK _ _ (flds_one (by simp))).out.mono ?_
      rintro e w3 ⟨rfl, hb3⟩
      have BB := below_flds HB.out hb3
      have FF := Lib.hid ((HF.out.below HB.out).below BB.1)
      have B3 := Lib.hid BB.2
      clear hb3 BB
      go_wp2_with fail
      refine (ON _ FF.out).out.mono ?_
      rintro e w4 ⟨rfl, hb4⟩
      have B4 := Lib.hid (below_then B3.out hb4)
      clear hb4
      go_wp2
      refine ⟨⟨k + 1, hlt, by go_num, ?_, ?_, ?_, fun _ => by omega, B4.out⟩, by simp [intOf]; omega⟩
      · rw [mem_line, HSN.out]
      · intro f hf
        rw [List.take_succ_eq_append_getElem hlt, List.mem_append, List.mem_singleton] at hf
        rcases hf with hf | rfl
        · exact HALL.out f hf
        · rw [HFE.out]; exact ⟨by simpa using d1, by show n.length + v.length ≤ 400; omega⟩
      · rw [HSN.out, List.length_append, mem_len]; omega
    · obtain rfl : k = l.length := by omega
      rw [List.take_length] at hlen HALL
      rw [List.take_length]
      have hl30 : l.length ≤ 30 := by
        by_cases h0 : 0 < l.length
        · exact H30.out h0
        · omega
      obtain ⟨T, hT⟩ : ∃ T, memT l = T := ⟨_, rfl⟩
      obtain ⟨q1, e1, e2⟩ := mem_doc HALL.out hl30 T
      obtain ⟨q2, e3, e4⟩ := mem_doc HALL.out hl30 []
      rw [hT] at e1 e3
      have hTe : bs (memP l) ++ ⟨#[13, 10]⟩ = bs T := by rw [← hT, memT_eq]; exact bs_cat _ _
      have hTl : T.length ≤ 6002 := by rw [← hT, memT_eq, List.length_append]; simp only [List.length_cons, List.length_nil]; omega
      have hzT : (bs T).size = T.length := bs_size T
      have TE := Lib.hid hTe
      have D1 := Lib.hid e1
      have D2 := Lib.hid e3
      have E2 := Lib.hid e2
      have E4 := Lib.hid e4
      have ET := Lib.hid (bs_cat T T)
      have hmn : (memF l).length = l.length + 1 := by unfold memF; simp
      have MN := Lib.hid hmn
      have M0 : (memF l)[0]? = some (hostU, [104]) := rfl
      have MX : ∀ j (hj : j < l.length), (memF l)[j + 1]? = some (xFd l[j]) := fun j hj => by unfold memF; simp [hj]
      have HM0 := Lib.hid M0
      have HMX := Lib.hid MX
      have NW := Lib.hid (inew_to 9 (by decide) W2 wr HB.out)
      have hpz : (bs (memP l)).size ≤ 6000 := by rw [bs_size]; exact hlen
      clear e1 e2 e3 e4 hT hTe M0 MX hmn hlt hk H30 HALL
      generalize memF l = mf at *
      generalize memP l = mp at *
      go_wp2_with fail
      rw [TE.out]
      refine NW.out.mono ?_
      rintro e w2 ⟨rfl, ht2, hz2, hb2⟩
      have FE := Lib.hid (ifeed_to W2 wr.heap.size { most := 9 } _ (bs (T ++ T)) w2 ht2 (by decide) (by rw [bs_size, List.length_append]; omega))
      rw [bs_list] at FE
      clear ht2 hz2 hb2 NW
      go_wp2_with fail
      rw [ET.out]
      refine FE.out.mono ?_
      rintro e w4 ⟨rfl, ht4, ha4, hz4⟩
      obtain ⟨r2, hn, r2o, r2m, r2b, r2s⟩ := next_one (r := feedI { most := 9 } (T ++ T)) (m := 9) ht4.ok rfl rfl (t := T) (tail := T) rfl D1.out
      have NX := inext_to W2 wr.heap.size _ _ M w4 ht4 (fun _ => by show ([] ++ (T ++ T)).length ≤ _; rw [List.nil_append, List.length_append]; omega) HM.out
      rw [hn] at NX
      simp only [rqV] at NX
      have NXX := Lib.hid NX
      have R2O := Lib.hid r2o
      have R2M := Lib.hid r2m
      have R2B := Lib.hid r2b
      have R2S := Lib.hid r2s
      clear NX ht4 ha4 hz4 hn r2o r2m r2b r2s FE
      go_wp2_with fail
      refine NXX.out.mono ?_
      rintro e w5 ⟨P, c5, F5, rfl, hn⟩
      obtain ⟨g, rfl⟩ := own_addr hn.row (by rw [E2.out, MN.out]; omega)
      have hrow := hn.row
      rw [E2.out, MN.out] at hrow
      have hcap := own_caps hrow
      obtain ⟨V1, hV1⟩ : ∃ V1, w5.alloc (.cells #[.string ⟨#[]⟩, .string ⟨#[]⟩, .int .i64 0, .string ⟨#[]⟩, .int .i64 0, .slice none 0 0, .int .i64 0, .string ⟨#[]⟩, .int .i64 0, .string ⟨#[]⟩, .string ⟨#[]⟩, .bool false, .string ⟨#[]⟩, .int .i64 0, .string ⟨#[]⟩, .bool false, .bool false, .string ⟨#[]⟩] 46) = V1 := ⟨_, rfl⟩
      obtain ⟨V, hV⟩ : ∃ V, V1.setCells w5.heap.size 0 (rqVs q1 (some ⟨g, 0, none⟩) c5) = V := ⟨_, rfl⟩
      obtain ⟨th, xb, bV, hVz⟩ := newq_facts w5 _ q1 (some ⟨g, 0, none⟩) c5 hV1 hV
      have TH := Lib.hid th
      have HV1 := Lib.hid hV1
      have HV := Lib.hid hV
      have m5 := xb.c 5 _ (show (rqVs q1 (some ⟨g, 0, none⟩) c5)[5]? = some (.slice (some ⟨g, 0, none⟩) q1.head.fields.length c5) from rfl)
      rw [E2.out, MN.out] at m5
      have M5 := Lib.hid m5
      have tv := Lib.hid (hn.rd.more bV)
      have mk := Lib.hid ((Mark.start hrow).below bV)
      have XB := Lib.hid xb
      have hgn : ¬ F5 g := (hn.at' g 0 rfl).1
      have hgl : W2.heap.size ≤ g := (hn.at' g 0 rfl).2.1
      have hgw : g < w5.heap.size := (hn.at' g 0 rfl).2.2.1
      clear hn bV hV hV1 th xb hrow NXX
      go_upto_region 21 with (refine wpList_store_mid rfl 46 (.tmp 9) (.tmp 81) rfl w5.heap.size 0 (rqVs q1 (some ⟨g, 0, none⟩) c5).toArray rfl rfl (by rw [HV1.out]; exact TH.out) info_rq (one_rq q1 (some ⟨g, 0, none⟩) c5) ?_; rw [HV1.out, HV.out]; try simp only [Act.put])
      clear XB TH HV1 HV
      go_wp2
      clear m5
      obtain ⟨wo, rfl⟩ : ∃ wo : World, wo = V := ⟨_, rfl⟩
      go_loopw [13, 94] (fun _ i wr => ∃ k : Nat, k ≤ l.length + 1 ∧ i = .int .i64 k ∧ Mark wr g (l.length + 1) c5 k ∧ wo.grownBy wr (some g)) (fun _ i _ => l.length + 1 - (intOf i).toNat)
      case atStart => exact ⟨0, Nat.zero_le _, rfl, mk.out, grown_refl _ _⟩
      case round =>
        obtain ⟨k, hk, rfl, hR, hG⟩ := hrel
        have HR := Lib.hid hR
        have HG := Lib.hid hG
        clear hR hG
        have n5 := HG.out.cell M5.out (by show some w5.heap.size ≠ some g; intro e; injection e; omega)
        by_cases hlt : k < l.length + 1
        · obtain ⟨⟨v1, d1⟩, e1⟩ := HR.out.cell (j := k * 2) (by omega)
          obtain ⟨⟨v2, d2⟩, e2⟩ := HR.out.cell (j := k * 2 + 1) (by omega)
          have k0 : (0 : Int) ≤ (k : Int) := by omega
          have k1 : (k : Int) < (l.length : Int) + 1 := by omega
          go_wp2
          exact ⟨⟨k + 1, by omega, by go_num, (HR.out.store hlt _).1, HG.out.trans (HR.out.store hlt _).2⟩, by simp [intOf]; omega⟩
        · obtain rfl : k = l.length + 1 := by omega
          have ha0 : Away (fun k => k = g) wo wr := (Away.refl _ wo).grown HG.out (fun k e _ => by injection e with e; exact e.symm)
          have tr := tv.out.keep ha0 (fun k hk e => by subst e; exact hgn hk) (fun k e => by subst e; exact hgl)
          have ta := tr.more ((Below.refl _ wr).alloc (Nat.le_refl _) (.cells #[.string ⟨#[109, 111, 114, 101]⟩, .string ⟨#[]⟩, .string ⟨#[109, 111, 114, 101]⟩, .string ⟨#[]⟩] 59))
          have MA := Lib.hid (HR.out.below ((Below.refl _ wr).alloc (Nat.le_refl _) (.cells #[.string ⟨#[109, 111, 114, 101]⟩, .string ⟨#[]⟩, .string ⟨#[109, 111, 114, 101]⟩, .string ⟨#[]⟩] 59)))
          have TA := Lib.hid ta
          have FL := Lib.hid tr.rd.lt
          clear ha0 tr ta tv mk M5
          go_wp2_with (at_builtin; first
            | (refine wpList_append_mark rfl (.tmp 106) (.tmp 109) rfl i0 hi hz0 hz1 hz2 g (l.length + 1) c5 (l.length + 1) (Nat.le_refl _) rfl MA.out (.slice (some ⟨wr.heap.size, 0, none⟩) 2 2) _ rfl (more_row wr) more_one (by omega) ?_; intro g2 c2 w6 hm6 hg6 he6; have M6 := Lib.hid hm6; have G6 := Lib.hid hg6; have E6 := Lib.hid he6; clear hm6 hg6 he6))
          have ha6 : Away (fun k => k = g) (wr.alloc (.cells #[.string ⟨#[109, 111, 114, 101]⟩, .string ⟨#[]⟩, .string ⟨#[109, 111, 114, 101]⟩, .string ⟨#[]⟩] 59)) w6 := (Away.refl _ _).grown G6.out (fun k e _ => by injection e with e; exact e.symm)
          have t6 := TA.out.keep ha6 (fun k hk e => by subst e; exact hgn hk) (fun k e => by subst e; exact hgl)
          have hg2 : ¬ F5 g2 := by
            rcases E6.out with e | e
            · rw [e]; exact hgn
            · intro hf
              have := FL.out g2 hf
              rw [e] at this
              simp at this
              omega
          obtain ⟨r4, hn4, -, -, -, -⟩ := next_one (r := r2) (m := 9) R2O.out R2S.out R2M.out (t := T) (tail := []) (by rw [R2B.out]; simp) D2.out
          have NX := inext_to W2 _ r2 F5 M w6 t6 (fun _ => by rw [R2B.out]; omega) HM.out
          rw [hn4] at NX
          simp only [rqV] at NX
          have NYY := Lib.hid NX
          clear NX hn4 ha6 t6
          refine NYY.out.mono ?_
          rintro e w7 ⟨P7, c7, F7, rfl, hn⟩
          obtain ⟨p, rfl⟩ := own_addr hn.row (by rw [E4.out, MN.out]; omega)
          have hcap7 := own_caps hn.row
          rw [E4.out, MN.out] at hcap7
          have hf7 := hn.flds
          rw [E4.out] at hf7
          obtain ⟨U1, hU1⟩ : ∃ V1, w7.alloc (.cells #[.string ⟨#[]⟩, .string ⟨#[]⟩, .int .i64 0, .string ⟨#[]⟩, .int .i64 0, .slice none 0 0, .int .i64 0, .string ⟨#[]⟩, .int .i64 0, .string ⟨#[]⟩, .string ⟨#[]⟩, .bool false, .string ⟨#[]⟩, .int .i64 0, .string ⟨#[]⟩, .bool false, .bool false, .string ⟨#[]⟩] 46) = V1 := ⟨_, rfl⟩
          obtain ⟨U, hU⟩ : ∃ V, U1.setCells w7.heap.size 0 (rqVs q2 (some ⟨p, 0, none⟩) c7) = V := ⟨_, rfl⟩
          obtain ⟨th, xb, bU, hUz⟩ := newq_facts w7 _ q2 (some ⟨p, 0, none⟩) c7 hU1 hU
          have TU := Lib.hid th
          have HU1 := Lib.hid hU1
          have HU := Lib.hid hU
          have p5 := xb.c 5 _ (show (rqVs q2 (some ⟨p, 0, none⟩) c7)[5]? = some (.slice (some ⟨p, 0, none⟩) q2.head.fields.length c7) from rfl)
          rw [E4.out, MN.out] at p5
          have P5 := Lib.hid p5
          have MU := Lib.hid ((M6.out.away hn.away hg2).below bU)
          have hbU := below_then hn.rd.below bU
          have BU := Lib.hid hbU
          have FU := Lib.hid (HF.out.below hbU)
          have hfu := hf7.below bU
          have FB7 := Lib.hid hfu
          have q5 : U.cell? ⟨p, 1, none⟩ = some (.string ⟨#[104]⟩) := by
            have h0 : 0 < mf.length := by have := MN.out; omega
            obtain ⟨g', o', e', -, d1⟩ := hfu 0 h0
            injection e' with e'
            injection e' with e1 e2
            subst e1 e2
            have : mf[0] = (hostU, [104]) := by have := HM0.out; rw [List.getElem?_eq_getElem h0] at this; exact Option.some.inj this
            rw [this] at d1
            exact d1
          clear hn bU hU hU1 th xb hUz NYY hf7 hfu hbU G6 E6 TA MA FL
          go_upto_region 30 with (refine wpList_store_mid rfl 46 (.tmp 15) (.tmp 114) rfl w7.heap.size 0 (rqVs q2 (some ⟨p, 0, none⟩) c7).toArray rfl rfl (by rw [HU1.out]; exact TU.out) info_rq (one_rq q2 (some ⟨p, 0, none⟩) c7) ?_; rw [HU1.out, HU.out]; try simp only [Act.put])
          clear p5 q5 n5 TU HU1 HU
          go_wp2
          obtain ⟨wp, rfl⟩ : ∃ wo : World, wo = U := ⟨_, rfl⟩
          go_loopw [145] (fun i wr => ∃ k : Nat, k ≤ l.length ∧ i = .int .i64 k ∧ Below wp.heap.size wp wr) (fun i _ => l.length - (intOf i).toNat)
          case atStart => exact ⟨0, Nat.zero_le _, rfl, Below.refl _ _⟩
          case round =>
            obtain ⟨k, hk, rfl, hb⟩ := hrel
            have HB3 := Lib.hid hb
            clear hb
            by_cases hlt : k < l.length
            · have r5 := held1 HB3.out P5.out
              obtain ⟨g', o', hA, c0, c1⟩ := FU.out.below HB3.out k hlt
              obtain ⟨f, hf⟩ : ∃ f, l[k] = f := ⟨_, rfl⟩
              have hm1 := HMX.out k hlt
              have h1 : k + 1 < mf.length := by have := MN.out; omega
              obtain ⟨g7, o7, e7, d0, d1⟩ := FB7.out.below HB3.out (k + 1) h1
              injection e7 with e7
              injection e7 with e71 e72
              subst e71 e72
              have hmk : mf[k + 1] = xFd l[k] := by rw [List.getElem?_eq_getElem h1] at hm1; exact Option.some.inj hm1
              rw [hmk, hf] at d0 d1
              rw [hf] at c0 c1
              have hfl := HFB.out l[k] (List.getElem_mem hlt)
              rw [hf] at hfl
              obtain ⟨n, v⟩ := f
              simp only [xFd] at c0 c1 d0 d1 hfl
              have dm := (MU.out.below HB3.out).name (j := k) (by omega) (by omega)
              unfold markV at dm
              have k0 : (0 : Int) ≤ (k : Int) := by omega
              have k1 : (k : Int) < (l.length : Int) := by omega
              have k2 : (k : Int) + 1 < (l.length : Int) + 1 := by omega
              have k3 : (k : Int) < (l.length : Int) + 1 + 2 := by omega
              have cc : (⟨#[88, 45]⟩ : ByteArray) ++ bs n = bs (88 :: 45 :: n) := bs_cat [88, 45] n
              have hnz : (bs n).size = n.length := bs_size n
              subst hA
              clear hm1 hmk hf h1
              simp only [Nat.zero_add] at d0 d1
              have B3W := Lib.hid ((HB3.out.trans (Below.refl _ _)))
              go_wp2_with fail
              have hal := (Below.refl wr.heap.size wr).alloc (Nat.le_refl _) (.cells #[.string (bs n), .string (bs v)] 59)
              have x5 := held1 hal r5
              have y0 := held1 hal d0
              have y1 := held1 hal d1
              have ym := held1 hal dm
              have z0 : (wr.alloc (.cells #[.string (bs n), .string (bs v)] 59)).cell? ⟨wr.heap.size, 0, none⟩ = some (.string (bs n)) := by rw [World.cell?_alloc_new]; rfl
              have z1 : (wr.alloc (.cells #[.string (bs n), .string (bs v)] 59)).cell? ⟨wr.heap.size, 1, none⟩ = some (.string (bs v)) := by rw [World.cell?_alloc_new]; rfl
              have BZ := Lib.hid (below_then HB3.out hal)
              clear r5 d0 d1 dm hal c0 c1 B3W
              generalize wr.alloc (.cells #[.string (bs n), .string (bs v)] 59) = wz at *
              go_quiet (fail)
              have BQ := Lib.hid (below_drewN BZ.out nq)
              clear x5 y0 y1 ym z0 z1 BZ
              go_wp2
              refine ⟨⟨k + 1, hlt, by go_num, BQ.out⟩, by simp [intOf]; omega⟩
            · obtain rfl : k = l.length := by omega
              have BE := Lib.hid (below_then BU.out HB3.out)
              go_wp2
              go_ret
              exact ⟨rfl, BE.out⟩
end Go.Proofs.YtgmjkkiahanekaaGreatDoor

