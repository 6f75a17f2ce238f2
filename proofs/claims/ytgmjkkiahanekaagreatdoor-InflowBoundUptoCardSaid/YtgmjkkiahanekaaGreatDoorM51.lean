/- The texts InBd in one. -/
import Derived.Test.YtgmjkkiahanekaaGreatDoorM35
import Derived.Test.YtgmjkkiahanekaaGreatDoorM39
import Derived.Test.YtgmjkkiahanekaaGreatDoorM50
import Derived.Laws.MakeOwn
import Derived.Laws.OwnMore
import Derived.BigQuiet
/- The walk over InflowBound. -/
set_option linter.unusedVariables false
set_option linter.unusedSimpArgs false
namespace Go.Proofs.YtgmjkkiahanekaaGreatDoor
open Go.RowKit Lex

def putM : List UInt8 := [80, 85, 84]
theorem parse_put : parseT putM [47] = ({ form := 1, path := [47] }, 0) := by kernel_rfl
theorem docs_single {m : Int} {b : List UInt8} {q : Rq} (h : docR m b = (some (q, b.length), 0)) : docs m b = ([q], [], 0) := by
  rw [docs_step h, List.drop_length, docs_nil]
theorem put_docs {body : List UInt8} (hb : body.length < 3200) (m size : Int) (h0 : 0 ≤ m) :
    ((body.length : Int) ≤ m → ∃ q, docs m (wrL putM [47] body size) = ([q], [], 0) ∧ q.body = body) ∧ (m < (body.length : Int) → docs m (wrL putM [47] body size) = ([], wrL putM [47] body size, 413)) := by
  obtain ⟨h1, h2⟩ := wr_doc (me := putM) (t := [47]) (by decide) (by decide) (by decide) (by decide) (by simp) (by decide) parse_put rfl hb m size h0 []
  rw [List.append_nil] at h1 h2
  refine ⟨fun h => ?_, fun h => docs_end (h2 h)⟩
  obtain ⟨q, q1, q2, -⟩ := h1 h
  exact ⟨q, docs_single q1, q2⟩
theorem texts_uno11 {w : World} {T : TypeId} {x : ByteArray} {s : List UInt8} {B : Nat} (hB : w.heap.size = B) (h : x = bs s) : TextsO (w.alloc (.cells #[.string x] T)) (some ⟨B, 0, none⟩) [s] := by
  subst hB h
  have := texts_one w (bs s) T
  rwa [bs_list] at this
theorem below_alq {W w : World} (h : Below W.heap.size W w) (o : Obj) : Below W.heap.size W (w.alloc o) := h.alloc h.size o
theorem chunksF_len (z : Nat) (hz : 0 < z) : ∀ (f : Nat) (r : List UInt8), r.length ≤ f → (chunksF z f r).length ≤ 13 * r.length := by
  intro f
  induction f with
  | zero => intro r h; rw [chunksF]; simp
  | succ f ih =>
    intro r h
    by_cases h0 : r = []
    · subst h0; rw [chunks_nil]; simp
    · have hp := List.length_pos_iff.2 h0
      have := ih (r.drop z) (by rw [List.length_drop]; omega)
      have he := enc11_len (r.take z)
      rw [List.length_take] at he
      rw [List.length_drop] at this
      rw [chunksF, if_neg h0, List.length_append]
      omega
theorem wrL_len {me pa body : List UInt8} {size : Int} : (wrL me pa body size).length ≤ me.length + pa.length + 100 + 13 * body.length := by
  by_cases h : size < 1
  · rw [wr_len h]
    have := dig_len 5 body.length
    have h2 := headT_len me pa
    simp only [List.length_append, List.length_cons, List.length_nil, clU] at *
    omega
  · rw [wr_ch h]
    have := chunksF_len size.toNat (by omega) body.length body (Nat.le_refl _)
    have h2 := headT_len me pa
    simp only [List.length_append, List.length_cons, List.length_nil, teU, chV] at *
    omega
theorem zeros_own (w : World) (n : Nat) (hn : n ≤ 3000) : (w.alloc (.cells (madeCells #[.int .u8 0] n) 5)).ownsRow w.heap.size 5 1 (.slice (some ⟨w.heap.size, 0, none⟩) n n) n (nums8 (byteI (List.replicate n 0))) := by
  have h := World.ownsRow_lit (base := w.heap.size) (e := 5) (size := 1) w (madeCells #[.int .u8 0] n) n (Nat.le_refl _) (by unfold maxLen; omega) (by rw [size_madeCells]; omega)
  rw [toList_madeCells_one] at h
  have e : nums8 (byteI (List.replicate n 0)) = List.replicate n (.int .u8 0) := by
    unfold nums8 byteI
    rw [List.map_replicate, List.map_replicate]
    rfl
  rw [e]
  exact h
set_option maxRecDepth 100000 in
set_option maxHeartbeats 8000000 in
theorem inbound_walk {W : World} (m : Int) (hmw : (Lit.int .i64 m).wf = true) (size : Int) (hsw : (Lit.int .i64 size).wf = true) (past : Bool) (M : Int) (W2 : World) (hW : W2 = W) (hm : W2.cell? ⟨0, 0, none⟩ = some (.int .i64 M)) :
    Calls Tryz.prog 9 #[.int .i64 m, .int .i64 size, .bool past] W2 fun e w' => e = .returned (.bool true) ∧ Below W2.heap.size W2 w' := by
  subst hW
  obtain ⟨i0, hi, hz0, hz1, hz2⟩ := info_parts info_u8
  have AN := Lib.hid (anchor11_c M W2 hm)
  have HM := Lib.hid hm
  have hsz : size ≤ 9223372036854775807 := by
    simp [Lit.wf, IntKind.min, IntKind.max, IntKind.signed, IntKind.bits] at hsw
    omega
  clear hm hmw hsw
  go_enter Tryz.func9, Tryz.ntmps9
  go_wp2_with fail
  refine AN.out.mono ?_
  rintro e w1 ⟨rfl, hb1⟩
  have B1 := Lib.hid hb1
  clear hb1 AN
  by_cases c1 : m < 0
  · go_wp2
    go_ret
    exact ⟨rfl, B1.out⟩
  by_cases c2 : 3000 < m
  · go_wp2
    go_ret
    exact ⟨rfl, B1.out⟩
  obtain ⟨n, rfl⟩ : ∃ n : Nat, m = (n : Int) := ⟨m.toNat, by omega⟩
  have hn3 : n ≤ 3000 := by omega
  have hmk : (Instr.makeSlice 71 (.int .i64 (n : Int)) (.int .i64 (n : Int))).run Tryz.prog w1 = .ok (.slice (some ⟨w1.heap.size, 0, none⟩) n n) (w1.alloc (.cells (madeCells #[.int .u8 0] n) 5)) := by
    have := run_make (P := Tryz.prog) w1 71 5 i0 (.int .u8 0) Tryz.underlying71 hi hz0 .i64 .i64 (n : Int) (n : Int) (by omega) (Int.le_refl _) (by rw [hz2]; omega) (by omega)
    rw [hz1] at this
    simp only [Int.toNat_natCast, Nat.mul_one] at this
    exact this
  obtain ⟨V, hV⟩ : ∃ V, w1.alloc (.cells (madeCells #[.int .u8 0] n) 5) = V := ⟨_, rfl⟩
  have OV : Hid (V.ownsRow w1.heap.size 5 1 (.slice (some ⟨w1.heap.size, 0, none⟩) n n) n (nums8 (byteI (List.replicate n 0)))) := Lib.hid (by rw [← hV]; exact zeros_own w1 n hn3)
  have BV : Hid (Below w1.heap.size w1 V) := Lib.hid (by rw [← hV]; exact (Below.refl _ w1).alloc (Nat.le_refl _) _)
  rw [hV] at hmk
  have k0 : (0 : Int) ≤ (n : Int) := by omega
  clear hV c1 c2
  cases past with
  | false =>
    obtain ⟨bd, hbd⟩ : ∃ bd, List.replicate n (0 : UInt8) = bd := ⟨_, rfl⟩
    have hbl : bd.length = n := by rw [← hbd, List.length_replicate]
    rw [hbd] at OV
    obtain ⟨q, hq, hqb⟩ := (put_docs (body := bd) (by omega) (n : Int) size (by omega)).1 (by omega)
    have hcv := own_string8 (xs := byteI bd) OV.out
    rw [strOf_bytes] at hcv
    have WR := Lib.hid (written_c (bs putM) (bs [47]) (bs bd) size V (by decide) (by decide) (by rw [bs_size]; omega) hsz)
    simp only [bs_list] at WR
    have hwl := wrL_len (me := putM) (pa := [47]) (body := bd) (size := size)
    have RD := fun A w hT hm0 => Lib.hid (read_c (n : Int) (by omega) A 1 [wrL putM [47] bd size] M w hT (by simp only [List.flatten_cons, List.flatten_nil, List.append_nil]; have e1 : putM.length = 3 := rfl; have e2 : ([47] : List UInt8).length = 1 := rfl; omega) (by simp) (by simp only [List.flatten_cons, List.flatten_nil, List.append_nil]; rw [hq]; simp) hm0)
    simp only [List.flatten_cons, List.flatten_nil, List.append_nil, hq] at RD
    have RDD := Lib.hid RD
    have HQB := Lib.hid hqb
    have hbz : (bs bd).size = n := by rw [bs_size, hbl]
    clear RD hq hqb hbd hbl hwl
    go_wp2_with fail
    rw [show (⟨#[80, 85, 84]⟩ : ByteArray) = bs putM from rfl, show (⟨#[47]⟩ : ByteArray) = bs [47] from rfl]
    refine WR.out.mono ?_
    rintro e w4 ⟨rfl, hb4⟩
    have B4' := Lib.hid (below_then (below_then B1.out BV.out) hb4)
    have O4 := Lib.hid (own_below OV.out hb4)
    clear hb4 hcv
    go_wp2_with fail
    refine (RDD.out _ _ (texts_uno11 rfl rfl) (cell_below (below_alq B4'.out _) HM.out)).out.mono ?_
    rintro e w6 ⟨v, As, rfl, ho, hb6⟩
    have B6 := Lib.hid (below_then (below_alq B4'.out _) hb6)
    have O6 := own_below (O4.out.alloc _) hb6
    have hcv : ∀ k, (convert 71 9 (.slice (some ⟨w1.heap.size, 0, none⟩) n n)).run Tryz.prog (w6.drewN k) = .ok (.string (bs bd)) (w6.drewN k) := fun k => by
      have := own_string8 (w := w6.drewN k) (xs := byteI bd) O6
      rwa [strOf_bytes] at this
    obtain ⟨g, cp, rfl, hg⟩ := ho.range (k := 0) (by simp) (by rw [ho.len]; simp)
    have m14 := hg 14 _ rfl
    simp only [List.getElem_cons_zero, Nat.zero_mul, Nat.zero_add] at m14
    rw [HQB.out] at m14
    clear hb6 ho hg O6
    go_wp2_with fail
    go_quiet (fail)
    go_wp2
    go_ret
    exact ⟨by first | rfl | simp, B6.out.trans ⟨rfl, rfl, rfl, Nat.le_refl _, fun _ _ => rfl⟩⟩
  | true =>
    obtain ⟨bd, hbd⟩ : ∃ bd, List.replicate n (0 : UInt8) ++ [120] = bd := ⟨_, rfl⟩
    have hbl : bd.length = n + 1 := by rw [← hbd, List.length_append, List.length_replicate]; rfl
    have hq := (put_docs (body := bd) (by omega) (n : Int) size (by omega)).2 (by omega)
    have WR := fun w => Lib.hid (written_c (bs putM) (bs [47]) (bs bd) size w (by decide) (by decide) (by rw [bs_size]; omega) hsz)
    simp only [bs_list] at WR
    have hwl := wrL_len (me := putM) (pa := [47]) (body := bd) (size := size)
    have RD := fun A w hT hm0 => Lib.hid (read_c (n : Int) (by omega) A 1 [wrL putM [47] bd size] M w hT (by simp only [List.flatten_cons, List.flatten_nil, List.append_nil]; have e1 : putM.length = 3 := rfl; have e2 : ([47] : List UInt8).length = 1 := rfl; omega) (by simp) (by simp only [List.flatten_cons, List.flatten_nil, List.append_nil]; rw [hq]; simp) hm0)
    simp only [List.flatten_cons, List.flatten_nil, List.append_nil, hq] at RD
    have RDD := Lib.hid RD
    have HBD := Lib.hid hbd
    clear RD hq hbd hbl hwl
    go_wp2_with (at_builtin; refine wp_push rfl (.tmp 22) (.tmp 23) rfl BV.out (Nat.le_refl _) OV.out rfl (by omega) 120 rfl rfl ?_; intro g1 c1 w3 ho1 hb1; rw [HBD.out] at ho1; have O3 := Lib.hid ho1; have B3 := Lib.hid hb1; have hcv := own_string8 (xs := byteI bd) ho1; rw [strOf_bytes] at hcv; clear ho1 hb1)
    rw [show (⟨#[80, 85, 84]⟩ : ByteArray) = bs putM from rfl, show (⟨#[47]⟩ : ByteArray) = bs [47] from rfl]
    refine (WR _).out.mono ?_
    rintro e w4 ⟨rfl, hb4⟩
    have B4' := Lib.hid (below_then (below_then B1.out B3.out) hb4)
    clear hb4 hcv
    go_wp2_with fail
    refine (RDD.out _ _ (texts_uno11 rfl rfl) (cell_below (below_alq B4'.out _) HM.out)).out.mono ?_
    rintro e w6 ⟨v, As, rfl, ho, hb6⟩
    have B6 := Lib.hid (below_then (below_alq B4'.out _) hb6)
    obtain ⟨A6, c6, rfl⟩ := own_form ho.own
    clear hb6 ho
    go_wp2_with fail
    go_ret
    exact ⟨by first | rfl | simp, B6.out⟩
end Go.Proofs.YtgmjkkiahanekaaGreatDoor

