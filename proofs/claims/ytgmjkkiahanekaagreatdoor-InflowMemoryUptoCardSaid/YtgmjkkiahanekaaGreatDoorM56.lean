/- The texts OpS, PlM, FldI, FldJ, FldK, RwF in one. -/
import Derived.Test.YtgmjkkiahanekaaGreatDoorRows
import Derived.Test.YtgmjkkiahanekaaGreatDoorM34
import Derived.SliceStrings
import Derived.OpenShut
import Derived.ChangeArms
import Derived.WalkKit
import Derived.ProofKit
import Derived.ShutString
import Derived.ChangeOld
import Derived.Below
import Derived.SizedLaws
import Derived.ChangeSlices
import Derived.Test.YtgmjkkiahanekaaGreatDoorM48
import Derived.Test.YtgmjkkiahanekaaGreatDoorM17
import Derived.Laws.OwnMore
import Derived.IntWalk
import Derived.Test.YtgmjkkiahanekaaGreatDoorM39
import Derived.Test.YtgmjkkiahanekaaGreatDoorM12
/- A list of texts that came in, opened: what the argument is, how its cells lie, and that its bulk bounds it. -/
set_option linter.unusedVariables false
set_option linter.unusedSimpArgs false
namespace Go.Proofs.YtgmjkkiahanekaaGreatDoor
open Go.RowKit Lex Go.ChangeShapes Go.WideShapes Go.ChangeAt

theorem bulk_posS {H : Type} (d : DataW H) : 1 ≤ Rows.uptoBulk d := by
  cases d with
  | lit x => cases x <;> simp [Rows.uptoBulk]
  | _ => simp [Rows.uptoBulk]
theorem bulkS {H : Type} : ∀ l : List ByteArray, (l.map fun s => s.data.toList).flatten.length ≤ Rows.uptoBulkAll (l.map fun s => (DataW.lit (.string s.data.toList) : DataW H)) ∧ l.length ≤ Rows.uptoBulkAll (l.map fun s => (DataW.lit (.string s.data.toList) : DataW H))
  | [] => ⟨Nat.le_refl _, Nat.le_refl _⟩
  | s :: r => by
    obtain ⟨h1, h2⟩ := bulkS (H := H) r
    have h3 := bulk_posS (DataW.lit (.string s.data.toList) : DataW H)
    simp only [List.map_cons, List.flatten_cons, List.length_append, List.length_cons, Rows.uptoBulkAll, Rows.uptoBulk] at h1 h2 h3 ⊢
    omega
/-- What is known of a list of texts that came in. -/
structure CameS {H : Type} (W : World) (v : Value) (d : DataW H) (A : Option Addr) (cap : Nat) (l : List (List UInt8)) : Prop where
  is : v = .slice A l.length cap
  nil : A = none → cap = 0
  texts : TextsO W A l
  bulk : l.length ≤ Rows.uptoBulk d ∧ l.flatten.length ≤ Rows.uptoBulk d
set_option maxRecDepth 100000 in
theorem open_strs_cells {H : Type} {enc : TypeId × Value → H} {W : World} {fuel : Nat} {a : Option Addr} {n c : Nat} {x : DataW H × List MemPlace} (hf : DataW.trod enc Tryz.prog W 0 (fun _ => true) true fuel 33 [.slice a n c] = some x) : ∃ A cap l, CameS W (.slice a n c) x.1 A cap l := by
  rcases open_strings Tryz.underlying33 Tryz.underlying9 (by kernel_rfl) hf with ⟨e, hx⟩ | ⟨ad, len, cap, ss, e, hb, hl, hm, hlen, hx, hc, hs⟩
  · simp only [List.cons.injEq, and_true] at e
    subst hx
    exact ⟨none, 0, [], e, fun _ => rfl, fun j hj => absurd hj (Nat.not_lt_zero _), by simp, by simp⟩
  · simp only [List.cons.injEq, and_true] at e
    subst hx
    have hlen2 : ss.length = cap := by simpa using hlen
    have hll : ((ss.take len).map fun s => s.data.toList).length = len := by rw [List.length_map, List.length_take]; omega
    refine ⟨some ad, cap, (ss.take len).map fun s => s.data.toList, by rw [hll]; exact e, (fun h => by cases h), ?_, ?_⟩
    · intro j hj
      rw [hll] at hj
      have hcj := hc j (by omega)
      have hsp : ad.spot = none := by
        have h0 := hc 0 (by omega)
        simpa [Addr.add] using World.cell?_spot h0
      obtain ⟨g, o, sp⟩ := ad
      simp only at hsp
      subst hsp
      have ha : (⟨g, o, none⟩ : Addr).add j = ⟨g, o + j, none⟩ := by
        unfold Addr.add
        by_cases hq : j = 0
        · rw [if_pos hq, hq]; rfl
        · rw [if_neg hq]
      rw [ha] at hcj
      refine ⟨g, o, rfl, ?_⟩
      rw [hcj, List.getElem_map, List.getElem_take, list_bs]
      rw [List.getD_eq_getElem?_getD, List.getElem?_eq_getElem (by omega)]
      rfl
    · have h1 := bulkS (H := H) (ss.take len)
      rw [hll]
      rw [List.length_take] at h1
      have e1 : Go.ChangeShapes.strs (H := H) (ss.take len) = (ss.take len).map fun s => (DataW.lit (.string s.data.toList) : DataW H) := rfl
      simp only [Rows.uptoBulk]
      rw [e1]
      omega
set_option maxRecDepth 100000 in
theorem open_strs {H : Type} {enc : TypeId × Value → H} {W : World} {r : Reach} {b0 : Nat} {v : Value} {d : DataW H} {p : List MemPlace} (hv : Value.okWide Tryz.prog W r b0 33 v) (h : DataW.Trod enc Tryz.prog W 0 (fun _ => true) true 33 v d p) : ∃ A cap l, CameS W v d A cap l := by
  obtain ⟨a, n, c, rfl⟩ := okWide_slice Tryz.underlying33 hv
  obtain ⟨fuel, hf⟩ := h
  exact open_strs_cells (x := (d, p)) hf
theorem CameS.sb {H : Type} {W : World} {v : Value} {d : DataW H} {A : Option Addr} {cap : Nat} {l : List (List UInt8)} (h : CameS W v d A cap l) (hb : Rows.uptoBulk d ≤ 1048576) : l.length ≤ 1048576 ∧ l.flatten.length ≤ 1048576 :=
  ⟨Nat.le_trans h.bulk.1 hb, Nat.le_trans h.bulk.2 hb⟩
end Go.Proofs.YtgmjkkiahanekaaGreatDoor

/- The plain law of InflowMemory: a head of one host and fields whose names begin with X- is read with just these fields. -/
set_option linter.unusedVariables false
set_option linter.unusedSimpArgs false
namespace Go.Proofs.YtgmjkkiahanekaaGreatDoor
open Lex

def xFd (f : Fd) : Fd := (88 :: 45 :: f.1, f.2)
def memF (l : List Fd) : List Fd := (hostU, [104]) :: l.map xFd
def memT (l : List Fd) : List UInt8 := getOf [47] (memF l)
theorem x_alike {n : List UInt8} {c : UInt8} {r : List UInt8} (h : lowB c ≠ 120) : alike (88 :: n) (c :: r) = false := by
  unfold alike lower
  rw [beq_eq_false_iff_ne]
  simp only [List.map_cons]
  intro e
  injection e with e _
  exact h (e.symm.trans (by decide))
theorem mem_values {l : List Fd} {c : UInt8} {r : List UInt8} (h : lowB c ≠ 120) : valuesF (memF l) (c :: r) = valuesF [(hostU, [104])] (c :: r) := by
  have h0 : (l.map xFd).filter (fun f => alike f.1 (c :: r)) = [] := by
    rw [List.filter_eq_nil_iff]
    intro f hf
    obtain ⟨g, _, rfl⟩ := List.mem_map.1 hf
    rw [show (xFd g).1 = 88 :: 45 :: g.1 from rfl, x_alike h]
    simp
  unfold valuesF memF
  rw [List.filter_cons, List.filter_cons, h0]
  rfl
theorem mem_get {l : List Fd} {c : UInt8} {r : List UInt8} (h : lowB c ≠ 120) : getF (memF l) (c :: r) = getF [(hostU, [104])] (c :: r) := by
  unfold getF; rw [mem_values h]
theorem mem_req (l : List Fd) (m : Int) : reqF 1 (memF l) m = (1, 0, 0) := by
  have h1 : codedF (memF l) = false := by
    unfold codedF tencL
    rw [mem_get (by decide)]
    rfl
  have h2 : sizedF (memF l) = false := by
    unfold sizedF clenL
    rw [mem_get (by decide)]
    rfl
  unfold reqF
  rw [h1, h2]
  rfl
theorem x_bad {f : Fd} (h : badF f = false) (hl : f.1.length + f.2.length ≤ 400) : badF (xFd f) = false ∧ (xFd f).1.length + (xFd f).2.length ≤ 490 := by
  have hv : value f.2 = true := by
    unfold badF at h
    simp only [Bool.or_eq_false_iff, Bool.not_eq_false'] at h
    exact h.1.2
  obtain ⟨h1, h2, h3⟩ := badF_no h
  have hll : (xFd f).1.length + (xFd f).2.length = f.1.length + f.2.length + 2 := by unfold xFd; simp only [List.length_cons]; omega
  refine ⟨badF_of ?_ hv (by rw [show (xFd f).2 = f.2 from rfl] at hll; show (xFd f).1.length + f.2.length ≤ 512; omega), by omega⟩
  have ht := token_all h1
  unfold token
  rw [Bool.and_eq_true]
  refine ⟨by simp, ?_⟩
  rw [List.all_cons, List.all_cons, ht.2]
  decide
theorem getW_path : parseT getW [47] = ({ form := 1, path := [47] }, 0) := by kernel_rfl
theorem mem_doc {l : List Fd} (h : ∀ f ∈ l, badF f = false ∧ f.1.length + f.2.length ≤ 400) (hl : l.length ≤ 30) (tail : List UInt8) :
    ∃ q, docR 9 (memT l ++ tail) = (some (q, (memT l).length), 0) ∧ q.head.fields = memF l := by
  have hr := wr_head (me := getW) (t := [47]) (by decide) (by decide) (by decide) (by simp) (by decide) (fs := memF l) (by unfold memF; simp; omega) (fun f hf => by
    unfold memF at hf
    rcases List.mem_cons.1 hf with rfl | hf
    · exact ⟨by decide, by decide⟩
    · obtain ⟨g, hg, rfl⟩ := List.mem_map.1 hf
      exact x_bad (h g hg).1 (h g hg).2) tail
  have hx : memT l ++ tail = wfirst getW [47] ++ 13 :: 10 :: (flines1 (memF l) ++ 13 :: 10 :: tail) := by unfold memT getOf; simp
  have hn : (wfirst getW [47] ++ 13 :: 10 :: (flines1 (memF l) ++ [13, 10])).length = (memT l).length := rfl
  rw [hn, ← hx] at hr
  have hn0 : (memT l).length ≠ 0 := by unfold memT getOf; simp
  obtain ⟨-, b2⟩ := begin_path (m := 9) hr hn0 getW_path rfl (by decide) (by unfold hostN; rw [mem_get (by decide)]; rfl) (by unfold expectN; rw [mem_get (by decide)]; rfl)
  obtain ⟨q, q1, -⟩ := b2 1 0 (mem_req l 9)
  have hp := (begin_pos q1).2.2.2.2.2.2
  rw [hr] at hp
  refine ⟨q, ?_, by rw [hp]⟩
  unfold docR
  rw [q1]
  rfl
end Go.Proofs.YtgmjkkiahanekaaGreatDoor

/- The contracts of the document's One and Strip and of fields.Strip, for every list of fields. -/
set_option linter.unusedVariables false
set_option linter.unusedSimpArgs false
namespace Go.Proofs.YtgmjkkiahanekaaGreatDoor
open Go.RowKit Lex

def connL : List UInt8 := [99, 111, 110, 110, 101, 99, 116, 105, 111, 110]
def lowN : List (List UInt8) := fixedN.map lower
def oneF (l : List Fd) (name : List UInt8) : Bool := (lowN.any fun n => alike n name) || hasF l connL name
theorem connL_low : lower conn = lower connL := by decide +kernel
theorem elementsF_low {a b : List UInt8} (h : lower a = lower b) (l : List Fd) : elementsF l a = elementsF l b := by unfold elementsF; rw [valuesF_low h]
theorem oneF_eq (l : List Fd) (name : List UInt8) : oneF l name = (namesF l).any fun n => alike name n := by
  unfold oneF namesF hasF lowN
  rw [List.any_append, List.any_map, ← elementsF_low connL_low]
  have h1 : (fun n => alike n name) ∘ lower = fun n => alike name n := by
    funext n
    show alike (lower n) name = alike name n
    rw [alike_comm]
    exact (alike_low (lower_lower n) name)
  rw [h1]
  congr 2
  funext x
  exact alike_comm x name
theorem stripF_take (l : List Fd) (k : Nat) (h : k < l.length) (p : Fd → Bool) : ((l.take (k + 1)).filter fun f => !p f) = ((l.take k).filter fun f => !p f) ++ (if p l[k] then [] else [l[k]]) := by
  rw [List.take_succ_eq_append_getElem h, List.filter_append]
  congr 1
  by_cases hh : p l[k] = true
  · simp [hh]
  · simp [hh]

set_option maxRecDepth 100000 in
set_option maxHeartbeats 4000000 in
theorem rone_c (A : Option Addr) (cap : Nat) (fs : List Fd) (name : ByteArray) (w : World) (hnm : name.size ≤ 140737488351232) (hB : FB fs) (hF : Flds w A fs) :
    Calls Tryz.prog 23 #[.slice A fs.length cap, .string name] w fun e w' => e = .returned (.bool (oneF fs name.data.toList)) ∧ Below w.heap.size w w' := by
  have HA := fun w h => Lib.hid (rhasf_c A cap fs ⟨#[99, 111, 110, 110, 101, 99, 116, 105, 111, 110]⟩ name w (by decide) hnm hB h)
  rw [show (⟨#[99, 111, 110, 110, 101, 99, 116, 105, 111, 110]⟩ : ByteArray).data.toList = connL from rfl] at HA
  have HF := Lib.hid hF
  obtain ⟨W0, hW0⟩ : ∃ W0, w.alloc (.cells #[.string ⟨#[99, 111, 110, 110, 101, 99, 116, 105, 111, 110]⟩, .string ⟨#[107, 101, 101, 112, 45, 97, 108, 105, 118, 101]⟩, .string ⟨#[112, 114, 111, 120, 121, 45, 99, 111, 110, 110, 101, 99, 116, 105, 111, 110]⟩, .string ⟨#[116, 101]⟩, .string ⟨#[116, 114, 97, 105, 108, 101, 114]⟩, .string ⟨#[116, 114, 97, 110, 115, 102, 101, 114, 45, 101, 110, 99, 111, 100, 105, 110, 103]⟩, .string ⟨#[117, 112, 103, 114, 97, 100, 101]⟩] 107) = W0 := ⟨_, rfl⟩
  have hc : ∀ k, k < 7 → W0.cell? ⟨w.heap.size, k, none⟩ = some (.string (bs (lowN.getD k []))) := by
    intro k hk
    rw [← hW0, World.cell?_alloc_new]
    rcases (by omega : k = 0 ∨ k = 1 ∨ k = 2 ∨ k = 3 ∨ k = 4 ∨ k = 5 ∨ k = 6) with rfl | rfl | rfl | rfl | rfl | rfl | rfl <;> rfl
  have hB0 : Below w.heap.size w W0 := by rw [← hW0]; exact (Below.refl _ _).alloc (Nat.le_refl _) _
  have hln : ∀ k, (lowN.getD k []).length ≤ 100 := by
    intro k
    rcases Nat.lt_or_ge k 7 with h | h
    · rcases (by omega : k = 0 ∨ k = 1 ∨ k = 2 ∨ k = 3 ∨ k = 4 ∨ k = 5 ∨ k = 6) with rfl | rfl | rfl | rfl | rfl | rfl | rfl <;> decide +kernel
    · rw [List.getD_eq_getElem?_getD, List.getElem?_eq_none (by show 7 ≤ k; omega)]; simp
  have HC := Lib.hid hc
  have HB0 := Lib.hid hB0
  have HLN := Lib.hid hln
  unfold oneF
  clear hB hF hc hB0 hln
  go_enter Tryz.func23, Tryz.ntmps23
  go_wp2
  clear hW0
  go_loopw [6] (fun i wr => ∃ k : Nat, k ≤ 7 ∧ i = .int .i64 k ∧ (lowN.take k).any (fun n => alike n name.data.toList) = false ∧ Below W0.heap.size W0 wr) (fun i _ => 7 - (intOf i).toNat)
  case atStart => exact ⟨0, by omega, rfl, by simp, Below.refl _ _⟩
  case round =>
    obtain ⟨k, hk, rfl, ha, hB⟩ := hrel
    have HA1 := Lib.hid ha
    clear ha
    by_cases hlt : k < 7
    · have c1 := held1 hB (HC.out k hlt)
      have hlk : k < lowN.length := hlt
      have hgd : lowN.getD k [] = lowN[k] := by rw [List.getD_eq_getElem?_getD, List.getElem?_eq_getElem hlk]; rfl
      have hl100 := HLN.out k
      rw [hgd] at c1 hl100
      have AL := fun w => Lib.hid (ralike_c (bs lowN[k]) name w (Nat.le_trans hl100 (by decide)) hnm)
      rw [bs_list] at AL
      clear hgd hl100
      cases hal : alike lowN[k] name.data.toList with
      | true =>
        have HY := Lib.hid (any_at (p := fun n => alike n name.data.toList) hlk hal)
        rw [hal] at AL
        clear hal
        generalize bs lowN[k] = x at *
        go_wp2_with (go_at_call 52; refine (AL _).out.mono ?_; rintro e w2 ⟨rfl, hb2⟩)
        go_ret
        exact ⟨ret_bool (by rw [HY.out]; rfl), below_then HB0.out (below_then hB hb2)⟩
      | false =>
        have HN := Lib.hid (any_take_false (p := fun n => alike n name.data.toList) hlk HA1.out hal)
        rw [hal] at AL
        clear hal
        generalize bs lowN[k] = x at *
        go_wp2_with (go_at_call 52; refine (AL _).out.mono ?_; rintro e w2 ⟨rfl, hb2⟩)
        go_roundw
        case rel => exact ⟨k + 1, by omega, by go_num, HN.out, below_then hB hb2⟩
        case measure => simp [intOf]; omega
    · obtain rfl : k = 7 := by omega
      have ha := HA1.out
      have HA2 := Lib.hid (show (lowN.any fun n => alike n name.data.toList) = false from ha)
      have hF2 := HF.out.below (below_then HB0.out hB)
      clear ha
      go_wp2_with fail
      refine (HA _ hF2).out.mono ?_
      rintro e w2 ⟨rfl, hb2⟩
      go_wp2
      go_ret
      exact ⟨ret_bool (by rw [HA2.out, Bool.false_or]), below_then (below_then HB0.out hB) hb2⟩

end Go.Proofs.YtgmjkkiahanekaaGreatDoor

/- The contracts of fields.Strip and Check and of the document's Check, for every list of fields. -/
set_option linter.unusedVariables false
set_option linter.unusedSimpArgs false
namespace Go.Proofs.YtgmjkkiahanekaaGreatDoor
open Go.RowKit Lex

theorem addr_add (g o j : Nat) : (⟨g, o, none⟩ : Addr).add j = ⟨g, o + j, none⟩ := by unfold Addr.add; split <;> simp_all
theorem fvals_length (l : List Fd) : (fvals l).length = l.length * 2 := by
  induction l with
  | nil => rfl
  | cons f l ih => have : fvals (f :: l) = .string (bs f.1) :: .string (bs f.2) :: fvals l := rfl
                   rw [this, List.length_cons, List.length_cons, ih, List.length_cons]; omega
theorem flds_cells {w : World} {g o : Nat} {l : List Fd} (h : Flds w (some ⟨g, o, none⟩) l) : ∀ j u, (fvals l)[j]? = some u → w.cell? ((⟨g, o, none⟩ : Addr).add j) = some u := by
  intro j u hu
  have hj : j < (fvals l).length := by
    rcases Nat.lt_or_ge j (fvals l).length with h | h
    · exact h
    · rw [List.getElem?_eq_none h] at hu; cases hu
  rw [fvals_length] at hj
  have hk : j / 2 < l.length := by omega
  obtain ⟨g', o', e, c1, c2⟩ := h (j / 2) hk
  injection e with e; injection e with e1 e2
  subst e1 e2
  obtain ⟨h1, h2⟩ := fvals_at l (j / 2) hk
  rw [addr_add]
  rcases (by omega : j = j / 2 * 2 ∨ j = j / 2 * 2 + 1) with hj2 | hj2
  · rw [← hj2] at h1 c1
    rw [c1, ← h1, hu]
  · rw [← hj2] at h2
    rw [show o + j / 2 * 2 + 1 = o + j from by omega] at c2
    rw [c2, ← h2, hu]
theorem ones_fvals (l : List Fd) : ∀ u ∈ fvals l, u.oneCell' = true := by
  intro u hu
  unfold fvals at hu
  obtain ⟨f, _, hf⟩ := List.mem_flatMap.1 hu
  exact ones_field f u hf

/-- append of a list of fields onto a row of the call's own. -/
theorem wpList_append_flds {w : World} {ops : Array Oper} {rest : List Oper} {o : Oper} {a : Act} {Q : Exit → Act → World → Prop} (hgd : o.guard = none) (s x : Operand)
    (ho : o.op = .call { callee := .builtin .append, args := #[s, x], argTypes := #[40, 40] })
    (base : Nat) (i : TypeInfo) (hi : Tryz.prog.info? 59 = some i) (hz : i.zero = some (.agg #[.string ByteArray.empty, .string ByteArray.empty])) (hsize : i.size = 2) (hby : i.bytes = 32)
    (v : Value) (n : Nat) (xs : List Value) (hs : a.eval s = v) (hown : w.ownsRow base 59 2 v n xs) (A : Option Addr) (c : Nat) (l : List Fd) (hA : A = none → c = 0) (hx : a.eval x = .slice A l.length c) (hF : Flds w A l)
    (h63 : n + l.length ≤ 4398046511104) (hbase : base ≤ w.heap.size)
    (h : ∀ v' w', w'.ownsRow base 59 2 v' (n + l.length) (xs ++ fvals l) → w.grownBy w' v.ownBlock → wpList Tryz.prog ops Q rest (a.put o.dst v') w') : wpList Tryz.prog ops Q (o :: rest) a w := by
  refine wpList_plain hgd fun K hK => ?_
  obtain ⟨v', w', hr, h2, h3⟩ : ∃ v' w', (Builtin.append_ #[40, 40] o.type #[v, .slice A l.length c]).run Tryz.prog w = .ok v' w' ∧ w'.ownsRow base 59 2 v' (n + l.length) (xs ++ fvals l) ∧ w.grownBy w' v.ownBlock := by
    cases A with
    | none =>
      obtain rfl : l = [] := by
        cases l with
        | nil => rfl
        | cons f l => obtain ⟨g, o, e, _⟩ := hF 0 (by simp); cases e
      obtain rfl : c = 0 := hA rfl
      exact ⟨v, w, run_append_owned_none (w := w) base 40 _ 59 i 2 Tryz.underlying40 hi v n xs hown, by simpa [fvals] using hown, ⟨rfl, rfl, rfl, Nat.le_refl _, fun _ _ _ => rfl⟩⟩
    | some ad =>
      have hc : ∀ j u, (fvals l)[j]? = some u → w.cell? (ad.add j) = some u := by
        cases l with
        | nil => intro j u hu; simp [fvals] at hu
        | cons f l =>
          obtain ⟨g, o, e, _⟩ := hF 0 (by simp)
          injection e with e
          subst e
          exact flds_cells hF
      obtain ⟨v', w', hr, h2, h3, _, h5⟩ := run_append_own_at (P := Tryz.prog) w base 40 o.type 59 i (.agg #[.string ByteArray.empty, .string ByteArray.empty]) 2 32 Tryz.underlying40 hi hz hsize hby rfl (by decide) v n xs hown ad l.length c (fvals l) (fvals_length l) hc (ones_fvals l) (by unfold maxLen; omega) (by omega) hbase
      exact ⟨v', w', hr, h2, h3⟩
  unfold Oper.wp execOp
  simp only [ho, resolve, invoke, builtin, Sem.run_bind, Sem.run_pure, Result.andThen_ok, List.map_toArray, List.map_cons, List.map_nil, hs, hx, hr]
  exact hK _ _ (h v' w' h2 h3)

theorem foldl_take {fs : List Fd} {ns : List (List UInt8)} {k : Nat} (h : k < ns.length) : (ns.take (k + 1)).foldl removeF fs = removeF ((ns.take k).foldl removeF fs) ns[k] := by
  rw [List.take_succ_eq_append_getElem h, List.foldl_append]; rfl
theorem FB.fold {fs : List Fd} (h : FB fs) (ns : List (List UInt8)) : FB (ns.foldl removeF fs) := by
  induction ns generalizing fs with
  | nil => exact h
  | cons n ns ih => exact ih (h.remove n)
theorem own_flds {w : World} {base : Nat} {e : TypeId} {v : Value} {l : List Fd} (h : w.ownsRow base e 2 v l.length (fvals l)) : ∃ a c, v = .slice a l.length c ∧ (a = none → c = 0) ∧ Flds w a l := by
  rcases h.2 with ⟨rfl, h0⟩ | ⟨g, cap, cur, rfl, _⟩
  · exact ⟨none, 0, by rw [h0], fun _ => rfl, fun j hj => absurd hj (by omega)⟩
  · exact ⟨some ⟨g, 0, none⟩, cap, rfl, (fun e => by cases e), flds_own h⟩

end Go.Proofs.YtgmjkkiahanekaaGreatDoor

/- The contracts of fields.Check and the document's Check, for every list of fields; the laws' anchor. -/
set_option linter.unusedVariables false
set_option linter.unusedSimpArgs false
namespace Go.Proofs.YtgmjkkiahanekaaGreatDoor
open Go.RowKit Lex

set_option maxRecDepth 100000 in
set_option maxHeartbeats 8000000 in
theorem rcheckf_c (A : Option Addr) (cap : Nat) (fs : List Fd) (w : World) (hB : FB fs) (hF : Flds w A fs) :
    Calls Tryz.prog 22 #[.slice A fs.length cap] w fun e w' => e = .returned (.int .i64 (checkF fs)) ∧ Below w.heap.size w w' := by
  have HF := Lib.hid hF
  have HB := Lib.hid hB
  have hl := hB.len
  clear hF hB
  go_enter Tryz.func22, Tryz.ntmps22
  go_wp2
  go_loopw [3] (fun i wr => ∃ k : Nat, k ≤ fs.length ∧ i = .int .i64 k ∧ (∀ f ∈ fs.take k, badF f = false) ∧ Below w.heap.size w wr) (fun i _ => fs.length - (intOf i).toNat)
  case atStart => exact ⟨0, Nat.zero_le _, rfl, by simp, Below.refl _ _⟩
  case round =>
    obtain ⟨k, hk, rfl, ha, hB⟩ := hrel
    have HA := Lib.hid ha
    clear ha
    by_cases hlt : k < fs.length
    · obtain ⟨g, o, hA, c1, c2⟩ := HF.out.below hB k hlt
      subst hA
      have hn1 := HB.out.nm _ (List.getElem_mem hlt)
      have hn2 := HB.out.vl _ (List.getElem_mem hlt)
      have TK := fun w => ((rtoken_c (bs fs[k].1) w (Nat.le_trans hn1 (by decide))).mono fun e w' (h : e = _ ∧ w = w') => (⟨h.1, h.2.symm⟩ : e = _ ∧ w' = w))
      have VL := fun w => ((rvalue_c (bs fs[k].2) w (Nat.le_trans hn2 (by decide))).mono fun e w' (h : e = _ ∧ w = w') => (⟨h.1, h.2.symm⟩ : e = _ ∧ w' = w))
      have HBAD := Lib.hid (checkF_bad (l := fs) hlt)
      have HGOOD := Lib.hid (all_take_good hlt HA.out)
      rw [bs_list] at TK VL
      obtain ⟨f, hf⟩ : ∃ f, fs[k] = f := ⟨_, rfl⟩
      rw [hf] at c1 c2 TK VL HBAD HGOOD hn1 hn2
      clear hf
      have hbf : badF f = (!token f.1 || !value f.2 || decide (512 < f.1.length + f.2.length)) := rfl
      rw [hbf] at HBAD HGOOD
      have HTK := fun w => Lib.hid (TK w)
      have HVL := fun w => Lib.hid (VL w)
      clear hbf TK VL
      have k0 : (0 : Int) ≤ (k : Int) := by omega
      have k1 : (k : Int) < (fs.length : Int) := by omega
      cases ht : token f.1 with
      | false =>
        rw [ht] at HTK HBAD HGOOD
        have HY := Lib.hid (HBAD.out (by rfl))
        clear ht HBAD HGOOD
        go_wp2
        go_quiet ((go_at_call 53; exact Calls.quiet_of_same (HTK _).out))
        go_wp2
        go_ret
        exact ⟨ret_int HY.out.symm, hB.trans ⟨rfl, rfl, rfl, Nat.le_refl _, fun _ _ => rfl⟩⟩
      | true =>
        cases hv : value f.2 with
        | false =>
          rw [ht] at HTK HBAD HGOOD
          rw [hv] at HVL HBAD HGOOD
          have HY := Lib.hid (HBAD.out (by rfl))
          clear ht hv HBAD HGOOD
          go_wp2
          go_quiet ((first | (go_at_call 53; exact Calls.quiet_of_same (HTK _).out) | (go_at_call 29; exact Calls.quiet_of_same (HVL _).out)))
          go_wp2
          go_ret
          exact ⟨ret_int HY.out.symm, hB.trans ⟨rfl, rfl, rfl, Nat.le_refl _, fun _ _ => rfl⟩⟩
        | true =>
          rw [ht] at HTK HBAD HGOOD
          rw [hv] at HVL HBAD HGOOD
          clear ht hv
          have e1 : IntKind.i64.wrap ((f.1.length : Int) + (f.2.length : Int)) = (f.1.length : Int) + f.2.length := IntWalk.i64_in _ (by omega)
          by_cases h5 : 512 < f.1.length + f.2.length
          · have HY := Lib.hid (HBAD.out (by rw [decide_eq_true h5]; rfl))
            have h5' : (512 : Int) < (f.1.length : Int) + (f.2.length : Int) := by omega
            clear HBAD HGOOD
            go_wp2
            go_quiet ((first | (go_at_call 53; exact Calls.quiet_of_same (HTK _).out) | (go_at_call 29; exact Calls.quiet_of_same (HVL _).out)))
            clear e1
            go_wp2
            go_ret
            exact ⟨ret_int HY.out.symm, hB.trans ⟨rfl, rfl, rfl, Nat.le_refl _, fun _ _ => rfl⟩⟩
          · have HN := Lib.hid (HGOOD.out (by rw [decide_eq_false h5]; rfl))
            have h5' : (f.1.length : Int) + (f.2.length : Int) ≤ 512 := by omega
            clear HBAD HGOOD
            go_wp2
            go_quiet ((first | (go_at_call 53; exact Calls.quiet_of_same (HTK _).out) | (go_at_call 29; exact Calls.quiet_of_same (HVL _).out)))
            clear e1
            go_wp2
            go_roundw
            case rel => exact ⟨k + 1, by omega, by go_num, HN.out, hB.trans ⟨rfl, rfl, rfl, Nat.le_refl _, fun _ _ => rfl⟩⟩
            case measure => simp [intOf]; omega
    · obtain rfl : k = fs.length := by omega
      have ha := HA.out
      rw [List.take_length] at ha
      by_cases h32 : 32 < fs.length
      · have HY := Lib.hid (checkF_many ha h32)
        clear ha
        go_wp2
        go_ret
        exact ⟨ret_int HY.out.symm, hB⟩
      · have HY := Lib.hid (checkF_ok ha h32)
        clear ha
        go_wp2
        go_ret
        exact ⟨ret_int HY.out.symm, hB⟩

def anchorL : List Fd := [(conn, [99, 108, 111, 115, 101, 44, 32, 88, 45, 65]), ([120, 45, 97], [49]), ([72, 111, 115, 116], [104]), ([84, 69], [116, 114, 97, 105, 108, 101, 114, 115])]
theorem flds_new (w : World) (C : Array Value) (T : TypeId) (l : List Fd) (hC : C.toList = fvals l) : Flds (w.alloc (.cells C T)) (some ⟨w.heap.size, 0, none⟩) l := by
  intro j hj
  obtain ⟨h1, h2⟩ := fvals_at l j hj
  rw [← hC, Array.getElem?_toList] at h1 h2
  exact ⟨w.heap.size, 0, rfl, by rw [Nat.zero_add, World.cell?_alloc_new]; exact h1, by rw [Nat.zero_add, World.cell?_alloc_new]; exact h2⟩

end Go.Proofs.YtgmjkkiahanekaaGreatDoor

/- A row of fields of the call's own: marks written into it, two fields grown onto it. -/
set_option linter.unusedVariables false
set_option linter.unusedSimpArgs false
namespace Go.Proofs.YtgmjkkiahanekaaGreatDoor
open Go.RowKit Lex

def markV : Value := .string ⟨#[109, 97, 114, 107]⟩
/-- A row of n fields, the first k of them marked. -/
structure Mark (w : World) (g n c k : Nat) : Prop where
  row : ∃ xs, w.ownsRow 0 59 2 (.slice (some ⟨g, 0, none⟩) n c) n xs ∧ ∀ j, j < k → xs[j * 2]? = some markV
theorem own_zero {w : World} {B : Nat} {e : TypeId} {z n : Nat} {v : Value} {xs : List Value} (h : w.ownsRow B e z v n xs) : w.ownsRow 0 e z v n xs := by
  obtain ⟨h1, h2⟩ := h
  refine ⟨h1, ?_⟩
  rcases h2 with h2 | ⟨g, cap, cur, hv, hg, r⟩
  · exact .inl h2
  · exact .inr ⟨g, cap, cur, hv, Nat.zero_le _, r⟩
theorem own_addr {w : World} {B c : Nat} {e : TypeId} {z n : Nat} {A : Option Addr} {xs : List Value} (h : w.ownsRow B e z (.slice A n c) n xs) (hn : 0 < n) : ∃ g, A = some ⟨g, 0, none⟩ := by
  rcases h.2 with ⟨he, h0⟩ | ⟨g, cap, cur, he, _⟩
  · omega
  · injection he with e1 _ _
    exact ⟨g, e1⟩
theorem own_caps {w : World} {base : Nat} {e : TypeId} {z n c : Nat} {g : Nat} {xs : List Value} (h : w.ownsRow base e z (.slice (some ⟨g, 0, none⟩) n c) n xs) : n ≤ c := by
  rcases h.2 with ⟨he, _⟩ | ⟨g', cap, cur, he, _, _, hn, _⟩
  · cases he
  · injection he with _ _ e3
    rw [e3]; exact hn
theorem Mark.start {w : World} {B g n c : Nat} {xs : List Value} (h : w.ownsRow B 59 2 (.slice (some ⟨g, 0, none⟩) n c) n xs) : Mark w g n c 0 := ⟨⟨xs, own_zero h, fun j hj => absurd hj (Nat.not_lt_zero j)⟩⟩
theorem Mark.cell {w : World} {g n c k : Nat} (h : Mark w g n c k) {j : Nat} (hj : j < n * 2) : (∃ u, w.cell? ⟨g, j, none⟩ = some u) ∧ w.frozen? ⟨g, j, none⟩ = false := by
  obtain ⟨xs, ho, -⟩ := h.row
  refine ⟨?_, ho.frozenAt j⟩
  rw [ho.cellAt j hj]
  have : j < xs.length := by rw [ho.1]; exact hj
  exact ⟨_, List.getElem?_eq_getElem this⟩
theorem Mark.store {w : World} {g n c k : Nat} (h : Mark w g n c k) (hk : k < n) (v : Value) : Mark ((w.setCell ⟨g, k * 2, none⟩ markV).setCell ⟨g, k * 2 + 1, none⟩ v) g n c (k + 1) ∧ w.grownBy ((w.setCell ⟨g, k * 2, none⟩ markV).setCell ⟨g, k * 2 + 1, none⟩ v) (some g) := by
  obtain ⟨xs, ho, hm⟩ := h.row
  obtain ⟨o1, g1⟩ := ho.stored (k * 2) markV
  obtain ⟨o2, g2⟩ := o1.stored (k * 2 + 1) v
  refine ⟨⟨_, o2, fun j hj => ?_⟩, g1.trans g2⟩
  have hl : xs.length = n * 2 := ho.1
  rw [List.getElem?_set_ne (by omega)]
  by_cases h1 : j = k
  · subst h1
    rw [List.getElem?_set_self (by omega)]
  · rw [List.getElem?_set_ne (by omega)]
    exact hm j (by omega)
theorem Mark.lt {w : World} {g n c k : Nat} (h : Mark w g n c k) : g < w.heap.size := by
  obtain ⟨xs, ho, -⟩ := h.row
  exact (ho.lt g rfl).2
theorem Mark.below {w w' : World} {g n c k : Nat} (h : Mark w g n c k) (hb : Below w.heap.size w w') : Mark w' g n c k := by
  obtain ⟨xs, ho, hm⟩ := h.row
  exact ⟨xs, own_below ho hb, hm⟩
theorem Mark.away {w w' : World} {g n c k : Nat} {F : Nat → Prop} (h : Mark w g n c k) (ha : Away F w w') (hF : ¬ F g) : Mark w' g n c k := by
  obtain ⟨xs, ho, hm⟩ := h.row
  exact ⟨xs, own_away ho ha (fun k hk => by injection hk with hk; subst hk; exact hF), hm⟩
theorem Mark.name {w : World} {g n c k : Nat} (h : Mark w g n c k) {j : Nat} (hj : j < k) (hk : k ≤ n) : w.cell? ⟨g, j * 2, none⟩ = some markV := by
  obtain ⟨xs, ho, hm⟩ := h.row
  rw [ho.cellAt (j * 2) (by omega)]
  exact hm j hj
/-- Two fields grown onto a marked row: the new row is marked as the old one was, and lies in its block or in a new one. -/
theorem wpList_append_mark {w : World} {ops : Array Oper} {rest : List Oper} {o : Oper} {a : Act} {Q : Exit → Act → World → Prop} (hgd : o.guard = none) (s x : Operand)
    (ho : o.op = .call { callee := .builtin .append, args := #[s, x], argTypes := #[40, 40] })
    (i : TypeInfo) (hi : Tryz.prog.info? 59 = some i) (hz : i.zero = some (.agg #[.string ByteArray.empty, .string ByteArray.empty])) (hsize : i.size = 2) (hby : i.bytes = 32)
    (g n c k : Nat) (hk : k ≤ n) (hs : a.eval s = .slice (some ⟨g, 0, none⟩) n c) (h0 : Mark w g n c k) (Y : Value) (ys : List Value) (hx : a.eval x = Y) (hy : w.ownsRow 0 59 2 Y 2 ys) (h1 : ∀ u ∈ ys, u.oneCell' = true)
    (h63 : n ≤ 1048580)
    (h : ∀ g' c' w', Mark w' g' (n + 2) c' k → w.grownBy w' (some g) → (g' = g ∨ g' = w.heap.size) → wpList Tryz.prog ops Q rest (a.put o.dst (.slice (some ⟨g', 0, none⟩) (n + 2) c')) w') : wpList Tryz.prog ops Q (o :: rest) a w := by
  obtain ⟨xs, ho0, hm⟩ := h0.row
  have hxl : xs.length = n * 2 := ho0.1
  refine wpList_append_rows hgd s x 40 ho 0 0 59 i _ 2 32 (by kernel_rfl) hi hz hsize hby rfl (by decide) _ n xs hs ho0 Y 2 ys hx hy h1 (by show n + 2 ≤ 9223372036854775807; omega) (by omega) (Nat.zero_le _) ?_
  intro v' w' ho' hg hbk
  obtain ⟨A, c', rfl⟩ := own_slice' ho'
  obtain ⟨g', rfl⟩ := own_addr ho' (by omega)
  refine h g' c' w' ⟨_, ho', fun j hj => by rw [List.getElem?_append_left (by omega)]; exact hm j hj⟩ hg ?_
  rcases hbk with e | e
  · injection e with e; exact .inl e
  · injection e with e; exact .inr e
end Go.Proofs.YtgmjkkiahanekaaGreatDoor

