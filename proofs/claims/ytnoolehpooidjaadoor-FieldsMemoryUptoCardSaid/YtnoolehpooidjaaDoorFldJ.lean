/- The contracts of fields.Strip and Check and of the document's Check, for every list of fields. -/
import Derived.Test.YtnoolehpooidjaaDoorFldI
set_option linter.unusedVariables false
set_option linter.unusedSimpArgs false
namespace Go.Proofs.YtnoolehpooidjaaDoor
open Go.RowKit Lex

theorem addr_add (g o j : Nat) : (⟨g, o, none⟩ : Addr).add j = ⟨g, o + j, none⟩ := by unfold Addr.add; split <;> simp_all
theorem fvals_length (l : List Fd) : (fvals l).length = l.length * 2 := by
  induction l with
  | nil => rfl
  | cons f l ih => have : fvals (f :: l) = .string (bs f.1) :: .string (bs f.2) :: fvals l := rfl
                   rw [this, List.length_cons, List.length_cons, ih, List.length_cons]; omega
theorem flds_cells {w : World} {g o : Nat} {l : List Fd} (h : Flds w (some ⟨g, o, none⟩) l) : ∀ j u, (fvals l)[j]? = some u → w.cell? ((⟨g, o, none⟩ : Addr).add j) = some u := by
  intro j u hu
  have hj : j < (fvals l).length := by
    rcases Nat.lt_or_ge j (fvals l).length with h | h
    · exact h
    · rw [List.getElem?_eq_none h] at hu; cases hu
  rw [fvals_length] at hj
  have hk : j / 2 < l.length := by omega
  obtain ⟨g', o', e, c1, c2⟩ := h (j / 2) hk
  injection e with e; injection e with e1 e2
  subst e1 e2
  obtain ⟨h1, h2⟩ := fvals_at l (j / 2) hk
  rw [addr_add]
  rcases (by omega : j = j / 2 * 2 ∨ j = j / 2 * 2 + 1) with hj2 | hj2
  · rw [← hj2] at h1 c1
    rw [c1, ← h1, hu]
  · rw [← hj2] at h2
    rw [show o + j / 2 * 2 + 1 = o + j from by omega] at c2
    rw [c2, ← h2, hu]
theorem ones_fvals (l : List Fd) : ∀ u ∈ fvals l, u.oneCell' = true := by
  intro u hu
  unfold fvals at hu
  obtain ⟨f, _, hf⟩ := List.mem_flatMap.1 hu
  exact ones_field f u hf

/-- append of a list of fields onto a row of the call's own. -/
theorem wpList_append_flds {w : World} {ops : Array Oper} {rest : List Oper} {o : Oper} {a : Act} {Q : Exit → Act → World → Prop} (hgd : o.guard = none) (s x : Operand)
    (ho : o.op = .call { callee := .builtin .append, args := #[s, x], argTypes := #[22, 22] })
    (base : Nat) (i : TypeInfo) (hi : Tryd.prog.info? 30 = some i) (hz : i.zero = some (.agg #[.string ByteArray.empty, .string ByteArray.empty])) (hsize : i.size = 2) (hby : i.bytes = 32)
    (v : Value) (n : Nat) (xs : List Value) (hs : a.eval s = v) (hown : w.ownsRow base 30 2 v n xs) (A : Option Addr) (c : Nat) (l : List Fd) (hA : A = none → c = 0) (hx : a.eval x = .slice A l.length c) (hF : Flds w A l)
    (h63 : n + l.length ≤ 4398046511104) (hbase : base ≤ w.heap.size)
    (h : ∀ v' w', w'.ownsRow base 30 2 v' (n + l.length) (xs ++ fvals l) → w.grownBy w' v.ownBlock → wpList Tryd.prog ops Q rest (a.put o.dst v') w') : wpList Tryd.prog ops Q (o :: rest) a w := by
  refine wpList_plain hgd fun K hK => ?_
  obtain ⟨v', w', hr, h2, h3⟩ : ∃ v' w', (Builtin.append_ #[22, 22] o.type #[v, .slice A l.length c]).run Tryd.prog w = .ok v' w' ∧ w'.ownsRow base 30 2 v' (n + l.length) (xs ++ fvals l) ∧ w.grownBy w' v.ownBlock := by
    cases A with
    | none =>
      obtain rfl : l = [] := by
        cases l with
        | nil => rfl
        | cons f l => obtain ⟨g, o, e, _⟩ := hF 0 (by simp); cases e
      obtain rfl : c = 0 := hA rfl
      exact ⟨v, w, run_append_owned_none (w := w) base 22 _ 30 i 2 Tryd.underlying22 hi v n xs hown, by simpa [fvals] using hown, ⟨rfl, rfl, rfl, Nat.le_refl _, fun _ _ _ => rfl⟩⟩
    | some ad =>
      have hc : ∀ j u, (fvals l)[j]? = some u → w.cell? (ad.add j) = some u := by
        cases l with
        | nil => intro j u hu; simp [fvals] at hu
        | cons f l =>
          obtain ⟨g, o, e, _⟩ := hF 0 (by simp)
          injection e with e
          subst e
          exact flds_cells hF
      obtain ⟨v', w', hr, h2, h3, _, h5⟩ := run_append_own_at (P := Tryd.prog) w base 22 o.type 30 i (.agg #[.string ByteArray.empty, .string ByteArray.empty]) 2 32 Tryd.underlying22 hi hz hsize hby rfl (by decide) v n xs hown ad l.length c (fvals l) (fvals_length l) hc (ones_fvals l) (by unfold maxLen; omega) (by omega) hbase
      exact ⟨v', w', hr, h2, h3⟩
  unfold Oper.wp execOp
  simp only [ho, resolve, invoke, builtin, Sem.run_bind, Sem.run_pure, Result.andThen_ok, List.map_toArray, List.map_cons, List.map_nil, hs, hx, hr]
  exact hK _ _ (h v' w' h2 h3)

theorem foldl_take {fs : List Fd} {ns : List (List UInt8)} {k : Nat} (h : k < ns.length) : (ns.take (k + 1)).foldl removeF fs = removeF ((ns.take k).foldl removeF fs) ns[k] := by
  rw [List.take_succ_eq_append_getElem h, List.foldl_append]; rfl
theorem FB.fold {fs : List Fd} (h : FB fs) (ns : List (List UInt8)) : FB (ns.foldl removeF fs) := by
  induction ns generalizing fs with
  | nil => exact h
  | cons n ns ih => exact ih (h.remove n)
theorem own_flds {w : World} {base : Nat} {e : TypeId} {v : Value} {l : List Fd} (h : w.ownsRow base e 2 v l.length (fvals l)) : ∃ a c, v = .slice a l.length c ∧ (a = none → c = 0) ∧ Flds w a l := by
  rcases h.2 with ⟨rfl, h0⟩ | ⟨g, cap, cur, rfl, _⟩
  · exact ⟨none, 0, by rw [h0], fun _ => rfl, fun j hj => absurd hj (by omega)⟩
  · exact ⟨some ⟨g, 0, none⟩, cap, rfl, (fun e => by cases e), flds_own h⟩

set_option maxRecDepth 100000 in
set_option maxHeartbeats 8000000 in
theorem stripf_c (A : Option Addr) (cap : Nat) (fs : List Fd) (m : Int) (w : World) (hB : FB fs) (hA : A = none → cap = 0) (hF : Flds w A fs) (hm : w.cell? ⟨0, 0, none⟩ = some (.int .i64 m)) :
    Calls Tryd.prog 15 #[.slice A fs.length cap] w fun e w' => ∃ v, e = .returned v ∧ w'.ownsRow w.heap.size 30 2 v (stripF fs).length (fvals (stripF fs)) ∧ Below w.heap.size w w' := by
  obtain ⟨i0, hi, hz0, hz1, hz2⟩ := info_parts info_field
  obtain ⟨j0, ji, jz0, jz1, jz2⟩ := info_parts info_str
  have EL := fun w h h2 => Lib.hid (elementsf_c A cap fs ⟨#[67, 111, 110, 110, 101, 99, 116, 105, 111, 110]⟩ m w (by decide) hB.len (fun f hf => Nat.le_trans (hB.nm f hf) (by decide)) (fun f hf => hB.vl f hf) h h2)
  have hec := elementsF_length hB fs.length conn
  rw [List.take_length] at hec
  have hnl : ∀ x ∈ namesF fs, x.length ≤ 4194304 := by
    intro x hx
    unfold namesF at hx
    rcases List.mem_append.1 hx with hx | hx
    · have : ∀ y ∈ fixedN, y.length ≤ 4194304 := by decide +kernel
      exact this x hx
    · exact elementsF_mem hB hx
  have hnn : (namesF fs).length ≤ 4398148223007 := by unfold namesF; rw [List.length_append]; show 7 + _ ≤ _; omega
  have hns : strs (namesF fs) = [.string ⟨#[67, 111, 110, 110, 101, 99, 116, 105, 111, 110]⟩, .string ⟨#[75, 101, 101, 112, 45, 65, 108, 105, 118, 101]⟩, .string ⟨#[80, 114, 111, 120, 121, 45, 67, 111, 110, 110, 101, 99, 116, 105, 111, 110]⟩, .string ⟨#[84, 69]⟩, .string ⟨#[84, 114, 97, 105, 108, 101, 114]⟩, .string ⟨#[84, 114, 97, 110, 115, 102, 101, 114, 45, 69, 110, 99, 111, 100, 105, 110, 103]⟩, .string ⟨#[85, 112, 103, 114, 97, 100, 101]⟩] ++ strs (elementsF fs conn) := by
    unfold namesF strs; rw [List.map_append]; rfl
  have hnl2 : (namesF fs).length = 7 + (elementsF fs conn).length := by unfold namesF; rw [List.length_append]; rfl
  have hfold := stripF_fold fs
  rw [show (⟨#[67, 111, 110, 110, 101, 99, 116, 105, 111, 110]⟩ : ByteArray).data.toList = conn from rfl] at EL
  generalize elementsF fs conn = E at *
  generalize namesF fs = ns at *
  have HFO := Lib.hid hfold
  have HNS := Lib.hid hns
  have HNL := Lib.hid hnl
  have HNL2 := Lib.hid hnl2
  have HF := Lib.hid hF
  have HM := Lib.hid hm
  have HB := Lib.hid hB
  have HA := Lib.hid hA
  have hl := hB.len
  clear hfold hns hnl hnl2 hF hm hB hA
  go_enter Tryd.func15, Tryd.ntmps15
  go_wp2_with fail
  refine (EL _ (by exact HF.out.below ((Below.refl _ _).alloc (Nat.le_refl _) _)) (by exact held1 ((Below.refl _ _).alloc (Nat.le_refl _) _) HM.out)).out.mono ?_
  rintro e w1 ⟨s, rfl, hs, hb⟩
  have HS := Lib.hid hs
  have HO := Lib.hid (own_below (World.ownsRow_lit (base := w.heap.size) (e := 9) (size := 1) w #[.string ⟨#[67, 111, 110, 110, 101, 99, 116, 105, 111, 110]⟩, .string ⟨#[75, 101, 101, 112, 45, 65, 108, 105, 118, 101]⟩, .string ⟨#[80, 114, 111, 120, 121, 45, 67, 111, 110, 110, 101, 99, 116, 105, 111, 110]⟩, .string ⟨#[84, 69]⟩, .string ⟨#[84, 114, 97, 105, 108, 101, 114]⟩, .string ⟨#[84, 114, 97, 110, 115, 102, 101, 114, 45, 69, 110, 99, 111, 100, 105, 110, 103]⟩, .string ⟨#[85, 112, 103, 114, 97, 100, 101]⟩] 7 (Nat.le_refl _) (by decide) rfl) hb)
  have hb1 := belowA hb
  have hz1' := hb1.size
  clear hs hb
  have EQ1 := Lib.hid (show #[.string ⟨#[67, 111, 110, 110, 101, 99, 116, 105, 111, 110]⟩, .string ⟨#[75, 101, 101, 112, 45, 65, 108, 105, 118, 101]⟩, .string ⟨#[80, 114, 111, 120, 121, 45, 67, 111, 110, 110, 101, 99, 116, 105, 111, 110]⟩, .string ⟨#[84, 69]⟩, .string ⟨#[84, 114, 97, 105, 108, 101, 114]⟩, .string ⟨#[84, 114, 97, 110, 115, 102, 101, 114, 45, 69, 110, 99, 111, 100, 105, 110, 103]⟩, Value.string ⟨#[85, 112, 103, 114, 97, 100, 101]⟩].toList ++ strs E = strs ns from HNS.out.symm)
  go_wp2_with (first
    | (at_builtin; refine wpList_append_rows rfl (.tmp 7) (.tmp 9) 32 rfl w.heap.size _ 9 j0 (.string ByteArray.empty) 1 16 Tryd.underlying32 ji jz0 jz1 jz2 rfl (by decide) _ 7 _ rfl HO.out _ E.length _ rfl HS.out (ones_strs _) (by unfold maxLen; omega) (by omega) (by omega) ?_; intro v' w2 hown' hgrow _; rw [EQ1.out, ← HNL2.out] at hown'; obtain ⟨na, nc, rfl⟩ := own_slice' hown'; have HT := Lib.hid (texts_of hown'); have hb2 := hb1.grown hgrow (by omega) (fun g hg => (HO.out.lt g hg).1); have HF2 := Lib.hid (HF.out.below hb2); have hsz2 := hb2.size; clear hown' hgrow EQ1 HO HS)
    | (at_builtin; refine wpList_append_flds rfl (.tmp 11) (.tmp 12) rfl w.heap.size i0 hi hz0 hz1 hz2 _ 0 [] rfl (World.ownsRow_lit w2 #[] 0 hsz2 (by decide) rfl) A cap fs HA.out rfl (HF2.out.below ((Below.refl _ _).alloc (Nat.le_refl _) _)) (by omega) (by simp; omega) ?_; intro v3 w3 hown3 hgrow3))
  rw [Nat.zero_add, List.nil_append] at hown3
  have HO3 := Lib.hid hown3
  have hg3 := ((Below.refl w2.heap.size w2).alloc (Nat.le_refl _) _).grown hgrow3 (by simp) (fun g hg => by cases hg; exact Nat.le_refl _)
  have hb3 := hb2.trans (hg3.mono hsz2)
  have HT3 := Lib.hid (HT.out.below hg3)
  clear hown3 hgrow3 HT
  go_loopw [4, 6, 16] (fun v _ i wr => ∃ k : Nat, k ≤ ns.length ∧ i = .int .i64 k ∧ wr.ownsRow w.heap.size 30 2 v ((ns.take k).foldl removeF fs).length (fvals ((ns.take k).foldl removeF fs)) ∧ Below w3.heap.size w3 wr) (fun _ _ i _ => ns.length - (intOf i).toNat)
  case atStart => exact ⟨0, Nat.zero_le _, rfl, HO3.out, Below.refl _ _⟩
  case round =>
    obtain ⟨k, hk, rfl, hown, hBk⟩ := hrel
    by_cases hlt : k < ns.length
    · obtain ⟨g, hA, c1⟩ := HT3.out.below hBk k hlt
      obtain ⟨a4, c4, rfl, _, hF4⟩ := own_flds hown
      have HR := Lib.hid (foldl_take (fs := fs) hlt)
      have RM := fun w h => Lib.hid (removef_c a4 c4 ((ns.take k).foldl removeF fs) (bs ns[k]) w (Nat.le_trans (HNL.out _ (List.getElem_mem hlt)) (by decide)) (HB.out.fold _) h)
      have HF4 := Lib.hid hF4
      have hwk := below_then hb3 (hBk.mono (by exact Nat.le_refl _))
      have hszk := hwk.size
      subst hA
      rw [bs_list] at RM
      generalize (ns.take k).foldl removeF fs = R at *
      generalize bs ns[k] = nm at *
      clear hown hF4
      have k0 : (0 : Int) ≤ (k : Int) := by omega
      have k1 : (k : Int) < (ns.length : Int) := by omega
      go_wp2_with fail
      refine (RM _ (by exact HF4.out)).out.mono ?_
      rintro e w5 ⟨v5, rfl, ho5, hb5⟩
      have HO5 := Lib.hid (own_from ho5 hszk)
      clear ho5
      go_wp2
      go_roundw
      case rel => exact ⟨k + 1, by omega, by go_num, by rw [HR.out]; exact HO5.out, below_then hBk hb5⟩
      case measure => simp [intOf]; omega
    · obtain rfl : k = ns.length := by omega
      have ho := hown
      rw [List.take_length, HFO.out] at ho
      have HO2 := Lib.hid ho
      have HBB := Lib.hid (below_then hb3 hBk)
      clear ho hown
      go_wp2
      go_ret
      exact ⟨_, rfl, HO2.out, HBB.out⟩
end Go.Proofs.YtnoolehpooidjaaDoor
