/- The contracts of fields.Strip and Check and of the document's Check, for every list of fields. -/
import Derived.Test.YtbjcbdgkgbjaiaaDoorFldI
set_option linter.unusedVariables false
set_option linter.unusedSimpArgs false
namespace Go.Proofs.YtbjcbdgkgbjaiaaDoor
open Go.RowKit Lex

theorem addr_add (g o j : Nat) : (⟨g, o, none⟩ : Addr).add j = ⟨g, o + j, none⟩ := by unfold Addr.add; split <;> simp_all
theorem fvals_length (l : List Fd) : (fvals l).length = l.length * 2 := by
  induction l with
  | nil => rfl
  | cons f l ih => have : fvals (f :: l) = .string (bs f.1) :: .string (bs f.2) :: fvals l := rfl
                   rw [this, List.length_cons, List.length_cons, ih, List.length_cons]; omega
theorem flds_cells {w : World} {g o : Nat} {l : List Fd} (h : Flds w (some ⟨g, o, none⟩) l) : ∀ j u, (fvals l)[j]? = some u → w.cell? ((⟨g, o, none⟩ : Addr).add j) = some u := by
  intro j u hu
  have hj : j < (fvals l).length := by
    rcases Nat.lt_or_ge j (fvals l).length with h | h
    · exact h
    · rw [List.getElem?_eq_none h] at hu; cases hu
  rw [fvals_length] at hj
  have hk : j / 2 < l.length := by omega
  obtain ⟨g', o', e, c1, c2⟩ := h (j / 2) hk
  injection e with e; injection e with e1 e2
  subst e1 e2
  obtain ⟨h1, h2⟩ := fvals_at l (j / 2) hk
  rw [addr_add]
  rcases (by omega : j = j / 2 * 2 ∨ j = j / 2 * 2 + 1) with hj2 | hj2
  · rw [← hj2] at h1 c1
    rw [c1, ← h1, hu]
  · rw [← hj2] at h2
    rw [show o + j / 2 * 2 + 1 = o + j from by omega] at c2
    rw [c2, ← h2, hu]
theorem ones_fvals (l : List Fd) : ∀ u ∈ fvals l, u.oneCell' = true := by
  intro u hu
  unfold fvals at hu
  obtain ⟨f, _, hf⟩ := List.mem_flatMap.1 hu
  exact ones_field f u hf

/-- append of a list of fields onto a row of the call's own. -/
theorem wpList_append_flds {w : World} {ops : Array Oper} {rest : List Oper} {o : Oper} {a : Act} {Q : Exit → Act → World → Prop} (hgd : o.guard = none) (s x : Operand)
    (ho : o.op = .call { callee := .builtin .append, args := #[s, x], argTypes := #[22, 22] })
    (base : Nat) (i : TypeInfo) (hi : Tryd.prog.info? 34 = some i) (hz : i.zero = some (.agg #[.string ByteArray.empty, .string ByteArray.empty])) (hsize : i.size = 2) (hby : i.bytes = 32)
    (v : Value) (n : Nat) (xs : List Value) (hs : a.eval s = v) (hown : w.ownsRow base 34 2 v n xs) (A : Option Addr) (c : Nat) (l : List Fd) (hA : A = none → c = 0) (hx : a.eval x = .slice A l.length c) (hF : Flds w A l)
    (h63 : n + l.length ≤ 4398046511104) (hbase : base ≤ w.heap.size)
    (h : ∀ v' w', w'.ownsRow base 34 2 v' (n + l.length) (xs ++ fvals l) → w.grownBy w' v.ownBlock → wpList Tryd.prog ops Q rest (a.put o.dst v') w') : wpList Tryd.prog ops Q (o :: rest) a w := by
  refine wpList_plain hgd fun K hK => ?_
  obtain ⟨v', w', hr, h2, h3⟩ : ∃ v' w', (Builtin.append_ #[22, 22] o.type #[v, .slice A l.length c]).run Tryd.prog w = .ok v' w' ∧ w'.ownsRow base 34 2 v' (n + l.length) (xs ++ fvals l) ∧ w.grownBy w' v.ownBlock := by
    cases A with
    | none =>
      obtain rfl : l = [] := by
        cases l with
        | nil => rfl
        | cons f l => obtain ⟨g, o, e, _⟩ := hF 0 (by simp); cases e
      obtain rfl : c = 0 := hA rfl
      exact ⟨v, w, run_append_owned_none (w := w) base 22 _ 34 i 2 Tryd.underlying22 hi v n xs hown, by simpa [fvals] using hown, ⟨rfl, rfl, rfl, Nat.le_refl _, fun _ _ _ => rfl⟩⟩
    | some ad =>
      have hc : ∀ j u, (fvals l)[j]? = some u → w.cell? (ad.add j) = some u := by
        cases l with
        | nil => intro j u hu; simp [fvals] at hu
        | cons f l =>
          obtain ⟨g, o, e, _⟩ := hF 0 (by simp)
          injection e with e
          subst e
          exact flds_cells hF
      obtain ⟨v', w', hr, h2, h3, _, h5⟩ := run_append_own_at (P := Tryd.prog) w base 22 o.type 34 i (.agg #[.string ByteArray.empty, .string ByteArray.empty]) 2 32 Tryd.underlying22 hi hz hsize hby rfl (by decide) v n xs hown ad l.length c (fvals l) (fvals_length l) hc (ones_fvals l) (by unfold maxLen; omega) (by omega) hbase
      exact ⟨v', w', hr, h2, h3⟩
  unfold Oper.wp execOp
  simp only [ho, resolve, invoke, builtin, Sem.run_bind, Sem.run_pure, Result.andThen_ok, List.map_toArray, List.map_cons, List.map_nil, hs, hx, hr]
  exact hK _ _ (h v' w' h2 h3)

theorem foldl_take {fs : List Fd} {ns : List (List UInt8)} {k : Nat} (h : k < ns.length) : (ns.take (k + 1)).foldl removeF fs = removeF ((ns.take k).foldl removeF fs) ns[k] := by
  rw [List.take_succ_eq_append_getElem h, List.foldl_append]; rfl
theorem FB.fold {fs : List Fd} (h : FB fs) (ns : List (List UInt8)) : FB (ns.foldl removeF fs) := by
  induction ns generalizing fs with
  | nil => exact h
  | cons n ns ih => exact ih (h.remove n)
theorem own_flds {w : World} {base : Nat} {e : TypeId} {v : Value} {l : List Fd} (h : w.ownsRow base e 2 v l.length (fvals l)) : ∃ a c, v = .slice a l.length c ∧ (a = none → c = 0) ∧ Flds w a l := by
  rcases h.2 with ⟨rfl, h0⟩ | ⟨g, cap, cur, rfl, _⟩
  · exact ⟨none, 0, by rw [h0], fun _ => rfl, fun j hj => absurd hj (by omega)⟩
  · exact ⟨some ⟨g, 0, none⟩, cap, rfl, (fun e => by cases e), flds_own h⟩

end Go.Proofs.YtbjcbdgkgbjaiaaDoor
