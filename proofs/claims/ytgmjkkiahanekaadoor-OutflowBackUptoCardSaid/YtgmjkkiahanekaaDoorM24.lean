/- The texts OutE in one. -/
import Derived.Test.YtgmjkkiahanekaaDoorM23
import Derived.RegionTactic
/- The contract of the reader's Next. -/
set_option linter.unusedVariables false
set_option linter.unusedSimpArgs false
namespace Go.Proofs.YtgmjkkiahanekaaDoor
open Go.RowKit Lex

/-- One step, whatever the mode. -/
theorem obody_c (R D : Nat) (v : Value) (r : Rd) (M : Int) (hb : r.buf.length ≤ 4194304) (hok : r.Ok) (he : r.err = 0) (w : World) (h : RdAt w R D v r) (hmx : w.cell? ⟨0, 0, none⟩ = some (.int .i64 M)) (h0 : 0 < R) (fn : FuncId) (hfn : stepV r.mode = .func (.func fn) #[] #[]) :
    Calls Tryd.prog fn #[.pointer (some ⟨R, 0, none⟩)] w (NextPost w R D v r (bodyR r)) := by
  have h4 := hok.mode
  have hs : ∀ n : Nat, stepV r.mode = .func (.func n) #[] #[] → fn = n := fun n e => by
    rw [hfn] at e
    injection e with e _ _
    injection e
  have nf : ∀ x : Pc × Bool × Int × Rd, x.1.head.fields = [] → ∀ e w', StepPost w R D v r x e w' → NextPost w R D v r x e w' := fun x hx e w' h => NextPost.of h hx
  unfold bodyR
  rcases (by omega : r.mode = 0 ∨ r.mode = 1 ∨ r.mode = 2 ∨ r.mode = 3 ∨ r.mode = 4) with m | m | m | m | m
  · rw [if_pos m]
    obtain rfl := hs 21 (by rw [m]; rfl)
    exact ostart_c R D v r M hb hok m he w h hmx h0
  · rw [if_neg (by omega), if_pos m]
    obtain rfl := hs 25 (by rw [m]; rfl)
    refine (osized_c R D v r (by omega) hok m w h).mono (nf _ ?_)
    unfold sizedR takeR finishR
    repeat' (first | rfl | split)
  · rw [if_neg (by omega), if_neg (by omega), if_pos m]
    obtain rfl := hs 27 (by rw [m]; rfl)
    refine (ochunked_c R D v r (by omega) hok m w h).mono (nf _ ?_)
    unfold chunkedR finishR
    repeat' (first | rfl | split)
  · rw [if_neg (by omega), if_neg (by omega), if_neg (by omega), if_pos m]
    obtain rfl := hs 28 (by rw [m]; rfl)
    refine (orest_c R D v r (by omega) w h).mono (nf _ ?_)
    unfold restR takeR finishR
    repeat' (first | rfl | split)
  · rw [if_neg (by omega), if_neg (by omega), if_neg (by omega), if_neg (by omega)]
    obtain rfl := hs 29 (by rw [m]; rfl)
    exact (ofinish_c R D v r w h).mono (nf _ rfl)

theorem body_closed (r : Rd) : (bodyR r).2.2.2.closed = r.closed := by
  unfold bodyR startR sizedR chunkedR restR takeR finishR headed
  repeat' (first | rfl | split)
theorem Fp_err (R D : Nat) (v : Value) (r : Rd) (e : Int) (k : Nat) : FpR R D v { r with err := e } k ↔ FpR R D v r k := Iff.rfl
set_option maxRecDepth 100000 in
set_option maxHeartbeats 8000000 in
theorem onext_c (R D : Nat) (v : Value) (r : Rd) (M : Int) (hb : r.buf.length ≤ 4194304) (hok : r.Ok) (w : World) (h : RdAt w R D v r) (hmx : w.cell? ⟨0, 0, none⟩ = some (.int .i64 M)) (h0 : 0 < R) :
    Calls Tryd.prog 14 #[.pointer (some ⟨R, 0, none⟩)] w (NextPost w R D v r (nextR r)) := by
  have c3 : w.cell? ⟨R, 3, none⟩ = some (stepV r.mode) := h.blk.c 3 _ rfl
  have c11 : w.cell? ⟨R, 11, none⟩ = some (.bool r.ended) := h.blk.c 11 _ rfl
  have c12 : w.cell? ⟨R, 12, none⟩ = some (.int .i64 r.err) := h.blk.c 12 _ rfl
  have FPL := Lib.hid h.fp
  have hlt := h.lt
  have HR := Lib.hid h
  have b1 : Below w.heap.size w (w.alloc (.cells #[.int .i64 0, .string ⟨#[]⟩, .string ⟨#[]⟩, .int .i64 0, .string ⟨#[]⟩, .int .i64 0, .slice none 0 0, .string ⟨#[]⟩] 41)) := (Below.refl _ w).alloc (Nat.le_refl _) _
  have B1 := Lib.hid b1
  have Z1 := Lib.hid (blk_only w #[.int .i64 0, .string ⟨#[]⟩, .string ⟨#[]⟩, .int .i64 0, .string ⟨#[]⟩, .int .i64 0, .slice none 0 0, .string ⟨#[]⟩] 41 zeroP w.heap.size rfl rfl)
  have H1 := Lib.hid (h.below b1)
  have M1 := Lib.hid (cell_below b1 hmx)
  by_cases hi : r.ended = true ∨ r.err ≠ 0
  · rw [next_idle hi]
    have hcase : r.ended = true ∨ (r.ended = false ∧ (r.err != 0) = true) := by
      cases hr : r.ended with
      | true => exact .inl rfl
      | false =>
        refine .inr ⟨rfl, ?_⟩
        rw [bne_iff_ne]
        exact hi.resolve_left (by rw [hr]; simp)
    clear h b1 hi hmx c3
    rcases hcase with hc | ⟨hc, hc2⟩
    all_goals
      rw [hc] at c11
      clear hc
      go_enter Tryd.func14, Tryd.ntmps14
      go_wp2
      go_region
    all_goals
      go_wp2
      refine bodyPost_ret (ret_oNext (Blk.drew (blk_only w _ _ _ w.heap.size rfl rfl)) rfl rfl rfl) rfl ?_
      exact NextPost.of (x := (({} : Pc), false, r.err, r)) ⟨v, rfl, H1.out.below (Below.drew (Below.refl _ _)), (Away.of B1.out).drew, fun k h => .inl h⟩ rfl
  · have he : r.err = 0 := Decidable.not_not.1 fun x => hi (.inr x)
    have hen : r.ended = false := by cases hr : r.ended with | false => rfl | true => exact absurd (.inl hr) hi
    rw [next_live hi]
    rw [hen] at c11
    rw [he] at c12
    have BC := fun fn hfn => Lib.hid (obody_c R D v r M hb hok he (w.alloc (.cells #[.int .i64 0, .string ⟨#[]⟩, .string ⟨#[]⟩, .int .i64 0, .string ⟨#[]⟩, .int .i64 0, .slice none 0 0, .string ⟨#[]⟩] 41)) H1.out M1.out h0 fn hfn)
    have hcl := body_closed r
    obtain ⟨x, hx⟩ : ∃ x, bodyR r = x := ⟨_, rfl⟩
    rw [hx] at BC hcl ⊢
    obtain ⟨p, ok, e, r'⟩ := x
    simp only at hcl ⊢
    have HCL := Lib.hid hcl
    unfold NextPost at BC
    simp only [pcV] at BC
    have h4 := hok.mode
    clear h b1 hi hmx hx hcl he hen
    have hm5 : r.mode = 0 ∨ r.mode = 1 ∨ r.mode = 2 ∨ r.mode = 3 ∨ r.mode = 4 := by omega
    obtain ⟨fn, hfn⟩ : ∃ fn, stepV r.mode = .func (.func fn) #[] #[] := ⟨_, rfl⟩
    have BF := BC fn hfn
    clear BC
    have hfn5 : fn = 21 ∨ fn = 25 ∨ fn = 27 ∨ fn = 28 ∨ fn = 29 := by
      rcases hm5 with m | m | m | m | m <;> rw [m] at hfn <;> injection hfn with hfn _ _ <;> injection hfn with hfn <;> subst hfn
      · exact .inl rfl
      · exact .inr (.inl rfl)
      · exact .inr (.inr (.inl rfl))
      · exact .inr (.inr (.inr (.inl rfl)))
      · exact .inr (.inr (.inr (.inr rfl)))
    rw [hfn] at c3
    clear hm5 hfn h4
    rcases hfn5 with rfl | rfl | rfl | rfl | rfl
    all_goals
      go_enter Tryd.func14, Tryd.ntmps14
      go_upto_region 3 with fail
      go_cut [5, 6, 7] (fun s5 s6 s7 wx => ∃ B A c D' v', s5 = .pointer (some ⟨B, 0, none⟩) ∧ s6 = .bool ok ∧ s7 = .int .i64 e ∧ (A = none → c = 0) ∧ Flds wx A p.head.fields ∧ (∀ g o, A = some ⟨g, o, none⟩ → w.heap.size < g ∧ g < wx.heap.size ∧ ¬ FpR R D' v' r' g ∧ g ≠ B) ∧ RdAt wx R D' v' r' ∧ Away (FpR R D v r) w wx ∧ (∀ k, FpR R D' v' r' k → (FpR R D v r k ∨ (w.heap.size < k ∧ k < wx.heap.size)) ∧ k ≠ B) ∧ Blk wx w.heap.size zeroP ∧ Blk wx B (pcVs p A c) ∧ w.heap.size < B)
      case first =>
        go_wp2_with fail
        refine BF.out.mono ?_
        rintro e1 w3 ⟨A, c, D', v', rfl, hA, hF, hg, hR, ha, hf⟩
        go_wp2_with fail
        go_meet
        have hb3 : Below w3.heap.size w3 (w3.alloc (.cells #[.int .i64 p.kind, .string (bs p.head.method), .string (bs p.head.target), .int .i64 p.head.status, .string (bs p.head.reason), .int .i64 p.head.minor, .slice A p.head.fields.length c, .string (bs p.data)] 41)) := (Below.refl _ w3).alloc (Nat.le_refl _) _
        have hs1 : (w.alloc (.cells #[.int .i64 0, .string ⟨#[]⟩, .string ⟨#[]⟩, .int .i64 0, .string ⟨#[]⟩, .int .i64 0, .slice none 0 0, .string ⟨#[]⟩] 41)).heap.size = w.heap.size + 1 := by simp
        refine ⟨w3.heap.size, A, c, D', v', rfl, rfl, rfl, hA, hF.below hb3, fun g o e => ?_, hR.below hb3, ((Away.of B1.out).then ha (fun i _ hi => hi)).alloc _, fun k hk => ?_, (Z1.out.away (by omega) ha (fun e => by have := FPL.out _ e; omega)).alloc (by have := ha.size; omega) _, blk_only w3 _ _ _ _ rfl rfl, by have := ha.size; omega⟩
        · obtain ⟨q1, q2, q3⟩ := hg g o e
          exact ⟨by omega, by simp; omega, q3, by omega⟩
        · have hkl := hR.fp k hk
          refine ⟨?_, by omega⟩
          rcases hf k hk with h' | h'
          · exact .inl h'
          · exact .inr ⟨by omega, by simp; omega⟩
      case rest =>
        obtain ⟨B, A, c, D', v', rfl, rfl, rfl, hA, hF, hg, hR, ha, hf, hz, hp, hB⟩ := hcut
        clear BF
        have q2 : wc.cell? ⟨R, 2, none⟩ = some (.bool r.closed) := by rw [← HCL.out]; exact hR.blk.c 2 _ rfl
        have q12 : wc.cell? ⟨R, 12, none⟩ = some (.int .i64 r'.err) := hR.blk.c 12 _ rfl
        have z12 := hR.blk.fz 12
        have hRl := hR.lt
        have hwl := FPL.out R (.inl rfl)
        have hwz : w.heap.size < wc.heap.size := World.block_lt_of_cell? wc _ (hz.c 0 _ rfl)
        have hRB : R ≠ B := (hf R (.inl rfl)).2
        have n1 : R ≠ w.heap.size := by omega
        have n2 : ¬ w.heap.size = R := by omega
        have n3 : ¬ B = R := fun e => hRB e.symm
        have n4 : ¬ B = w.heap.size := by omega
        have n5 : ¬ w.heap.size = B := by omega
        obtain ⟨⟨p0, p1, p2, p3, p4, p5, p6, p7⟩, _⟩ := hp.all8
        obtain ⟨⟨d0, d1, d2, d3, d4, d5, d6, d7⟩, g0, g1, g2, g3, g4, g5, g6, g7⟩ := hz.all8
        have PUT := fun e' => hR.put (r' := { r' with err := e' }) 12 (.int .i64 e') (by decide) rfl (fun m => ⟨m, rfl⟩)
        have RP := Lib.hid PUT
        have AA := Lib.hid ha
        have ZZ := Lib.hid hz
        have FF := Lib.hid hF
        have GG := Lib.hid hg
        have HF := Lib.hid hf
        have HA := Lib.hid hA
        have fin : ∀ e', shortE r ok e = e' → ∀ u0 u1 u2 u3 u4 u5 u6 u7, pcV p A c = .agg #[u0, u1, u2, u3, u4, u5, u6, u7] →
            NextPost w R D v r (p, ok, shortE r ok e, { r' with err := shortE r ok e }) (.returned (.tuple #[.agg #[u0, u1, u2, u3, u4, u5, u6, u7], .bool ok, .int .i64 e'])) (((((((((wc.setCell ⟨R, 12, none⟩ (.int .i64 e')).setCell ⟨w.heap.size, 0, none⟩ u0).setCell ⟨w.heap.size, 1, none⟩ u1).setCell ⟨w.heap.size, 2, none⟩ u2).setCell ⟨w.heap.size, 3, none⟩ u3).setCell ⟨w.heap.size, 4, none⟩ u4).setCell ⟨w.heap.size, 5, none⟩ u5).setCell ⟨w.heap.size, 6, none⟩ u6).setCell ⟨w.heap.size, 7, none⟩ u7) := by
          intro e' hs u0 u1 u2 u3 u4 u5 u6 u7 hu
          rw [hs]
          exact NextPost.copy (x := (p, ok, e', { r' with err := e' })) (D' := D') (v' := v') (RP.out e') (AA.out.put (by exact .inl rfl) _ _) (fun k hk => by simp only [World.setCell, Array.size_modify]; exact (HF.out k hk).1) FPL.out rfl HA.out (FF.out.awayR1 (fun g o e2 h => by have := (GG.out g o e2).2.2.1; exact this (.inl h))) (fun g o e2 => by obtain ⟨q1, q2, q3, _⟩ := GG.out g o e2; exact ⟨q1, by simp only [World.setCell, Array.size_modify]; exact q2, q3⟩) _ _ _ _ _ _ _ _ hu rfl rfl
        have ZS := fun e' => ZZ.out.farR (R := R) (i := 12) (u := .int .i64 e') n1
        have FIN := Lib.hid fin
        have ZSH := Lib.hid ZS
        clear PUT ha hz hF hg hf hA hR hp fin ZS HCL
        by_cases he : e = 0
        · subst he
          cases ok with
          | true =>
            have hs : shortE r true 0 = 0 := short_ok r 0
            have HS := Lib.hid hs
            clear hs
            go_wp2
            refine bodyPost_ret (ret_oNext (Blk.set8 (ZSH.out _) _ _ _ _ _ _ _ _) rfl rfl rfl) rfl ?_
            exact FIN.out _ HS.out _ _ _ _ _ _ _ _ rfl
          | false =>
            have hs := short_none r
            cases hc : r.closed with
            | true =>
              rw [hc] at q2 hs
              have HS := Lib.hid hs
              clear hs hc
              go_wp2
              refine bodyPost_ret (ret_oNext (Blk.set8 (ZSH.out _) _ _ _ _ _ _ _ _) rfl rfl rfl) rfl ?_
              exact FIN.out _ (by have := HS.out; simpa using this) _ _ _ _ _ _ _ _ rfl
            | false =>
              rw [hc] at q2 hs
              have HS := Lib.hid hs
              clear hs hc
              go_wp2
              refine bodyPost_ret (ret_oNext (Blk.set8 (ZSH.out _) _ _ _ _ _ _ _ _) rfl rfl rfl) rfl ?_
              exact FIN.out _ (by have := HS.out; simpa using this) _ _ _ _ _ _ _ _ rfl
        · have hs := short_err r ok he
          have be : (e == 0) = false := by rw [beq_eq_false_iff_ne]; exact he
          have HS := Lib.hid hs
          clear hs he
          go_wp2
          refine bodyPost_ret (ret_oNext (Blk.set8 (ZSH.out _) _ _ _ _ _ _ _ _) rfl rfl rfl) rfl ?_
          exact FIN.out _ HS.out _ _ _ _ _ _ _ _ rfl
end Go.Proofs.YtgmjkkiahanekaaDoor

