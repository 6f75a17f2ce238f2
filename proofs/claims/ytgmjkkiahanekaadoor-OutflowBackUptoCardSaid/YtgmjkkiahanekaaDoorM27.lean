/- The texts OutJ in one. -/
import Derived.Test.YtgmjkkiahanekaaDoorM26
import Derived.Test.YtgmjkkiahanekaaDoorM25
import Derived.Deep.RegionWith
import Derived.Laws.IdiomStrings
/- The contract of the laws' digits. -/
set_option linter.unusedVariables false
set_option linter.unusedSimpArgs false
namespace Go.Proofs.YtgmjkkiahanekaaDoor
open Go.RowKit Lex

def dgt (n : Nat) : UInt8 := UInt8.ofNat (48 + n)
/-- The digits of a number of no more than k + 1 of them. -/
def digF : Nat → Nat → List UInt8
  | 0, n => [dgt (n % 10)]
  | k + 1, n => if n < 10 then [dgt (n % 10)] else digF k (n / 10) ++ [dgt (n % 10)]
theorem dig_small (k n : Nat) (h : n < 10) : digF k n = [dgt (n % 10)] := by
  cases k with
  | zero => rfl
  | succ k => unfold digF; rw [if_pos h]
theorem dig_len : ∀ k n, (digF k n).length ≤ k + 1
  | 0, n => Nat.le_refl _
  | k + 1, n => by
    unfold digF
    split
    · simp
    · have := dig_len k (n / 10)
      rw [List.length_append, List.length_singleton]; omega
theorem dig_slice : Tryd.prog.underlying 28 = some (.slice 5) := by kernel_rfl
theorem dig_u8 : Tryd.prog.underlying 5 = some (.int .u8) := by kernel_rfl
theorem dig_str : Tryd.prog.underlying 9 = some .string := by kernel_rfl
theorem dig_conv {w : World} {B : Nat} {m : Nat} (hm : m < 10) (h : w.cell? ⟨B, 0, none⟩ = some (.int .u8 (48 + (m : Int)))) :
    (convert 28 9 (.slice (some ⟨B, 0, none⟩) 1 1)).run Tryd.prog w = .ok (.string (bs [dgt m])) w := by
  have := run_convert_bytes_back (P := Tryd.prog) w 28 9 5 ⟨B, 0, none⟩ 1 [dgt m] dig_slice dig_u8 dig_str (fun j hj => by
    have : j = 0 := by simpa using hj
    subst this
    have e2 : (⟨B, 0, none⟩ : Addr).add 0 = ⟨B, 0, none⟩ := by simp [Addr.add]
    rw [e2, h]
    have : m < 10 := hm
    simp only [List.getElem_cons_zero, dgt, UInt8.toNat_ofNat']
    congr 2
    omega)
  exact this
theorem dig_new (w : World) {m : Nat} (hm : m < 10) : (convert 28 9 (.slice (some ⟨w.heap.size, 0, none⟩) 1 1)).run Tryd.prog (w.alloc (.cells #[.int .u8 (48 + (m : Int))] 5)) = .ok (.string (bs [dgt m])) (w.alloc (.cells #[.int .u8 (48 + (m : Int))] 5)) :=
  dig_conv hm (by rw [World.cell?_alloc_new]; rfl)
theorem dig_cell (w : World) (v : Value) (T : TypeId) : (w.drew.alloc (.cells #[v] T)).cell? ⟨w.heap.size, 0, none⟩ = some v := by
  have h : w.heap.size = w.drew.heap.size := by simp
  rw [h, World.cell?_alloc_new]; rfl
theorem below_al' {W w : World} (h : Below W.heap.size W w) (o : Obj) : Below W.heap.size W (w.alloc o) := h.alloc h.size o
set_option maxRecDepth 100000 in
set_option maxHeartbeats 4000000 in
theorem digits_c : ∀ (k n : Nat) (w : World), k ≤ 100 → n < 10 ^ (k + 1) → n ≤ 1000000000 → Calls Tryd.prog 11 #[.int .i64 (n : Int)] w fun e w' => e = .returned (.string (bs (digF k n))) ∧ Below w.heap.size w w' := by
  intro k
  induction k with
  | zero =>
    intro n w hk hn hb
    have hn' : n < 10 := by simpa using hn
    have hi : (n : Int) < 10 := by omega
    have h1 : ((48 : Int) + (n : Int)) % 256 = 48 + (n : Int) := by omega
    have hc := dig_new w (m := n) hn'
    have hd := dig_small 0 n hn'
    rw [Nat.mod_eq_of_lt hn'] at hd
    rw [hd]
    clear hd hn
    go_enter Tryd.func11, Tryd.ntmps11
    go_wp2
    go_ret
    exact ⟨rfl, (Below.refl _ w).alloc (Nat.le_refl _) _⟩
  | succ k ih =>
    intro n w hk hn hb
    by_cases hn' : n < 10
    · have hi : (n : Int) < 10 := by omega
      have h1 : ((48 : Int) + (n : Int)) % 256 = 48 + (n : Int) := by omega
      have hc := dig_new w (m := n) hn'
      have hd := dig_small (k + 1) n hn'
      rw [Nat.mod_eq_of_lt hn'] at hd
      rw [hd]
      clear hd hn ih
      go_enter Tryd.func11, Tryd.ntmps11
      go_wp2
      go_ret
      exact ⟨rfl, (Below.refl _ w).alloc (Nat.le_refl _) _⟩
    · have hi : ¬ (n : Int) < 10 := by omega
      have IH := fun w => Lib.hid (ih (n / 10) w (by omega) (by rw [Nat.div_lt_iff_lt_mul (by decide)]; rwa [Nat.pow_succ] at hn) (by omega))
      have hd : digF (k + 1) n = digF k (n / 10) ++ [dgt (n % 10)] := by rw [digF]; rw [if_neg hn']
      have hm : n % 10 < 10 := Nat.mod_lt _ (by decide)
      have h0 : (n : Int).tmod 10 = (n : Int) % 10 := Int.tmod_eq_emod_of_nonneg (by omega)
      have h00 : (n : Int).tdiv 10 = (n : Int) / 10 := Int.tdiv_eq_ediv_of_nonneg (by omega)
      have h1 : IntKind.i64.wrap ((n : Int) / 10) = (n : Int) / 10 := IntWalk.i64_in _ (by omega)
      have h2 : IntKind.i64.wrap (48 + (n : Int) % 10) = 48 + (n : Int) % 10 := IntWalk.i64_in _ (by omega)
      have h3 : IntKind.u8.wrap (48 + (n : Int) % 10) = 48 + (n : Int) % 10 := by rw [IntKind.wrap_u8]; omega
      have hq : ((n / 10 : Nat) : Int) = (n : Int) / 10 := by omega
      have hr : ((n % 10 : Nat) : Int) = (n : Int) % 10 := by omega
      have hc := fun w => dig_new w (m := n % 10) hm
      have hcv := fun (w : World) (B : Nat) h => dig_conv (w := w) (B := B) (m := n % 10) hm h
      rw [hr] at hc
      simp only [hr] at hcv
      simp only [hq] at IH
      have hsz : (bs (digF k (n / 10))).size + (bs [dgt (n % 10)]).size ≤ 1048576 := by rw [bs_size, bs_size]; have := dig_len k (n / 10); simp; omega
      have happ : bs (digF k (n / 10)) ++ bs [dgt (n % 10)] = bs (digF k (n / 10) ++ [dgt (n % 10)]) := by
        rw [← list_bs (bs (digF k (n / 10)) ++ bs [dgt (n % 10)])]; congr 1
      rw [hd, ← happ]
      clear hd hn ih hn' happ
      generalize bs (digF k (n / 10)) = x at *
      generalize bs [dgt (n % 10)] = y at *
      go_enter Tryd.func11, Tryd.ntmps11
      go_wp2
      go_region_with (go_at_call 11; refine (IH _).out.mono ?_; rintro e w' ⟨rfl, hb'⟩; first | (have hx := hcv w' w.heap.size (cell_below hb' (dig_cell w _ _))) | skip)
      all_goals
        try go_wp2
        go_ret
        first
          | exact ⟨rfl, below_al' (below_then (Below.refl _ w).drew hb') _⟩
          | exact ⟨rfl, below_then (below_al' (Below.refl _ w).drew _) hb'⟩
end Go.Proofs.YtgmjkkiahanekaaDoor

