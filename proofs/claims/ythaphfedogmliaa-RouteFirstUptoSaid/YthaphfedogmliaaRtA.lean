/- Routes over lists of bytes; the contracts of route.takes and route.Find. -/
import Derived.Test.YthaphfedogmliaaRouteC
import Derived.Test.YthaphfedogmliaaFldC
import Derived.Test.YthaphfedogmliaaPathE
set_option linter.unusedVariables false
set_option linter.unusedSimpArgs false
namespace Go.Proofs.Ythaphfedogmliaa
open Go.RowKit Lex

structure Rt where
  pre : Bool
  path : ByteArray
  method : ByteArray
  field : ByteArray
  value : ByteArray
  r5 : Int
  r6 : ByteArray
  r7 : Int
  r8 : ByteArray
  r9 : ByteArray
  r10 : Int
  r11 : Int
  r12 : Bool
def Rt.cells (r : Rt) : List Value := [.bool r.pre, .string r.path, .string r.method, .string r.field, .string r.value, .int .i64 r.r5, .string r.r6, .int .i64 r.r7, .string r.r8, .string r.r9, .int .i64 r.r10, .int .i64 r.r11, .bool r.r12]
def Rt.val (r : Rt) : Value := .agg #[.bool r.pre, .string r.path, .string r.method, .string r.field, .string r.value, .int .i64 r.r5, .string r.r6, .int .i64 r.r7, .string r.r8, .string r.r9, .int .i64 r.r10, .int .i64 r.r11, .bool r.r12]
def takesL (r : Rt) (m p : List UInt8) (g : List UInt8 × Nat) : Bool :=
  (r.method.data.toList.isEmpty || r.method.data.toList == m) && (r.path.data.toList == p || (r.pre && underB p r.path.data.toList)) && (r.field.data.toList.isEmpty || (decide (0 < g.2) && (r.value.data.toList.isEmpty || r.value.data.toList == g.1)))
set_option maxRecDepth 100000 in
set_option maxHeartbeats 8000000 in
theorem takes_c (r : Rt) (m p : ByteArray) (A : Option Addr) (cap : Nat) (fs : List Fd) (w : World) (hf : r.field.size ≤ 1048600) (hp : r.path.size ≤ 1048600) (hpp : p.size ≤ 1048600) (hl : fs.length ≤ 1048600) (hs1 : ∀ f ∈ fs, f.1.length ≤ 1048600) (hs2 : ∀ f ∈ fs, f.2.length ≤ 1048600) (hF : Flds w A fs) :
    Calls Try.prog 17 #[r.val, .string m, .string p, .slice A fs.length cap] w fun e w' => e = .returned (.bool (takesL r m.data.toList p.data.toList (getF fs r.field.data.toList))) ∧ Below w.heap.size w w' := by
  obtain ⟨pre, pa, me, fi, va, r5, r6, r7, r8, r9, r10, r11, r12⟩ := r
  simp only at hf hp
  unfold takesL Rt.val
  simp only
  have b0 := (Below.refl _ w).alloc (Nat.le_refl _) (.cells #[.bool pre, .string pa, .string me, .string fi, .string va, .int .i64 r5, .string r6, .int .i64 r7, .string r8, .string r9, .int .i64 r10, .int .i64 r11, .bool r12] 39)
  have GT := Lib.hid (get_c A cap fs fi _ (by omega) (by omega) (fun f h => by have := hs1 f h; omega) (fun f h => by have := hs2 f h; omega) (hF.below b0))
  obtain ⟨v, n, hv⟩ : ∃ v n, getF fs fi.data.toList = (v, n) := ⟨_, _, rfl⟩
  rw [hv] at GT ⊢
  simp only at GT
  have UN := fun w => Lib.hid (under_c p pa w (by omega) (by omega))
  obtain ⟨un, hun⟩ : ∃ un, underB p.data.toList pa.data.toList = un := ⟨_, rfl⟩
  rw [hun] at UN ⊢
  have tl : ∀ s : ByteArray, s.toList = s.data.toList := fun s => Lib.toList_data s
  obtain ⟨eM, heM⟩ : ∃ x, me.toList.isEmpty = x := ⟨_, rfl⟩
  obtain ⟨qM, hqM⟩ : ∃ x, (me.toList == m.toList) = x := ⟨_, rfl⟩
  obtain ⟨qP, hqP⟩ : ∃ x, (pa.toList == p.toList) = x := ⟨_, rfl⟩
  obtain ⟨eF, heF⟩ : ∃ x, fi.toList.isEmpty = x := ⟨_, rfl⟩
  obtain ⟨eV, heV⟩ : ∃ x, va.toList.isEmpty = x := ⟨_, rfl⟩
  obtain ⟨qV, hqV⟩ : ∃ x, (va.toList == v) = x := ⟨_, rfl⟩
  have hM : (me.data.toList.isEmpty || me.data.toList == m.data.toList) = (eM || qM) := by rw [← heM, ← hqM, tl, tl]
  have hP : (pa.data.toList == p.data.toList || (pre && un)) = (qP || (pre && un)) := by rw [← hqP, tl, tl]
  have hFF : (fi.data.toList.isEmpty || (decide (0 < n) && (va.data.toList.isEmpty || va.data.toList == v))) = (eF || (decide (0 < n) && (eV || qV))) := by rw [← heF, ← heV, ← hqV, tl, tl]
  rw [hM, hP, hFF]
  have KC := Lib.hid (fun (w1 : World) (hb : Below (w.alloc (.cells #[.bool pre, .string pa, .string me, .string fi, .string va, .int .i64 r5, .string r6, .int .i64 r7, .string r8, .string r9, .int .i64 r10, .int .i64 r11, .bool r12] 39)).heap.size (w.alloc (.cells #[.bool pre, .string pa, .string me, .string fi, .string va, .int .i64 r5, .string r6, .int .i64 r7, .string r8, .string r9, .int .i64 r10, .int .i64 r11, .bool r12] 39)) w1) j u (h : (#[Value.bool pre, .string pa, .string me, .string fi, .string va, .int .i64 r5, .string r6, .int .i64 r7, .string r8, .string r9, .int .i64 r10, .int .i64 r11, .bool r12])[j]? = some u) => cell_below hb (a := ⟨w.heap.size, j, none⟩) (v := u) (by rw [World.cell?_alloc_new]; exact h))
  have B0 := Lib.hid b0
  clear hM hP hFF tl hun hv b0 hF hs1 hs2
  have fin : ∀ (res : Bool), Hid (((eM || qM) && (qP || (pre && un)) && (eF || (decide (0 < n) && (eV || qV)))) = res) → Hid (((eM || qM) && (qP || (pre && un)) && (eF || (decide (0 < n) && (eV || qV)))) = res) := fun _ h => h
  obtain ⟨res, hres⟩ : ∃ res, ((eM || qM) && (qP || (pre && un)) && (eF || (decide (0 < n) && (eV || qV)))) = res := ⟨_, rfl⟩
  rw [hres]
  have cs : (eM = false ∧ qM = false ∧ res = false) ∨
      ((eM = true ∨ (eM = false ∧ qM = true)) ∧ ((qP = false ∧ pre = false ∧ res = false) ∨ (qP = false ∧ pre = true ∧ un = false ∧ res = false) ∨
        ((qP = true ∨ (qP = false ∧ pre = true ∧ un = true)) ∧ ((eF = true ∧ res = true) ∨ (eF = false ∧ (0 : Int) < (n : Int) ∧ eV = true ∧ res = true) ∨ (eF = false ∧ (0 : Int) < (n : Int) ∧ eV = false ∧ qV = true ∧ res = true) ∨ (eF = false ∧ (0 : Int) < (n : Int) ∧ eV = false ∧ qV = false ∧ res = false) ∨ (eF = false ∧ ¬ (0 : Int) < (n : Int) ∧ res = false))))) := by
    have hn : decide (0 < n) = decide ((0 : Int) < (n : Int)) := by rw [Bool.eq_iff_iff, decide_eq_true_eq, decide_eq_true_eq]; omega
    rw [hn] at hres
    by_cases h0 : (0 : Int) < (n : Int)
    · rw [decide_eq_true h0] at hres
      cases eM <;> cases qM <;> cases qP <;> cases pre <;> cases un <;> cases eF <;> cases eV <;> cases qV <;> cases res <;> simp_all
    · rw [decide_eq_false h0] at hres
      cases eM <;> cases qM <;> cases qP <;> cases pre <;> cases un <;> cases eF <;> cases eV <;> cases qV <;> cases res <;> simp_all
  clear hres fin
  have go : True := trivial
  rcases cs with ⟨rfl, rfl, rfl⟩ | ⟨rfl | ⟨rfl, rfl⟩, cs⟩
  case' inr.inl => rcases cs with ⟨rfl, rfl, rfl⟩ | ⟨rfl, rfl, rfl, rfl⟩ | ⟨rfl | ⟨rfl, rfl, rfl⟩, cs⟩
  case' inr.inr => rcases cs with ⟨rfl, rfl, rfl⟩ | ⟨rfl, rfl, rfl, rfl⟩ | ⟨rfl | ⟨rfl, rfl, rfl⟩, cs⟩
  case' inr.inl.inr.inr.inl => rcases cs with ⟨rfl, rfl⟩ | ⟨rfl, h0, rfl, rfl⟩ | ⟨rfl, h0, rfl, rfl, rfl⟩ | ⟨rfl, h0, rfl, rfl, rfl⟩ | ⟨rfl, h0, rfl⟩
  case' inr.inl.inr.inr.inr => rcases cs with ⟨rfl, rfl⟩ | ⟨rfl, h0, rfl, rfl⟩ | ⟨rfl, h0, rfl, rfl, rfl⟩ | ⟨rfl, h0, rfl, rfl, rfl⟩ | ⟨rfl, h0, rfl⟩
  case' inr.inr.inr.inr.inl => rcases cs with ⟨rfl, rfl⟩ | ⟨rfl, h0, rfl, rfl⟩ | ⟨rfl, h0, rfl, rfl, rfl⟩ | ⟨rfl, h0, rfl, rfl, rfl⟩ | ⟨rfl, h0, rfl⟩
  case' inr.inr.inr.inr.inr => rcases cs with ⟨rfl, rfl⟩ | ⟨rfl, h0, rfl, rfl⟩ | ⟨rfl, h0, rfl, rfl, rfl⟩ | ⟨rfl, h0, rfl, rfl, rfl⟩ | ⟨rfl, h0, rfl⟩
  all_goals
    go_enter Try.func17, Try.ntmps17
    go_wp2_with fail
    refine GT.out.mono ?_
    rintro e w1 ⟨rfl, hb1⟩
    have B1 := Lib.hid (below_then B0.out hb1)
    have k0 := KC.out w1 hb1 0 _ rfl
    have k1 := KC.out w1 hb1 1 _ rfl
    have k2 := KC.out w1 hb1 2 _ rfl
    have k3 := KC.out w1 hb1 3 _ rfl
    have k4 := KC.out w1 hb1 4 _ rfl
    have hlt := World.block_lt_of_cell? w1 _ k0
    clear hb1 KC GT
    go_wp2_with (go_at_call 33; refine (UN _).out.mono ?_; rintro e w3 ⟨rfl, rfl⟩)
    go_ret
    exact ⟨rfl, B1.out⟩
end Go.Proofs.Ythaphfedogmliaa
