/- The texts HdG in one. -/
import Derived.Test.YtgmjkkiahanekaaDoorM13
import Derived.Test.YtgmjkkiahanekaaDoorM2
/- The contract of head.read with head.start. -/
set_option linter.unusedVariables false
set_option linter.unusedSimpArgs false
namespace Go.Proofs.YtgmjkkiahanekaaDoor
open Go.RowKit Lex

theorem crlf_prefix (p : List UInt8) : Lib.hasPrefix p [13, 10] = true ↔ ∃ t, p = 13 :: 10 :: t := by
  unfold Lib.hasPrefix
  rw [List.isPrefixOf_iff_prefix]
  constructor
  · rintro ⟨t, ht⟩; exact ⟨t, ht.symm⟩
  · rintro ⟨t, rfl⟩; exact ⟨t, rfl⟩
theorem post_empty {w w' : World} {e : Int} (h : Below w.heap.size w w') : ReadPost ({}, 0, e) w (.returned (.tuple #[.agg #[.string ⟨#[]⟩, .string ⟨#[]⟩, .int .i64 0, .string ⟨#[]⟩, .int .i64 0, .slice none 0 0], .int .i64 0, .int .i64 e])) w' :=
  ⟨none, 0, rfl, fun _ => rfl, World.ownsRow_nil _ _ _ _, h⟩
theorem own_set6 {w : World} {base B n : Nat} {e : TypeId} {z : Nat} {v : Value} {xs : List Value} (h : w.ownsRow base e z v n xs) (hB : B < base) (u0 u1 u2 u3 u4 u5 : Value) :
    ((((((w.setCell ⟨B, 0, none⟩ u0).setCell ⟨B, 1, none⟩ u1).setCell ⟨B, 2, none⟩ u2).setCell ⟨B, 3, none⟩ u3).setCell ⟨B, 4, none⟩ u4).setCell ⟨B, 5, none⟩ u5).ownsRow base e z v n xs :=
  ownsRow_setCell_below (ownsRow_setCell_below (ownsRow_setCell_below (ownsRow_setCell_below (ownsRow_setCell_below (ownsRow_setCell_below h hB _) hB _) hB _) hB _) hB _) hB _
theorem post_whole {w w' : World} {h : Hd} {A : Option Addr} {c base n : Nat} {fs : List Fd} {k : Int} (hbase : w.heap.size ≤ base) (hk : k = (n : Int)) (hown : w'.ownsRow base 79 2 (.slice A fs.length c) fs.length (fvals fs)) (hA : A = none → c = 0) (hb : Below w.heap.size w w') :
    ReadPost ({ h with fields := fs }, n, 0) w (.returned (.tuple #[.agg #[.string (bs h.method), .string (bs h.target), .int .i64 h.status, .string (bs h.reason), .int .i64 h.minor, .slice A fs.length c], .int .i64 k, .int .i64 0])) w' :=
  ⟨A, c, by rw [hk]; rfl, hA, own_from hown hbase, hb⟩
theorem kept6 {w w' : World} {B n : Nat} {v0 v1 v2 v3 v4 v5 : Value} (h : Box6 w B v0 v1 v2 v3 v4 v5) (hb : Below n w w') (hn : B < n) : Box6 w' B v0 v1 v2 v3 v4 v5 :=
  ⟨(hb.cell (p := ⟨B, 0, none⟩) hn).trans h.c0, (hb.cell (p := ⟨B, 1, none⟩) hn).trans h.c1, (hb.cell (p := ⟨B, 2, none⟩) hn).trans h.c2, (hb.cell (p := ⟨B, 3, none⟩) hn).trans h.c3, (hb.cell (p := ⟨B, 4, none⟩) hn).trans h.c4, (hb.cell (p := ⟨B, 5, none⟩) hn).trans h.c5, fun j => (hb.frozen (p := ⟨B, j, none⟩) hn).trans (h.fz j)⟩
theorem set6_5 {w : World} {B : Nat} {v0 v1 v2 v3 v4 v5 : Value} (h : Box6 w B v0 v1 v2 v3 v4 v5) (u : Value) : Box6 (w.setCell ⟨B, 5, none⟩ u) B v0 v1 v2 v3 v4 u :=
  ⟨(setO w B 5 0 u (by decide)).trans h.c0, (setO w B 5 1 u (by decide)).trans h.c1, (setO w B 5 2 u (by decide)).trans h.c2, (setO w B 5 3 u (by decide)).trans h.c3, (setO w B 5 4 u (by decide)).trans h.c4, setS u h.c5, fun j => (World.frozen?_setCell ..).trans (h.fz j)⟩
end Go.Proofs.YtgmjkkiahanekaaDoor

