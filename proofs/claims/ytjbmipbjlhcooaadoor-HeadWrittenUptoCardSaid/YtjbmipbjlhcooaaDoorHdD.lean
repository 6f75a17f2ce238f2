/- The contract of head.Field. -/
import Derived.Test.YtjbmipbjlhcooaaDoorHdC
import Derived.Test.YtjbmipbjlhcooaaDoorLexD
import Derived.Test.YtjbmipbjlhcooaaDoorBox2
import Derived.Test.YtjbmipbjlhcooaaDoorTgtD
import Derived.Test.YtjbmipbjlhcooaaDoorTgtE
set_option linter.unusedVariables false
set_option linter.unusedSimpArgs false
namespace Go.Proofs.YtjbmipbjlhcooaaDoor
open Go.RowKit Lex

theorem ret_field {w : World} {B : Nat} {v0 v1 e : Value} (h : Box2 w B v0 v1) {tmps : Array Value} (h4 : tmps[2]?.getD undef = .pointer (some ⟨B, 0, none⟩)) (h5 : tmps[3]?.getD undef = e) :
    (results Tryd.f30 tmps).run Tryd.prog w = .ok (.tuple #[.agg #[v0, v1], e]) w := by
  simp [results, Tryd.results30, go_sem, h4, h5, h.c0, h.c1]
def fieldVal (x : Option Fd) : Value := match x with
  | some f => .tuple #[.agg #[.string (bs f.1), .string (bs f.2)], .int .i64 0]
  | none => .tuple #[.agg #[.string ⟨#[]⟩, .string ⟨#[]⟩], .int .i64 70]
theorem trim_id {v : List UInt8} (h : trim v = v) : value v = v.all okv := by unfold value; rw [h]; simp
set_option maxRecDepth 100000 in
set_option maxHeartbeats 1000000 in
theorem hfield_c (s : ByteArray) (w : World) (hs : s.size ≤ 140737488351232) :
    Calls Tryd.prog 30 #[.string s] w fun e w' => e = .returned (fieldVal (fieldL s.data.toList)) ∧ Below w.heap.size w w' := by
  have CU := fun w => Lib.hid (cut_c s 58 w hs)
  have hcl := cutB_len s.data.toList 58
  have hc1 : (cutB s.data.toList 58).1.length ≤ s.size := hcl.1
  have hc2 : (cutB s.data.toList 58).2.1.length ≤ s.size := hcl.2.1
  clear hcl
  generalize hv : fieldL s.data.toList = v
  unfold fieldL at hv
  generalize cutB s.data.toList 58 = c at *
  obtain ⟨c1, c2, c3⟩ := c
  simp only at hv hc1 hc2
  have TR := fun w => Lib.hid (trim_c (bs c2) w (by rw [bs_size]; omega))
  have TK := fun w => Lib.hid (token_c (bs c1) w (by rw [bs_size]; omega))
  have VA := fun w => Lib.hid (value_c (bs (trim c2)) w (by rw [bs_size]; have := trim_length c2; omega))
  rw [bs_list] at TR TK VA
  rw [trim_id (trim_trim c2)] at VA
  simp only [cutVal] at CU
  generalize trim c2 = t2 at *
  generalize token c1 = k1 at *
  generalize t2.all okv = k2 at *
  clear hc1 hc2
  have B0 := Lib.hid ((Below.refl _ w).alloc (Nat.le_refl _) (.cells #[.string ⟨#[]⟩, .string ⟨#[]⟩] 50))
  have X0 := Lib.hid (box2_new w (.string ⟨#[]⟩) (.string ⟨#[]⟩) 50)
  have pre : ∀ c3v k1v k2v, c3 = c3v → k1 = k1v → k2 = k2v → fieldVal v = (if c3v = true ∧ k1v = true ∧ k2v = true then .tuple #[.agg #[.string (bs c1), .string (bs t2)], .int .i64 0] else .tuple #[.agg #[.string ⟨#[]⟩, .string ⟨#[]⟩], .int .i64 70]) := by
    rintro _ _ _ rfl rfl rfl
    rw [← hv]
    split <;> rfl
  cases hc3 : c3
  all_goals cases hk1 : k1
  all_goals cases hk2 : k2
  all_goals
    rw [pre _ _ _ hc3 hk1 hk2]
    clear pre
    subst hc3 hk1 hk2
    simp only [Bool.false_eq_true, false_and, and_false, if_false, and_self, if_true]
    go_enter Tryd.func30, Tryd.ntmps30
    go_wp2_with fail
    refine (CU _).out.mono ?_
    rintro e w1 ⟨rfl, hb1⟩
    have B1 := Lib.hid (below_then B0.out hb1)
    obtain ⟨d0, d1, gz⟩ := X0.out.below hb1
    have X1 := Lib.hid (Box2.mk d0 d1 gz)
    clear hb1
    go_wp2_with fail
    refine (TR _).out.mono ?_
    rintro e w2 ⟨rfl, hb2⟩
    have B2 := Lib.hid (below_then B1.out hb2)
    have X2 := Lib.hid (X1.out.below hb2)
    clear hb2 d0 d1 gz
    obtain ⟨d0, d1, gz⟩ := X2.out
    have g0 := gz 0
    have g1 := gz 1
    clear gz
    go_wp2_with (first
      | (go_at_call 52; refine (TK _).out.mono ?_; rintro e w3 ⟨rfl, rfl⟩)
      | (go_at_call 53; refine (VA _).out.mono ?_; rintro e w4 ⟨rfl, hb4⟩; have B4 := Lib.hid (below_then B2.out hb4); have X4 := Lib.hid (X2.out.below hb4); clear hb4 d0 d1 g0 g1; obtain ⟨d0, d1, gz⟩ := X4.out; have g0 := gz 0; have g1 := gz 1; clear gz))
  all_goals first
    | (refine bodyPost_ret (ret_field (Box2.stored X4.out _ _) rfl rfl) rfl ?_
       exact ⟨rfl, (B4.out.setCell (by simp) _).setCell (by simp) _⟩)
    | (refine bodyPost_ret (ret_field (Box2.stored X2.out _ _) rfl rfl) rfl ?_
       exact ⟨rfl, (B2.out.setCell (by simp) _).setCell (by simp) _⟩)
end Go.Proofs.YtjbmipbjlhcooaaDoor
