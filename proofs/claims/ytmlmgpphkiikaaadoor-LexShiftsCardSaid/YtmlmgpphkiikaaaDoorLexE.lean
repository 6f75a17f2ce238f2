/- LexShifts: the walk over the law, for every text and every byte. -/
import Derived.Test.YtmlmgpphkiikaaaDoorLexD
set_option linter.unusedVariables false
set_option linter.unusedSimpArgs false
namespace Go.Proofs.YtmlmgpphkiikaaaDoor
open Go.RowKit Lex

theorem conv_one (d : Int) (w : World) (b : Nat) (h : w.cell? ⟨b, 0, none⟩ = some (.int .u8 d)) :
    (convert 26 9 (.slice (some ⟨b, 0, none⟩) 1 1)).run Tryd.prog w = .ok (.string (strOfNums [d])) w :=
  run_convert_bytes_arg w 26 5 Tryd.underlying26 Tryd.underlying5 b 0 1 1 [d] rfl (fun i hi => by
    have : i = 0 := by omega
    subst this
    simpa using h) 9 Tryd.underlying9

theorem append_one (s : ByteArray) (d : Int) (c : UInt8) (hc : UInt8.ofNat d.toNat = c) : (s ++ strOfNums [d]).data.toList = s.data.toList ++ [c] := by
  subst hc
  simp [ByteArray.data_append, strOfNums]

set_option maxRecDepth 100000 in
set_option maxHeartbeats 2000000 in
theorem shifts_walk (s : ByteArray) (hs : s.size ≤ 140737488351232) (d : Int) (hd : (Lit.int .u8 d).wf = true) (W : World) {w : World} (hW : W = w) :
    Calls Tryd.prog 4 #[.string s, .int .u8 d] W fun e w' => e = .returned (.bool true) ∧ Below W.heap.size W w' := by
  subst hW
  have d0 : 0 ≤ d := by simp [Lit.wf, IntKind.min, IntKind.max, IntKind.signed, IntKind.bits] at hd; omega
  have d1 : d ≤ 255 := by simp [Lit.wf, IntKind.min, IntKind.max, IntKind.signed, IntKind.bits] at hd; omega
  clear hd
  have A := fun w => Lib.hid (anchor_c w)
  have CV := conv_one (48 + d)
  have hz : s.size + (strOfNums [48 + d]).size ≤ 9223372036854775807 := by rw [strOfNums_size]; simp; omega
  obtain ⟨c, hc, hcn⟩ : ∃ c : UInt8, UInt8.ofNat (48 + d).toNat = c ∧ (d < 10 → (c.toNat : Int) = 48 + d) := ⟨_, rfl, fun h => by
    rw [UInt8.toNat_ofNat_of_lt' (by rw [UInt8.size]; omega)]; omega⟩
  have K1 := fun w => Lib.hid (decimal_c s 17 w)
  have K3 := fun w => Lib.hid (hex_c s 14 w)
  have K5 := fun w => Lib.hid (decimal_c (s ++ strOfNums [48 + d]) 18 w)
  have K6 := fun w => Lib.hid (hex_c (s ++ strOfNums [48 + d]) 15 w)
  rw [append_one s _ c hc] at K5 K6
  have hdx := @decimal_hex s.data.toList
  rw [size_list] at hdx
  have hb1 := @decimal_bound s.data.toList
  have hb2 := @hex_bound s.data.toList
  have hs1 := @decimal_snoc s.data.toList c
  have hs2 := @hex_snoc s.data.toList c
  generalize decimal s.data.toList 17 = x at *
  generalize hex s.data.toList 14 = y at *
  obtain ⟨x1, x2⟩ := x
  obtain ⟨y1, y2⟩ := y
  simp only at K1 K3
  by_cases hlt : d < 10
  · have hcc := hcn hlt
    have hdg : digitI c.toNat = true := by simp [digitI]; omega
    have HCC := Lib.hid hcc
    clear hcn hc
    cases x2 <;> cases y2
    · clear hdx hb1 hb2 hs1 hs2
      clear K5 K6 HCC hcc hdg
      go_enter Tryd.func4, Tryd.ntmps4
      go_wp2_with fail
      refine (A _).out.mono ?_
      rintro e w1 ⟨rfl, hb⟩
      go_wp2_with fail
      refine (K1 _).out.mono ?_
      rintro e w2 ⟨rfl, rfl⟩
      go_wp2_with fail
      refine (K3 _).out.mono ?_
      rintro e w2 ⟨rfl, rfl⟩
      go_wp2
      go_ret
      exact ⟨rfl, hb⟩
    · have hs2' := hs2 hdg rfl
      obtain ⟨q0, q1⟩ := hb2 rfl
      rw [hs2'] at K6
      rw [hcc] at K6
      simp only [show (48 + d - 48 : Int) = d from by omega] at K6
      clear hdx hb1 hb2 hs1 hs2
      clear K5 hs2' HCC hcc hdg
      go_enter Tryd.func4, Tryd.ntmps4
      go_wp2_with fail
      refine (A _).out.mono ?_
      rintro e w1 ⟨rfl, hb⟩
      go_wp2_with fail
      refine (K1 _).out.mono ?_
      rintro e w2 ⟨rfl, rfl⟩
      go_wp2_with fail
      refine (K3 _).out.mono ?_
      rintro e w2 ⟨rfl, rfl⟩
      go_wp2_with fail
      refine (K6 _).out.mono ?_
      rintro e w2 ⟨rfl, rfl⟩
      go_wp2
      go_ret
      exact ⟨rfl, hb.alloc hb.size _⟩
    · have hs1' := hs1 hdg rfl
      obtain ⟨p0, p1⟩ := hb1 rfl
      rw [hs1'] at K5
      rw [hcc] at K5
      simp only [show (48 + d - 48 : Int) = d from by omega] at K5
      have hsz : 14 < s.size := by
        rcases Nat.lt_or_ge 14 s.size with h | h
        · exact h
        · have := hdx rfl h; cases this
      clear hdx hb1 hb2 hs1 hs2
      clear K6 hs1' HCC hcc hdg
      go_enter Tryd.func4, Tryd.ntmps4
      go_wp2_with fail
      refine (A _).out.mono ?_
      rintro e w1 ⟨rfl, hb⟩
      go_wp2_with fail
      refine (K1 _).out.mono ?_
      rintro e w2 ⟨rfl, rfl⟩
      go_wp2_with fail
      refine (K3 _).out.mono ?_
      rintro e w2 ⟨rfl, rfl⟩
      go_wp2_with fail
      refine (K5 _).out.mono ?_
      rintro e w2 ⟨rfl, rfl⟩
      go_wp2
      go_ret
      exact ⟨ret_bool (by simp; omega), hb.alloc hb.size _⟩
    · have hs1' := hs1 hdg rfl
      obtain ⟨p0, p1⟩ := hb1 rfl
      have hs2' := hs2 hdg rfl
      obtain ⟨q0, q1⟩ := hb2 rfl
      rw [hs2'] at K6
      rw [hs1'] at K5
      rw [hcc] at K5 K6
      simp only [show (48 + d - 48 : Int) = d from by omega] at K5 K6
      clear hdx hb1 hb2 hs1 hs2
      clear hs1' hs2' HCC hcc hdg
      go_enter Tryd.func4, Tryd.ntmps4
      go_wp2_with fail
      refine (A _).out.mono ?_
      rintro e w1 ⟨rfl, hb⟩
      go_wp2_with fail
      refine (K1 _).out.mono ?_
      rintro e w2 ⟨rfl, rfl⟩
      go_wp2_with fail
      refine (K3 _).out.mono ?_
      rintro e w2 ⟨rfl, rfl⟩
      go_wp2_with fail
      refine (K5 _).out.mono ?_
      rintro e w2 ⟨rfl, rfl⟩
      go_wp2_with fail
      refine (K6 _).out.mono ?_
      rintro e w2 ⟨rfl, rfl⟩
      go_wp2
      go_ret
      exact ⟨by simp, (hb.alloc hb.size _).alloc (by simp; have := hb.size; omega) _⟩
  · have hh : x2 = true → y2 = false → 14 < s.size := by
      intro h1 h2
      subst h1 h2
      rcases Nat.lt_or_ge 14 s.size with h | h
      · exact h
      · have := hdx rfl h; cases this
    clear hdx hb1 hb2 hs1 hs2 K5 K6 hcn hc
    cases x2 <;> cases y2
    · clear hh
      go_enter Tryd.func4, Tryd.ntmps4
      go_wp2_with fail
      refine (A _).out.mono ?_
      rintro e w1 ⟨rfl, hb⟩
      go_wp2_with fail
      refine (K1 _).out.mono ?_
      rintro e w2 ⟨rfl, rfl⟩
      go_wp2_with fail
      refine (K3 _).out.mono ?_
      rintro e w2 ⟨rfl, rfl⟩
      go_wp2
      go_ret
      exact ⟨rfl, hb⟩
    · clear hh
      go_enter Tryd.func4, Tryd.ntmps4
      go_wp2_with fail
      refine (A _).out.mono ?_
      rintro e w1 ⟨rfl, hb⟩
      go_wp2_with fail
      refine (K1 _).out.mono ?_
      rintro e w2 ⟨rfl, rfl⟩
      go_wp2_with fail
      refine (K3 _).out.mono ?_
      rintro e w2 ⟨rfl, rfl⟩
      go_wp2
      go_ret
      exact ⟨rfl, hb⟩
    · have hsz := hh rfl rfl
      clear hh
      go_enter Tryd.func4, Tryd.ntmps4
      go_wp2_with fail
      refine (A _).out.mono ?_
      rintro e w1 ⟨rfl, hb⟩
      go_wp2_with fail
      refine (K1 _).out.mono ?_
      rintro e w2 ⟨rfl, rfl⟩
      go_wp2_with fail
      refine (K3 _).out.mono ?_
      rintro e w2 ⟨rfl, rfl⟩
      go_wp2
      go_ret
      exact ⟨ret_bool (by simp; omega), hb⟩
    · clear hh
      go_enter Tryd.func4, Tryd.ntmps4
      go_wp2_with fail
      refine (A _).out.mono ?_
      rintro e w1 ⟨rfl, hb⟩
      go_wp2_with fail
      refine (K1 _).out.mono ?_
      rintro e w2 ⟨rfl, rfl⟩
      go_wp2_with fail
      refine (K3 _).out.mono ?_
      rintro e w2 ⟨rfl, rfl⟩
      go_wp2
      go_ret
      exact ⟨by simp, hb⟩

end Go.Proofs.YtmlmgpphkiikaaaDoor
