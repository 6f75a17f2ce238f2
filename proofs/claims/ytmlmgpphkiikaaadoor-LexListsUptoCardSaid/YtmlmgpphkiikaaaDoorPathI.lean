/- The walk over PathDecodes, for all texts. -/
import Derived.Test.YtmlmgpphkiikaaaDoorPathH
set_option linter.unusedVariables false
set_option linter.unusedSimpArgs false
namespace Go.Proofs.YtmlmgpphkiikaaaDoor
open Go.RowKit Lex

theorem indexByte_none (l : List UInt8) (c : UInt8) (h : Lib.indexByte l c < 0) : ∀ j (hj : j < l.length), l[j] ≠ c := by
  induction l with
  | nil => intro j hj; simp at hj
  | cons b l ih =>
    simp only [Lib.indexByte] at h
    split at h
    · omega
    · rename_i hb
      intro j hj
      cases j with
      | zero => simpa using hb
      | succ j =>
        have hge := indexByte_ge l c
        have := ih (by
          by_cases hq : (Lib.indexByte l c == -1) = true
          · have : Lib.indexByte l c = -1 := by simpa using hq
            omega
          · rw [if_neg hq] at h; omega) j (by simpa using hj)
        simpa using this

theorem indexByte_found (l : List UInt8) (c : UInt8) (k : Nat) (h : Lib.indexByte l c = (k : Int)) : (∃ hk : k < l.length, l[k] = c) ∧ ∀ j (hj : j < l.length), j < k → l[j] ≠ c := by
  induction l generalizing k with
  | nil => simp [Lib.indexByte] at h
  | cons b l ih =>
    simp only [Lib.indexByte] at h
    split at h
    · rename_i hb
      obtain rfl : k = 0 := by omega
      exact ⟨⟨by simp, by simpa using hb⟩, fun j _ h => absurd h (Nat.not_lt_zero _)⟩
    · rename_i hb
      split at h
      · omega
      · cases k with
        | zero =>
          rename_i hq
          have h1 : Lib.indexByte l c ≠ -1 := by simpa using hq
          have := indexByte_ge l c
          omega
        | succ k =>
          obtain ⟨⟨hk, h1⟩, h2⟩ := ih k (by omega)
          refine ⟨⟨by simpa using hk, by simpa using h1⟩, fun j hj hlt => ?_⟩
          cases j with
          | zero => simpa using hb
          | succ j => simpa using h2 j (by simpa using hj) (by omega)

theorem byte_of {c : UInt8} (h : (c.toNat : Int) = 63) : c = 63 := by
  have h63 : (63 : UInt8).toNat = 63 := rfl
  exact UInt8.toNat_inj.1 (by omega)
theorem bytes_ext {a b : ByteArray} (h : a.data.toList = b.data.toList) : a = b := by
  obtain ⟨⟨a⟩⟩ := a; obtain ⟨⟨b⟩⟩ := b; simp at h; subst h; rfl

theorem cut_at (s : ByteArray) : ∃ k, k ≤ s.size ∧ (∀ j (hj : j < s.size), j < k → s[j] ≠ 63) ∧
    ((∃ h : k < s.size, s[k] = 63 ∧ cutVal (cutB s.data.toList 63) = .tuple #[.string (s.extract 0 k), .string (s.extract (k + 1) s.size), .bool true]) ∨
     (k = s.size ∧ cutVal (cutB s.data.toList 63) = .tuple #[.string (s.extract 0 s.size), .string ⟨#[]⟩, .bool false])) := by
  unfold cutB
  by_cases h : 0 ≤ Lib.indexByte s.data.toList 63
  · obtain ⟨k, hk⟩ := Int.eq_ofNat_of_zero_le h
    obtain ⟨⟨h1, h2⟩, h3⟩ := indexByte_found _ _ _ hk
    have h1' : k < s.size := by rw [← size_list]; exact h1
    refine ⟨k, by omega, fun j hj hlt => h3 j (by rw [size_list]; exact hj) hlt, .inl ⟨h1', h2, ?_⟩⟩
    rw [if_pos h, hk]
    unfold cutVal
    rw [show bs (s.data.toList.take ((k : Int).toNat)) = s.extract 0 k from bytes_ext (by rw [Lib.extract_data]; simp [bs]), show bs (s.data.toList.drop ((k : Int).toNat + 1)) = s.extract (k + 1) s.size from bytes_ext (by rw [Lib.extract_to_end]; simp [bs])]
  · refine ⟨s.size, Nat.le_refl _, fun j hj _ => indexByte_none _ _ (by omega) j (by rw [size_list]; exact hj), .inr ⟨rfl, ?_⟩⟩
    rw [if_neg h]
    unfold cutVal
    rw [show bs s.data.toList = s.extract 0 s.size from bytes_ext (by rw [Lib.extract_to_end]; simp [bs])]

theorem decodes_walk (s : ByteArray) (hs : s.size ≤ 140737488351232) (t : ByteArray) (ht : t.size ≤ 140737488351232) (m : Int) (W : World) {w : World} (hW : W = w) (hm : W.cell? ⟨0, 0, none⟩ = some (.int .i64 m)) :
    Calls Tryd.prog 12 #[.string s, .string t] W fun e w' => e = .returned (.bool true) ∧ Below W.heap.size W w' := by
  subst hW
  have A := Lib.hid (anchor5_c m W hm)
  have D1 := fun w => Lib.hid (decode_c s w hs)
  have D2 := fun w => Lib.hid (rdecode_c s w hs)
  have U1 := fun w => Lib.hid (under_c s t w (by omega) (by omega))
  have U2 := fun w => Lib.hid (under_ref s t w (by omega) (by omega))
  have C := fun w => Lib.hid (pcut_c s w hs)
  obtain ⟨k0, hk0, hno, hcut⟩ := cut_at s
  generalize cutVal (cutB s.data.toList 63) = cv at *
  generalize underB s.data.toList t.data.toList = u at *
  obtain ⟨x, b, hx⟩ : ∃ x b, optStr (decodeL s.data.toList) = .tuple #[.string x, .bool b] := by
    cases decodeL s.data.toList <;> exact ⟨_, _, rfl⟩
  rw [hx] at D1 D2
  clear hx hm
  have HNO := Lib.hid hno
  clear hno
  rcases hcut with ⟨hlt, h63, rfl⟩ | ⟨rfl, rfl⟩
  · have g63 : ((s[k0].toNat : Int) != 63) = false := by rw [h63]; rfl
    clear h63
    go_enter Tryd.func12, Tryd.ntmps12
    go_wp2_with fail
    refine A.out.mono ?_
    rintro e w1 ⟨rfl, hb1⟩
    go_wp2_with fail
    refine (D1 _).out.mono ?_
    rintro e w2 ⟨rfl, hb2⟩
    go_wp2_with fail
    refine (D2 _).out.mono ?_
    rintro e w3 ⟨rfl, hb3⟩
    go_wp2_with fail
    refine (U1 _).out.mono ?_
    rintro e w4 ⟨rfl, rfl⟩
    go_wp2_with fail
    refine (U2 _).out.mono ?_
    rintro e w4 ⟨rfl, rfl⟩
    go_wp2_with fail
    refine (C _).out.mono ?_
    rintro e w4 ⟨rfl, hb4⟩
    have hB := below_then (below_then (below_then hb1 hb2) hb3) hb4
    clear hb1 hb2 hb3 hb4 A D1 D2 U1 U2 C
    go_wp2
    go_loopw [12] (fun i wr => ∃ (k : Nat), k ≤ k0 ∧ i = .int .i64 k ∧ Below W.heap.size W wr) (fun i _ => k0 - (intOf i).toNat)
    case atStart => exact ⟨0, Nat.zero_le _, rfl, hB⟩
    case round =>
      obtain ⟨k, hk, rfl, hB'⟩ := hrel
      by_cases hlt' : k < k0
      · have hks : k < s.size := by omega
        have g : ((s[k].toNat : Int) != 63) = true := by
          rw [bne_iff_ne]; intro h
          exact HNO.out k hks hlt' (byte_of h)
        go_wp2
        refine ⟨?rel, ?measure⟩
        case rel => exact ⟨k + 1, by omega, by go_num, hB'⟩
        case measure => simp [intOf]; omega
      · obtain rfl : k = k0 := by omega
        go_wp2
        go_ret
        exact ⟨rfl, hB'⟩
  · go_enter Tryd.func12, Tryd.ntmps12
    go_wp2_with fail
    refine A.out.mono ?_
    rintro e w1 ⟨rfl, hb1⟩
    go_wp2_with fail
    refine (D1 _).out.mono ?_
    rintro e w2 ⟨rfl, hb2⟩
    go_wp2_with fail
    refine (D2 _).out.mono ?_
    rintro e w3 ⟨rfl, hb3⟩
    go_wp2_with fail
    refine (U1 _).out.mono ?_
    rintro e w4 ⟨rfl, rfl⟩
    go_wp2_with fail
    refine (U2 _).out.mono ?_
    rintro e w4 ⟨rfl, rfl⟩
    go_wp2_with fail
    refine (C _).out.mono ?_
    rintro e w4 ⟨rfl, hb4⟩
    have hB := below_then (below_then (below_then hb1 hb2) hb3) hb4
    clear hb1 hb2 hb3 hb4 A D1 D2 U1 U2 C
    go_wp2
    go_loopw [12] (fun i wr => ∃ (k : Nat), k ≤ s.size ∧ i = .int .i64 k ∧ Below W.heap.size W wr) (fun i _ => s.size - (intOf i).toNat)
    case atStart => exact ⟨0, Nat.zero_le _, rfl, hB⟩
    case round =>
      obtain ⟨k, hk, rfl, hB'⟩ := hrel
      by_cases hlt' : k < s.size
      · have hks : k < s.size := by omega
        have g : ((s[k].toNat : Int) != 63) = true := by
          rw [bne_iff_ne]; intro h
          exact HNO.out k hks hlt' (byte_of h)
        go_wp2
        refine ⟨?rel, ?measure⟩
        case rel => exact ⟨k + 1, by omega, by go_num, hB'⟩
        case measure => simp [intOf]; omega
      · obtain rfl : k = s.size := by omega
        go_wp2
        go_ret
        exact ⟨rfl, hB'⟩
end Go.Proofs.YtmlmgpphkiikaaaDoor
