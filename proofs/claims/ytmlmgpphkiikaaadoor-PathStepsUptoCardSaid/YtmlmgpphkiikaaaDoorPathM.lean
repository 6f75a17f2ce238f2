/- The walk over PathMeans. -/
import Derived.Test.YtmlmgpphkiikaaaDoorPathL
set_option linter.unusedVariables false
set_option linter.unusedSimpArgs false
namespace Go.Proofs.YtmlmgpphkiikaaaDoor
open Go.RowKit Lex

theorem encU_decode (n : UInt8) : decodeL (encU n) = some [n] := by
  have key : ∀ n : Fin 256, decodeL (encU (UInt8.ofNat n.val)) = some [UInt8.ofNat n.val] := by decide +kernel
  have h := key ⟨n.toNat, n.toNat_lt⟩
  simpa using h
theorem unesc_means {l l' : List UInt8} (h : unesc l = some l') : ∃ d, decodeL l = some d ∧ decodeL l' = some d := by
  induction l using walkE_ind generalizing l' with
  | h0 => simp [unesc, walkE_nil] at h; subst h; exact ⟨[], rfl, rfl⟩
  | h1 c r ih hc =>
    unfold unesc at h
    cases hb : badU c with
    | true => rw [walkE_bad hb] at h; cases h
    | false =>
      rw [walkE_plain hb hc] at h
      cases hr : walkE badU encU r with
      | none => rw [hr] at h; cases h
      | some r' =>
        rw [hr] at h; simp at h; subst h
        obtain ⟨d, h1, h2⟩ := ih hr
        refine ⟨c :: d, ?_, ?_⟩
        · unfold decodeL at *; rw [walkE_plain rfl hc, h1]; rfl
        · unfold decodeL at *; rw [walkE_plain rfl hc, h2]; rfl
  | h2 a b r ih =>
    unfold unesc at h
    cases hp : pair a b with
    | none => rw [walkE_none hp] at h; cases h
    | some n =>
      rw [walkE_some (by decide) hp] at h
      cases hr : walkE badU encU r with
      | none => rw [hr] at h; cases h
      | some r' =>
        rw [hr] at h; simp at h; subst h
        obtain ⟨d, h1, h2⟩ := ih hr
        refine ⟨n :: d, ?_, ?_⟩
        · unfold decodeL at *; rw [walkE_some rfl hp, h1]; rfl
        · have := encU_decode n
          unfold decodeL at *; rw [walkE_append this, h2]; rfl
  | h3 r hr => unfold unesc at h; rw [walkE_short hr] at h; cases h
theorem normal_escapes {l p : List UInt8} (h : normal l = some p) : ∃ t, escapes l = some t ∧ unesc l = some t := by
  unfold normal at h
  cases hu : unesc l with
  | none => rw [hu] at h; cases h
  | some t =>
    rw [hu] at h
    simp only at h
    by_cases h47 : t.head? = some 47
    · exact ⟨t, by unfold escapes; rw [if_pos (unesc_head' hu h47), hu], rfl⟩
    · rw [if_neg h47] at h; cases h

theorem means_walk (s : ByteArray) (hs : s.size ≤ 1048576) (m : Int) (W : World) {w : World} (hW : W = w) (hm : W.cell? ⟨0, 0, none⟩ = some (.int .i64 m)) :
    Calls Tryd.prog 10 #[.string s] W fun e w' => e = .returned (.bool true) ∧ Below W.heap.size W w' := by
  subst hW
  have A := Lib.hid (anchor5_c m W hm)
  have N1 := fun w hm => Lib.hid (normal_c s m w (by omega) hm)
  cases hn : normal s.data.toList with
  | none =>
    rw [hn] at N1
    simp only [normVal] at N1
    clear hn
    go_enter Tryd.func10, Tryd.ntmps10
    go_wp2_with fail
    refine A.out.mono ?_
    rintro e w1 ⟨rfl, hb1⟩
    have hm1 := cell_after hb1 hm
    go_wp2_with fail
    refine (N1 _ hm1).out.mono ?_
    rintro e w2 ⟨rfl, hb2⟩
    go_wp2
    go_ret
    exact ⟨rfl, below_then hb1 hb2⟩
  | some p =>
    obtain ⟨t, he, hu⟩ := normal_escapes hn
    have E := fun w => Lib.hid (escapes_c s w (by omega))
    rw [he] at E
    rw [hn] at N1
    simp only [normVal, Option.getD_some, Option.isSome_some, if_true] at N1
    simp only [optStr, Option.getD_some, Option.isSome_some] at E
    by_cases hpt : p = t
    · subst hpt
      obtain ⟨d, h1, h2⟩ := unesc_means hu
      have D1 := fun w => Lib.hid (decode_c s w (by omega))
      have hl : p.length ≤ s.size := by rw [← size_list]; exact unesc_length hu
      have D2 := fun w => Lib.hid (decode_c (bs p) w (by show p.length ≤ _; omega))
      rw [h1] at D1
      rw [bs_list, h2] at D2
      simp only [optStr, Option.getD_some, Option.isSome_some] at D1 D2
      clear h1 h2 hu he hn hl
      go_enter Tryd.func10, Tryd.ntmps10
      go_wp2_with fail
      refine A.out.mono ?_
      rintro e w1 ⟨rfl, hb1⟩
      have hm1 := cell_after hb1 hm
      go_wp2_with fail
      refine (N1 _ hm1).out.mono ?_
      rintro e w2 ⟨rfl, hb2⟩
      go_wp2_with fail
      refine (E _).out.mono ?_
      rintro e w3 ⟨rfl, hb3⟩
      go_wp2_with fail
      refine (D1 _).out.mono ?_
      rintro e w4 ⟨rfl, hb4⟩
      go_wp2_with fail
      refine (D2 _).out.mono ?_
      rintro e w5 ⟨rfl, hb5⟩
      go_wp2
      go_ret
      exact ⟨rfl, below_then (below_then (below_then (below_then hb1 hb2) hb3) hb4) hb5⟩
    · have g : (p == t) = false := by rw [beq_eq_false_iff_ne]; exact hpt
      clear hu he hn
      go_enter Tryd.func10, Tryd.ntmps10
      go_wp2_with fail
      refine A.out.mono ?_
      rintro e w1 ⟨rfl, hb1⟩
      have hm1 := cell_after hb1 hm
      go_wp2_with fail
      refine (N1 _ hm1).out.mono ?_
      rintro e w2 ⟨rfl, hb2⟩
      go_wp2_with fail
      refine (E _).out.mono ?_
      rintro e w3 ⟨rfl, hb3⟩
      go_wp2
      go_ret
      exact ⟨rfl, below_then (below_then hb1 hb2) hb3⟩

end Go.Proofs.YtmlmgpphkiikaaaDoor
