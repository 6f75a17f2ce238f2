/- The walk over PathMeans. -/
import Derived.Test.YtjbmipbjlhcooaaDoorPathL
set_option linter.unusedVariables false
set_option linter.unusedSimpArgs false
namespace Go.Proofs.YtjbmipbjlhcooaaDoor
open Go.RowKit Lex

theorem encU_decode (n : UInt8) : decodeL (encU n) = some [n] := by
  have key : ∀ n : Fin 256, decodeL (encU (UInt8.ofNat n.val)) = some [UInt8.ofNat n.val] := by decide +kernel
  have h := key ⟨n.toNat, n.toNat_lt⟩
  simpa using h
theorem unesc_means {l l' : List UInt8} (h : unesc l = some l') : ∃ d, decodeL l = some d ∧ decodeL l' = some d := by
  induction l using walkE_ind generalizing l' with
  | h0 => simp [unesc, walkE_nil] at h; subst h; exact ⟨[], rfl, rfl⟩
  | h1 c r ih hc =>
    unfold unesc at h
    cases hb : badU c with
    | true => rw [walkE_bad hb] at h; cases h
    | false =>
      rw [walkE_plain hb hc] at h
      cases hr : walkE badU encU r with
      | none => rw [hr] at h; cases h
      | some r' =>
        rw [hr] at h; simp at h; subst h
        obtain ⟨d, h1, h2⟩ := ih hr
        refine ⟨c :: d, ?_, ?_⟩
        · unfold decodeL at *; rw [walkE_plain rfl hc, h1]; rfl
        · unfold decodeL at *; rw [walkE_plain rfl hc, h2]; rfl
  | h2 a b r ih =>
    unfold unesc at h
    cases hp : pair a b with
    | none => rw [walkE_none hp] at h; cases h
    | some n =>
      rw [walkE_some (by decide) hp] at h
      cases hr : walkE badU encU r with
      | none => rw [hr] at h; cases h
      | some r' =>
        rw [hr] at h; simp at h; subst h
        obtain ⟨d, h1, h2⟩ := ih hr
        refine ⟨n :: d, ?_, ?_⟩
        · unfold decodeL at *; rw [walkE_some rfl hp, h1]; rfl
        · have := encU_decode n
          unfold decodeL at *; rw [walkE_append this, h2]; rfl
  | h3 r hr => unfold unesc at h; rw [walkE_short hr] at h; cases h
theorem normal_escapes {l p : List UInt8} (h : normal l = some p) : ∃ t, escapes l = some t ∧ unesc l = some t := by
  unfold normal at h
  cases hu : unesc l with
  | none => rw [hu] at h; cases h
  | some t =>
    rw [hu] at h
    simp only at h
    by_cases h47 : t.head? = some 47
    · exact ⟨t, by unfold escapes; rw [if_pos (unesc_head' hu h47), hu], rfl⟩
    · rw [if_neg h47] at h; cases h

end Go.Proofs.YtjbmipbjlhcooaaDoor
