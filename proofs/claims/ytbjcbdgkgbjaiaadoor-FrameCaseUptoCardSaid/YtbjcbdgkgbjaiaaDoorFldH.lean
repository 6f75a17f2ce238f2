/- The contracts of fields.Has and Strip and of the document's One and Strip, for every list of fields. -/
import Derived.Test.YtbjcbdgkgbjaiaaDoorFldG
set_option linter.unusedVariables false
set_option linter.unusedSimpArgs false
namespace Go.Proofs.YtbjcbdgkgbjaiaaDoor
open Go.RowKit Lex

theorem has1_c (x el : ByteArray) (B : Nat) (w : World) (hx : x.size ≤ 9223372036854775807) (hel : el.size ≤ 9223372036854775807) (hc : w.cell? ⟨B, 0, none⟩ = some (.string el)) :
    Calls Tryd.prog 41 #[.string x, .pointer (some ⟨B, 0, none⟩)] w fun e w' => e = .returned (.bool (alike x.data.toList el.data.toList)) ∧ Below w.heap.size w w' := by
  have AL := fun w => Lib.hid (alike_c x el w hx hel)
  go_enter Tryd.func41, Tryd.ntmps41
  go_wp2_with (go_at_call 34; refine (AL _).out.mono ?_; rintro e w1 ⟨rfl, hb⟩)
  go_ret
  exact ⟨rfl, hb⟩

/-- A number that is not below nought just if something is there. -/
def IdxOf (b : Bool) (w : World) (e : Ending) (w' : World) : Prop := ∃ r : Int, e = .returned (.int .i64 r) ∧ decide (0 ≤ r) = b ∧ Below w.heap.size w w'

set_option maxRecDepth 100000 in
set_option maxHeartbeats 4000000 in
theorem indexFunc_c (A : Option Addr) (cap : Nat) (l : List (List UInt8)) (el : ByteArray) (B : Nat) (w : World) (hl : l.length ≤ 140737488351232) (hm : ∀ x ∈ l, x.length ≤ 140737488351232) (hel : el.size ≤ 140737488351232) (hc : w.cell? ⟨B, 0, none⟩ = some (.string el)) (hT : Texts w A l) :
    Calls Tryd.prog 48 #[.slice A l.length cap, .func (.func 41) #[] #[.pointer (some ⟨B, 0, none⟩)]] w (IdxOf (l.any fun x => alike x el.data.toList) w) := by
  have HT := Lib.hid hT
  have HM := Lib.hid hm
  have HC := Lib.hid hc
  clear hT hm hc
  go_enter Tryd.func48, Tryd.ntmps48
  go_wp2
  go_loopw [5, 8] (fun _ i wr => ∃ k : Nat, k ≤ l.length ∧ i = .int .i64 k ∧ (l.take k).any (fun x => alike x el.data.toList) = false ∧ Below w.heap.size w wr) (fun _ i _ => l.length - (intOf i).toNat)
  case atStart => exact ⟨0, Nat.zero_le _, rfl, by simp, Below.refl _ _⟩
  case round =>
    obtain ⟨k, hk, rfl, ha, hB⟩ := hrel
    have HA := Lib.hid ha
    clear ha
    by_cases hlt : k < l.length
    · obtain ⟨g, hA, c1⟩ := HT.out.below hB k hlt
      subst hA
      have AL := fun (w' : World) h => Lib.hid (has1_c (bs l[k]) el B w' (Nat.le_trans (HM.out _ (List.getElem_mem hlt)) (by decide)) (by omega) h)
      rw [bs_list] at AL
      have hcb := held1 hB HC.out
      have k0 : (0 : Int) ≤ (k : Int) := by omega
      have k1 : (k : Int) < (l.length : Int) := by omega
      cases hal : alike l[k] el.data.toList with
      | true =>
        have HY := Lib.hid (any_at (p := fun x => alike x el.data.toList) hlt hal)
        rw [hal] at AL
        clear hal
        go_wp2_with fail
        refine (AL _ (by exact hcb)).out.mono ?_
        rintro e w2 ⟨rfl, hb2⟩
        have HB2 := Lib.hid (below_then hB hb2)
        clear hb2 hcb c1
        go_wp2
        go_ret
        exact ⟨_, rfl, by rw [HY.out]; simp, HB2.out⟩
      | false =>
        have HN := Lib.hid (any_take_false (p := fun x => alike x el.data.toList) hlt HA.out hal)
        rw [hal] at AL
        clear hal
        go_wp2_with fail
        refine (AL _ (by exact hcb)).out.mono ?_
        rintro e w2 ⟨rfl, hb2⟩
        have HB2 := Lib.hid (below_then hB hb2)
        clear hb2 hcb c1
        go_wp2
        go_roundw
        case rel => exact ⟨k + 1, by omega, by go_num, HN.out, HB2.out⟩
        case measure => simp [intOf]; omega
    · obtain rfl : k = l.length := by omega
      have ha := HA.out
      rw [List.take_length] at ha
      have HA2 := Lib.hid ha
      clear ha
      go_wp2
      go_ret
      exact ⟨_, rfl, by rw [HA2.out]; rfl, hB⟩

theorem containsFunc_c (A : Option Addr) (cap : Nat) (l : List (List UInt8)) (el : ByteArray) (B : Nat) (w : World) (hl : l.length ≤ 140737488351232) (hm : ∀ x ∈ l, x.length ≤ 140737488351232) (hel : el.size ≤ 140737488351232) (hc : w.cell? ⟨B, 0, none⟩ = some (.string el)) (hT : Texts w A l) :
    Calls Tryd.prog 40 #[.slice A l.length cap, .func (.func 41) #[] #[.pointer (some ⟨B, 0, none⟩)]] w fun e w' => e = .returned (.bool (l.any fun x => alike x el.data.toList)) ∧ Below w.heap.size w w' := by
  have IX := fun (w' : World) hc hT => Lib.hid (indexFunc_c A cap l el B w' hl hm hel hc hT)
  generalize (l.any fun x => alike x el.data.toList) = b at *
  have HT := Lib.hid hT
  clear hT
  go_enter Tryd.func40, Tryd.ntmps40
  go_wp2_with fail
  refine (IX _ hc HT.out).out.mono ?_
  rintro e w1 ⟨r, rfl, hr, hb⟩
  have HR := Lib.hid hr
  clear hr
  go_wp2
  go_ret
  exact ⟨ret_bool HR.out, hb⟩

set_option maxRecDepth 100000 in
set_option maxHeartbeats 4000000 in
theorem hasf_c (A : Option Addr) (cap : Nat) (fs : List Fd) (name el : ByteArray) (m : Int) (w : World) (hnm : name.size ≤ 140737488351232) (hel : el.size ≤ 140737488351232) (hB : FB fs) (hF : Flds w A fs) (hm : w.cell? ⟨0, 0, none⟩ = some (.int .i64 m)) :
    Calls Tryd.prog 30 #[.slice A fs.length cap, .string name, .string el] w fun e w' => e = .returned (.bool (hasF fs name.data.toList el.data.toList)) ∧ Below w.heap.size w w' := by
  have EL := fun w h h2 => Lib.hid (elementsf_c A cap fs name m w hnm hB.len (fun f hf => Nat.le_trans (hB.nm f hf) (by decide)) (fun f hf => hB.vl f hf) h h2)
  have hmem := fun x h => elementsF_mem (name := name.data.toList) (x := x) hB h
  have hlen := elementsF_length hB fs.length name.data.toList
  rw [List.take_length] at hlen
  unfold hasF
  generalize elementsF fs name.data.toList = l at *
  have CF := fun (w' : World) a c hc hT => Lib.hid (containsFunc_c a c l el w.heap.size w' (by omega) (fun x hx => Nat.le_trans (hmem x hx) (by decide)) hel hc hT)
  have HF := Lib.hid hF
  have HM := Lib.hid hm
  clear hmem hB hF hm
  go_enter Tryd.func30, Tryd.ntmps30
  go_wp2_with fail
  refine (EL _ (by exact HF.out.below ((Below.refl _ _).alloc (Nat.le_refl _) _)) (by exact held1 ((Below.refl _ _).alloc (Nat.le_refl _) _) HM.out)).out.mono ?_
  rintro e w1 ⟨v, rfl, hown, hb⟩
  obtain ⟨a, c, rfl⟩ := own_slice' hown
  have HT := Lib.hid (texts_of hown)
  have HCC := Lib.hid (held1 hb (show (w.alloc (.cells #[.string el] 9)).cell? ⟨w.heap.size, 0, none⟩ = some (.string el) by rw [World.cell?_alloc_new]; rfl))
  have HBB := Lib.hid (belowA hb)
  clear hown hb
  go_wp2_with fail
  refine (CF _ _ _ HCC.out HT.out).out.mono ?_
  rintro e w2 ⟨rfl, hb2⟩
  go_wp2
  go_ret
  exact ⟨rfl, below_then HBB.out hb2⟩
end Go.Proofs.YtbjcbdgkgbjaiaaDoor
