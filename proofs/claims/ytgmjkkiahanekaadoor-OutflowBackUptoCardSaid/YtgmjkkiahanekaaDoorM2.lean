/- The texts PathG, PathH, PathI, PathJ, PathK, LexI, FldA in one. -/
import Derived.Test.YtgmjkkiahanekaaDoorM1
import Derived.Test.YtgmjkkiahanekaaDoorM0
import Derived.Deep.OwnRows
import Derived.Deep.RegionLaw
import Derived.Deep.AppendLies
import Derived.BigRegion
/- The contract of strings.Split at one byte in plain words, and of path.Normal, for every text of at most 4194304 bytes. -/
set_option linter.unusedVariables false
set_option linter.unusedSimpArgs false
namespace Go.Proofs.YtgmjkkiahanekaaDoor
open Go.RowKit Lex

def strs (ps : List (List UInt8)) : List Value := ps.map fun x => .string (bs x)

theorem split_c (s : ByteArray) (c : UInt8) (m : Int) (w : World) (hs : s.size < 4294967281) (hm : w.cell? ⟨0, 0, none⟩ = some (.int .i64 m)) :
    Calls Tryd.prog 46 #[.string s, .string ⟨#[c]⟩] w fun e w' =>
      e = .returned (.slice (some ⟨w.heap.size, 0, none⟩) (pieces c s.data.toList).length (pieces c s.data.toList).length) ∧ w' = w.alloc (.cells (strs (pieces c s.data.toList)).toArray 9) := by
  have h := Tryd.strings_Split s ⟨#[c]⟩ m w hs hm (Nat.le_refl 1)
  have h1 : Lib.countB s ⟨#[c]⟩ + 1 = (pieces c s.data.toList).length := pieces_count c s.data.toList
  have h2 : (Lib.splitB ⟨#[c]⟩ 0 (Lib.countB s ⟨#[c]⟩) s).map Value.string = strs (pieces c s.data.toList) := by
    have := Lib.splitB_data ⟨#[c]⟩ 0 (Lib.countB s ⟨#[c]⟩) s
    rw [← split_one]
    unfold Lib.split strs
    have e : Lib.splitK [c] 0 (Lib.count s.data.toList [c]) s.data.toList = (Lib.splitB ⟨#[c]⟩ 0 (Lib.countB s ⟨#[c]⟩) s).map (·.data.toList) := this.symm
    rw [e, List.map_map]
    rfl
  rw [h1, h2] at h
  exact h

theorem info_str : (Tryd.prog.info? 9).map (fun i => (i.zero, i.size, i.bytes)) = some (some (.string ByteArray.empty), 1, 16) := by kernel_rfl

/-- A row of the call's own, cut short. -/
theorem own_take {w : World} {B : Nat} {e : TypeId} {g cap n : Nat} {xs : List Value} (h : w.ownsRow B e 1 (.slice (some ⟨g, 0, none⟩) n cap) n xs) (m : Nat) (hm : m ≤ n) : w.ownsRow B e 1 (.slice (some ⟨g, 0, none⟩) m cap) m (xs.take m) := by
  obtain ⟨h1, h2⟩ := h
  refine ⟨by rw [List.length_take]; omega, ?_⟩
  rcases h2 with ⟨h, _⟩ | ⟨g', cap', cur, he, a, b, c, d, f, k⟩
  · cases h
  · injection he with e1 e2 e3
    injection e1 with e1
    injection e1 with e1
    subst e1 e3
    refine .inr ⟨g, cap, cur, rfl, a, b, by omega, d, f, ?_⟩
    rw [← k, List.take_take]
    congr 1
    omega

def normVal (o : Option (List UInt8)) : Value := .tuple #[.string (bs (o.getD [])), .int .i64 (if o.isSome then 0 else 50)]

theorem slash_prefix (p : List UInt8) : Lib.hasPrefix p [47] = decide (p.head? = some 47) := by
  unfold Lib.hasPrefix
  cases p with
  | nil => rfl
  | cons a p =>
    rw [Bool.eq_iff_iff, List.isPrefixOf_iff_prefix, decide_eq_true_eq]
    constructor
    · rintro ⟨t, ht⟩; injection ht with h _; rw [h]; rfl
    · intro h; injection h with h; subst h; exact ⟨p, rfl⟩

theorem slash_c (p : List UInt8) (w : World) : Calls Tryd.prog 38 #[.string (bs p), .string ⟨#[47]⟩] w fun e w' => e = .returned (.bool (decide (p.head? = some 47))) ∧ w = w' :=
  (Tryd.strings_HasPrefix (bs p) ⟨#[47]⟩ w).mono fun e w' ⟨he, hw⟩ => ⟨by rw [he, show (⟨#[47]⟩ : ByteArray).data.toList = [47] from rfl, bs_list, slash_prefix], hw.symm⟩

theorem own_slice' {w : World} {B n z : Nat} {e : TypeId} {v : Value} {xs : List Value} (h : w.ownsRow B e z v n xs) : ∃ A c, v = .slice A n c := by
  rcases h.2 with ⟨rfl, rfl⟩ | ⟨g, cap, cur, rfl, _⟩
  · exact ⟨none, 0, rfl⟩
  · exact ⟨_, cap, rfl⟩

/-- Whether the piece ahead of k is one of dots, or empty. -/
def openAt (ps : List (List UInt8)) : Nat → Bool
  | 0 => false
  | k + 1 => ((ps[k]?).map dots).getD false
theorem openAt_next {ps : List (List UInt8)} {k : Nat} (h : k < ps.length) : openAt ps (k + 1) = dots ps[k] := by simp [openAt, h]
theorem openAt_last (ps : List (List UInt8)) : openAt ps ps.length = (ps.getLast?.map dots).getD false := by
  cases h : ps.length with
  | zero => have : ps = [] := List.eq_nil_of_length_eq_zero h
            subst this; rfl
  | succ n => rw [List.getLast?_eq_getElem?, h]; rfl

/-- What is kept behind k pieces. -/
structure Kept (ps kept : List (List UInt8)) (k N : Nat) : Prop where
  left : normK [] ps = normK kept (ps.drop k)
  len : kept.length ≤ k
  each : ∀ x ∈ kept, x.length ≤ N
theorem Kept.start (ps : List (List UInt8)) (N : Nat) : Kept ps [] 0 N := ⟨by simp, by simp, by simp⟩
theorem drop_cons {α : Type} (l : List α) (k : Nat) (h : k < l.length) : l.drop k = l[k] :: l.drop (k + 1) := List.drop_eq_getElem_cons h
theorem Kept.up {ps kept : List (List UInt8)} {k N : Nat} (h : Kept ps kept k N) (hk : k < ps.length) (hx : ps[k] = [46, 46]) (hn : kept ≠ []) : Kept ps kept.dropLast (k + 1) N := by
  refine ⟨?_, by have := h.len; simp; omega, fun x hx => h.each x (List.dropLast_subset _ hx)⟩
  rw [h.left, drop_cons ps k hk, hx]
  simp only [normK, if_true]
  rw [if_neg hn]
theorem Kept.out {ps kept : List (List UInt8)} {k N : Nat} (h : Kept ps kept k N) (hk : k < ps.length) (hx : ps[k] = [46, 46]) (hn : kept = []) : normK [] ps = none := by
  rw [h.left, drop_cons ps k hk, hx]
  simp only [normK, if_true]
  rw [if_pos hn]
theorem Kept.stay {ps kept : List (List UInt8)} {k N : Nat} (h : Kept ps kept k N) (hk : k < ps.length) (hx : ps[k] ≠ [46, 46]) (hd : dots ps[k] = true) : Kept ps kept (k + 1) N := by
  refine ⟨?_, by have := h.len; omega, h.each⟩
  rw [h.left, drop_cons ps k hk]
  simp only [normK]
  rw [if_neg hx, if_pos hd]
theorem Kept.keep {ps kept : List (List UInt8)} {k N : Nat} (h : Kept ps kept k N) (hk : k < ps.length) (hd : dots ps[k] = false) (hl : ps[k].length ≤ N) : Kept ps (kept ++ [ps[k]]) (k + 1) N := by
  refine ⟨?_, by have := h.len; simp; omega, fun x hx => ?_⟩
  · rw [h.left, drop_cons ps k hk]
    simp only [normK]
    rw [if_neg (by intro e; rw [e] at hd; revert hd; decide), if_neg (by rw [hd]; simp)]
  · rcases List.mem_append.1 hx with h1 | h1
    · exact h.each x h1
    · simp at h1; subst h1; exact hl

theorem ret_norm {a : ByteArray} {l : List UInt8} (h : a.data.toList = l) : Ending.returned (.tuple #[.string a, .int .i64 0]) = .returned (normVal (some l)) := by
  subst h
  simp [normVal, list_bs]
end Go.Proofs.YtgmjkkiahanekaaDoor

/- The walks over PathChain and PathDecodes, for all texts. -/
set_option linter.unusedVariables false
set_option linter.unusedSimpArgs false
namespace Go.Proofs.YtgmjkkiahanekaaDoor
open Go.RowKit Lex

theorem under_self (a : List UInt8) : underB a a = true := by
  unfold underB
  rw [show a.isPrefixOf a = true from by rw [List.isPrefixOf_iff_prefix]; exact List.prefix_refl _]
  simp

theorem under_trans {a b c : List UInt8} (h1 : underB a b = true) (h2 : underB b c = true) : underB a c = true := by
  unfold underB at *
  simp only [Bool.and_eq_true, Bool.or_eq_true, decide_eq_true_eq, beq_iff_eq, List.isPrefixOf_iff_prefix] at *
  obtain ⟨p1, q1⟩ := h1
  obtain ⟨p2, q2⟩ := h2
  refine ⟨p2.trans p1, ?_⟩
  have l1 := p1.length_le
  have l2 := p2.length_le
  by_cases hbc : c.length = b.length
  · have : c = b := List.IsPrefix.eq_of_length p2 hbc
    subst this
    exact q1
  · have hlt : c.length < b.length := by omega
    rcases q2 with (h | h) | h
    · omega
    · left; right
      obtain ⟨r, hr⟩ := p1
      rw [← hr, List.getElem?_append_left hlt]
      exact h
    · exact .inr h

end Go.Proofs.YtgmjkkiahanekaaDoor

/- The walk over PathDecodes, for all texts. -/
set_option linter.unusedVariables false
set_option linter.unusedSimpArgs false
namespace Go.Proofs.YtgmjkkiahanekaaDoor
open Go.RowKit Lex

theorem indexByte_none (l : List UInt8) (c : UInt8) (h : Lib.indexByte l c < 0) : ∀ j (hj : j < l.length), l[j] ≠ c := by
  induction l with
  | nil => intro j hj; simp at hj
  | cons b l ih =>
    simp only [Lib.indexByte] at h
    split at h
    · omega
    · rename_i hb
      intro j hj
      cases j with
      | zero => simpa using hb
      | succ j =>
        have hge := indexByte_ge l c
        have := ih (by
          by_cases hq : (Lib.indexByte l c == -1) = true
          · have : Lib.indexByte l c = -1 := by simpa using hq
            omega
          · rw [if_neg hq] at h; omega) j (by simpa using hj)
        simpa using this

theorem indexByte_found (l : List UInt8) (c : UInt8) (k : Nat) (h : Lib.indexByte l c = (k : Int)) : (∃ hk : k < l.length, l[k] = c) ∧ ∀ j (hj : j < l.length), j < k → l[j] ≠ c := by
  induction l generalizing k with
  | nil => simp [Lib.indexByte] at h
  | cons b l ih =>
    simp only [Lib.indexByte] at h
    split at h
    · rename_i hb
      obtain rfl : k = 0 := by omega
      exact ⟨⟨by simp, by simpa using hb⟩, fun j _ h => absurd h (Nat.not_lt_zero _)⟩
    · rename_i hb
      split at h
      · omega
      · cases k with
        | zero =>
          rename_i hq
          have h1 : Lib.indexByte l c ≠ -1 := by simpa using hq
          have := indexByte_ge l c
          omega
        | succ k =>
          obtain ⟨⟨hk, h1⟩, h2⟩ := ih k (by omega)
          refine ⟨⟨by simpa using hk, by simpa using h1⟩, fun j hj hlt => ?_⟩
          cases j with
          | zero => simpa using hb
          | succ j => simpa using h2 j (by simpa using hj) (by omega)

theorem byte_of {c : UInt8} (h : (c.toNat : Int) = 63) : c = 63 := by
  have h63 : (63 : UInt8).toNat = 63 := rfl
  exact UInt8.toNat_inj.1 (by omega)
theorem bytes_ext {a b : ByteArray} (h : a.data.toList = b.data.toList) : a = b := by
  obtain ⟨⟨a⟩⟩ := a; obtain ⟨⟨b⟩⟩ := b; simp at h; subst h; rfl

theorem cut_at (s : ByteArray) : ∃ k, k ≤ s.size ∧ (∀ j (hj : j < s.size), j < k → s[j] ≠ 63) ∧
    ((∃ h : k < s.size, s[k] = 63 ∧ cutVal (cutB s.data.toList 63) = .tuple #[.string (s.extract 0 k), .string (s.extract (k + 1) s.size), .bool true]) ∨
     (k = s.size ∧ cutVal (cutB s.data.toList 63) = .tuple #[.string (s.extract 0 s.size), .string ⟨#[]⟩, .bool false])) := by
  unfold cutB
  by_cases h : 0 ≤ Lib.indexByte s.data.toList 63
  · obtain ⟨k, hk⟩ := Int.eq_ofNat_of_zero_le h
    obtain ⟨⟨h1, h2⟩, h3⟩ := indexByte_found _ _ _ hk
    have h1' : k < s.size := by rw [← size_list]; exact h1
    refine ⟨k, by omega, fun j hj hlt => h3 j (by rw [size_list]; exact hj) hlt, .inl ⟨h1', h2, ?_⟩⟩
    rw [if_pos h, hk]
    unfold cutVal
    rw [show bs (s.data.toList.take ((k : Int).toNat)) = s.extract 0 k from bytes_ext (by rw [Lib.extract_data]; simp [bs]), show bs (s.data.toList.drop ((k : Int).toNat + 1)) = s.extract (k + 1) s.size from bytes_ext (by rw [Lib.extract_to_end]; simp [bs])]
  · refine ⟨s.size, Nat.le_refl _, fun j hj _ => indexByte_none _ _ (by omega) j (by rw [size_list]; exact hj), .inr ⟨rfl, ?_⟩⟩
    rw [if_neg h]
    unfold cutVal
    rw [show bs s.data.toList = s.extract 0 s.size from bytes_ext (by rw [Lib.extract_to_end]; simp [bs])]

end Go.Proofs.YtgmjkkiahanekaaDoor

/- The contracts of the document's Plain, hex and Escapes, for every text. -/
set_option linter.unusedVariables false
set_option linter.unusedSimpArgs false
namespace Go.Proofs.YtgmjkkiahanekaaDoor
open Go.RowKit Lex

def plainI (z : Int) : Bool := decide (z = 45 ∨ z = 46 ∨ z = 95 ∨ z = 126 ∨ (48 ≤ z ∧ z ≤ 57) ∨ (65 ≤ z ∧ z ≤ 90) ∨ (97 ≤ z ∧ z ≤ 122))
theorem plainB_int (n : UInt8) : plainB n = plainI n.toNat := by
  have key : ∀ n : Fin 256, plainB (UInt8.ofNat n.val) = plainI (UInt8.ofNat n.val).toNat := by decide +kernel
  have h := key ⟨n.toNat, n.toNat_lt⟩
  simpa using h

def escapes (l : List UInt8) : Option (List UInt8) := if l.head? = some 47 then unesc l else none

end Go.Proofs.YtgmjkkiahanekaaDoor

/- The contract of the document's Normal, for every text up to 4 MiB; the walk over PathNormals. -/
set_option linter.unusedVariables false
set_option linter.unusedSimpArgs false
namespace Go.Proofs.YtgmjkkiahanekaaDoor
open Go.RowKit Lex

/-- Between two rounds: R is what is left, last what was cut last. -/
def At (pb : ByteArray) (ps : List (List UInt8)) (f i : Nat) (R : List (List UInt8)) (last : List UInt8) : Prop :=
  (1 ≤ f ∧ f ≤ i ∧ i ≤ pb.size ∧ (∀ j (h : j < pb.size), f ≤ j → j < i → pb[j] ≠ 47) ∧ R = pieces 47 (pb.data.toList.drop f) ∧ ps.getLast? = R.getLast?) ∨ (i = pb.size + 1 ∧ R = [] ∧ ps.getLast? = some last)

theorem At.start {pb : ByteArray} {t : List UInt8} (h : pb.data.toList = 47 :: t) : At pb (pieces 47 t) 1 1 (pieces 47 t) [] := by
  have hs : pb.size = t.length + 1 := by rw [← size_list, h]; rfl
  exact .inl ⟨Nat.le_refl _, Nat.le_refl _, by omega, fun j _ _ _ => by omega, by rw [h]; rfl, rfl⟩
theorem At.next {pb : ByteArray} {ps : List (List UInt8)} {f i : Nat} {R : List (List UInt8)} {last : List UInt8} (h : At pb ps f i R last) (hi : i < pb.size) (hc : pb[i] ≠ 47) : At pb ps f (i + 1) R last := by
  rcases h with ⟨h1, h2, h3, h4, h5, h6⟩ | ⟨h, _⟩
  · refine .inl ⟨h1, by omega, by omega, fun j hj hf hlt => ?_, h5, h6⟩
    by_cases he : j = i
    · subst he; exact hc
    · exact h4 j hj hf (by omega)
  · omega
theorem At.from_le {pb : ByteArray} {ps : List (List UInt8)} {f i : Nat} {R : List (List UInt8)} {last : List UInt8} (h : At pb ps f i R last) (hi : i ≤ pb.size) : f ≤ i := by
  rcases h with ⟨_, h2, _⟩ | ⟨h, _⟩ <;> omega
theorem At.cut {pb : ByteArray} {ps : List (List UInt8)} {f i : Nat} {R : List (List UInt8)} {last : List UInt8} (h : At pb ps f i R last) (hi : i ≤ pb.size) (hc : ∀ h : i < pb.size, pb[i] = 47) :
    ∃ R', R = (pb.extract f i).data.toList :: R' ∧ At pb ps (i + 1) (i + 1) R' (pb.extract f i).data.toList := by
  rcases h with ⟨h1, h2, h3, h4, h5, h6⟩ | ⟨h, _⟩
  · have hx : (pb.extract f i).data.toList = (pb.data.toList.drop f).take (i - f) := Lib.extract_data pb f i
    have hno : ∀ x ∈ (pb.data.toList.drop f).take (i - f), x ≠ 47 := by
      intro x hx
      obtain ⟨j, hj, rfl⟩ := List.getElem_of_mem hx
      have hj1 : j < i - f := by rw [List.length_take] at hj; omega
      have hj2 : f + j < pb.size := by rw [List.length_take, List.length_drop, size_list] at hj; omega
      have := h4 (f + j) hj2 (by omega) (by omega)
      rw [List.getElem_take, List.getElem_drop]
      exact this
    rw [hx]
    by_cases hlt : i < pb.size
    · refine ⟨pieces 47 (pb.data.toList.drop (i + 1)), ?_, .inl ⟨by omega, Nat.le_refl _, by omega, fun j _ _ _ => by omega, rfl, ?_⟩⟩
      · have e : pb.data.toList.drop f = (pb.data.toList.drop f).take (i - f) ++ 47 :: pb.data.toList.drop (i + 1) := by
          have h1 : (pb.data.toList.drop f).drop (i - f) = 47 :: pb.data.toList.drop (i + 1) := by
            rw [List.drop_drop, show f + (i - f) = i by omega, drop_at pb i hlt, hc hlt]
          rw [← h1, List.take_append_drop]
        rw [h5]
        conv => lhs; rw [e]
        rw [pieces_at _ hno]
      · rw [h6, h5]
        have e : pb.data.toList.drop f = (pb.data.toList.drop f).take (i - f) ++ 47 :: pb.data.toList.drop (i + 1) := by
          have h1 : (pb.data.toList.drop f).drop (i - f) = 47 :: pb.data.toList.drop (i + 1) := by
            rw [List.drop_drop, show f + (i - f) = i by omega, drop_at pb i hlt, hc hlt]
          rw [← h1, List.take_append_drop]
        rw [e, pieces_at _ hno]
        have hne := pieces_ne 47 (pb.data.toList.drop (i + 1))
        generalize pieces 47 (pb.data.toList.drop (i + 1)) = q at *
        cases q with
        | nil => exact absurd rfl hne
        | cons a q => rfl
    · have ht : (pb.data.toList.drop f).take (i - f) = pb.data.toList.drop f := List.take_of_length_le (by rw [List.length_drop, size_list]; omega)
      rw [ht] at hno ⊢
      have hR : R = [pb.data.toList.drop f] := by rw [h5]; exact pieces_no hno
      exact ⟨[], hR, .inr ⟨by omega, rfl, by rw [h6, hR]; rfl⟩⟩
  · omega

structure Held (pb : ByteArray) (ps kept : List (List UInt8)) (f i : Nat) (last : List UInt8) : Prop where
  at' : ∃ R, At pb ps f i R last ∧ normK [] ps = normK kept R
  len : kept.length ≤ i
  each : ∀ x ∈ kept, x.length ≤ pb.size
theorem Held.start {pb : ByteArray} {t : List UInt8} (h : pb.data.toList = 47 :: t) : Held pb (pieces 47 t) [] 1 1 [] := ⟨⟨_, At.start h, rfl⟩, by simp, by simp⟩
theorem Held.next {pb : ByteArray} {ps kept : List (List UInt8)} {f i : Nat} {last : List UInt8} (h : Held pb ps kept f i last) (hi : i < pb.size) (hc : pb[i] ≠ 47) : Held pb ps kept f (i + 1) last := by
  obtain ⟨⟨R, h1, h2⟩, h3, h4⟩ := h
  exact ⟨⟨R, h1.next hi hc, h2⟩, by omega, h4⟩
theorem Held.from_le {pb : ByteArray} {ps kept : List (List UInt8)} {f i : Nat} {last : List UInt8} (h : Held pb ps kept f i last) (hi : i ≤ pb.size) : f ≤ i := by
  obtain ⟨⟨R, h1, h2⟩, h3, h4⟩ := h
  exact h1.from_le hi
section
variable {pb : ByteArray} {ps kept : List (List UInt8)} {f i : Nat} {last x : List UInt8} (h : Held pb ps kept f i last) (hi : i ≤ pb.size) (hc : ∀ h : i < pb.size, pb[i] = 47) (hx : (pb.extract f i).data.toList = x)
include h hi hc hx
theorem Held.out (h2 : x = [46, 46]) (hn : kept = []) : normK [] ps = none := by
  obtain ⟨⟨R, h1, hR⟩, h3, h4⟩ := h
  obtain ⟨R', rfl, h5⟩ := h1.cut hi hc
  rw [hR, hx, h2, hn]; rfl
theorem Held.up (h2 : x = [46, 46]) (hn : kept ≠ []) : Held pb ps kept.dropLast (i + 1) (i + 1) x := by
  obtain ⟨⟨R, h1, hR⟩, h3, h4⟩ := h
  obtain ⟨R', rfl, h5⟩ := h1.cut hi hc
  rw [hx] at h5 hR
  refine ⟨⟨R', h5, ?_⟩, by simp; omega, fun y hy => h4 y (List.dropLast_subset _ hy)⟩
  rw [hR, h2]; simp only [normK, if_true]; rw [if_neg hn]
theorem Held.stay (h2 : x ≠ [46, 46]) (hd : dots x = true) : Held pb ps kept (i + 1) (i + 1) x := by
  obtain ⟨⟨R, h1, hR⟩, h3, h4⟩ := h
  obtain ⟨R', rfl, h5⟩ := h1.cut hi hc
  rw [hx] at h5 hR
  refine ⟨⟨R', h5, ?_⟩, by omega, h4⟩
  rw [hR]; simp only [normK]; rw [if_neg h2, if_pos hd]
theorem Held.keep (hd : dots x = false) : Held pb ps (kept ++ [x]) (i + 1) (i + 1) x := by
  obtain ⟨⟨R, h1, hR⟩, h3, h4⟩ := h
  obtain ⟨R', rfl, h5⟩ := h1.cut hi hc
  rw [hx] at h5 hR
  refine ⟨⟨R', h5, ?_⟩, by simp; omega, fun y hy => ?_⟩
  · rw [hR]; simp only [normK]
    rw [if_neg (by intro e; rw [e] at hd; revert hd; decide), if_neg (by rw [hd]; simp)]
  · rcases List.mem_append.1 hy with hy | hy
    · exact h4 y hy
    · simp at hy; subst hy
      rw [← hx, Lib.extract_data, List.length_take, List.length_drop, size_list]; omega
end
theorem Held.done {pb : ByteArray} {ps kept : List (List UInt8)} {f i : Nat} {last : List UInt8} (h : Held pb ps kept f i last) (hi : ¬ i ≤ pb.size) : normK [] ps = some kept ∧ ps.getLast? = some last ∧ i = pb.size + 1 := by
  obtain ⟨⟨R, h1, hR⟩, h3, h4⟩ := h
  rcases h1 with ⟨_, _, h, _⟩ | ⟨h, rfl, h2⟩
  · exact absurd h hi
  · exact ⟨by rw [hR]; rfl, h2, h⟩

theorem unesc_cons_plain {c : UInt8} {r : List UInt8} (h : badU c = false) (h' : c ≠ 37) : unesc (c :: r) = (unesc r).map (c :: ·) := walkE_plain h h'
theorem unesc_head {l p : List UInt8} (hu : unesc l = some p) (h : l.head? = some 47) : p.head? = some 47 := by
  cases l with
  | nil => cases h
  | cons a r =>
    simp at h; subst h
    rw [unesc_cons_plain (by decide) (by decide)] at hu
    cases hr : unesc r with
    | none => rw [hr] at hu; cases hu
    | some q => rw [hr] at hu; simp at hu; subst hu; rfl
theorem encU_head (n : UInt8) : (encU n).head? ≠ some 47 ∧ encU n ≠ [] := by
  have key : ∀ n : Fin 256, (encU (UInt8.ofNat n.val)).head? ≠ some 47 ∧ encU (UInt8.ofNat n.val) ≠ [] := by decide +kernel
  have h := key ⟨n.toNat, n.toNat_lt⟩
  simpa using h
theorem unesc_head' {l p : List UInt8} (hu : unesc l = some p) (h : p.head? = some 47) : l.head? = some 47 := by
  induction l using walkE_ind generalizing p with
  | h0 => simp [unesc, walkE_nil] at hu; subst hu; cases h
  | h1 c r ih hc =>
    cases hb : badU c with
    | true => unfold unesc at hu; rw [walkE_bad hb] at hu; cases hu
    | false =>
      rw [unesc_cons_plain hb hc] at hu
      cases hr : unesc r with
      | none => rw [hr] at hu; cases hu
      | some q => rw [hr] at hu; simp at hu; subst hu; exact h
  | h2 a b r ih =>
    unfold unesc at hu
    cases hp : pair a b with
    | none => rw [walkE_none hp] at hu; cases hu
    | some n =>
      rw [walkE_some (by decide) hp] at hu
      cases hr : walkE badU encU r with
      | none => rw [hr] at hu; cases hu
      | some q =>
        rw [hr] at hu; simp at hu; subst hu
        obtain ⟨e1, e2⟩ := encU_head n
        cases he : encU n with
        | nil => exact absurd he e2
        | cons x y => rw [he] at h e1; exact absurd h e1
  | h3 r hr => unfold unesc at hu; rw [walkE_short hr] at hu; cases hu
theorem escapes_some {l p : List UInt8} (hu : escapes l = some p) : ∃ t, p = 47 :: t ∧ p.length ≤ l.length := by
  unfold escapes at hu
  split at hu
  · rename_i h
    have h1 := unesc_head hu h
    cases p with
    | nil => cases h1
    | cons a t => simp at h1; subst h1; exact ⟨t, rfl, unesc_length hu⟩
  · cases hu

/-- Each piece behind a slash. -/
def slashed (kept : List (List UInt8)) : List UInt8 := kept.flatMap fun x => 47 :: x
theorem slashed_join : ∀ {kept : List (List UInt8)}, kept ≠ [] → slashed kept = 47 :: Lib.join kept [47] := by
  intro kept
  induction kept with
  | nil => intro h; exact absurd rfl h
  | cons x r ih =>
    intro _
    cases r with
    | nil => simp [slashed, Lib.join]
    | cons y r =>
      have := ih (by simp)
      simp only [slashed, List.flatMap_cons] at this ⊢
      rw [this]
      simp [Lib.join, List.intercalate, List.intersperse]
theorem slashed_take (kept : List (List UInt8)) (j : Nat) (h : j < kept.length) : slashed (kept.take (j + 1)) = slashed (kept.take j) ++ 47 :: kept[j] := by
  unfold slashed
  rw [List.take_succ_eq_append_getElem h, List.flatMap_append]
  simp only [List.flatMap_cons, List.flatMap_nil, List.append_nil]
theorem slashed_length (kept : List (List UInt8)) (N : Nat) (h : ∀ x ∈ kept, x.length ≤ N) : (slashed kept).length ≤ kept.length * (N + 1) := by
  induction kept with
  | nil => simp [slashed]
  | cons x r ih =>
    have h1 := ih (fun y hy => h y (by simp [hy]))
    have h2 := h x (by simp)
    have h3 : (slashed (x :: r)).length = x.length + 1 + (slashed r).length := by simp [slashed]; omega
    rw [h3, List.length_cons, Nat.add_mul, Nat.one_mul]; omega

theorem ret_norm' {a : ByteArray} {l : List UInt8} (h : a.data.toList = l) : Ending.returned (.tuple #[.string a, .int .i64 0]) = .returned (normVal (some l)) := ret_norm h
theorem dots_cases {x : List UInt8} (hd : dots x = true) (h2 : x ≠ [46, 46]) : x = [] ∨ x = [46] := by
  simp [dots] at hd
  rcases hd with (h | h) | h
  · exact .inl h
  · exact .inr h
  · exact absurd h h2

end Go.Proofs.YtgmjkkiahanekaaDoor

/- The contracts of lex.Elements, the document's Elements and Same; the walk over LexLists. -/
set_option linter.unusedVariables false
set_option linter.unusedSimpArgs false
namespace Go.Proofs.YtgmjkkiahanekaaDoor
open Go.RowKit Lex

def elemsOf (ps : List (List UInt8)) : List (List UInt8) := (ps.map trim).filter fun x => !x.isEmpty
def elems (l : List UInt8) : List (List UInt8) := elemsOf (pieces 44 l)
theorem elemsOf_nil : elemsOf [] = [] := rfl
theorem elemsOf_skip {x : List UInt8} {r : List (List UInt8)} (h : trim x = []) : elemsOf (x :: r) = elemsOf r := by simp [elemsOf, h]
theorem elemsOf_take {x : List UInt8} {r : List (List UInt8)} (h : trim x ≠ []) : elemsOf (x :: r) = trim x :: elemsOf r := by
  have : (trim x).isEmpty = false := by cases hq : trim x with
    | nil => exact absurd hq h
    | cons => rfl
  simp [elemsOf, this]
theorem elemsOf_append (a b : List (List UInt8)) : elemsOf (a ++ b) = elemsOf a ++ elemsOf b := by simp [elemsOf]
theorem elemsOf_length (ps : List (List UInt8)) : (elemsOf ps).length ≤ ps.length := by
  unfold elemsOf
  exact Nat.le_trans (List.length_filter_le _ _) (by simp)
theorem elems_mem {l : List UInt8} : ∀ x ∈ elems l, x ≠ [] ∧ trim x = x ∧ (∀ c ∈ x, c ≠ 44) ∧ x.length ≤ l.length := by
  intro x hx
  unfold elems elemsOf at hx
  rw [List.mem_filter] at hx
  obtain ⟨h1, h2⟩ := hx
  obtain ⟨p, hp, rfl⟩ := List.mem_map.1 h1
  obtain ⟨h3, h4⟩ := pieces_mem 44 l p hp
  refine ⟨by intro e; rw [e] at h2; simp at h2, trim_trim p, fun c hc => ?_, Nat.le_trans (trim_length p) h3⟩
  obtain ⟨a, m, b, rfl, ha, hb, h5, h6⟩ := trim_parts p
  rw [trim_mid ha hb h5 h6] at hc
  exact h4 c (by simp [hc])

/-- A row of the call's own, in a later world. -/
theorem own_below {w w' : World} {base : Nat} {e : TypeId} {z n : Nat} {v : Value} {xs : List Value} (h : w.ownsRow base e z v n xs) (hb : Below w.heap.size w w') : w'.ownsRow base e z v n xs :=
  h.kept (row := none) ⟨hb.os, hb.tape, hb.output, hb.size, fun k hk _ => hb.block k hk⟩ (by
    cases v.ownBlock with
    | none => exact .inl rfl
    | some k => exact .inr (by simp))

theorem own_from {w : World} {base base' : Nat} {e : TypeId} {z n : Nat} {v : Value} {xs : List Value} (h : w.ownsRow base e z v n xs) (hb : base' ≤ base) : w.ownsRow base' e z v n xs := by
  obtain ⟨h1, h2⟩ := h
  refine ⟨h1, ?_⟩
  rcases h2 with h2 | ⟨g, cap, cur, he, a, rest⟩
  · exact .inl h2
  · exact .inr ⟨g, cap, cur, he, by omega, rest⟩

/-- What is still to come. -/
structure Coming (ps kept : List (List UInt8)) (R : List (List UInt8)) (k : Nat) : Prop where
  all : elemsOf ps = kept ++ elemsOf R
  len : kept.length ≤ k
theorem Coming.skip {ps kept R : List (List UInt8)} {x : List UInt8} {k : Nat} (h : Coming ps kept (x :: R) k) (hx : trim x = []) : Coming ps kept R (k + 1) :=
  ⟨by rw [h.all, elemsOf_skip hx], by have := h.len; omega⟩
theorem Coming.take {ps kept R : List (List UInt8)} {x : List UInt8} {k : Nat} (h : Coming ps kept (x :: R) k) (hx : trim x ≠ []) : Coming ps (kept ++ [trim x]) R (k + 1) :=
  ⟨by rw [h.all, elemsOf_take hx]; simp, by have := h.len; simp; omega⟩

set_option maxRecDepth 100000 in
set_option maxHeartbeats 4000000 in
theorem elements_c (s : ByteArray) (m : Int) (w : World) (hs : s.size ≤ 8388608) (hm : w.cell? ⟨0, 0, none⟩ = some (.int .i64 m)) :
    Calls Tryd.prog 59 #[.string s] w fun e w' => ∃ v, e = .returned v ∧ w'.ownsRow w.heap.size 9 1 v (elems s.data.toList).length (strs (elems s.data.toList)) ∧ Below w.heap.size w w' := by
  obtain ⟨i0, hi, hz0, hz1, hz2⟩ := info_parts info_str
  have SP := fun (w : World) (h : w.cell? ⟨0, 0, none⟩ = some (.int .i64 m)) => Lib.hid (split_c s 44 m w (by omega) h)
  have hpc := pieces_length 44 s.data.toList
  have hpm := pieces_mem 44 s.data.toList
  rw [size_list] at hpc hpm
  unfold elems
  generalize pieces 44 s.data.toList = ps at *
  have PM := Lib.hid hpm
  clear hpm
  go_enter Tryd.func59, Tryd.ntmps59
  go_wp2_with fail
  refine (SP _ hm).out.mono ?_
  rintro e w2 ⟨rfl, hw2⟩
  rw [hw2]
  clear hw2
  have b1 := (Below.refl w.heap.size w).alloc (Nat.le_refl _) (.cells (strs ps).toArray 9)
  have hblk : (w.alloc (.cells (strs ps).toArray 9)).heap[w.heap.size]? = some (.cells (strs ps).toArray 9 (0, 0)) := heap_alloc_new w _
  have hsz1 : w.heap.size + 1 ≤ (w.alloc (.cells (strs ps).toArray 9)).heap.size := by simp
  have BL := Lib.hid hblk
  clear hblk hm
  go_wp2
  go_loopw [3, 9] (fun v i wr => ∃ (k : Nat) (kept : List (List UInt8)), k ≤ ps.length ∧ i = .int .i64 k ∧ wr.ownsRow (w.heap.size + 1) 9 1 v kept.length (strs kept) ∧ Below w.heap.size w wr ∧ w.heap.size + 1 ≤ wr.heap.size ∧ wr.heap[w.heap.size]? = some (.cells (strs ps).toArray 9 (0, 0)) ∧ Coming ps kept (ps.drop k) k) (fun _ i _ => ps.length - (intOf i).toNat)
  case atStart => exact ⟨0, [], Nat.zero_le _, rfl, World.ownsRow_nil _ _ _ _, b1, hsz1, BL.out, ⟨by simp, by simp⟩⟩
  case round =>
    clear b1 hsz1
    obtain ⟨k, kept, hk, rfl, hown, hB, hz, hblk, hC⟩ := hrel
    have HO := Lib.hid hown
    have HC := Lib.hid hC
    have BL := Lib.hid hblk
    have klen := hC.len
    clear hown hC hblk
    by_cases hlt : k < ps.length
    · have hc : wr.cell? ⟨w.heap.size, k, none⟩ = some (.string (bs ps[k])) := by
        have := cell_of_row wr w.heap.size k (strs ps).toArray 9 (0, 0) BL.out
        rw [this]
        simp [strs, hlt]
      have hxl := (PM.out ps[k] (List.getElem_mem hlt)).1
      have hdc := drop_cons ps k hlt
      obtain ⟨x, hx⟩ : ∃ x, ps[k] = x := ⟨_, rfl⟩
      rw [hx] at hc hxl hdc
      rw [hdc] at HC
      have K := fun w => Lib.hid (trim_c (bs x) w (by show x.length ≤ _; omega))
      rw [bs_list] at K
      clear hx hdc
      by_cases ht : trim x = []
      · have HN := Lib.hid (HC.out.skip ht)
        rw [ht] at K
        clear ht
        go_wp2_with fail
        refine (K _).out.mono ?_
        rintro e w3 ⟨rfl, hb3⟩
        have HO3 := Lib.hid (own_below HO.out hb3)
        have BL3 := Lib.hid ((hb3.block w.heap.size (by omega)).trans BL.out)
        have hB3 := hB.trans (hb3.mono (by omega))
        have hz3 : w.heap.size + 1 ≤ w3.heap.size := by have := hb3.size; omega
        clear hb3
        go_wp2
        go_roundw
        case rel => exact ⟨k + 1, kept, by omega, by go_num, HO3.out, hB3, hz3, BL3.out, HN.out⟩
        case measure => simp [intOf]; omega
      · have HN := Lib.hid (HC.out.take ht)
        have f3 : (trim x).isEmpty = false := by
          cases hq : trim x with
          | nil => exact absurd hq ht
          | cons => rfl
        clear ht
        generalize trim x = y at *
        go_wp2_with fail
        refine (K _).out.mono ?_
        rintro e w3 ⟨rfl, hb3⟩
        have HO3 := Lib.hid (own_below HO.out hb3)
        have BL3 := Lib.hid ((hb3.block w.heap.size (by omega)).trans BL.out)
        have hB3 := hB.trans (hb3.mono (by omega))
        have hz3 : w.heap.size + 1 ≤ w3.heap.size := by have := hb3.size; omega
        clear hb3
        go_wp2_with (at_builtin; refine wpList_append_own _ rfl (.tmp 17) (.tmp 19) 22 rfl (w.heap.size + 1) 9 i0 (.string ByteArray.empty) 1 16 Tryd.underlying22 hi hz0 hz1 hz2 rfl (by decide) _ kept.length _ rfl (HO3.out.alloc _) ⟨w3.heap.size, 0, none⟩ 1 1 [.string (bs y)] rfl rfl ?_ ?_ ?_ ?_ ?_ ?_)
        any_goals first | exact cell_one_new _ _ _ | (intro u hu; simp at hu; subst hu; rfl) | (show Value.oneCell' _ = true; rfl) | (unfold maxLen; omega) | omega | (simp; omega)
        intro v' w4 hown' hgrow _
        have e1 : strs kept ++ [.string (bs y)] = strs (kept ++ [y]) := by simp [strs]
        rw [e1] at hown'
        have HO' := Lib.hid hown'
        have hB' : Below w.heap.size w w4 := (hB3.alloc (by omega) _).grown hgrow (by simp; omega) (fun g hg => by have := (HO3.out.lt g hg).1; omega)
        have hz' : w.heap.size + 1 ≤ w4.heap.size := by have := hgrow.size; simp at this; omega
        have hblk' := (hgrow.block w.heap.size (by simp; omega) (fun q => by have := (HO3.out.lt w.heap.size q.symm).1; omega)).trans ((Below.heap_alloc w3 _ w.heap.size (by omega)).trans BL3.out)
        have BL' := Lib.hid hblk'
        clear hown' hgrow e1 hblk'
        go_wp2
        go_roundw
        case rel => exact ⟨k + 1, kept ++ [y], by omega, by go_num, by rw [List.length_append]; exact HO'.out, hB', hz', BL'.out, HN.out⟩
        case measure => simp [intOf]; omega
    · have hfin : elemsOf ps = kept := by rw [HC.out.all, List.drop_of_length_le (by omega), elemsOf_nil, List.append_nil]
      have ho := HO.out
      have HF := Lib.hid hfin
      clear hfin
      go_wp2
      go_ret
      exact ⟨_, rfl, by rw [HF.out]; exact own_from ho (by omega), hB⟩

/-! ### the document's -/
def AtC (pb : ByteArray) (f i : Nat) (R : List (List UInt8)) : Prop :=
  (f ≤ i ∧ i ≤ pb.size ∧ (∀ j (h : j < pb.size), f ≤ j → j < i → pb[j] ≠ 44) ∧ R = pieces 44 (pb.data.toList.drop f)) ∨ (i = pb.size + 1 ∧ R = [])
theorem AtC.start (pb : ByteArray) : AtC pb 0 0 (pieces 44 pb.data.toList) := .inl ⟨Nat.le_refl _, Nat.zero_le _, fun j _ _ h => absurd h (Nat.not_lt_zero _), rfl⟩
theorem AtC.next {pb : ByteArray} {f i : Nat} {R : List (List UInt8)} (h : AtC pb f i R) (hi : i < pb.size) (hc : pb[i] ≠ 44) : AtC pb f (i + 1) R := by
  rcases h with ⟨h2, h3, h4, h5⟩ | ⟨h, _⟩
  · refine .inl ⟨by omega, by omega, fun j hj hf hlt => ?_, h5⟩
    by_cases he : j = i
    · subst he; exact hc
    · exact h4 j hj hf (by omega)
  · omega
theorem AtC.from_le {pb : ByteArray} {f i : Nat} {R : List (List UInt8)} (h : AtC pb f i R) (hi : i ≤ pb.size) : f ≤ i := by
  rcases h with ⟨h2, _⟩ | ⟨h, _⟩ <;> omega
theorem AtC.done {pb : ByteArray} {f i : Nat} {R : List (List UInt8)} (h : AtC pb f i R) (hi : ¬ i ≤ pb.size) : R = [] := by
  rcases h with ⟨_, h2, _⟩ | ⟨_, h⟩
  · exact absurd h2 hi
  · exact h
theorem AtC.cut {pb : ByteArray} {f i : Nat} {R : List (List UInt8)} (h : AtC pb f i R) (hi : i ≤ pb.size) (hc : ∀ h : i < pb.size, pb[i] = 44) :
    ∃ R', R = (pb.extract f i).data.toList :: R' ∧ AtC pb (i + 1) (i + 1) R' := by
  rcases h with ⟨h2, h3, h4, h5⟩ | ⟨h, _⟩
  · have hx : (pb.extract f i).data.toList = (pb.data.toList.drop f).take (i - f) := Lib.extract_data pb f i
    have hno : ∀ x ∈ (pb.data.toList.drop f).take (i - f), x ≠ 44 := by
      intro x hx
      obtain ⟨j, hj, rfl⟩ := List.getElem_of_mem hx
      have hj1 : j < i - f := by rw [List.length_take] at hj; omega
      have hj2 : f + j < pb.size := by rw [List.length_take, List.length_drop, size_list] at hj; omega
      have := h4 (f + j) hj2 (by omega) (by omega)
      rw [List.getElem_take, List.getElem_drop]
      exact this
    rw [hx]
    by_cases hlt : i < pb.size
    · refine ⟨pieces 44 (pb.data.toList.drop (i + 1)), ?_, .inl ⟨Nat.le_refl _, by omega, fun j _ _ _ => by omega, rfl⟩⟩
      have e : pb.data.toList.drop f = (pb.data.toList.drop f).take (i - f) ++ 44 :: pb.data.toList.drop (i + 1) := by
        have h1 : (pb.data.toList.drop f).drop (i - f) = 44 :: pb.data.toList.drop (i + 1) := by
          rw [List.drop_drop, show f + (i - f) = i by omega, drop_at pb i hlt, hc hlt]
        rw [← h1, List.take_append_drop]
      rw [h5]
      conv => lhs; rw [e]
      rw [pieces_at _ hno]
    · have ht : (pb.data.toList.drop f).take (i - f) = pb.data.toList.drop f := List.take_of_length_le (by rw [List.length_drop, size_list]; omega)
      rw [ht] at hno ⊢
      exact ⟨[], by rw [h5]; exact pieces_no hno, .inr ⟨by omega, rfl⟩⟩
  · omega

end Go.Proofs.YtgmjkkiahanekaaDoor

/- Plain words of layer 7 over lists of fields: the values of a name, Get, Elements, Has, Remove, Set, Strip, Check; no program in sight. -/
set_option linter.unusedVariables false
set_option linter.unusedSimpArgs false
namespace Go.Proofs.YtgmjkkiahanekaaDoor
open Go.RowKit Lex

abbrev Fd := List UInt8 × List UInt8
def valuesF (l : List Fd) (name : List UInt8) : List (List UInt8) := (l.filter fun f => alike f.1 name).map (·.2)
def getF (l : List Fd) (name : List UInt8) : List UInt8 × Nat := ((valuesF l name).headD [], (valuesF l name).length)
def elementsF (l : List Fd) (name : List UInt8) : List (List UInt8) := (valuesF l name).flatMap elems
def hasF (l : List Fd) (name e : List UInt8) : Bool := (elementsF l name).any fun x => alike x e
def removeF (l : List Fd) (name : List UInt8) : List Fd := l.filter fun f => !alike f.1 name
def setF (l : List Fd) (name value : List UInt8) : List Fd := removeF l name ++ [(name, value)]
def conn : List UInt8 := [67, 111, 110, 110, 101, 99, 116, 105, 111, 110]
def fixedN : List (List UInt8) := [conn, [75, 101, 101, 112, 45, 65, 108, 105, 118, 101], [80, 114, 111, 120, 121, 45, 67, 111, 110, 110, 101, 99, 116, 105, 111, 110], [84, 69], [84, 114, 97, 105, 108, 101, 114], [84, 114, 97, 110, 115, 102, 101, 114, 45, 69, 110, 99, 111, 100, 105, 110, 103], [85, 112, 103, 114, 97, 100, 101]]
def namesF (l : List Fd) : List (List UInt8) := fixedN ++ elementsF l conn
def stripF (l : List Fd) : List Fd := l.filter fun f => !(namesF l).any fun n => alike f.1 n
def badF (f : Fd) : Bool := !token f.1 || !value f.2 || decide (512 < f.1.length + f.2.length)
def checkF (l : List Fd) : Int := if l.any badF then 70 else if 32 < l.length then 71 else 0

theorem alike_comm (a b : List UInt8) : alike a b = alike b a := by
  unfold alike; rw [Bool.eq_iff_iff, beq_iff_eq, beq_iff_eq]; exact eq_comm
theorem alike_self (a : List UInt8) : alike a a = true := by unfold alike; simp
theorem alike_low {a b : List UInt8} (h : lower a = lower b) (c : List UInt8) : alike c a = alike c b := by unfold alike; rw [h]
theorem valuesF_low {a b : List UInt8} (h : lower a = lower b) (l : List Fd) : valuesF l a = valuesF l b := by
  unfold valuesF; congr 2; funext f; exact alike_low h f.1

theorem valuesF_snoc (l : List Fd) (f : Fd) (name : List UInt8) : valuesF (l ++ [f]) name = valuesF l name ++ (if alike f.1 name then [f.2] else []) := by
  unfold valuesF; rw [List.filter_append, List.map_append]
  congr 1
  by_cases h : alike f.1 name = true
  · simp [h]
  · simp [h]
theorem valuesF_take (l : List Fd) (k : Nat) (h : k < l.length) (name : List UInt8) : valuesF (l.take (k + 1)) name = valuesF (l.take k) name ++ (if alike l[k].1 name then [l[k].2] else []) := by
  rw [List.take_succ_eq_append_getElem h, valuesF_snoc]
theorem valuesF_length (l : List Fd) (name : List UInt8) : (valuesF l name).length ≤ l.length := by
  unfold valuesF; rw [List.length_map]; exact List.length_filter_le _ _
theorem valuesF_prefix (l : List Fd) (k : Nat) (name : List UInt8) : valuesF (l.take k) name <+: valuesF l name := by
  conv => rhs; rw [← List.take_append_drop k l]
  unfold valuesF
  rw [List.filter_append, List.map_append]
  exact List.prefix_append _ _
theorem valuesF_mem {l : List Fd} {name v : List UInt8} (h : v ∈ valuesF l name) : ∃ f ∈ l, f.2 = v := by
  unfold valuesF at h
  obtain ⟨f, hf, rfl⟩ := List.mem_map.1 h
  exact ⟨f, (List.mem_filter.1 hf).1, rfl⟩

theorem removeF_snoc (l : List Fd) (f : Fd) (name : List UInt8) : removeF (l ++ [f]) name = removeF l name ++ (if alike f.1 name then [] else [f]) := by
  unfold removeF; rw [List.filter_append]
  congr 1
  by_cases h : alike f.1 name = true
  · simp [h]
  · simp [h]
theorem removeF_take (l : List Fd) (k : Nat) (h : k < l.length) (name : List UInt8) : removeF (l.take (k + 1)) name = removeF (l.take k) name ++ (if alike l[k].1 name then [] else [l[k]]) := by
  rw [List.take_succ_eq_append_getElem h, removeF_snoc]
theorem removeF_length (l : List Fd) (name : List UInt8) : (removeF l name).length ≤ l.length := List.length_filter_le _ _
theorem removeF_mem {l : List Fd} {name : List UInt8} {f : Fd} (h : f ∈ removeF l name) : f ∈ l := (List.mem_filter.1 h).1
theorem removeF_low {a b : List UInt8} (h : lower a = lower b) (l : List Fd) : removeF l a = removeF l b := by
  unfold removeF; congr 1; funext f; rw [alike_low h f.1]
/-- Removing one name after the other. -/
theorem removeF_all (l : List Fd) (ns : List (List UInt8)) : ns.foldl removeF l = l.filter fun f => !ns.any fun n => alike f.1 n := by
  induction ns generalizing l with
  | nil => exact (List.filter_eq_self.2 fun _ _ => rfl).symm
  | cons n ns ih =>
    rw [List.foldl_cons, ih]
    unfold removeF
    rw [List.filter_filter]
    congr 1
    funext f
    rw [List.any_cons, Bool.not_or, Bool.and_comm]
theorem stripF_fold (l : List Fd) : (namesF l).foldl removeF l = stripF l := removeF_all l _

theorem checkF_bad {l : List Fd} {k : Nat} (h : k < l.length) (hb : badF l[k] = true) : checkF l = 70 := by
  unfold checkF; rw [if_pos (List.any_eq_true.2 ⟨_, List.getElem_mem h, hb⟩)]
theorem checkF_many {l : List Fd} (h : ∀ f ∈ l, badF f = false) (hn : 32 < l.length) : checkF l = 71 := by
  unfold checkF
  rw [if_neg (by rw [List.any_eq_true]; rintro ⟨f, hf, hb⟩; rw [h f hf] at hb; cases hb), if_pos hn]
theorem checkF_ok {l : List Fd} (h : ∀ f ∈ l, badF f = false) (hn : ¬ 32 < l.length) : checkF l = 0 := by
  unfold checkF
  rw [if_neg (by rw [List.any_eq_true]; rintro ⟨f, hf, hb⟩; rw [h f hf] at hb; cases hb), if_neg hn]
theorem all_take_good {l : List Fd} {k : Nat} (h : k < l.length) (ha : ∀ f ∈ l.take k, badF f = false) (hb : badF l[k] = false) : ∀ f ∈ l.take (k + 1), badF f = false := by
  intro f hf
  rw [List.take_succ_eq_append_getElem h, List.mem_append] at hf
  rcases hf with hf | hf
  · exact ha f hf
  · simp at hf; subst hf; exact hb

/-- A list of fields, as its two cells a field lie in a world. -/
def Flds (w : World) (A : Option Addr) (l : List Fd) : Prop := ∀ j (h : j < l.length), ∃ (g o : Nat), A = some ⟨g, o, none⟩ ∧ w.cell? ⟨g, o + j * 2, none⟩ = some (.string (bs l[j].1)) ∧ w.cell? ⟨g, o + j * 2 + 1, none⟩ = some (.string (bs l[j].2))
theorem Flds.below {w w' : World} {A : Option Addr} {l : List Fd} (h : Flds w A l) (hb : Below w.heap.size w w') : Flds w' A l := by
  intro j hj
  obtain ⟨g, o, e, c1, c2⟩ := h j hj
  exact ⟨g, o, e, (hb.cell (World.block_lt_of_cell? w _ c1)).trans c1, (hb.cell (World.block_lt_of_cell? w _ c2)).trans c2⟩
theorem Flds.nil (w : World) (A : Option Addr) : Flds w A [] := fun j hj => absurd hj (Nat.not_lt_zero _)
def fvals (l : List Fd) : List Value := l.flatMap fun f => [.string (bs f.1), .string (bs f.2)]
theorem fvals_append (a b : List Fd) : fvals (a ++ b) = fvals a ++ fvals b := by unfold fvals; rw [List.flatMap_append]
theorem fvals_at : ∀ (l : List Fd) (k : Nat) (h : k < l.length), (fvals l)[k * 2]? = some (.string (bs l[k].1)) ∧ (fvals l)[k * 2 + 1]? = some (.string (bs l[k].2))
  | f :: l, 0, _ => ⟨rfl, rfl⟩
  | f :: l, k + 1, h => by
    have := fvals_at l k (by simpa using h)
    have e1 : fvals (f :: l) = .string (bs f.1) :: .string (bs f.2) :: fvals l := rfl
    rw [e1, show (k + 1) * 2 = k * 2 + 1 + 1 from by omega]
    exact this
theorem flds_own {w : World} {base : Nat} {e : TypeId} {A : Option Addr} {cap : Nat} {l : List Fd} (h : w.ownsRow base e 2 (.slice A l.length cap) l.length (fvals l)) : Flds w A l := by
  intro j hj
  obtain ⟨h1, h2⟩ := fvals_at l j hj
  rcases h.2 with ⟨_, h0⟩ | ⟨g, cap', cur, he, _, _, _⟩
  · omega
  · injection he with e1 e2 e3
    subst e1
    have a1 := World.ownsRow.cells h (g := g) rfl _ _ h1
    have a2 := World.ownsRow.cells h (g := g) rfl _ _ h2
    have ad : ∀ k, (⟨g, 0, none⟩ : Addr).add k = ⟨g, 0 + k, none⟩ := fun k => by unfold Addr.add; split <;> simp_all
    rw [ad] at a1 a2
    exact ⟨g, 0, rfl, a1, by rw [Nat.add_assoc]; exact a2⟩
end Go.Proofs.YtgmjkkiahanekaaDoor

