/- Plain words of layer 15 over lists of bytes: how well a domain fits a host, the best of a list of domains; what RouteLongest asks of them; no program in sight. -/
import Derived.Test.YthaphfedogmliaaLexA
set_option linter.unusedVariables false
set_option linter.unusedSimpArgs false
namespace Go.Proofs.Ythaphfedogmliaa.Lex

/-- A wildcard's end is the host's end, and the host has more. -/
def wildB (d h : List UInt8) : Bool := ([42, 46] : List UInt8).isPrefixOf d && ((46 :: d.drop 2).isSuffixOf h && decide (d.length - 2 + 1 < h.length))
def fits (d h : List UInt8) : Int := if d = [42] then 1 else if wildB d h then 1 + d.length else if d = h then 1099511627776 else 0
/-- The best and its place, behind k domains. -/
def domK (ds : List (List UInt8)) (h : List UInt8) : Nat → Int × Int
  | 0 => (0, -1)
  | k + 1 => if (domK ds h k).1 < fits (ds.getD k []) h then (fits (ds.getD k []) h, k) else domK ds h k
def domain (ds : List (List UInt8)) (h : List UInt8) : Int := (domK ds h ds.length).2
theorem fits_0 (d h : List UInt8) : 0 ≤ fits d h := by unfold fits; split; · omega
                                                       split; · omega
                                                       split <;> omega
theorem domK_range (ds : List (List UInt8)) (h : List UInt8) : ∀ k, -1 ≤ (domK ds h k).2 ∧ (domK ds h k).2 < k ∧ 0 ≤ (domK ds h k).1
  | 0 => by simp [domK]
  | k + 1 => by
    have h1 := domK_range ds h k
    have h2 := fits_0 (ds.getD k []) h
    unfold domK
    split
    · simp only; omega
    · omega
theorem domain_range (ds : List (List UInt8)) (h : List UInt8) : -1 ≤ domain ds h ∧ domain ds h < ds.length := by
  have := domK_range ds h ds.length
  unfold domain; omega
theorem domain_of {ds : List (List UInt8)} {h : List UInt8} {j : Nat} (hj : j < ds.length) (h0 : 0 < fits (ds.getD j []) h) (hm : ∀ i, i < ds.length → i ≠ j → fits (ds.getD i []) h < fits (ds.getD j []) h) : domain ds h = j := by
  have key : ∀ k, k ≤ ds.length → (k ≤ j → (domK ds h k).1 < fits (ds.getD j []) h) ∧ (j < k → domK ds h k = (fits (ds.getD j []) h, (j : Int))) := by
    intro k
    induction k with
    | zero => intro _; exact ⟨fun _ => h0, fun h => absurd h (by omega)⟩
    | succ k ih =>
      intro hk
      obtain ⟨i1, i2⟩ := ih (by omega)
      refine ⟨fun hkj => ?_, fun hkj => ?_⟩
      · have := hm k (by omega) (by omega)
        have := i1 (by omega)
        unfold domK
        split <;> assumption
      · by_cases e : k = j
        · subst e
          unfold domK
          rw [if_pos (i1 (Nat.le_refl _))]
        · have e2 := i2 (by omega)
          unfold domK
          rw [e2, if_neg (by have := hm k (by omega) e; simp only; omega)]
  unfold domain
  rw [(key ds.length (Nat.le_refl _)).2 hj]

/-! ### the four domains of RouteLongest -/
def lowers (l : List UInt8) : Prop := l ≠ [] ∧ ∀ x ∈ l, 97 ≤ (x.toNat : Int) ∧ (x.toNat : Int) ≤ 122
def dom4 (a b c : List UInt8) : List (List UInt8) := [[42], 42 :: 46 :: c, 42 :: 46 :: (b ++ 46 :: c), a ++ 46 :: (b ++ 46 :: c)]
theorem lowers_head {l : List UInt8} (h : lowers l) : ∃ x r, l = x :: r ∧ x ≠ 42 := by
  obtain ⟨h1, h2⟩ := h
  cases l with
  | nil => exact absurd rfl h1
  | cons x r => exact ⟨x, r, rfl, by rintro rfl; have := h2 42 (by simp); revert this; decide⟩
theorem wild_no {d h : List UInt8} {x : UInt8} {r : List UInt8} (e : d = x :: r) (hx : x ≠ 42) : wildB d h = false := by
  subst e
  unfold wildB
  have : ([42, 46] : List UInt8).isPrefixOf (x :: r) = false := by
    simp [List.isPrefixOf]; intro e; exact absurd e.symm hx
  rw [this]; rfl
theorem wild_short {d h : List UInt8} (hl : h.length ≤ d.length - 2 + 1) : wildB d h = false := by
  unfold wildB
  rw [show decide (d.length - 2 + 1 < h.length) = false from by simpa using hl]
  simp
theorem wild_yes {c p : List UInt8} (hp : p ≠ []) : wildB (42 :: 46 :: c) (p ++ 46 :: c) = true := by
  unfold wildB
  have h1 : ([42, 46] : List UInt8).isPrefixOf (42 :: 46 :: c) = true := by simp [List.isPrefixOf]
  have h2 : (46 :: (42 :: 46 :: c).drop 2).isSuffixOf (p ++ 46 :: c) = true := by
    rw [List.isSuffixOf_iff_suffix]; exact ⟨p, rfl⟩
  have h3 : 0 < p.length := List.length_pos_iff.2 hp
  rw [h1, h2]
  simp; omega
theorem fits_star (h : List UInt8) : fits [42] h = 1 := rfl
theorem fits_wild {c h : List UInt8} (hw : wildB (42 :: 46 :: c) h = true) : fits (42 :: 46 :: c) h = 3 + c.length := by
  unfold fits
  rw [if_neg (by simp), if_pos hw]; simp; omega
theorem fits_none {d h : List UInt8} (h1 : d ≠ [42]) (hw : wildB d h = false) (hn : d ≠ h) : fits d h = 0 := by
  unfold fits
  rw [if_neg h1, hw, if_neg (by simp), if_neg hn]
theorem fits_same {d : List UInt8} (h1 : d ≠ [42]) (hw : wildB d d = false) : fits d d = 1099511627776 := by
  unfold fits
  rw [if_neg h1, hw, if_neg (by simp), if_pos rfl]
theorem len_ne {a b : List UInt8} (h : a.length ≠ b.length) : a ≠ b := fun e => h (by rw [e])

/-- What the four fit each of the five hosts. -/
theorem fits_h0 {a b c : List UInt8} (ha : lowers a) (hb : lowers b) (hc : lowers c) : fits [42] [] = 1 ∧ fits (42 :: 46 :: c) [] = 0 ∧ fits (42 :: 46 :: (b ++ 46 :: c)) [] = 0 ∧ fits (a ++ 46 :: (b ++ 46 :: c)) [] = 0 := by
  refine ⟨rfl, fits_none (by simp) (wild_short (by simp only [List.length_append, List.length_cons, List.length_nil] <;> omega)) (by simp), fits_none (by simp) (wild_short (by simp only [List.length_append, List.length_cons, List.length_nil] <;> omega)) (by simp), fits_none (len_ne (by simp only [List.length_append, List.length_cons, List.length_nil] <;> omega)) ?_ (by simp)⟩
  exact wild_short (by simp only [List.length_append, List.length_cons, List.length_nil] <;> omega)
theorem fits_h1 {a b c : List UInt8} (ha : lowers a) (hb : lowers b) (hc : lowers c) : fits (42 :: 46 :: c) (113 :: 46 :: c) = 3 + c.length ∧ fits (42 :: 46 :: (b ++ 46 :: c)) (113 :: 46 :: c) = 0 ∧ fits (a ++ 46 :: (b ++ 46 :: c)) (113 :: 46 :: c) = 0 := by
  obtain ⟨x, r, e, hx⟩ := lowers_head ha
  have lb : 0 < b.length := List.length_pos_iff.2 hb.1
  refine ⟨fits_wild (wild_yes (p := [113]) (by simp)), fits_none (len_ne (by simp only [List.length_append, List.length_cons, List.length_nil] <;> omega)) (wild_short (by simp only [List.length_append, List.length_cons, List.length_nil] <;> omega)) (by simp), fits_none (len_ne (by simp only [List.length_append, List.length_cons, List.length_nil] <;> omega)) (wild_no (x := x) (r := r ++ 46 :: (b ++ 46 :: c)) (by rw [e]; rfl) hx) (len_ne (by simp only [List.length_append, List.length_cons, List.length_nil] <;> omega))⟩
theorem fits_h2 {a b c : List UInt8} (ha : lowers a) (hb : lowers b) (hc : lowers c) : fits (42 :: 46 :: c) (113 :: 46 :: (b ++ 46 :: c)) = 3 + c.length ∧ fits (42 :: 46 :: (b ++ 46 :: c)) (113 :: 46 :: (b ++ 46 :: c)) = 4 + b.length + c.length ∧
    fits (a ++ 46 :: (b ++ 46 :: c)) (113 :: 46 :: (b ++ 46 :: c)) = if a = [113] then 1099511627776 else 0 := by
  obtain ⟨x, r, e, hx⟩ := lowers_head ha
  have hw : ∀ h, wildB (a ++ 46 :: (b ++ 46 :: c)) h = false := fun h => wild_no (x := x) (r := r ++ 46 :: (b ++ 46 :: c)) (by rw [e]; rfl) hx
  have h1 : a ++ 46 :: (b ++ 46 :: c) ≠ [42] := len_ne (by simp only [List.length_append, List.length_cons, List.length_nil] <;> omega)
  refine ⟨?_, ?_, ?_⟩
  · have := wild_yes (c := c) (p := 113 :: 46 :: b) (by simp)
    exact fits_wild (by simpa using this)
  · have := wild_yes (c := b ++ 46 :: c) (p := [113]) (by simp)
    rw [fits_wild (by simpa using this)]; simp; omega
  · by_cases h : a = [113]
    · rw [if_pos h, h]
      subst h
      exact fits_same h1 (hw _)
    · rw [if_neg h]
      refine fits_none h1 (hw _) fun e => h ?_
      have : a ++ 46 :: (b ++ 46 :: c) = [113] ++ 46 :: (b ++ 46 :: c) := e
      exact List.append_cancel_right this
theorem fits_h3 {a b c : List UInt8} (ha : lowers a) (hb : lowers b) (hc : lowers c) : fits (42 :: 46 :: c) (a ++ 46 :: (b ++ 46 :: c)) = 3 + c.length ∧ fits (42 :: 46 :: (b ++ 46 :: c)) (a ++ 46 :: (b ++ 46 :: c)) = 4 + b.length + c.length ∧
    fits (a ++ 46 :: (b ++ 46 :: c)) (a ++ 46 :: (b ++ 46 :: c)) = 1099511627776 := by
  obtain ⟨x, r, e, hx⟩ := lowers_head ha
  have hw : ∀ h, wildB (a ++ 46 :: (b ++ 46 :: c)) h = false := fun h => wild_no (x := x) (r := r ++ 46 :: (b ++ 46 :: c)) (by rw [e]; rfl) hx
  have h1 : a ++ 46 :: (b ++ 46 :: c) ≠ [42] := len_ne (by simp only [List.length_append, List.length_cons, List.length_nil] <;> omega)
  refine ⟨?_, ?_, fits_same h1 (hw _)⟩
  · have := wild_yes (c := c) (p := a ++ 46 :: b) (by simp)
    exact fits_wild (by simpa using this)
  · rw [fits_wild (wild_yes (c := b ++ 46 :: c) (p := a) ha.1)]; simp; omega
theorem fits_h4 {a b c : List UInt8} (ha : lowers a) (hb : lowers b) (hc : lowers c) : fits (42 :: 46 :: c) c = 0 ∧ fits (42 :: 46 :: (b ++ 46 :: c)) c = 0 ∧ fits (a ++ 46 :: (b ++ 46 :: c)) c = 0 := by
  obtain ⟨x, r, e, hx⟩ := lowers_head ha
  have hw : ∀ h, wildB (a ++ 46 :: (b ++ 46 :: c)) h = false := fun h => wild_no (x := x) (r := r ++ 46 :: (b ++ 46 :: c)) (by rw [e]; rfl) hx
  refine ⟨fits_none (len_ne (by simp only [List.length_append, List.length_cons, List.length_nil] <;> omega)) (wild_short (by simp only [List.length_append, List.length_cons, List.length_nil] <;> omega)) (len_ne (by simp only [List.length_append, List.length_cons, List.length_nil] <;> omega)), fits_none (len_ne (by simp only [List.length_append, List.length_cons, List.length_nil] <;> omega)) (wild_short (by simp only [List.length_append, List.length_cons, List.length_nil] <;> omega)) (len_ne (by simp only [List.length_append, List.length_cons, List.length_nil] <;> omega)), fits_none (len_ne (by simp only [List.length_append, List.length_cons, List.length_nil] <;> omega)) (hw _) (len_ne (by simp only [List.length_append, List.length_cons, List.length_nil] <;> omega))⟩

def host4 (a b c : List UInt8) : List (List UInt8) := [[], 113 :: 46 :: c, 113 :: 46 :: (b ++ 46 :: c), a ++ 46 :: (b ++ 46 :: c), c]
/-- The four, from the t-th on. -/
def turned (a b c : List UInt8) (t : Nat) : List (List UInt8) := [(dom4 a b c).getD (t % 4) [], (dom4 a b c).getD ((1 + t) % 4) [], (dom4 a b c).getD ((2 + t) % 4) [], (dom4 a b c).getD ((3 + t) % 4) []]
/-- The domain that counts for the k-th host. -/
def won (a : List UInt8) (k : Nat) : Nat := if k = 4 then 0 else if k = 2 ∧ a = [113] then 3 else k

theorem turned_at {a b c : List UInt8} {t i : Nat} (hi : i < 4) : (turned a b c t).getD i [] = (dom4 a b c).getD ((i + t) % 4) [] := by
  match i, hi with
  | 0, _ => simp [turned]
  | 1, _ => rfl
  | 2, _ => rfl
  | 3, _ => rfl

theorem turned_len {a b c : List UInt8} {N : Nat} (ha : a.length ≤ N) (hb : b.length ≤ N) (hc : c.length ≤ N) (t : Nat) : ∀ x ∈ turned a b c t, x.length ≤ 3 * N + 4 := by
  have key : ∀ j, ((dom4 a b c).getD j []).length ≤ 3 * N + 4 := by
    intro j
    match j with
    | 0 => show 1 ≤ _; omega
    | 1 => show (42 :: 46 :: c).length ≤ _; simp only [List.length_cons]; omega
    | 2 => show (42 :: 46 :: (b ++ 46 :: c)).length ≤ _; simp only [List.length_cons, List.length_append]; omega
    | 3 => show (a ++ 46 :: (b ++ 46 :: c)).length ≤ _; simp only [List.length_cons, List.length_append]; omega
    | j + 4 => show 0 ≤ _; omega
  intro x hx
  unfold turned at hx
  simp only [List.mem_cons, List.not_mem_nil, or_false] at hx
  rcases hx with rfl | rfl | rfl | rfl <;> exact key _

theorem best_of {a b c : List UInt8} (ha : lowers a) (hb : lowers b) (hc : lowers c) (hbl : b.length + c.length < 1099511627776 - 4) (k : Nat) (hk : k < 5) :
    0 < fits ((dom4 a b c).getD (won a k) []) ((host4 a b c).getD k []) ∧ ∀ j, j < 4 → j ≠ won a k → fits ((dom4 a b c).getD j []) ((host4 a b c).getD k []) < fits ((dom4 a b c).getD (won a k) []) ((host4 a b c).getD k []) := by
  obtain ⟨z0, z1, z2, z3⟩ := fits_h0 ha hb hc
  obtain ⟨o1, o2, o3⟩ := fits_h1 ha hb hc
  obtain ⟨t1, t2, t3⟩ := fits_h2 ha hb hc
  obtain ⟨d1, d2, d3⟩ := fits_h3 ha hb hc
  obtain ⟨f1, f2, f3⟩ := fits_h4 ha hb hc
  have e0 : (dom4 a b c).getD 0 [] = [42] := rfl
  have e1 : (dom4 a b c).getD 1 [] = 42 :: 46 :: c := rfl
  have e2 : (dom4 a b c).getD 2 [] = 42 :: 46 :: (b ++ 46 :: c) := rfl
  have e3 : (dom4 a b c).getD 3 [] = a ++ 46 :: (b ++ 46 :: c) := rfl
  have lb : 0 < b.length := List.length_pos_iff.2 hb.1
  have hs : ∀ h, fits [42] h = 1 := fun _ => rfl
  rcases (by omega : k = 0 ∨ k = 1 ∨ k = 2 ∨ k = 3 ∨ k = 4) with rfl | rfl | rfl | rfl | rfl
  · have hh : (host4 a b c).getD 0 [] = [] := rfl
    rw [hh, show won a 0 = 0 from rfl, e0, hs]
    refine ⟨by omega, fun j hj hn => ?_⟩
    rcases (by omega : j = 1 ∨ j = 2 ∨ j = 3) with rfl | rfl | rfl
    · rw [e1, z1]; omega
    · rw [e2, z2]; omega
    · rw [e3, z3]; omega
  · have hh : (host4 a b c).getD 1 [] = 113 :: 46 :: c := rfl
    rw [hh, show won a 1 = 1 from rfl, e1, o1]
    refine ⟨by omega, fun j hj hn => ?_⟩
    rcases (by omega : j = 0 ∨ j = 2 ∨ j = 3) with rfl | rfl | rfl
    · rw [e0, hs]; omega
    · rw [e2, o2]; omega
    · rw [e3, o3]; omega
  · have hh : (host4 a b c).getD 2 [] = 113 :: 46 :: (b ++ 46 :: c) := rfl
    rw [hh]
    by_cases hq : a = [113]
    · rw [if_pos hq] at t3
      rw [show won a 2 = 3 from by simp [won, hq], e3, t3]
      refine ⟨by omega, fun j hj hn => ?_⟩
      rcases (by omega : j = 0 ∨ j = 1 ∨ j = 2) with rfl | rfl | rfl
      · rw [e0, hs]; omega
      · rw [e1, t1]; omega
      · rw [e2, t2]; omega
    · rw [if_neg hq] at t3
      rw [show won a 2 = 2 from by simp [won, hq], e2, t2]
      refine ⟨by omega, fun j hj hn => ?_⟩
      rcases (by omega : j = 0 ∨ j = 1 ∨ j = 3) with rfl | rfl | rfl
      · rw [e0, hs]; omega
      · rw [e1, t1]; omega
      · rw [e3, t3]; omega
  · have hh : (host4 a b c).getD 3 [] = a ++ 46 :: (b ++ 46 :: c) := rfl
    rw [hh, show won a 3 = 3 from rfl, e3, d3]
    refine ⟨by omega, fun j hj hn => ?_⟩
    rcases (by omega : j = 0 ∨ j = 1 ∨ j = 2) with rfl | rfl | rfl
    · rw [e0, hs]; omega
    · rw [e1, d1]; omega
    · rw [e2, d2]; omega
  · have hh : (host4 a b c).getD 4 [] = c := rfl
    rw [hh, show won a 4 = 0 from rfl, e0, hs]
    refine ⟨by omega, fun j hj hn => ?_⟩
    rcases (by omega : j = 1 ∨ j = 2 ∨ j = 3) with rfl | rfl | rfl
    · rw [e1, f1]; omega
    · rw [e2, f2]; omega
    · rw [e3, f3]; omega

theorem turned_best {a b c : List UInt8} (ha : lowers a) (hb : lowers b) (hc : lowers c) (hbl : b.length + c.length < 1099511627776 - 4) (t k : Nat) (hk : k < 5) :
    ∃ i : Nat, i < 4 ∧ (i + t) % 4 = won a k ∧ domain (turned a b c t) ((host4 a b c).getD k []) = i := by
  have hw : won a k < 4 := by unfold won; split; · omega
                              split <;> omega
  obtain ⟨p, q⟩ := best_of ha hb hc hbl k hk
  refine ⟨(won a k + 4 - t % 4) % 4, by omega, by omega, ?_⟩
  refine domain_of (j := (won a k + 4 - t % 4) % 4) (show _ < 4 by omega) ?_ fun i hi hn => ?_
  · rw [turned_at (by omega), show ((won a k + 4 - t % 4) % 4 + t) % 4 = won a k from by omega]; exact p
  · have hi : i < 4 := hi
    rw [turned_at hi, turned_at (by omega), show ((won a k + 4 - t % 4) % 4 + t) % 4 = won a k from by omega]
    exact q _ (by omega) (by omega)
end Go.Proofs.Ythaphfedogmliaa.Lex
