/- The texts PlH in one. -/
import Derived.Test.YtgmjkkiahanekaaGreatDoorM39
import Derived.Test.YtgmjkkiahanekaaGreatDoorM41
/- The plain law of InflowHosts: a request names its host just once; an absolute target's host counts ahead of the field's. -/
set_option linter.unusedVariables false
set_option linter.unusedSimpArgs false
namespace Go.Proofs.YtgmjkkiahanekaaGreatDoor
open Lex

def absZ : List UInt8 := [104, 116, 116, 112, 58, 47, 47, 122, 58, 56, 47]
/-- A field's line as the laws write it: one blank behind the colon. -/
def fline1 (f : Fd) : List UInt8 := f.1 ++ 58 :: 32 :: f.2
def flines1 : List Fd → List UInt8
  | [] => []
  | f :: l => fline1 f ++ 13 :: 10 :: flines1 l
theorem fline1_field {f : Fd} (h : badF f = false) : fieldL (fline1 f) = some f := by
  obtain ⟨h1, h2, h3⟩ := badF_no h
  unfold fieldL fline1
  rw [cutB_at (fun x hx => (tmark_at (List.all_eq_true.1 (token_all h1).2 x hx)).2.2.1)]
  have ht := (trim_self f.2).1 h3
  have hm := trim_mid (a := [32]) (m := f.2) (b := []) (by decide) (by decide) ht.1 ht.2
  rw [List.append_nil, List.singleton_append] at hm
  simp only
  rw [hm, if_pos ⟨trivial, h1, h2⟩]
theorem fline1_all {f : Fd} (h : badF f = false) : (fline1 f).all lb = true := by
  obtain ⟨h1, h2, h3⟩ := badF_no h
  unfold fline1
  rw [List.all_append, List.all_cons, List.all_cons, all_imp h2 (fun c => okv_at), all_imp (token_all h1).2 (fun c hc => (tmark_at hc).1)]
  decide
theorem fline1_length (f : Fd) : (fline1 f).length = f.1.length + f.2.length + 2 := by
  unfold fline1; simp only [List.length_append, List.length_cons]; omega
theorem flines1_fields : ∀ (l : List Fd), (∀ f ∈ l, badF f = false ∧ f.1.length + f.2.length ≤ 490) → ∀ (room : Nat) (r : List UInt8),
    fieldsL (l.length + room) (flines1 l ++ r) = ((fieldsL room r).1.map fun x => (l ++ x.1, x.2 + (flines1 l).length), (fieldsL room r).2)
  | [], _, room, r => by
    simp only [List.length_nil, Nat.zero_add, flines1, List.nil_append, Nat.add_zero]
    cases fieldsL room r with | mk o e => cases o <;> rfl
  | f :: l, h, room, r => by
    have hf := h f (by simp)
    have ih := flines1_fields l (fun g hg => h g (by simp [hg])) room r
    have hl := lineL_at (over := 83) (room := 512) (r := flines1 l ++ r) (fline1_all hf.1) (by rw [fline1_length]; omega)
    rw [flines1, List.append_assoc, List.cons_append, List.cons_append, List.length_cons, show l.length + 1 + room = (l.length + room) + 1 by omega,
      fieldsL_step hl (by unfold fline1; simp) (fline1_field hf.1), drop_line, ih]
    cases fieldsL room r with
    | mk o e =>
      cases o with
      | none => rfl
      | some x =>
        simp only [Option.map_some, List.cons_append, List.length_append, List.length_cons]
        congr 3
        omega
def getOf (t : List UInt8) (l : List Fd) : List UInt8 := wfirst getW t ++ 13 :: 10 :: (flines1 l ++ [13, 10])
theorem badF_of {n v : List UInt8} (hn : token n = true) (hv : value v = true) (hl : n.length + v.length ≤ 512) : badF (n, v) = false := by
  unfold badF
  simp only [hn, hv]
  rw [decide_eq_false (by omega)]
  rfl
theorem getOf_read {t : List UInt8} (ht : t.all tchar = true) (ht0 : t ≠ []) (htl : t.length ≤ 1024) {l : List Fd} (hl : l.length ≤ 32) (hf : ∀ f ∈ l, badF f = false ∧ f.1.length + f.2.length ≤ 490) :
    readL true startL (getOf t l) = ({ method := getW, target := t, minor := 1, fields := l }, (getOf t l).length, 0) := by
  have hfs : fieldsL 32 (flines1 l ++ [13, 10]) = (some (l, 2 + (flines1 l).length), 0) := by
    have := flines1_fields l hf (32 - l.length) [13, 10]
    rw [show l.length + (32 - l.length) = 32 by omega, fields_end] at this
    simpa using this
  have := text_good (m := getW) (by decide) (by decide) ht ht0 htl hfs
  unfold getOf
  rw [this]
  congr 2
  simp only [List.length_append, List.length_cons, List.length_nil]
  omega
theorem parse_root : parseT getW [47] = ({ form := 1, path := [47] }, 0) := by kernel_rfl
theorem parse_absZ : parseT getW absZ = ({ form := 2, host := [122], port := 8, path := [47] }, 0) := by kernel_rfl
theorem one_get (a : List UInt8) : getF [(hostU, a)] hostN = (a, 1) := rfl
theorem one_exp (a : List UInt8) : getF [(hostU, a)] expectN = ([], 0) := rfl
theorem one_req (a : List UInt8) : reqF 1 [(hostU, a)] 9 = (1, 0, 0) := rfl
theorem one_up (a : List UInt8) (t : List UInt8) : upgradeL { method := getW, target := t, minor := 1, fields := [(hostU, a)] } 1 = [] := by
  unfold upgradeL
  rw [if_neg (fun h => ?_)]
  have h4 : (elementsF [(hostU, a)] upgN).length = 0 := rfl
  have := h.2.2.2.1
  simp only at this
  omega
/-- A head with one host field: a request, or 400. -/
theorem begin_one {a t : List UInt8} {tg : Tg} (ht : t.all tchar = true) (ht0 : t ≠ []) (htl : t.length ≤ 1024) (hv : value a = true) (hl : a.length ≤ 60) (hp : parseT getW t = (tg, 0)) :
    beginL 9 (getOf t [(hostU, a)]) = match hostL { method := getW, target := t, minor := 1, fields := [(hostU, a)] } tg with
      | none => (none, 400)
      | some (n, o) => (some ({ head := { method := getW, target := t, minor := 1, fields := [(hostU, a)] }, tg := tg, host := n, port := o, keep := keepF 1 [(hostU, a)] }, 1, 0, (getOf t [(hostU, a)]).length), 0) := by
  have hr := getOf_read ht ht0 htl (l := [(hostU, a)]) (by simp) (fun f hf => by
    rw [List.mem_singleton] at hf
    subst hf
    exact ⟨badF_of (by decide) hv (by simp only [hostU, List.length_cons, List.length_nil]; omega), by simp only [hostU, List.length_cons, List.length_nil]; omega⟩)
  have hne : (getOf t [(hostU, a)]).length ≠ 0 := by unfold getOf; simp
  unfold beginL
  rw [hr]
  simp only
  rw [if_neg (fun e => e rfl), if_neg hne, hp]
  simp only
  rw [if_neg (fun e => e rfl), one_exp, one_req, one_up]
  simp only
  generalize hostL { method := getW, target := t, minor := 1, fields := [(hostU, a)] } tg = y
  cases y with
  | none => rfl
  | some y =>
    obtain ⟨n, o⟩ := y
    simp only
    rw [if_neg (Nat.lt_irrefl 0), if_neg (fun e => e rfl), if_neg (fun e => e.2 rfl)]
    rfl
theorem host_one {a t : List UInt8} {tg : Tg} (hf : tg.form = 1) : hostL { method := getW, target := t, minor := 1, fields := [(hostU, a)] } tg = authB a := by
  unfold hostL
  simp only
  rw [one_get, if_neg (by simp)]
  simp only [true_and]
  cases authB a with
  | none => rw [if_pos rfl]
  | some x => rw [if_neg (by simp), if_neg (by omega), if_neg (by decide)]
theorem host_abs {a t : List UInt8} {tg : Tg} (hf : tg.form = 2) : hostL { method := getW, target := t, minor := 1, fields := [(hostU, a)] } tg = match authB a with | none => none | some _ => some (tg.host, tg.port) := by
  unfold hostL
  simp only
  rw [one_get, if_neg (by simp)]
  simp only [true_and]
  cases authB a with
  | none => rw [if_pos rfl]
  | some x => rw [if_neg (by simp), if_pos (.inl hf)]
theorem docs_whole1 {b : List UInt8} {q : Rq} (h : beginL 9 b = (some (q, 1, 0, b.length), 0)) : docs 9 b = ([q], [], 0) := by
  have hd : docR 9 b = (some (q, b.length), 0) := by unfold docR; rw [h]; rfl
  rw [docs_step hd, List.drop_length, docs_nil]
theorem docs_bad {m : Int} {b : List UInt8} {e : Int} (h : beginL m b = (none, e)) : docs m b = ([], b, e) := docs_end (by unfold docR; rw [h])
/-- With one host field. -/
theorem docs_one {a : List UInt8} (hv : value a = true) (hl : a.length ≤ 60) :
    (authB a = none ∧ docs 9 (getOf [47] [(hostU, a)]) = ([], getOf [47] [(hostU, a)], 400) ∧ docs 9 (getOf absZ [(hostU, a)]) = ([], getOf absZ [(hostU, a)], 400)) ∨
    (∃ q q', docs 9 (getOf [47] [(hostU, a)]) = ([q], [], 0) ∧ docs 9 (getOf absZ [(hostU, a)]) = ([q'], [], 0) ∧ q.host ≠ [] ∧ q'.host = [122] ∧ q'.port = 8) := by
  have h1 := begin_one (t := [47]) (tg := { form := 1, path := [47] }) (by decide) (by simp) (by decide) hv hl parse_root
  have h2 := begin_one (t := absZ) (tg := { form := 2, host := [122], port := 8, path := [47] }) (by decide) (by decide) (by decide) hv hl parse_absZ
  rw [host_one rfl] at h1
  rw [host_abs rfl] at h2
  cases ha : authB a with
  | none =>
    rw [ha] at h1 h2
    exact .inl ⟨rfl, docs_bad h1, docs_bad h2⟩
  | some x =>
    obtain ⟨n, o⟩ := x
    rw [ha] at h1 h2
    exact .inr ⟨_, _, docs_whole1 h1, docs_whole1 h2, host_ne ha, rfl, rfl⟩
theorem docs_none : docs 9 (getOf [47] [([88], [121])]) = ([], getOf [47] [([88], [121])], 400) := docs_bad (by kernel_rfl)
theorem docs_two {a b : List UInt8} (ha : value a = true) (hla : a.length ≤ 60) (hb : value b = true) (hlb : b.length ≤ 60) :
    docs 9 (getOf [47] [(hostU, a), (hostN, b)]) = ([], getOf [47] [(hostU, a), (hostN, b)], 400) := by
  have hr := getOf_read (t := [47]) (by decide) (by simp) (by decide) (l := [(hostU, a), (hostN, b)]) (by simp) (fun f hf => by
    rcases List.mem_cons.1 hf with rfl | hf
    · exact ⟨badF_of (by decide) ha (by simp only [hostU, List.length_cons, List.length_nil]; omega), by simp only [hostU, List.length_cons, List.length_nil]; omega⟩
    · rw [List.mem_singleton] at hf
      subst hf
      exact ⟨badF_of (by decide) hb (by simp only [hostN, List.length_cons, List.length_nil]; omega), by simp only [hostN, List.length_cons, List.length_nil]; omega⟩)
  refine docs_bad ?_
  have hne : (getOf [47] [(hostU, a), (hostN, b)]).length ≠ 0 := by unfold getOf; simp
  unfold beginL
  rw [hr]
  simp only
  rw [if_neg (fun e => e rfl), if_neg hne, parse_root]
  simp only
  rw [if_neg (fun e => e rfl)]
  have hh : hostL { method := getW, target := [47], minor := 1, fields := [(hostU, a), (hostN, b)] } { form := 1, path := [47] } = none := by
    have hg : getF [(hostU, a), (hostN, b)] hostN = (a, 2) := rfl
    unfold hostL
    simp only
    rw [hg, if_pos (.inl (by show 1 < 2; omega))]
  rw [hh]
end Go.Proofs.YtgmjkkiahanekaaGreatDoor

