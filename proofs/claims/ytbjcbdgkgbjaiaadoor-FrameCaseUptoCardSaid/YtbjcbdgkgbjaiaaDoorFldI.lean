/- The contracts of the document's One and Strip and of fields.Strip, for every list of fields. -/
import Derived.Test.YtbjcbdgkgbjaiaaDoorFldH
import Derived.Laws.OwnMore
set_option linter.unusedVariables false
set_option linter.unusedSimpArgs false
namespace Go.Proofs.YtbjcbdgkgbjaiaaDoor
open Go.RowKit Lex

def connL : List UInt8 := [99, 111, 110, 110, 101, 99, 116, 105, 111, 110]
def lowN : List (List UInt8) := fixedN.map lower
def oneF (l : List Fd) (name : List UInt8) : Bool := (lowN.any fun n => alike n name) || hasF l connL name
theorem connL_low : lower conn = lower connL := by decide +kernel
theorem elementsF_low {a b : List UInt8} (h : lower a = lower b) (l : List Fd) : elementsF l a = elementsF l b := by unfold elementsF; rw [valuesF_low h]
theorem oneF_eq (l : List Fd) (name : List UInt8) : oneF l name = (namesF l).any fun n => alike name n := by
  unfold oneF namesF hasF lowN
  rw [List.any_append, List.any_map, ← elementsF_low connL_low]
  have h1 : (fun n => alike n name) ∘ lower = fun n => alike name n := by
    funext n
    show alike (lower n) name = alike name n
    rw [alike_comm]
    exact (alike_low (lower_lower n) name)
  rw [h1]
  congr 2
  funext x
  exact alike_comm x name
theorem stripF_take (l : List Fd) (k : Nat) (h : k < l.length) (p : Fd → Bool) : ((l.take (k + 1)).filter fun f => !p f) = ((l.take k).filter fun f => !p f) ++ (if p l[k] then [] else [l[k]]) := by
  rw [List.take_succ_eq_append_getElem h, List.filter_append]
  congr 1
  by_cases hh : p l[k] = true
  · simp [hh]
  · simp [hh]

end Go.Proofs.YtbjcbdgkgbjaiaaDoor
