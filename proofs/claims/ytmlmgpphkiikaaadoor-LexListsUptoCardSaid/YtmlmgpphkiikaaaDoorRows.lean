/-
  NARROWER THAN 'FOR EVERY INPUT', by the rows' own cells (each row's printed sentence says how): LexNumbers: laid · LexShifts: laid · LexTexts: laid · LexCase: laid · PathNormals: laid · PathFixed: laid · PathSteps: laid · PathMeans: laid · PathChain: laid · PathDecodes: laid · LexLists: laid.
  DERIVED. THE GIVEN ROWS OF THIS SEAT. 11 by the template 'for every input the law returns true; each argument reads behind the call as it read before'; 0 by the template 'total and deterministic' (their statements: YtmlmgpphkiikaaaDoorTotals.lean).
  GIVEN WITH THE SEED: the statements are not yours to turn. If you find one false, say at which input.
  Laid BY PROGRAM, IN A SANDBOX (cutbox-rows.mjs): the forced cells as the released guide's own fill.sh prints them over the translation f926dfc9029fd91f… (all of the seat's roots in one cut). By AI agents, Wed Nov 11 2026. No macro, syntax, notation, axiom, sorry.
-/
import Derived.Test.YtmlmgpphkiikaaaDoorChecked
import GoSem.PinnedTables
import GoSem.Claim
import GoSem.ClaimJoined
import GoSem.ClaimMapViews
import Derived.JoinedTies
import Derived.KernelRfl
namespace Go.Proofs.YtmlmgpphkiikaaaDoor
/- THE CELL 'sum', in the pinned program and in every row, IS THE sha256 OF THE DUMP (.gsa) THAT YtmlmgpphkiikaaaDoorProg.lean LOADS. Nothing in Lean hashes anything: it is a label: what it is worth is what the hold of that sum in a sandbox is worth. -/
noncomputable def Tryd.pinned : Pinned := { name := "ytmlmgpphkiikaaadoor", sum := "f926dfc9029fd91f650326bd648bf42e143a62bea6135c2ecba55245944760be", checked := Tryd.checked }
namespace Rows
def none {H : Type} : Left H := { results := [], args := [] }

/- WHAT THE LISTED PACKAGE-LEVEL VARIABLES READ AS WHEN THE CALL BEGINS. Each datum BY PROGRAM (the guide's laid-datum.mjs) off the statement by which the dump's own 'gosem.cut.vars' lays the variable. In a bare row this is a premise. The card (YtmlmgpphkiikaaaDoorCards.lean) ties it to the program's text. -/
def laid_unicode_utf8_acceptRanges {H : Type} : DataW H := .agg [.agg [.lit (.int .u8 128), .lit (.int .u8 191)], .agg [.lit (.int .u8 160), .lit (.int .u8 191)], .agg [.lit (.int .u8 128), .lit (.int .u8 159)], .agg [.lit (.int .u8 144), .lit (.int .u8 191)], .agg [.lit (.int .u8 128), .lit (.int .u8 143)], .agg [.lit (.int .u8 0), .lit (.int .u8 0)], .agg [.lit (.int .u8 0), .lit (.int .u8 0)], .agg [.lit (.int .u8 0), .lit (.int .u8 0)], .agg [.lit (.int .u8 0), .lit (.int .u8 0)], .agg [.lit (.int .u8 0), .lit (.int .u8 0)], .agg [.lit (.int .u8 0), .lit (.int .u8 0)], .agg [.lit (.int .u8 0), .lit (.int .u8 0)], .agg [.lit (.int .u8 0), .lit (.int .u8 0)], .agg [.lit (.int .u8 0), .lit (.int .u8 0)], .agg [.lit (.int .u8 0), .lit (.int .u8 0)], .agg [.lit (.int .u8 0), .lit (.int .u8 0)]]
/-- One of Go's own tables, pinned by name: the form's constant. -/
def laid_unicode_utf8_first : DataW Unit := Go.Pinned.utf8First

/-- 'barbicanlaw04.LexNumbers': WHATEVER THE INPUT: true; the input reads as it did. -/
def lexNumbersSpec : ChangeSpec := { name := "lexNumbers", fn := fun _ => fun
  | [d1, d2] => { results := [.lit (.bool true)], args := [d1, d2] }
  | _ => none }
def lexNumbersRow : OpenClaim := { program := "ytmlmgpphkiikaaadoor", sum := "f926dfc9029fd91f650326bd648bf42e143a62bea6135c2ecba55245944760be", func := "barbican/barbicanlaw04.LexNumbers", spec := "lexNumbers", inPlace := ["internal/bytealg.IndexByteString", "internal/bytealg.IndexString"], named := ["unicode/utf8.first", "unicode/utf8.acceptRanges", "internal/bytealg.MaxLen"], apart := false, laid := [("unicode/utf8.acceptRanges", laid_unicode_utf8_acceptRanges), ("unicode/utf8.first", laid_unicode_utf8_first)] }
def LexNumbersSaid : Prop := lexNumbersRow.holds Tryd.pinned (OpenSpec.ofChange lexNumbersSpec)

/-- ITS FALSE NEIGHBOUR: 'it returns false'. Refute it at one input. -/
def lexNumbersWrong : ChangeSpec := { name := "lexNumbers", fn := fun _ => fun
  | [d1, d2] => { results := [.lit (.bool false)], args := [d1, d2] }
  | _ => none }
def LexNumbersWrongFalsely : Prop := lexNumbersRow.holds Tryd.pinned (OpenSpec.ofChange lexNumbersWrong)

/-- 'barbicanlaw04.LexShifts': WHATEVER THE INPUT: true; the input reads as it did. -/
def lexShiftsSpec : ChangeSpec := { name := "lexShifts", fn := fun _ => fun
  | [d1, d2] => { results := [.lit (.bool true)], args := [d1, d2] }
  | _ => none }
def lexShiftsRow : OpenClaim := { program := "ytmlmgpphkiikaaadoor", sum := "f926dfc9029fd91f650326bd648bf42e143a62bea6135c2ecba55245944760be", func := "barbican/barbicanlaw04.LexShifts", spec := "lexShifts", inPlace := ["internal/bytealg.IndexByteString", "internal/bytealg.IndexString"], named := ["unicode/utf8.first", "unicode/utf8.acceptRanges", "internal/bytealg.MaxLen"], apart := false, laid := [("unicode/utf8.acceptRanges", laid_unicode_utf8_acceptRanges), ("unicode/utf8.first", laid_unicode_utf8_first)] }
def LexShiftsSaid : Prop := lexShiftsRow.holds Tryd.pinned (OpenSpec.ofChange lexShiftsSpec)

/-- ITS FALSE NEIGHBOUR: 'it returns false'. Refute it at one input. -/
def lexShiftsWrong : ChangeSpec := { name := "lexShifts", fn := fun _ => fun
  | [d1, d2] => { results := [.lit (.bool false)], args := [d1, d2] }
  | _ => none }
def LexShiftsWrongFalsely : Prop := lexShiftsRow.holds Tryd.pinned (OpenSpec.ofChange lexShiftsWrong)

/-- 'barbicanlaw04.LexTexts': WHATEVER THE INPUT: true; the input reads as it did. -/
def lexTextsSpec : ChangeSpec := { name := "lexTexts", fn := fun _ => fun
  | [d1, d2] => { results := [.lit (.bool true)], args := [d1, d2] }
  | _ => none }
def lexTextsRow : OpenClaim := { program := "ytmlmgpphkiikaaadoor", sum := "f926dfc9029fd91f650326bd648bf42e143a62bea6135c2ecba55245944760be", func := "barbican/barbicanlaw04.LexTexts", spec := "lexTexts", inPlace := ["internal/bytealg.IndexByteString", "internal/bytealg.IndexString"], named := ["unicode/utf8.first", "unicode/utf8.acceptRanges", "internal/bytealg.MaxLen"], apart := false, laid := [("unicode/utf8.acceptRanges", laid_unicode_utf8_acceptRanges), ("unicode/utf8.first", laid_unicode_utf8_first)] }
def LexTextsSaid : Prop := lexTextsRow.holds Tryd.pinned (OpenSpec.ofChange lexTextsSpec)

/-- ITS FALSE NEIGHBOUR: 'it returns false'. Refute it at one input. -/
def lexTextsWrong : ChangeSpec := { name := "lexTexts", fn := fun _ => fun
  | [d1, d2] => { results := [.lit (.bool false)], args := [d1, d2] }
  | _ => none }
def LexTextsWrongFalsely : Prop := lexTextsRow.holds Tryd.pinned (OpenSpec.ofChange lexTextsWrong)

/-- 'barbicanlaw04.LexCase': WHATEVER THE INPUT: true; the input reads as it did. -/
def lexCaseSpec : ChangeSpec := { name := "lexCase", fn := fun _ => fun
  | [d1, d2] => { results := [.lit (.bool true)], args := [d1, d2] }
  | _ => none }
def lexCaseRow : OpenClaim := { program := "ytmlmgpphkiikaaadoor", sum := "f926dfc9029fd91f650326bd648bf42e143a62bea6135c2ecba55245944760be", func := "barbican/barbicanlaw04.LexCase", spec := "lexCase", inPlace := ["internal/bytealg.IndexByteString", "internal/bytealg.IndexString"], named := ["unicode/utf8.first", "unicode/utf8.acceptRanges", "internal/bytealg.MaxLen"], apart := false, laid := [("unicode/utf8.acceptRanges", laid_unicode_utf8_acceptRanges), ("unicode/utf8.first", laid_unicode_utf8_first)] }
def LexCaseSaid : Prop := lexCaseRow.holds Tryd.pinned (OpenSpec.ofChange lexCaseSpec)

/-- ITS FALSE NEIGHBOUR: 'it returns false'. Refute it at one input. -/
def lexCaseWrong : ChangeSpec := { name := "lexCase", fn := fun _ => fun
  | [d1, d2] => { results := [.lit (.bool false)], args := [d1, d2] }
  | _ => none }
def LexCaseWrongFalsely : Prop := lexCaseRow.holds Tryd.pinned (OpenSpec.ofChange lexCaseWrong)

/-- 'barbicanlaw05.PathNormals': WHATEVER THE INPUT: true; the input reads as it did. -/
def pathNormalsSpec : ChangeSpec := { name := "pathNormals", fn := fun _ => fun
  | [d] => { results := [.lit (.bool true)], args := [d] }
  | _ => none }
def pathNormalsRow : OpenClaim := { program := "ytmlmgpphkiikaaadoor", sum := "f926dfc9029fd91f650326bd648bf42e143a62bea6135c2ecba55245944760be", func := "barbican/barbicanlaw05.PathNormals", spec := "pathNormals", inPlace := ["internal/bytealg.IndexByteString", "internal/bytealg.CountString", "internal/bytealg.IndexString", "internal/abi.NoEscape", "internal/bytealg.MakeNoZero"], named := ["unicode/utf8.first", "unicode/utf8.acceptRanges", "internal/bytealg.MaxLen"], apart := false, laid := [("unicode/utf8.acceptRanges", laid_unicode_utf8_acceptRanges), ("unicode/utf8.first", laid_unicode_utf8_first)] }
def PathNormalsSaid : Prop := pathNormalsRow.holds Tryd.pinned (OpenSpec.ofChange pathNormalsSpec)

/-- ITS FALSE NEIGHBOUR: 'it returns false'. Refute it at one input. -/
def pathNormalsWrong : ChangeSpec := { name := "pathNormals", fn := fun _ => fun
  | [d] => { results := [.lit (.bool false)], args := [d] }
  | _ => none }
def PathNormalsWrongFalsely : Prop := pathNormalsRow.holds Tryd.pinned (OpenSpec.ofChange pathNormalsWrong)

/-- 'barbicanlaw05.PathFixed': WHATEVER THE INPUT: true; the input reads as it did. -/
def pathFixedSpec : ChangeSpec := { name := "pathFixed", fn := fun _ => fun
  | [d] => { results := [.lit (.bool true)], args := [d] }
  | _ => none }
def pathFixedRow : OpenClaim := { program := "ytmlmgpphkiikaaadoor", sum := "f926dfc9029fd91f650326bd648bf42e143a62bea6135c2ecba55245944760be", func := "barbican/barbicanlaw05.PathFixed", spec := "pathFixed", inPlace := ["internal/bytealg.IndexByteString", "internal/bytealg.CountString", "internal/bytealg.IndexString", "internal/abi.NoEscape", "internal/bytealg.MakeNoZero"], named := ["unicode/utf8.first", "unicode/utf8.acceptRanges", "internal/bytealg.MaxLen"], apart := false, laid := [("unicode/utf8.acceptRanges", laid_unicode_utf8_acceptRanges), ("unicode/utf8.first", laid_unicode_utf8_first)] }
def PathFixedSaid : Prop := pathFixedRow.holds Tryd.pinned (OpenSpec.ofChange pathFixedSpec)

/-- ITS FALSE NEIGHBOUR: 'it returns false'. Refute it at one input. -/
def pathFixedWrong : ChangeSpec := { name := "pathFixed", fn := fun _ => fun
  | [d] => { results := [.lit (.bool false)], args := [d] }
  | _ => none }
def PathFixedWrongFalsely : Prop := pathFixedRow.holds Tryd.pinned (OpenSpec.ofChange pathFixedWrong)

/-- 'barbicanlaw05.PathSteps': WHATEVER THE INPUT: true; the input reads as it did. -/
def pathStepsSpec : ChangeSpec := { name := "pathSteps", fn := fun _ => fun
  | [d1, d2] => { results := [.lit (.bool true)], args := [d1, d2] }
  | _ => none }
def pathStepsRow : OpenClaim := { program := "ytmlmgpphkiikaaadoor", sum := "f926dfc9029fd91f650326bd648bf42e143a62bea6135c2ecba55245944760be", func := "barbican/barbicanlaw05.PathSteps", spec := "pathSteps", inPlace := ["internal/bytealg.IndexByteString", "internal/bytealg.CountString", "internal/bytealg.IndexString", "internal/abi.NoEscape", "internal/bytealg.MakeNoZero"], named := ["unicode/utf8.first", "unicode/utf8.acceptRanges", "internal/bytealg.MaxLen"], apart := false, laid := [("unicode/utf8.acceptRanges", laid_unicode_utf8_acceptRanges), ("unicode/utf8.first", laid_unicode_utf8_first)] }
def PathStepsSaid : Prop := pathStepsRow.holds Tryd.pinned (OpenSpec.ofChange pathStepsSpec)

/-- ITS FALSE NEIGHBOUR: 'it returns false'. Refute it at one input. -/
def pathStepsWrong : ChangeSpec := { name := "pathSteps", fn := fun _ => fun
  | [d1, d2] => { results := [.lit (.bool false)], args := [d1, d2] }
  | _ => none }
def PathStepsWrongFalsely : Prop := pathStepsRow.holds Tryd.pinned (OpenSpec.ofChange pathStepsWrong)

/-- 'barbicanlaw05.PathMeans': WHATEVER THE INPUT: true; the input reads as it did. -/
def pathMeansSpec : ChangeSpec := { name := "pathMeans", fn := fun _ => fun
  | [d] => { results := [.lit (.bool true)], args := [d] }
  | _ => none }
def pathMeansRow : OpenClaim := { program := "ytmlmgpphkiikaaadoor", sum := "f926dfc9029fd91f650326bd648bf42e143a62bea6135c2ecba55245944760be", func := "barbican/barbicanlaw05.PathMeans", spec := "pathMeans", inPlace := ["internal/bytealg.IndexByteString", "internal/bytealg.CountString", "internal/bytealg.IndexString", "internal/abi.NoEscape", "internal/bytealg.MakeNoZero"], named := ["unicode/utf8.first", "unicode/utf8.acceptRanges", "internal/bytealg.MaxLen"], apart := false, laid := [("unicode/utf8.acceptRanges", laid_unicode_utf8_acceptRanges), ("unicode/utf8.first", laid_unicode_utf8_first)] }
def PathMeansSaid : Prop := pathMeansRow.holds Tryd.pinned (OpenSpec.ofChange pathMeansSpec)

/-- ITS FALSE NEIGHBOUR: 'it returns false'. Refute it at one input. -/
def pathMeansWrong : ChangeSpec := { name := "pathMeans", fn := fun _ => fun
  | [d] => { results := [.lit (.bool false)], args := [d] }
  | _ => none }
def PathMeansWrongFalsely : Prop := pathMeansRow.holds Tryd.pinned (OpenSpec.ofChange pathMeansWrong)

/-- 'barbicanlaw05.PathChain': WHATEVER THE INPUT: true; the input reads as it did. -/
def pathChainSpec : ChangeSpec := { name := "pathChain", fn := fun _ => fun
  | [d1, d2, d3] => { results := [.lit (.bool true)], args := [d1, d2, d3] }
  | _ => none }
def pathChainRow : OpenClaim := { program := "ytmlmgpphkiikaaadoor", sum := "f926dfc9029fd91f650326bd648bf42e143a62bea6135c2ecba55245944760be", func := "barbican/barbicanlaw05.PathChain", spec := "pathChain", inPlace := ["internal/bytealg.IndexByteString", "internal/bytealg.CountString", "internal/bytealg.IndexString", "internal/abi.NoEscape", "internal/bytealg.MakeNoZero"], named := ["unicode/utf8.first", "unicode/utf8.acceptRanges", "internal/bytealg.MaxLen"], apart := false, laid := [("unicode/utf8.acceptRanges", laid_unicode_utf8_acceptRanges), ("unicode/utf8.first", laid_unicode_utf8_first)] }
def PathChainSaid : Prop := pathChainRow.holds Tryd.pinned (OpenSpec.ofChange pathChainSpec)

/-- ITS FALSE NEIGHBOUR: 'it returns false'. Refute it at one input. -/
def pathChainWrong : ChangeSpec := { name := "pathChain", fn := fun _ => fun
  | [d1, d2, d3] => { results := [.lit (.bool false)], args := [d1, d2, d3] }
  | _ => none }
def PathChainWrongFalsely : Prop := pathChainRow.holds Tryd.pinned (OpenSpec.ofChange pathChainWrong)

/-- 'barbicanlaw05.PathDecodes': WHATEVER THE INPUT: true; the input reads as it did. -/
def pathDecodesSpec : ChangeSpec := { name := "pathDecodes", fn := fun _ => fun
  | [d1, d2] => { results := [.lit (.bool true)], args := [d1, d2] }
  | _ => none }
def pathDecodesRow : OpenClaim := { program := "ytmlmgpphkiikaaadoor", sum := "f926dfc9029fd91f650326bd648bf42e143a62bea6135c2ecba55245944760be", func := "barbican/barbicanlaw05.PathDecodes", spec := "pathDecodes", inPlace := ["internal/bytealg.IndexByteString", "internal/bytealg.CountString", "internal/bytealg.IndexString", "internal/abi.NoEscape", "internal/bytealg.MakeNoZero"], named := ["unicode/utf8.first", "unicode/utf8.acceptRanges", "internal/bytealg.MaxLen"], apart := false, laid := [("unicode/utf8.acceptRanges", laid_unicode_utf8_acceptRanges), ("unicode/utf8.first", laid_unicode_utf8_first)] }
def PathDecodesSaid : Prop := pathDecodesRow.holds Tryd.pinned (OpenSpec.ofChange pathDecodesSpec)

/-- ITS FALSE NEIGHBOUR: 'it returns false'. Refute it at one input. -/
def pathDecodesWrong : ChangeSpec := { name := "pathDecodes", fn := fun _ => fun
  | [d1, d2] => { results := [.lit (.bool false)], args := [d1, d2] }
  | _ => none }
def PathDecodesWrongFalsely : Prop := pathDecodesRow.holds Tryd.pinned (OpenSpec.ofChange pathDecodesWrong)

/-- 'barbicanlaw04.LexLists': WHATEVER THE INPUT: true; the input reads as it did. -/
def lexListsSpec : ChangeSpec := { name := "lexLists", fn := fun _ => fun
  | [d] => { results := [.lit (.bool true)], args := [d] }
  | _ => none }
def lexListsRow : OpenClaim := { program := "ytmlmgpphkiikaaadoor", sum := "f926dfc9029fd91f650326bd648bf42e143a62bea6135c2ecba55245944760be", func := "barbican/barbicanlaw04.LexLists", spec := "lexLists", inPlace := ["internal/bytealg.IndexByteString", "internal/bytealg.IndexString", "internal/bytealg.CountString"], named := ["unicode/utf8.first", "unicode/utf8.acceptRanges", "internal/bytealg.MaxLen"], apart := false, laid := [("unicode/utf8.acceptRanges", laid_unicode_utf8_acceptRanges), ("unicode/utf8.first", laid_unicode_utf8_first)] }
def LexListsSaid : Prop := lexListsRow.holds Tryd.pinned (OpenSpec.ofChange lexListsSpec)

/-- ITS FALSE NEIGHBOUR: 'it returns false'. Refute it at one input. -/
def lexListsWrong : ChangeSpec := { name := "lexLists", fn := fun _ => fun
  | [d] => { results := [.lit (.bool false)], args := [d] }
  | _ => none }
def LexListsWrongFalsely : Prop := lexListsRow.holds Tryd.pinned (OpenSpec.ofChange lexListsWrong)

/- THE SECOND FORM. 'bulk': how many values and letters a reading holds, each counted each time it is reached (what is shared counts as often as it is met; a slice's spare places count too). A statement '..UptoSaid' is the law's where the arguments, and the package variables that the reading takes, are together of bulk at most 1048576: NARROWER than '..Said'. Prove '..Said' where nothing that the law and all that it calls make is longer than what came in: it says more and counts as full. Else prove '..UptoSaid'. A law counts once. -/
mutual
def uptoBulk {H : Type} : DataW H → Nat
  | .lit (.string bytes) => bytes.length + 1
  | .lit _ => 1
  | .nil => 1
  | .ptr d => uptoBulk d + 1
  | .slice elems spare => uptoBulkAll elems + uptoBulkAll spare + 1
  | .agg parts => uptoBulkAll parts + 1
  | .iface _ d => uptoBulk d + 1
  | .map entries => uptoBulkEntries entries + 1
  | .held _ => 1
def uptoBulkAll {H : Type} : List (DataW H) → Nat
  | [] => 0
  | d :: r => uptoBulk d + uptoBulkAll r
def uptoBulkEntries {H : Type} : List (Lit × DataW H) → Nat
  | [] => 0
  | x :: r => uptoBulkEntry x + uptoBulkEntries r
def uptoBulkEntry {H : Type} : Lit × DataW H → Nat
  | (.string bytes, d) => bytes.length + uptoBulk d + 1
  | (_, d) => uptoBulk d + 1
 end
def uptoSmall : (H : Type) → List (DataW H) → Bool := fun _ ds => decide (uptoBulkAll ds ≤ 1048576)
def OpenSpec.upto (s : _root_.Go.ChangeSpec) : _root_.Go.OpenSpec := { _root_.Go.OpenSpec.ofChange s with cond := some uptoSmall }

/-- 'barbicanlaw04.LexNumbers', WHERE WHAT IT READS IS OF BULK AT MOST 1048576: true; the input reads as it did. -/
def lexNumbersUptoRow : OpenClaim := { program := "ytmlmgpphkiikaaadoor", sum := "f926dfc9029fd91f650326bd648bf42e143a62bea6135c2ecba55245944760be", func := "barbican/barbicanlaw04.LexNumbers", spec := "lexNumbers", inPlace := ["internal/bytealg.IndexByteString", "internal/bytealg.IndexString"], named := ["unicode/utf8.first", "unicode/utf8.acceptRanges", "internal/bytealg.MaxLen"], apart := false, laid := [("unicode/utf8.acceptRanges", laid_unicode_utf8_acceptRanges), ("unicode/utf8.first", laid_unicode_utf8_first)], narrowed := true }
def LexNumbersUptoSaid : Prop := lexNumbersUptoRow.holds Tryd.pinned (OpenSpec.upto lexNumbersSpec)

/-- 'barbicanlaw04.LexShifts', WHERE WHAT IT READS IS OF BULK AT MOST 1048576: true; the input reads as it did. -/
def lexShiftsUptoRow : OpenClaim := { program := "ytmlmgpphkiikaaadoor", sum := "f926dfc9029fd91f650326bd648bf42e143a62bea6135c2ecba55245944760be", func := "barbican/barbicanlaw04.LexShifts", spec := "lexShifts", inPlace := ["internal/bytealg.IndexByteString", "internal/bytealg.IndexString"], named := ["unicode/utf8.first", "unicode/utf8.acceptRanges", "internal/bytealg.MaxLen"], apart := false, laid := [("unicode/utf8.acceptRanges", laid_unicode_utf8_acceptRanges), ("unicode/utf8.first", laid_unicode_utf8_first)], narrowed := true }
def LexShiftsUptoSaid : Prop := lexShiftsUptoRow.holds Tryd.pinned (OpenSpec.upto lexShiftsSpec)

/-- 'barbicanlaw04.LexTexts', WHERE WHAT IT READS IS OF BULK AT MOST 1048576: true; the input reads as it did. -/
def lexTextsUptoRow : OpenClaim := { program := "ytmlmgpphkiikaaadoor", sum := "f926dfc9029fd91f650326bd648bf42e143a62bea6135c2ecba55245944760be", func := "barbican/barbicanlaw04.LexTexts", spec := "lexTexts", inPlace := ["internal/bytealg.IndexByteString", "internal/bytealg.IndexString"], named := ["unicode/utf8.first", "unicode/utf8.acceptRanges", "internal/bytealg.MaxLen"], apart := false, laid := [("unicode/utf8.acceptRanges", laid_unicode_utf8_acceptRanges), ("unicode/utf8.first", laid_unicode_utf8_first)], narrowed := true }
def LexTextsUptoSaid : Prop := lexTextsUptoRow.holds Tryd.pinned (OpenSpec.upto lexTextsSpec)

/-- 'barbicanlaw04.LexCase', WHERE WHAT IT READS IS OF BULK AT MOST 1048576: true; the input reads as it did. -/
def lexCaseUptoRow : OpenClaim := { program := "ytmlmgpphkiikaaadoor", sum := "f926dfc9029fd91f650326bd648bf42e143a62bea6135c2ecba55245944760be", func := "barbican/barbicanlaw04.LexCase", spec := "lexCase", inPlace := ["internal/bytealg.IndexByteString", "internal/bytealg.IndexString"], named := ["unicode/utf8.first", "unicode/utf8.acceptRanges", "internal/bytealg.MaxLen"], apart := false, laid := [("unicode/utf8.acceptRanges", laid_unicode_utf8_acceptRanges), ("unicode/utf8.first", laid_unicode_utf8_first)], narrowed := true }
def LexCaseUptoSaid : Prop := lexCaseUptoRow.holds Tryd.pinned (OpenSpec.upto lexCaseSpec)

/-- 'barbicanlaw05.PathNormals', WHERE WHAT IT READS IS OF BULK AT MOST 1048576: true; the input reads as it did. -/
def pathNormalsUptoRow : OpenClaim := { program := "ytmlmgpphkiikaaadoor", sum := "f926dfc9029fd91f650326bd648bf42e143a62bea6135c2ecba55245944760be", func := "barbican/barbicanlaw05.PathNormals", spec := "pathNormals", inPlace := ["internal/bytealg.IndexByteString", "internal/bytealg.CountString", "internal/bytealg.IndexString", "internal/abi.NoEscape", "internal/bytealg.MakeNoZero"], named := ["unicode/utf8.first", "unicode/utf8.acceptRanges", "internal/bytealg.MaxLen"], apart := false, laid := [("unicode/utf8.acceptRanges", laid_unicode_utf8_acceptRanges), ("unicode/utf8.first", laid_unicode_utf8_first)], narrowed := true }
def PathNormalsUptoSaid : Prop := pathNormalsUptoRow.holds Tryd.pinned (OpenSpec.upto pathNormalsSpec)

/-- 'barbicanlaw05.PathFixed', WHERE WHAT IT READS IS OF BULK AT MOST 1048576: true; the input reads as it did. -/
def pathFixedUptoRow : OpenClaim := { program := "ytmlmgpphkiikaaadoor", sum := "f926dfc9029fd91f650326bd648bf42e143a62bea6135c2ecba55245944760be", func := "barbican/barbicanlaw05.PathFixed", spec := "pathFixed", inPlace := ["internal/bytealg.IndexByteString", "internal/bytealg.CountString", "internal/bytealg.IndexString", "internal/abi.NoEscape", "internal/bytealg.MakeNoZero"], named := ["unicode/utf8.first", "unicode/utf8.acceptRanges", "internal/bytealg.MaxLen"], apart := false, laid := [("unicode/utf8.acceptRanges", laid_unicode_utf8_acceptRanges), ("unicode/utf8.first", laid_unicode_utf8_first)], narrowed := true }
def PathFixedUptoSaid : Prop := pathFixedUptoRow.holds Tryd.pinned (OpenSpec.upto pathFixedSpec)

/-- 'barbicanlaw05.PathSteps', WHERE WHAT IT READS IS OF BULK AT MOST 1048576: true; the input reads as it did. -/
def pathStepsUptoRow : OpenClaim := { program := "ytmlmgpphkiikaaadoor", sum := "f926dfc9029fd91f650326bd648bf42e143a62bea6135c2ecba55245944760be", func := "barbican/barbicanlaw05.PathSteps", spec := "pathSteps", inPlace := ["internal/bytealg.IndexByteString", "internal/bytealg.CountString", "internal/bytealg.IndexString", "internal/abi.NoEscape", "internal/bytealg.MakeNoZero"], named := ["unicode/utf8.first", "unicode/utf8.acceptRanges", "internal/bytealg.MaxLen"], apart := false, laid := [("unicode/utf8.acceptRanges", laid_unicode_utf8_acceptRanges), ("unicode/utf8.first", laid_unicode_utf8_first)], narrowed := true }
def PathStepsUptoSaid : Prop := pathStepsUptoRow.holds Tryd.pinned (OpenSpec.upto pathStepsSpec)

/-- 'barbicanlaw05.PathMeans', WHERE WHAT IT READS IS OF BULK AT MOST 1048576: true; the input reads as it did. -/
def pathMeansUptoRow : OpenClaim := { program := "ytmlmgpphkiikaaadoor", sum := "f926dfc9029fd91f650326bd648bf42e143a62bea6135c2ecba55245944760be", func := "barbican/barbicanlaw05.PathMeans", spec := "pathMeans", inPlace := ["internal/bytealg.IndexByteString", "internal/bytealg.CountString", "internal/bytealg.IndexString", "internal/abi.NoEscape", "internal/bytealg.MakeNoZero"], named := ["unicode/utf8.first", "unicode/utf8.acceptRanges", "internal/bytealg.MaxLen"], apart := false, laid := [("unicode/utf8.acceptRanges", laid_unicode_utf8_acceptRanges), ("unicode/utf8.first", laid_unicode_utf8_first)], narrowed := true }
def PathMeansUptoSaid : Prop := pathMeansUptoRow.holds Tryd.pinned (OpenSpec.upto pathMeansSpec)

/-- 'barbicanlaw05.PathChain', WHERE WHAT IT READS IS OF BULK AT MOST 1048576: true; the input reads as it did. -/
def pathChainUptoRow : OpenClaim := { program := "ytmlmgpphkiikaaadoor", sum := "f926dfc9029fd91f650326bd648bf42e143a62bea6135c2ecba55245944760be", func := "barbican/barbicanlaw05.PathChain", spec := "pathChain", inPlace := ["internal/bytealg.IndexByteString", "internal/bytealg.CountString", "internal/bytealg.IndexString", "internal/abi.NoEscape", "internal/bytealg.MakeNoZero"], named := ["unicode/utf8.first", "unicode/utf8.acceptRanges", "internal/bytealg.MaxLen"], apart := false, laid := [("unicode/utf8.acceptRanges", laid_unicode_utf8_acceptRanges), ("unicode/utf8.first", laid_unicode_utf8_first)], narrowed := true }
def PathChainUptoSaid : Prop := pathChainUptoRow.holds Tryd.pinned (OpenSpec.upto pathChainSpec)

/-- 'barbicanlaw05.PathDecodes', WHERE WHAT IT READS IS OF BULK AT MOST 1048576: true; the input reads as it did. -/
def pathDecodesUptoRow : OpenClaim := { program := "ytmlmgpphkiikaaadoor", sum := "f926dfc9029fd91f650326bd648bf42e143a62bea6135c2ecba55245944760be", func := "barbican/barbicanlaw05.PathDecodes", spec := "pathDecodes", inPlace := ["internal/bytealg.IndexByteString", "internal/bytealg.CountString", "internal/bytealg.IndexString", "internal/abi.NoEscape", "internal/bytealg.MakeNoZero"], named := ["unicode/utf8.first", "unicode/utf8.acceptRanges", "internal/bytealg.MaxLen"], apart := false, laid := [("unicode/utf8.acceptRanges", laid_unicode_utf8_acceptRanges), ("unicode/utf8.first", laid_unicode_utf8_first)], narrowed := true }
def PathDecodesUptoSaid : Prop := pathDecodesUptoRow.holds Tryd.pinned (OpenSpec.upto pathDecodesSpec)

/-- 'barbicanlaw04.LexLists', WHERE WHAT IT READS IS OF BULK AT MOST 1048576: true; the input reads as it did. -/
def lexListsUptoRow : OpenClaim := { program := "ytmlmgpphkiikaaadoor", sum := "f926dfc9029fd91f650326bd648bf42e143a62bea6135c2ecba55245944760be", func := "barbican/barbicanlaw04.LexLists", spec := "lexLists", inPlace := ["internal/bytealg.IndexByteString", "internal/bytealg.IndexString", "internal/bytealg.CountString"], named := ["unicode/utf8.first", "unicode/utf8.acceptRanges", "internal/bytealg.MaxLen"], apart := false, laid := [("unicode/utf8.acceptRanges", laid_unicode_utf8_acceptRanges), ("unicode/utf8.first", laid_unicode_utf8_first)], narrowed := true }
def LexListsUptoSaid : Prop := lexListsUptoRow.holds Tryd.pinned (OpenSpec.upto lexListsSpec)

end Rows
end Go.Proofs.YtmlmgpphkiikaaaDoor
