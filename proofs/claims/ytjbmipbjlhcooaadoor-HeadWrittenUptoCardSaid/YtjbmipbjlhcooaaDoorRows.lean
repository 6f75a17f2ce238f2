/-
  NARROWER THAN 'FOR EVERY INPUT', by the rows' own cells (each row's printed sentence says how): TargetHosts: laid · TargetAbsolute: laid · TargetCase: laid · TargetParses: laid · TargetAgain: laid · HeadUsed: laid · HeadWritten: laid · HeadFields: laid · HeadBounds: laid · HeadAhead: laid · HeadReads: laid · HeadSteady: laid · HeadBare: laid.
  DERIVED. THE GIVEN ROWS OF THIS SEAT. 13 by the template 'for every input the law returns true; each argument reads behind the call as it read before'; 0 by the template 'total and deterministic' (their statements: YtjbmipbjlhcooaaDoorTotals.lean).
  GIVEN WITH THE SEED: the statements are not yours to turn. If you find one false, say at which input.
  Laid BY PROGRAM, IN A SANDBOX (cutbox-rows.mjs): the forced cells as the released guide's own fill.sh prints them over the translation 5e9a824b715138ec… (all of the seat's roots in one cut). By AI agents, Wed Nov 11 2026. No macro, syntax, notation, axiom, sorry.
-/
import Derived.Test.YtjbmipbjlhcooaaDoorChecked
import GoSem.PinnedTables
import GoSem.Claim
import GoSem.ClaimJoined
import GoSem.ClaimMapViews
import Derived.JoinedTies
import Derived.KernelRfl
namespace Go.Proofs.YtjbmipbjlhcooaaDoor
/- THE CELL 'sum', in the pinned program and in every row, IS THE sha256 OF THE DUMP (.gsa) THAT YtjbmipbjlhcooaaDoorProg.lean LOADS. Nothing in Lean hashes anything: it is a label: what it is worth is what the hold of that sum in a sandbox is worth. -/
noncomputable def Tryd.pinned : Pinned := { name := "ytjbmipbjlhcooaadoor", sum := "5e9a824b715138ecca0e1213f6819b160b4a55a33b6deeaef82a5c25abc0a2b4", checked := Tryd.checked }
namespace Rows
def none {H : Type} : Left H := { results := [], args := [] }

/- WHAT THE LISTED PACKAGE-LEVEL VARIABLES READ AS WHEN THE CALL BEGINS. Each datum BY PROGRAM (the guide's laid-datum.mjs) off the statement by which the dump's own 'gosem.cut.vars' lays the variable. In a bare row this is a premise. The card (YtjbmipbjlhcooaaDoorCards.lean) ties it to the program's text. -/
def laid_unicode_utf8_acceptRanges {H : Type} : DataW H := .agg [.agg [.lit (.int .u8 128), .lit (.int .u8 191)], .agg [.lit (.int .u8 160), .lit (.int .u8 191)], .agg [.lit (.int .u8 128), .lit (.int .u8 159)], .agg [.lit (.int .u8 144), .lit (.int .u8 191)], .agg [.lit (.int .u8 128), .lit (.int .u8 143)], .agg [.lit (.int .u8 0), .lit (.int .u8 0)], .agg [.lit (.int .u8 0), .lit (.int .u8 0)], .agg [.lit (.int .u8 0), .lit (.int .u8 0)], .agg [.lit (.int .u8 0), .lit (.int .u8 0)], .agg [.lit (.int .u8 0), .lit (.int .u8 0)], .agg [.lit (.int .u8 0), .lit (.int .u8 0)], .agg [.lit (.int .u8 0), .lit (.int .u8 0)], .agg [.lit (.int .u8 0), .lit (.int .u8 0)], .agg [.lit (.int .u8 0), .lit (.int .u8 0)], .agg [.lit (.int .u8 0), .lit (.int .u8 0)], .agg [.lit (.int .u8 0), .lit (.int .u8 0)]]
/-- One of Go's own tables, pinned by name: the form's constant. -/
def laid_unicode_utf8_first : DataW Unit := Go.Pinned.utf8First

/-- 'barbicanlaw06.TargetHosts': WHATEVER THE INPUT: true; the input reads as it did. -/
def targetHostsSpec : ChangeSpec := { name := "targetHosts", fn := fun _ => fun
  | [d] => { results := [.lit (.bool true)], args := [d] }
  | _ => none }
def targetHostsRow : OpenClaim := { program := "ytjbmipbjlhcooaadoor", sum := "5e9a824b715138ecca0e1213f6819b160b4a55a33b6deeaef82a5c25abc0a2b4", func := "barbican/barbicanlaw06.TargetHosts", spec := "targetHosts", inPlace := ["internal/bytealg.IndexByteString", "internal/bytealg.IndexString", "internal/bytealg.CountString", "internal/abi.NoEscape", "internal/bytealg.MakeNoZero"], named := ["internal/bytealg.MaxLen", "unicode/utf8.first", "unicode/utf8.acceptRanges"], apart := false, laid := [("unicode/utf8.acceptRanges", laid_unicode_utf8_acceptRanges), ("unicode/utf8.first", laid_unicode_utf8_first)] }
def TargetHostsSaid : Prop := targetHostsRow.holds Tryd.pinned (OpenSpec.ofChange targetHostsSpec)

/-- ITS FALSE NEIGHBOUR: 'it returns false'. Refute it at one input. -/
def targetHostsWrong : ChangeSpec := { name := "targetHosts", fn := fun _ => fun
  | [d] => { results := [.lit (.bool false)], args := [d] }
  | _ => none }
def TargetHostsWrongFalsely : Prop := targetHostsRow.holds Tryd.pinned (OpenSpec.ofChange targetHostsWrong)

/-- 'barbicanlaw06.TargetAbsolute': WHATEVER THE INPUT: true; the input reads as it did. -/
def targetAbsoluteSpec : ChangeSpec := { name := "targetAbsolute", fn := fun _ => fun
  | [d1, d2] => { results := [.lit (.bool true)], args := [d1, d2] }
  | _ => none }
def targetAbsoluteRow : OpenClaim := { program := "ytjbmipbjlhcooaadoor", sum := "5e9a824b715138ecca0e1213f6819b160b4a55a33b6deeaef82a5c25abc0a2b4", func := "barbican/barbicanlaw06.TargetAbsolute", spec := "targetAbsolute", inPlace := ["internal/bytealg.IndexByteString", "internal/bytealg.IndexString", "internal/bytealg.CountString", "internal/abi.NoEscape", "internal/bytealg.MakeNoZero"], named := ["internal/bytealg.MaxLen", "unicode/utf8.first", "unicode/utf8.acceptRanges"], apart := false, laid := [("unicode/utf8.acceptRanges", laid_unicode_utf8_acceptRanges), ("unicode/utf8.first", laid_unicode_utf8_first)] }
def TargetAbsoluteSaid : Prop := targetAbsoluteRow.holds Tryd.pinned (OpenSpec.ofChange targetAbsoluteSpec)

/-- ITS FALSE NEIGHBOUR: 'it returns false'. Refute it at one input. -/
def targetAbsoluteWrong : ChangeSpec := { name := "targetAbsolute", fn := fun _ => fun
  | [d1, d2] => { results := [.lit (.bool false)], args := [d1, d2] }
  | _ => none }
def TargetAbsoluteWrongFalsely : Prop := targetAbsoluteRow.holds Tryd.pinned (OpenSpec.ofChange targetAbsoluteWrong)

/-- 'barbicanlaw06.TargetCase': WHATEVER THE INPUT: true; the input reads as it did. -/
def targetCaseSpec : ChangeSpec := { name := "targetCase", fn := fun _ => fun
  | [d] => { results := [.lit (.bool true)], args := [d] }
  | _ => none }
def targetCaseRow : OpenClaim := { program := "ytjbmipbjlhcooaadoor", sum := "5e9a824b715138ecca0e1213f6819b160b4a55a33b6deeaef82a5c25abc0a2b4", func := "barbican/barbicanlaw06.TargetCase", spec := "targetCase", inPlace := ["internal/bytealg.IndexByteString", "internal/bytealg.IndexString", "internal/bytealg.CountString", "internal/abi.NoEscape", "internal/bytealg.MakeNoZero"], named := ["internal/bytealg.MaxLen", "unicode/utf8.first", "unicode/utf8.acceptRanges"], apart := false, laid := [("unicode/utf8.acceptRanges", laid_unicode_utf8_acceptRanges), ("unicode/utf8.first", laid_unicode_utf8_first)] }
def TargetCaseSaid : Prop := targetCaseRow.holds Tryd.pinned (OpenSpec.ofChange targetCaseSpec)

/-- ITS FALSE NEIGHBOUR: 'it returns false'. Refute it at one input. -/
def targetCaseWrong : ChangeSpec := { name := "targetCase", fn := fun _ => fun
  | [d] => { results := [.lit (.bool false)], args := [d] }
  | _ => none }
def TargetCaseWrongFalsely : Prop := targetCaseRow.holds Tryd.pinned (OpenSpec.ofChange targetCaseWrong)

/-- 'barbicanlaw06.TargetParses': WHATEVER THE INPUT: true; the input reads as it did. -/
def targetParsesSpec : ChangeSpec := { name := "targetParses", fn := fun _ => fun
  | [d1, d2] => { results := [.lit (.bool true)], args := [d1, d2] }
  | _ => none }
def targetParsesRow : OpenClaim := { program := "ytjbmipbjlhcooaadoor", sum := "5e9a824b715138ecca0e1213f6819b160b4a55a33b6deeaef82a5c25abc0a2b4", func := "barbican/barbicanlaw06.TargetParses", spec := "targetParses", inPlace := ["internal/bytealg.IndexByteString", "internal/bytealg.IndexString", "internal/bytealg.CountString", "internal/abi.NoEscape", "internal/bytealg.MakeNoZero"], named := ["internal/bytealg.MaxLen", "unicode/utf8.first", "unicode/utf8.acceptRanges"], apart := false, laid := [("unicode/utf8.acceptRanges", laid_unicode_utf8_acceptRanges), ("unicode/utf8.first", laid_unicode_utf8_first)] }
def TargetParsesSaid : Prop := targetParsesRow.holds Tryd.pinned (OpenSpec.ofChange targetParsesSpec)

/-- ITS FALSE NEIGHBOUR: 'it returns false'. Refute it at one input. -/
def targetParsesWrong : ChangeSpec := { name := "targetParses", fn := fun _ => fun
  | [d1, d2] => { results := [.lit (.bool false)], args := [d1, d2] }
  | _ => none }
def TargetParsesWrongFalsely : Prop := targetParsesRow.holds Tryd.pinned (OpenSpec.ofChange targetParsesWrong)

/-- 'barbicanlaw06.TargetAgain': WHATEVER THE INPUT: true; the input reads as it did. -/
def targetAgainSpec : ChangeSpec := { name := "targetAgain", fn := fun _ => fun
  | [d1, d2] => { results := [.lit (.bool true)], args := [d1, d2] }
  | _ => none }
def targetAgainRow : OpenClaim := { program := "ytjbmipbjlhcooaadoor", sum := "5e9a824b715138ecca0e1213f6819b160b4a55a33b6deeaef82a5c25abc0a2b4", func := "barbican/barbicanlaw06.TargetAgain", spec := "targetAgain", inPlace := ["internal/bytealg.IndexByteString", "internal/bytealg.IndexString", "internal/bytealg.CountString", "internal/abi.NoEscape", "internal/bytealg.MakeNoZero"], named := ["internal/bytealg.MaxLen", "unicode/utf8.first", "unicode/utf8.acceptRanges"], apart := false, laid := [("unicode/utf8.acceptRanges", laid_unicode_utf8_acceptRanges), ("unicode/utf8.first", laid_unicode_utf8_first)] }
def TargetAgainSaid : Prop := targetAgainRow.holds Tryd.pinned (OpenSpec.ofChange targetAgainSpec)

/-- ITS FALSE NEIGHBOUR: 'it returns false'. Refute it at one input. -/
def targetAgainWrong : ChangeSpec := { name := "targetAgain", fn := fun _ => fun
  | [d1, d2] => { results := [.lit (.bool false)], args := [d1, d2] }
  | _ => none }
def TargetAgainWrongFalsely : Prop := targetAgainRow.holds Tryd.pinned (OpenSpec.ofChange targetAgainWrong)

/-- 'barbicanlaw08.HeadUsed': WHATEVER THE INPUT: true; the input reads as it did. -/
def headUsedSpec : ChangeSpec := { name := "headUsed", fn := fun _ => fun
  | [d1, d2] => { results := [.lit (.bool true)], args := [d1, d2] }
  | _ => none }
def headUsedRow : OpenClaim := { program := "ytjbmipbjlhcooaadoor", sum := "5e9a824b715138ecca0e1213f6819b160b4a55a33b6deeaef82a5c25abc0a2b4", func := "barbican/barbicanlaw08.HeadUsed", spec := "headUsed", inPlace := ["internal/bytealg.IndexByteString", "internal/bytealg.IndexString", "internal/bytealg.CountString"], unfollowed := true, recurses := true, named := ["internal/bytealg.MaxLen", "unicode/utf8.first", "unicode/utf8.acceptRanges"], apart := false, laid := [("unicode/utf8.acceptRanges", laid_unicode_utf8_acceptRanges), ("unicode/utf8.first", laid_unicode_utf8_first)] }
def HeadUsedSaid : Prop := headUsedRow.holds Tryd.pinned (OpenSpec.ofChange headUsedSpec)

/-- ITS FALSE NEIGHBOUR: 'it returns false'. Refute it at one input. -/
def headUsedWrong : ChangeSpec := { name := "headUsed", fn := fun _ => fun
  | [d1, d2] => { results := [.lit (.bool false)], args := [d1, d2] }
  | _ => none }
def HeadUsedWrongFalsely : Prop := headUsedRow.holds Tryd.pinned (OpenSpec.ofChange headUsedWrong)

/-- 'barbicanlaw08.HeadWritten': WHATEVER THE INPUT: true; the input reads as it did. -/
def headWrittenSpec : ChangeSpec := { name := "headWritten", fn := fun _ => fun
  | [d1, d2, d3, d4] => { results := [.lit (.bool true)], args := [d1, d2, d3, d4] }
  | _ => none }
def headWrittenRow : OpenClaim := { program := "ytjbmipbjlhcooaadoor", sum := "5e9a824b715138ecca0e1213f6819b160b4a55a33b6deeaef82a5c25abc0a2b4", func := "barbican/barbicanlaw08.HeadWritten", spec := "headWritten", inPlace := ["internal/bytealg.IndexByteString", "internal/bytealg.IndexString", "internal/bytealg.CountString"], unfollowed := true, recurses := true, named := ["internal/bytealg.MaxLen", "unicode/utf8.first", "unicode/utf8.acceptRanges"], apart := false, laid := [("unicode/utf8.acceptRanges", laid_unicode_utf8_acceptRanges), ("unicode/utf8.first", laid_unicode_utf8_first)] }
def HeadWrittenSaid : Prop := headWrittenRow.holds Tryd.pinned (OpenSpec.ofChange headWrittenSpec)

/-- ITS FALSE NEIGHBOUR: 'it returns false'. Refute it at one input. -/
def headWrittenWrong : ChangeSpec := { name := "headWritten", fn := fun _ => fun
  | [d1, d2, d3, d4] => { results := [.lit (.bool false)], args := [d1, d2, d3, d4] }
  | _ => none }
def HeadWrittenWrongFalsely : Prop := headWrittenRow.holds Tryd.pinned (OpenSpec.ofChange headWrittenWrong)

/-- 'barbicanlaw08.HeadFields': WHATEVER THE INPUT: true; the input reads as it did. -/
def headFieldsSpec : ChangeSpec := { name := "headFields", fn := fun _ => fun
  | [d] => { results := [.lit (.bool true)], args := [d] }
  | _ => none }
def headFieldsRow : OpenClaim := { program := "ytjbmipbjlhcooaadoor", sum := "5e9a824b715138ecca0e1213f6819b160b4a55a33b6deeaef82a5c25abc0a2b4", func := "barbican/barbicanlaw08.HeadFields", spec := "headFields", inPlace := ["internal/bytealg.IndexByteString", "internal/bytealg.IndexString", "internal/bytealg.CountString"], unfollowed := true, recurses := true, named := ["internal/bytealg.MaxLen", "unicode/utf8.first", "unicode/utf8.acceptRanges"], apart := false, laid := [("unicode/utf8.acceptRanges", laid_unicode_utf8_acceptRanges), ("unicode/utf8.first", laid_unicode_utf8_first)] }
def HeadFieldsSaid : Prop := headFieldsRow.holds Tryd.pinned (OpenSpec.ofChange headFieldsSpec)

/-- ITS FALSE NEIGHBOUR: 'it returns false'. Refute it at one input. -/
def headFieldsWrong : ChangeSpec := { name := "headFields", fn := fun _ => fun
  | [d] => { results := [.lit (.bool false)], args := [d] }
  | _ => none }
def HeadFieldsWrongFalsely : Prop := headFieldsRow.holds Tryd.pinned (OpenSpec.ofChange headFieldsWrong)

/-- 'barbicanlaw08.HeadBounds': WHATEVER THE INPUT: true; the input reads as it did. -/
def headBoundsSpec : ChangeSpec := { name := "headBounds", fn := fun _ => fun
  | [d1, d2, d3] => { results := [.lit (.bool true)], args := [d1, d2, d3] }
  | _ => none }
def headBoundsRow : OpenClaim := { program := "ytjbmipbjlhcooaadoor", sum := "5e9a824b715138ecca0e1213f6819b160b4a55a33b6deeaef82a5c25abc0a2b4", func := "barbican/barbicanlaw08.HeadBounds", spec := "headBounds", inPlace := ["internal/bytealg.IndexByteString", "internal/bytealg.IndexString", "internal/bytealg.CountString"], unfollowed := true, recurses := true, named := ["internal/bytealg.MaxLen", "unicode/utf8.first", "unicode/utf8.acceptRanges"], apart := false, laid := [("unicode/utf8.acceptRanges", laid_unicode_utf8_acceptRanges), ("unicode/utf8.first", laid_unicode_utf8_first)] }
def HeadBoundsSaid : Prop := headBoundsRow.holds Tryd.pinned (OpenSpec.ofChange headBoundsSpec)

/-- ITS FALSE NEIGHBOUR: 'it returns false'. Refute it at one input. -/
def headBoundsWrong : ChangeSpec := { name := "headBounds", fn := fun _ => fun
  | [d1, d2, d3] => { results := [.lit (.bool false)], args := [d1, d2, d3] }
  | _ => none }
def HeadBoundsWrongFalsely : Prop := headBoundsRow.holds Tryd.pinned (OpenSpec.ofChange headBoundsWrong)

/-- 'barbicanlaw08.HeadAhead': WHATEVER THE INPUT: true; the input reads as it did. -/
def headAheadSpec : ChangeSpec := { name := "headAhead", fn := fun _ => fun
  | [d1, d2] => { results := [.lit (.bool true)], args := [d1, d2] }
  | _ => none }
def headAheadRow : OpenClaim := { program := "ytjbmipbjlhcooaadoor", sum := "5e9a824b715138ecca0e1213f6819b160b4a55a33b6deeaef82a5c25abc0a2b4", func := "barbican/barbicanlaw08.HeadAhead", spec := "headAhead", inPlace := ["internal/bytealg.IndexByteString", "internal/bytealg.IndexString", "internal/bytealg.CountString"], unfollowed := true, recurses := true, named := ["internal/bytealg.MaxLen", "unicode/utf8.first", "unicode/utf8.acceptRanges"], apart := false, laid := [("unicode/utf8.acceptRanges", laid_unicode_utf8_acceptRanges), ("unicode/utf8.first", laid_unicode_utf8_first)] }
def HeadAheadSaid : Prop := headAheadRow.holds Tryd.pinned (OpenSpec.ofChange headAheadSpec)

/-- ITS FALSE NEIGHBOUR: 'it returns false'. Refute it at one input. -/
def headAheadWrong : ChangeSpec := { name := "headAhead", fn := fun _ => fun
  | [d1, d2] => { results := [.lit (.bool false)], args := [d1, d2] }
  | _ => none }
def HeadAheadWrongFalsely : Prop := headAheadRow.holds Tryd.pinned (OpenSpec.ofChange headAheadWrong)

/-- 'barbicanlaw08.HeadReads': WHATEVER THE INPUT: true; the input reads as it did. -/
def headReadsSpec : ChangeSpec := { name := "headReads", fn := fun _ => fun
  | [d] => { results := [.lit (.bool true)], args := [d] }
  | _ => none }
def headReadsRow : OpenClaim := { program := "ytjbmipbjlhcooaadoor", sum := "5e9a824b715138ecca0e1213f6819b160b4a55a33b6deeaef82a5c25abc0a2b4", func := "barbican/barbicanlaw08.HeadReads", spec := "headReads", inPlace := ["internal/bytealg.IndexByteString", "internal/bytealg.IndexString", "internal/bytealg.CountString"], unfollowed := true, recurses := true, named := ["internal/bytealg.MaxLen", "unicode/utf8.first", "unicode/utf8.acceptRanges"], apart := false, laid := [("unicode/utf8.acceptRanges", laid_unicode_utf8_acceptRanges), ("unicode/utf8.first", laid_unicode_utf8_first)] }
def HeadReadsSaid : Prop := headReadsRow.holds Tryd.pinned (OpenSpec.ofChange headReadsSpec)

/-- ITS FALSE NEIGHBOUR: 'it returns false'. Refute it at one input. -/
def headReadsWrong : ChangeSpec := { name := "headReads", fn := fun _ => fun
  | [d] => { results := [.lit (.bool false)], args := [d] }
  | _ => none }
def HeadReadsWrongFalsely : Prop := headReadsRow.holds Tryd.pinned (OpenSpec.ofChange headReadsWrong)

/-- 'barbicanlaw08.HeadSteady': WHATEVER THE INPUT: true; the input reads as it did. -/
def headSteadySpec : ChangeSpec := { name := "headSteady", fn := fun _ => fun
  | [d1, d2] => { results := [.lit (.bool true)], args := [d1, d2] }
  | _ => none }
def headSteadyRow : OpenClaim := { program := "ytjbmipbjlhcooaadoor", sum := "5e9a824b715138ecca0e1213f6819b160b4a55a33b6deeaef82a5c25abc0a2b4", func := "barbican/barbicanlaw08.HeadSteady", spec := "headSteady", inPlace := ["internal/bytealg.IndexByteString", "internal/bytealg.IndexString", "internal/bytealg.CountString"], unfollowed := true, recurses := true, named := ["internal/bytealg.MaxLen", "unicode/utf8.first", "unicode/utf8.acceptRanges"], apart := false, laid := [("unicode/utf8.acceptRanges", laid_unicode_utf8_acceptRanges), ("unicode/utf8.first", laid_unicode_utf8_first)] }
def HeadSteadySaid : Prop := headSteadyRow.holds Tryd.pinned (OpenSpec.ofChange headSteadySpec)

/-- ITS FALSE NEIGHBOUR: 'it returns false'. Refute it at one input. -/
def headSteadyWrong : ChangeSpec := { name := "headSteady", fn := fun _ => fun
  | [d1, d2] => { results := [.lit (.bool false)], args := [d1, d2] }
  | _ => none }
def HeadSteadyWrongFalsely : Prop := headSteadyRow.holds Tryd.pinned (OpenSpec.ofChange headSteadyWrong)

/-- 'barbicanlaw08.HeadBare': WHATEVER THE INPUT: true; the input reads as it did. -/
def headBareSpec : ChangeSpec := { name := "headBare", fn := fun _ => fun
  | [d] => { results := [.lit (.bool true)], args := [d] }
  | _ => none }
def headBareRow : OpenClaim := { program := "ytjbmipbjlhcooaadoor", sum := "5e9a824b715138ecca0e1213f6819b160b4a55a33b6deeaef82a5c25abc0a2b4", func := "barbican/barbicanlaw08.HeadBare", spec := "headBare", inPlace := ["internal/bytealg.IndexByteString", "internal/bytealg.IndexString", "internal/bytealg.CountString"], unfollowed := true, recurses := true, named := ["internal/bytealg.MaxLen", "unicode/utf8.first", "unicode/utf8.acceptRanges"], apart := false, laid := [("unicode/utf8.acceptRanges", laid_unicode_utf8_acceptRanges), ("unicode/utf8.first", laid_unicode_utf8_first)] }
def HeadBareSaid : Prop := headBareRow.holds Tryd.pinned (OpenSpec.ofChange headBareSpec)

/-- ITS FALSE NEIGHBOUR: 'it returns false'. Refute it at one input. -/
def headBareWrong : ChangeSpec := { name := "headBare", fn := fun _ => fun
  | [d] => { results := [.lit (.bool false)], args := [d] }
  | _ => none }
def HeadBareWrongFalsely : Prop := headBareRow.holds Tryd.pinned (OpenSpec.ofChange headBareWrong)

/- THE SECOND FORM. 'bulk': how many values and letters a reading holds, each counted each time it is reached (what is shared counts as often as it is met; a slice's spare places count too). A statement '..UptoSaid' is the law's where the arguments, and the package variables that the reading takes, are together of bulk at most 1048576: NARROWER than '..Said'. Prove '..Said' where nothing that the law and all that it calls make is longer than what came in: it says more and counts as full. Else prove '..UptoSaid'. A law counts once. -/
mutual
def uptoBulk {H : Type} : DataW H → Nat
  | .lit (.string bytes) => bytes.length + 1
  | .lit _ => 1
  | .nil => 1
  | .ptr d => uptoBulk d + 1
  | .slice elems spare => uptoBulkAll elems + uptoBulkAll spare + 1
  | .agg parts => uptoBulkAll parts + 1
  | .iface _ d => uptoBulk d + 1
  | .map entries => uptoBulkEntries entries + 1
  | .held _ => 1
def uptoBulkAll {H : Type} : List (DataW H) → Nat
  | [] => 0
  | d :: r => uptoBulk d + uptoBulkAll r
def uptoBulkEntries {H : Type} : List (Lit × DataW H) → Nat
  | [] => 0
  | x :: r => uptoBulkEntry x + uptoBulkEntries r
def uptoBulkEntry {H : Type} : Lit × DataW H → Nat
  | (.string bytes, d) => bytes.length + uptoBulk d + 1
  | (_, d) => uptoBulk d + 1
 end
def uptoSmall : (H : Type) → List (DataW H) → Bool := fun _ ds => decide (uptoBulkAll ds ≤ 1048576)
def OpenSpec.upto (s : _root_.Go.ChangeSpec) : _root_.Go.OpenSpec := { _root_.Go.OpenSpec.ofChange s with cond := some uptoSmall }

/-- 'barbicanlaw06.TargetHosts', WHERE WHAT IT READS IS OF BULK AT MOST 1048576: true; the input reads as it did. -/
def targetHostsUptoRow : OpenClaim := { program := "ytjbmipbjlhcooaadoor", sum := "5e9a824b715138ecca0e1213f6819b160b4a55a33b6deeaef82a5c25abc0a2b4", func := "barbican/barbicanlaw06.TargetHosts", spec := "targetHosts", inPlace := ["internal/bytealg.IndexByteString", "internal/bytealg.IndexString", "internal/bytealg.CountString", "internal/abi.NoEscape", "internal/bytealg.MakeNoZero"], named := ["internal/bytealg.MaxLen", "unicode/utf8.first", "unicode/utf8.acceptRanges"], apart := false, laid := [("unicode/utf8.acceptRanges", laid_unicode_utf8_acceptRanges), ("unicode/utf8.first", laid_unicode_utf8_first)], narrowed := true }
def TargetHostsUptoSaid : Prop := targetHostsUptoRow.holds Tryd.pinned (OpenSpec.upto targetHostsSpec)

/-- 'barbicanlaw06.TargetAbsolute', WHERE WHAT IT READS IS OF BULK AT MOST 1048576: true; the input reads as it did. -/
def targetAbsoluteUptoRow : OpenClaim := { program := "ytjbmipbjlhcooaadoor", sum := "5e9a824b715138ecca0e1213f6819b160b4a55a33b6deeaef82a5c25abc0a2b4", func := "barbican/barbicanlaw06.TargetAbsolute", spec := "targetAbsolute", inPlace := ["internal/bytealg.IndexByteString", "internal/bytealg.IndexString", "internal/bytealg.CountString", "internal/abi.NoEscape", "internal/bytealg.MakeNoZero"], named := ["internal/bytealg.MaxLen", "unicode/utf8.first", "unicode/utf8.acceptRanges"], apart := false, laid := [("unicode/utf8.acceptRanges", laid_unicode_utf8_acceptRanges), ("unicode/utf8.first", laid_unicode_utf8_first)], narrowed := true }
def TargetAbsoluteUptoSaid : Prop := targetAbsoluteUptoRow.holds Tryd.pinned (OpenSpec.upto targetAbsoluteSpec)

/-- 'barbicanlaw06.TargetCase', WHERE WHAT IT READS IS OF BULK AT MOST 1048576: true; the input reads as it did. -/
def targetCaseUptoRow : OpenClaim := { program := "ytjbmipbjlhcooaadoor", sum := "5e9a824b715138ecca0e1213f6819b160b4a55a33b6deeaef82a5c25abc0a2b4", func := "barbican/barbicanlaw06.TargetCase", spec := "targetCase", inPlace := ["internal/bytealg.IndexByteString", "internal/bytealg.IndexString", "internal/bytealg.CountString", "internal/abi.NoEscape", "internal/bytealg.MakeNoZero"], named := ["internal/bytealg.MaxLen", "unicode/utf8.first", "unicode/utf8.acceptRanges"], apart := false, laid := [("unicode/utf8.acceptRanges", laid_unicode_utf8_acceptRanges), ("unicode/utf8.first", laid_unicode_utf8_first)], narrowed := true }
def TargetCaseUptoSaid : Prop := targetCaseUptoRow.holds Tryd.pinned (OpenSpec.upto targetCaseSpec)

/-- 'barbicanlaw06.TargetParses', WHERE WHAT IT READS IS OF BULK AT MOST 1048576: true; the input reads as it did. -/
def targetParsesUptoRow : OpenClaim := { program := "ytjbmipbjlhcooaadoor", sum := "5e9a824b715138ecca0e1213f6819b160b4a55a33b6deeaef82a5c25abc0a2b4", func := "barbican/barbicanlaw06.TargetParses", spec := "targetParses", inPlace := ["internal/bytealg.IndexByteString", "internal/bytealg.IndexString", "internal/bytealg.CountString", "internal/abi.NoEscape", "internal/bytealg.MakeNoZero"], named := ["internal/bytealg.MaxLen", "unicode/utf8.first", "unicode/utf8.acceptRanges"], apart := false, laid := [("unicode/utf8.acceptRanges", laid_unicode_utf8_acceptRanges), ("unicode/utf8.first", laid_unicode_utf8_first)], narrowed := true }
def TargetParsesUptoSaid : Prop := targetParsesUptoRow.holds Tryd.pinned (OpenSpec.upto targetParsesSpec)

/-- 'barbicanlaw06.TargetAgain', WHERE WHAT IT READS IS OF BULK AT MOST 1048576: true; the input reads as it did. -/
def targetAgainUptoRow : OpenClaim := { program := "ytjbmipbjlhcooaadoor", sum := "5e9a824b715138ecca0e1213f6819b160b4a55a33b6deeaef82a5c25abc0a2b4", func := "barbican/barbicanlaw06.TargetAgain", spec := "targetAgain", inPlace := ["internal/bytealg.IndexByteString", "internal/bytealg.IndexString", "internal/bytealg.CountString", "internal/abi.NoEscape", "internal/bytealg.MakeNoZero"], named := ["internal/bytealg.MaxLen", "unicode/utf8.first", "unicode/utf8.acceptRanges"], apart := false, laid := [("unicode/utf8.acceptRanges", laid_unicode_utf8_acceptRanges), ("unicode/utf8.first", laid_unicode_utf8_first)], narrowed := true }
def TargetAgainUptoSaid : Prop := targetAgainUptoRow.holds Tryd.pinned (OpenSpec.upto targetAgainSpec)

/-- 'barbicanlaw08.HeadUsed', WHERE WHAT IT READS IS OF BULK AT MOST 1048576: true; the input reads as it did. -/
def headUsedUptoRow : OpenClaim := { program := "ytjbmipbjlhcooaadoor", sum := "5e9a824b715138ecca0e1213f6819b160b4a55a33b6deeaef82a5c25abc0a2b4", func := "barbican/barbicanlaw08.HeadUsed", spec := "headUsed", inPlace := ["internal/bytealg.IndexByteString", "internal/bytealg.IndexString", "internal/bytealg.CountString"], unfollowed := true, recurses := true, named := ["internal/bytealg.MaxLen", "unicode/utf8.first", "unicode/utf8.acceptRanges"], apart := false, laid := [("unicode/utf8.acceptRanges", laid_unicode_utf8_acceptRanges), ("unicode/utf8.first", laid_unicode_utf8_first)], narrowed := true }
def HeadUsedUptoSaid : Prop := headUsedUptoRow.holds Tryd.pinned (OpenSpec.upto headUsedSpec)

/-- 'barbicanlaw08.HeadWritten', WHERE WHAT IT READS IS OF BULK AT MOST 1048576: true; the input reads as it did. -/
def headWrittenUptoRow : OpenClaim := { program := "ytjbmipbjlhcooaadoor", sum := "5e9a824b715138ecca0e1213f6819b160b4a55a33b6deeaef82a5c25abc0a2b4", func := "barbican/barbicanlaw08.HeadWritten", spec := "headWritten", inPlace := ["internal/bytealg.IndexByteString", "internal/bytealg.IndexString", "internal/bytealg.CountString"], unfollowed := true, recurses := true, named := ["internal/bytealg.MaxLen", "unicode/utf8.first", "unicode/utf8.acceptRanges"], apart := false, laid := [("unicode/utf8.acceptRanges", laid_unicode_utf8_acceptRanges), ("unicode/utf8.first", laid_unicode_utf8_first)], narrowed := true }
def HeadWrittenUptoSaid : Prop := headWrittenUptoRow.holds Tryd.pinned (OpenSpec.upto headWrittenSpec)

/-- 'barbicanlaw08.HeadFields', WHERE WHAT IT READS IS OF BULK AT MOST 1048576: true; the input reads as it did. -/
def headFieldsUptoRow : OpenClaim := { program := "ytjbmipbjlhcooaadoor", sum := "5e9a824b715138ecca0e1213f6819b160b4a55a33b6deeaef82a5c25abc0a2b4", func := "barbican/barbicanlaw08.HeadFields", spec := "headFields", inPlace := ["internal/bytealg.IndexByteString", "internal/bytealg.IndexString", "internal/bytealg.CountString"], unfollowed := true, recurses := true, named := ["internal/bytealg.MaxLen", "unicode/utf8.first", "unicode/utf8.acceptRanges"], apart := false, laid := [("unicode/utf8.acceptRanges", laid_unicode_utf8_acceptRanges), ("unicode/utf8.first", laid_unicode_utf8_first)], narrowed := true }
def HeadFieldsUptoSaid : Prop := headFieldsUptoRow.holds Tryd.pinned (OpenSpec.upto headFieldsSpec)

/-- 'barbicanlaw08.HeadBounds', WHERE WHAT IT READS IS OF BULK AT MOST 1048576: true; the input reads as it did. -/
def headBoundsUptoRow : OpenClaim := { program := "ytjbmipbjlhcooaadoor", sum := "5e9a824b715138ecca0e1213f6819b160b4a55a33b6deeaef82a5c25abc0a2b4", func := "barbican/barbicanlaw08.HeadBounds", spec := "headBounds", inPlace := ["internal/bytealg.IndexByteString", "internal/bytealg.IndexString", "internal/bytealg.CountString"], unfollowed := true, recurses := true, named := ["internal/bytealg.MaxLen", "unicode/utf8.first", "unicode/utf8.acceptRanges"], apart := false, laid := [("unicode/utf8.acceptRanges", laid_unicode_utf8_acceptRanges), ("unicode/utf8.first", laid_unicode_utf8_first)], narrowed := true }
def HeadBoundsUptoSaid : Prop := headBoundsUptoRow.holds Tryd.pinned (OpenSpec.upto headBoundsSpec)

/-- 'barbicanlaw08.HeadAhead', WHERE WHAT IT READS IS OF BULK AT MOST 1048576: true; the input reads as it did. -/
def headAheadUptoRow : OpenClaim := { program := "ytjbmipbjlhcooaadoor", sum := "5e9a824b715138ecca0e1213f6819b160b4a55a33b6deeaef82a5c25abc0a2b4", func := "barbican/barbicanlaw08.HeadAhead", spec := "headAhead", inPlace := ["internal/bytealg.IndexByteString", "internal/bytealg.IndexString", "internal/bytealg.CountString"], unfollowed := true, recurses := true, named := ["internal/bytealg.MaxLen", "unicode/utf8.first", "unicode/utf8.acceptRanges"], apart := false, laid := [("unicode/utf8.acceptRanges", laid_unicode_utf8_acceptRanges), ("unicode/utf8.first", laid_unicode_utf8_first)], narrowed := true }
def HeadAheadUptoSaid : Prop := headAheadUptoRow.holds Tryd.pinned (OpenSpec.upto headAheadSpec)

/-- 'barbicanlaw08.HeadReads', WHERE WHAT IT READS IS OF BULK AT MOST 1048576: true; the input reads as it did. -/
def headReadsUptoRow : OpenClaim := { program := "ytjbmipbjlhcooaadoor", sum := "5e9a824b715138ecca0e1213f6819b160b4a55a33b6deeaef82a5c25abc0a2b4", func := "barbican/barbicanlaw08.HeadReads", spec := "headReads", inPlace := ["internal/bytealg.IndexByteString", "internal/bytealg.IndexString", "internal/bytealg.CountString"], unfollowed := true, recurses := true, named := ["internal/bytealg.MaxLen", "unicode/utf8.first", "unicode/utf8.acceptRanges"], apart := false, laid := [("unicode/utf8.acceptRanges", laid_unicode_utf8_acceptRanges), ("unicode/utf8.first", laid_unicode_utf8_first)], narrowed := true }
def HeadReadsUptoSaid : Prop := headReadsUptoRow.holds Tryd.pinned (OpenSpec.upto headReadsSpec)

/-- 'barbicanlaw08.HeadSteady', WHERE WHAT IT READS IS OF BULK AT MOST 1048576: true; the input reads as it did. -/
def headSteadyUptoRow : OpenClaim := { program := "ytjbmipbjlhcooaadoor", sum := "5e9a824b715138ecca0e1213f6819b160b4a55a33b6deeaef82a5c25abc0a2b4", func := "barbican/barbicanlaw08.HeadSteady", spec := "headSteady", inPlace := ["internal/bytealg.IndexByteString", "internal/bytealg.IndexString", "internal/bytealg.CountString"], unfollowed := true, recurses := true, named := ["internal/bytealg.MaxLen", "unicode/utf8.first", "unicode/utf8.acceptRanges"], apart := false, laid := [("unicode/utf8.acceptRanges", laid_unicode_utf8_acceptRanges), ("unicode/utf8.first", laid_unicode_utf8_first)], narrowed := true }
def HeadSteadyUptoSaid : Prop := headSteadyUptoRow.holds Tryd.pinned (OpenSpec.upto headSteadySpec)

/-- 'barbicanlaw08.HeadBare', WHERE WHAT IT READS IS OF BULK AT MOST 1048576: true; the input reads as it did. -/
def headBareUptoRow : OpenClaim := { program := "ytjbmipbjlhcooaadoor", sum := "5e9a824b715138ecca0e1213f6819b160b4a55a33b6deeaef82a5c25abc0a2b4", func := "barbican/barbicanlaw08.HeadBare", spec := "headBare", inPlace := ["internal/bytealg.IndexByteString", "internal/bytealg.IndexString", "internal/bytealg.CountString"], unfollowed := true, recurses := true, named := ["internal/bytealg.MaxLen", "unicode/utf8.first", "unicode/utf8.acceptRanges"], apart := false, laid := [("unicode/utf8.acceptRanges", laid_unicode_utf8_acceptRanges), ("unicode/utf8.first", laid_unicode_utf8_first)], narrowed := true }
def HeadBareUptoSaid : Prop := headBareUptoRow.holds Tryd.pinned (OpenSpec.upto headBareSpec)

end Rows
end Go.Proofs.YtjbmipbjlhcooaaDoor
