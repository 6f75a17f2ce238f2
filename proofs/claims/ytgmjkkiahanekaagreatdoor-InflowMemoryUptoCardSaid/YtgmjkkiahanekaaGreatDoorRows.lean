/-
  NARROWER THAN 'FOR EVERY INPUT', by the rows' own cells (each row's printed sentence says how): OutflowPlays: laid · InflowPieces: laid · InflowSmuggles: laid · InflowWhole: laid · InflowMemory: laid · InflowWritten: laid · InflowBound: laid · InflowHosts: laid · InflowPlays: laid · InflowRest: laid.
  DERIVED. THE GIVEN ROWS OF THIS SEAT. 10 by the template 'for every input the law returns true; each argument reads behind the call as it read before'; 0 by the template 'total and deterministic' (their statements: YtgmjkkiahanekaaGreatDoorTotals.lean).
  GIVEN WITH THE SEED: the statements are not yours to turn. If you find one false, say at which input.
  Laid BY PROGRAM, IN A SANDBOX (cutbox-rows.mjs): the forced cells as the released guide's own fill.sh prints them over the translation 7c1a3088536fd2df… (all of the seat's roots in one cut). By AI agents, Wed Nov 11 2026. No macro, syntax, notation, axiom, sorry.
-/
import Derived.Test.YtgmjkkiahanekaaGreatDoorChecked
import GoSem.PinnedTables
import GoSem.Claim
import GoSem.ClaimJoined
import GoSem.ClaimMapViews
import Derived.JoinedTies
import Derived.KernelRfl
namespace Go.Proofs.YtgmjkkiahanekaaGreatDoor
/- THE CELL 'sum', in the pinned program and in every row, IS THE sha256 OF THE DUMP (.gsa) THAT YtgmjkkiahanekaaGreatDoorProg.lean LOADS. Nothing in Lean hashes anything: it is a label: what it is worth is what the hold of that sum in a sandbox is worth. -/
noncomputable def Tryz.pinned : Pinned := { name := "ytgmjkkiahanekaagreatdoor", sum := "7c1a3088536fd2df46dee8c097b86492c553a562c1041b577933a7b306ac351c", checked := Tryz.checked }
namespace Rows
def none {H : Type} : Left H := { results := [], args := [] }

/- WHAT THE LISTED PACKAGE-LEVEL VARIABLES READ AS WHEN THE CALL BEGINS. Each datum BY PROGRAM (the guide's laid-datum.mjs) off the statement by which the dump's own 'gosem.cut.vars' lays the variable. In a bare row this is a premise. The card (YtgmjkkiahanekaaGreatDoorCards.lean) ties it to the program's text. -/
def laid_unicode_utf8_acceptRanges {H : Type} : DataW H := .agg [.agg [.lit (.int .u8 128), .lit (.int .u8 191)], .agg [.lit (.int .u8 160), .lit (.int .u8 191)], .agg [.lit (.int .u8 128), .lit (.int .u8 159)], .agg [.lit (.int .u8 144), .lit (.int .u8 191)], .agg [.lit (.int .u8 128), .lit (.int .u8 143)], .agg [.lit (.int .u8 0), .lit (.int .u8 0)], .agg [.lit (.int .u8 0), .lit (.int .u8 0)], .agg [.lit (.int .u8 0), .lit (.int .u8 0)], .agg [.lit (.int .u8 0), .lit (.int .u8 0)], .agg [.lit (.int .u8 0), .lit (.int .u8 0)], .agg [.lit (.int .u8 0), .lit (.int .u8 0)], .agg [.lit (.int .u8 0), .lit (.int .u8 0)], .agg [.lit (.int .u8 0), .lit (.int .u8 0)], .agg [.lit (.int .u8 0), .lit (.int .u8 0)], .agg [.lit (.int .u8 0), .lit (.int .u8 0)], .agg [.lit (.int .u8 0), .lit (.int .u8 0)]]
/-- One of Go's own tables, pinned by name: the form's constant. -/
def laid_unicode_utf8_first : DataW Unit := Go.Pinned.utf8First

/-- 'barbicanlaw12.OutflowPlays': WHATEVER THE INPUT: true; the input reads as it did. -/
def outflowPlaysSpec : ChangeSpec := { name := "outflowPlays", fn := fun _ => fun
  | [d1, d2] => { results := [.lit (.bool true)], args := [d1, d2] }
  | _ => none }
def outflowPlaysRow : OpenClaim := { program := "ytgmjkkiahanekaagreatdoor", sum := "7c1a3088536fd2df46dee8c097b86492c553a562c1041b577933a7b306ac351c", func := "barbican/barbicanlaw12.OutflowPlays", spec := "outflowPlays", inPlace := ["internal/bytealg.IndexByteString", "internal/bytealg.IndexString", "internal/bytealg.CountString", "internal/abi.NoEscape"], unfollowed := true, recurses := true, named := ["internal/bytealg.MaxLen", "unicode/utf8.first", "unicode/utf8.acceptRanges"], apart := false, laid := [("unicode/utf8.acceptRanges", laid_unicode_utf8_acceptRanges), ("unicode/utf8.first", laid_unicode_utf8_first)] }
def OutflowPlaysSaid : Prop := outflowPlaysRow.holds Tryz.pinned (OpenSpec.ofChange outflowPlaysSpec)

/-- ITS FALSE NEIGHBOUR: 'it returns false'. Refute it at one input. -/
def outflowPlaysWrong : ChangeSpec := { name := "outflowPlays", fn := fun _ => fun
  | [d1, d2] => { results := [.lit (.bool false)], args := [d1, d2] }
  | _ => none }
def OutflowPlaysWrongFalsely : Prop := outflowPlaysRow.holds Tryz.pinned (OpenSpec.ofChange outflowPlaysWrong)

/-- 'barbicanlaw11.InflowPieces': WHATEVER THE INPUT: true; the input reads as it did. -/
def inflowPiecesSpec : ChangeSpec := { name := "inflowPieces", fn := fun _ => fun
  | [d1, d2] => { results := [.lit (.bool true)], args := [d1, d2] }
  | _ => none }
def inflowPiecesRow : OpenClaim := { program := "ytgmjkkiahanekaagreatdoor", sum := "7c1a3088536fd2df46dee8c097b86492c553a562c1041b577933a7b306ac351c", func := "barbican/barbicanlaw11.InflowPieces", spec := "inflowPieces", inPlace := ["internal/bytealg.IndexByteString", "internal/bytealg.IndexString", "internal/bytealg.CountString", "internal/abi.NoEscape", "internal/bytealg.MakeNoZero"], unfollowed := true, recurses := true, named := ["internal/bytealg.MaxLen", "unicode/utf8.first", "unicode/utf8.acceptRanges"], apart := false, laid := [("unicode/utf8.acceptRanges", laid_unicode_utf8_acceptRanges), ("unicode/utf8.first", laid_unicode_utf8_first)] }
def InflowPiecesSaid : Prop := inflowPiecesRow.holds Tryz.pinned (OpenSpec.ofChange inflowPiecesSpec)

/-- ITS FALSE NEIGHBOUR: 'it returns false'. Refute it at one input. -/
def inflowPiecesWrong : ChangeSpec := { name := "inflowPieces", fn := fun _ => fun
  | [d1, d2] => { results := [.lit (.bool false)], args := [d1, d2] }
  | _ => none }
def InflowPiecesWrongFalsely : Prop := inflowPiecesRow.holds Tryz.pinned (OpenSpec.ofChange inflowPiecesWrong)

/-- 'barbicanlaw11.InflowSmuggles': WHATEVER THE INPUT: true; the input reads as it did. -/
def inflowSmugglesSpec : ChangeSpec := { name := "inflowSmuggles", fn := fun _ => fun
  | [d1, d2, d3] => { results := [.lit (.bool true)], args := [d1, d2, d3] }
  | _ => none }
def inflowSmugglesRow : OpenClaim := { program := "ytgmjkkiahanekaagreatdoor", sum := "7c1a3088536fd2df46dee8c097b86492c553a562c1041b577933a7b306ac351c", func := "barbican/barbicanlaw11.InflowSmuggles", spec := "inflowSmuggles", inPlace := ["internal/bytealg.IndexByteString", "internal/bytealg.IndexString", "internal/bytealg.CountString", "internal/abi.NoEscape", "internal/bytealg.MakeNoZero"], unfollowed := true, recurses := true, named := ["internal/bytealg.MaxLen", "unicode/utf8.first", "unicode/utf8.acceptRanges"], apart := false, laid := [("unicode/utf8.acceptRanges", laid_unicode_utf8_acceptRanges), ("unicode/utf8.first", laid_unicode_utf8_first)] }
def InflowSmugglesSaid : Prop := inflowSmugglesRow.holds Tryz.pinned (OpenSpec.ofChange inflowSmugglesSpec)

/-- ITS FALSE NEIGHBOUR: 'it returns false'. Refute it at one input. -/
def inflowSmugglesWrong : ChangeSpec := { name := "inflowSmuggles", fn := fun _ => fun
  | [d1, d2, d3] => { results := [.lit (.bool false)], args := [d1, d2, d3] }
  | _ => none }
def InflowSmugglesWrongFalsely : Prop := inflowSmugglesRow.holds Tryz.pinned (OpenSpec.ofChange inflowSmugglesWrong)

/-- 'barbicanlaw11.InflowWhole': WHATEVER THE INPUT: true; the input reads as it did. -/
def inflowWholeSpec : ChangeSpec := { name := "inflowWhole", fn := fun _ => fun
  | [d1, d2] => { results := [.lit (.bool true)], args := [d1, d2] }
  | _ => none }
def inflowWholeRow : OpenClaim := { program := "ytgmjkkiahanekaagreatdoor", sum := "7c1a3088536fd2df46dee8c097b86492c553a562c1041b577933a7b306ac351c", func := "barbican/barbicanlaw11.InflowWhole", spec := "inflowWhole", inPlace := ["internal/bytealg.IndexByteString", "internal/bytealg.IndexString", "internal/bytealg.CountString", "internal/abi.NoEscape", "internal/bytealg.MakeNoZero"], unfollowed := true, recurses := true, named := ["internal/bytealg.MaxLen", "unicode/utf8.first", "unicode/utf8.acceptRanges"], apart := false, laid := [("unicode/utf8.acceptRanges", laid_unicode_utf8_acceptRanges), ("unicode/utf8.first", laid_unicode_utf8_first)] }
def InflowWholeSaid : Prop := inflowWholeRow.holds Tryz.pinned (OpenSpec.ofChange inflowWholeSpec)

/-- ITS FALSE NEIGHBOUR: 'it returns false'. Refute it at one input. -/
def inflowWholeWrong : ChangeSpec := { name := "inflowWhole", fn := fun _ => fun
  | [d1, d2] => { results := [.lit (.bool false)], args := [d1, d2] }
  | _ => none }
def InflowWholeWrongFalsely : Prop := inflowWholeRow.holds Tryz.pinned (OpenSpec.ofChange inflowWholeWrong)

/-- 'barbicanlaw11.InflowMemory': WHATEVER THE INPUT: true; the input reads as it did. -/
def inflowMemorySpec : ChangeSpec := { name := "inflowMemory", fn := fun _ => fun
  | [d] => { results := [.lit (.bool true)], args := [d] }
  | _ => none }
def inflowMemoryRow : OpenClaim := { program := "ytgmjkkiahanekaagreatdoor", sum := "7c1a3088536fd2df46dee8c097b86492c553a562c1041b577933a7b306ac351c", func := "barbican/barbicanlaw11.InflowMemory", spec := "inflowMemory", inPlace := ["internal/bytealg.IndexByteString", "internal/bytealg.IndexString", "internal/bytealg.CountString", "internal/abi.NoEscape", "internal/bytealg.MakeNoZero"], unfollowed := true, recurses := true, named := ["internal/bytealg.MaxLen", "unicode/utf8.first", "unicode/utf8.acceptRanges"], apart := false, laid := [("unicode/utf8.acceptRanges", laid_unicode_utf8_acceptRanges), ("unicode/utf8.first", laid_unicode_utf8_first)] }
def InflowMemorySaid : Prop := inflowMemoryRow.holds Tryz.pinned (OpenSpec.ofChange inflowMemorySpec)

/-- ITS FALSE NEIGHBOUR: 'it returns false'. Refute it at one input. -/
def inflowMemoryWrong : ChangeSpec := { name := "inflowMemory", fn := fun _ => fun
  | [d] => { results := [.lit (.bool false)], args := [d] }
  | _ => none }
def InflowMemoryWrongFalsely : Prop := inflowMemoryRow.holds Tryz.pinned (OpenSpec.ofChange inflowMemoryWrong)

/-- 'barbicanlaw11.InflowWritten': WHATEVER THE INPUT: true; the input reads as it did. -/
def inflowWrittenSpec : ChangeSpec := { name := "inflowWritten", fn := fun _ => fun
  | [d1, d2, d3] => { results := [.lit (.bool true)], args := [d1, d2, d3] }
  | _ => none }
def inflowWrittenRow : OpenClaim := { program := "ytgmjkkiahanekaagreatdoor", sum := "7c1a3088536fd2df46dee8c097b86492c553a562c1041b577933a7b306ac351c", func := "barbican/barbicanlaw11.InflowWritten", spec := "inflowWritten", inPlace := ["internal/bytealg.IndexByteString", "internal/bytealg.IndexString", "internal/bytealg.CountString", "internal/abi.NoEscape", "internal/bytealg.MakeNoZero"], unfollowed := true, recurses := true, named := ["internal/bytealg.MaxLen", "unicode/utf8.first", "unicode/utf8.acceptRanges"], apart := false, laid := [("unicode/utf8.acceptRanges", laid_unicode_utf8_acceptRanges), ("unicode/utf8.first", laid_unicode_utf8_first)] }
def InflowWrittenSaid : Prop := inflowWrittenRow.holds Tryz.pinned (OpenSpec.ofChange inflowWrittenSpec)

/-- ITS FALSE NEIGHBOUR: 'it returns false'. Refute it at one input. -/
def inflowWrittenWrong : ChangeSpec := { name := "inflowWritten", fn := fun _ => fun
  | [d1, d2, d3] => { results := [.lit (.bool false)], args := [d1, d2, d3] }
  | _ => none }
def InflowWrittenWrongFalsely : Prop := inflowWrittenRow.holds Tryz.pinned (OpenSpec.ofChange inflowWrittenWrong)

/-- 'barbicanlaw11.InflowBound': WHATEVER THE INPUT: true; the input reads as it did. -/
def inflowBoundSpec : ChangeSpec := { name := "inflowBound", fn := fun _ => fun
  | [d1, d2, d3] => { results := [.lit (.bool true)], args := [d1, d2, d3] }
  | _ => none }
def inflowBoundRow : OpenClaim := { program := "ytgmjkkiahanekaagreatdoor", sum := "7c1a3088536fd2df46dee8c097b86492c553a562c1041b577933a7b306ac351c", func := "barbican/barbicanlaw11.InflowBound", spec := "inflowBound", inPlace := ["internal/bytealg.IndexByteString", "internal/bytealg.IndexString", "internal/bytealg.CountString", "internal/abi.NoEscape", "internal/bytealg.MakeNoZero"], unfollowed := true, recurses := true, named := ["internal/bytealg.MaxLen", "unicode/utf8.first", "unicode/utf8.acceptRanges"], apart := false, laid := [("unicode/utf8.acceptRanges", laid_unicode_utf8_acceptRanges), ("unicode/utf8.first", laid_unicode_utf8_first)] }
def InflowBoundSaid : Prop := inflowBoundRow.holds Tryz.pinned (OpenSpec.ofChange inflowBoundSpec)

/-- ITS FALSE NEIGHBOUR: 'it returns false'. Refute it at one input. -/
def inflowBoundWrong : ChangeSpec := { name := "inflowBound", fn := fun _ => fun
  | [d1, d2, d3] => { results := [.lit (.bool false)], args := [d1, d2, d3] }
  | _ => none }
def InflowBoundWrongFalsely : Prop := inflowBoundRow.holds Tryz.pinned (OpenSpec.ofChange inflowBoundWrong)

/-- 'barbicanlaw11.InflowHosts': WHATEVER THE INPUT: true; the input reads as it did. -/
def inflowHostsSpec : ChangeSpec := { name := "inflowHosts", fn := fun _ => fun
  | [d1, d2] => { results := [.lit (.bool true)], args := [d1, d2] }
  | _ => none }
def inflowHostsRow : OpenClaim := { program := "ytgmjkkiahanekaagreatdoor", sum := "7c1a3088536fd2df46dee8c097b86492c553a562c1041b577933a7b306ac351c", func := "barbican/barbicanlaw11.InflowHosts", spec := "inflowHosts", inPlace := ["internal/bytealg.IndexByteString", "internal/bytealg.IndexString", "internal/bytealg.CountString", "internal/abi.NoEscape", "internal/bytealg.MakeNoZero"], unfollowed := true, recurses := true, named := ["internal/bytealg.MaxLen", "unicode/utf8.first", "unicode/utf8.acceptRanges"], apart := false, laid := [("unicode/utf8.acceptRanges", laid_unicode_utf8_acceptRanges), ("unicode/utf8.first", laid_unicode_utf8_first)] }
def InflowHostsSaid : Prop := inflowHostsRow.holds Tryz.pinned (OpenSpec.ofChange inflowHostsSpec)

/-- ITS FALSE NEIGHBOUR: 'it returns false'. Refute it at one input. -/
def inflowHostsWrong : ChangeSpec := { name := "inflowHosts", fn := fun _ => fun
  | [d1, d2] => { results := [.lit (.bool false)], args := [d1, d2] }
  | _ => none }
def InflowHostsWrongFalsely : Prop := inflowHostsRow.holds Tryz.pinned (OpenSpec.ofChange inflowHostsWrong)

/-- 'barbicanlaw11.InflowPlays': WHATEVER THE INPUT: true; the input reads as it did. -/
def inflowPlaysSpec : ChangeSpec := { name := "inflowPlays", fn := fun _ => fun
  | [d1, d2] => { results := [.lit (.bool true)], args := [d1, d2] }
  | _ => none }
def inflowPlaysRow : OpenClaim := { program := "ytgmjkkiahanekaagreatdoor", sum := "7c1a3088536fd2df46dee8c097b86492c553a562c1041b577933a7b306ac351c", func := "barbican/barbicanlaw11.InflowPlays", spec := "inflowPlays", inPlace := ["internal/bytealg.IndexByteString", "internal/bytealg.IndexString", "internal/bytealg.CountString", "internal/abi.NoEscape", "internal/bytealg.MakeNoZero"], unfollowed := true, recurses := true, named := ["internal/bytealg.MaxLen", "unicode/utf8.first", "unicode/utf8.acceptRanges"], apart := false, laid := [("unicode/utf8.acceptRanges", laid_unicode_utf8_acceptRanges), ("unicode/utf8.first", laid_unicode_utf8_first)] }
def InflowPlaysSaid : Prop := inflowPlaysRow.holds Tryz.pinned (OpenSpec.ofChange inflowPlaysSpec)

/-- ITS FALSE NEIGHBOUR: 'it returns false'. Refute it at one input. -/
def inflowPlaysWrong : ChangeSpec := { name := "inflowPlays", fn := fun _ => fun
  | [d1, d2] => { results := [.lit (.bool false)], args := [d1, d2] }
  | _ => none }
def InflowPlaysWrongFalsely : Prop := inflowPlaysRow.holds Tryz.pinned (OpenSpec.ofChange inflowPlaysWrong)

/-- 'barbicanlaw11.InflowRest': WHATEVER THE INPUT: true; the input reads as it did. -/
def inflowRestSpec : ChangeSpec := { name := "inflowRest", fn := fun _ => fun
  | [d1, d2, d3] => { results := [.lit (.bool true)], args := [d1, d2, d3] }
  | _ => none }
def inflowRestRow : OpenClaim := { program := "ytgmjkkiahanekaagreatdoor", sum := "7c1a3088536fd2df46dee8c097b86492c553a562c1041b577933a7b306ac351c", func := "barbican/barbicanlaw11.InflowRest", spec := "inflowRest", inPlace := ["internal/bytealg.IndexByteString", "internal/bytealg.IndexString", "internal/bytealg.CountString", "internal/abi.NoEscape", "internal/bytealg.MakeNoZero"], unfollowed := true, recurses := true, named := ["internal/bytealg.MaxLen", "unicode/utf8.first", "unicode/utf8.acceptRanges"], apart := false, laid := [("unicode/utf8.acceptRanges", laid_unicode_utf8_acceptRanges), ("unicode/utf8.first", laid_unicode_utf8_first)] }
def InflowRestSaid : Prop := inflowRestRow.holds Tryz.pinned (OpenSpec.ofChange inflowRestSpec)

/-- ITS FALSE NEIGHBOUR: 'it returns false'. Refute it at one input. -/
def inflowRestWrong : ChangeSpec := { name := "inflowRest", fn := fun _ => fun
  | [d1, d2, d3] => { results := [.lit (.bool false)], args := [d1, d2, d3] }
  | _ => none }
def InflowRestWrongFalsely : Prop := inflowRestRow.holds Tryz.pinned (OpenSpec.ofChange inflowRestWrong)

/- THE SECOND FORM. 'bulk': how many values and letters a reading holds, each counted each time it is reached (what is shared counts as often as it is met; a slice's spare places count too). A statement '..UptoSaid' is the law's where the arguments, and the package variables that the reading takes, are together of bulk at most 1048576: NARROWER than '..Said'. Prove '..Said' where nothing that the law and all that it calls make is longer than what came in: it says more and counts as full. Else prove '..UptoSaid'. A law counts once. -/
mutual
def uptoBulk {H : Type} : DataW H → Nat
  | .lit (.string bytes) => bytes.length + 1
  | .lit _ => 1
  | .nil => 1
  | .ptr d => uptoBulk d + 1
  | .slice elems spare => uptoBulkAll elems + uptoBulkAll spare + 1
  | .agg parts => uptoBulkAll parts + 1
  | .iface _ d => uptoBulk d + 1
  | .map entries => uptoBulkEntries entries + 1
  | .held _ => 1
def uptoBulkAll {H : Type} : List (DataW H) → Nat
  | [] => 0
  | d :: r => uptoBulk d + uptoBulkAll r
def uptoBulkEntries {H : Type} : List (Lit × DataW H) → Nat
  | [] => 0
  | x :: r => uptoBulkEntry x + uptoBulkEntries r
def uptoBulkEntry {H : Type} : Lit × DataW H → Nat
  | (.string bytes, d) => bytes.length + uptoBulk d + 1
  | (_, d) => uptoBulk d + 1
 end
def uptoSmall : (H : Type) → List (DataW H) → Bool := fun _ ds => decide (uptoBulkAll ds ≤ 1048576)
def OpenSpec.upto (s : _root_.Go.ChangeSpec) : _root_.Go.OpenSpec := { _root_.Go.OpenSpec.ofChange s with cond := some uptoSmall }

/-- 'barbicanlaw12.OutflowPlays', WHERE WHAT IT READS IS OF BULK AT MOST 1048576: true; the input reads as it did. -/
def outflowPlaysUptoRow : OpenClaim := { program := "ytgmjkkiahanekaagreatdoor", sum := "7c1a3088536fd2df46dee8c097b86492c553a562c1041b577933a7b306ac351c", func := "barbican/barbicanlaw12.OutflowPlays", spec := "outflowPlays", inPlace := ["internal/bytealg.IndexByteString", "internal/bytealg.IndexString", "internal/bytealg.CountString", "internal/abi.NoEscape"], unfollowed := true, recurses := true, named := ["internal/bytealg.MaxLen", "unicode/utf8.first", "unicode/utf8.acceptRanges"], apart := false, laid := [("unicode/utf8.acceptRanges", laid_unicode_utf8_acceptRanges), ("unicode/utf8.first", laid_unicode_utf8_first)], narrowed := true }
def OutflowPlaysUptoSaid : Prop := outflowPlaysUptoRow.holds Tryz.pinned (OpenSpec.upto outflowPlaysSpec)

/-- 'barbicanlaw11.InflowPieces', WHERE WHAT IT READS IS OF BULK AT MOST 1048576: true; the input reads as it did. -/
def inflowPiecesUptoRow : OpenClaim := { program := "ytgmjkkiahanekaagreatdoor", sum := "7c1a3088536fd2df46dee8c097b86492c553a562c1041b577933a7b306ac351c", func := "barbican/barbicanlaw11.InflowPieces", spec := "inflowPieces", inPlace := ["internal/bytealg.IndexByteString", "internal/bytealg.IndexString", "internal/bytealg.CountString", "internal/abi.NoEscape", "internal/bytealg.MakeNoZero"], unfollowed := true, recurses := true, named := ["internal/bytealg.MaxLen", "unicode/utf8.first", "unicode/utf8.acceptRanges"], apart := false, laid := [("unicode/utf8.acceptRanges", laid_unicode_utf8_acceptRanges), ("unicode/utf8.first", laid_unicode_utf8_first)], narrowed := true }
def InflowPiecesUptoSaid : Prop := inflowPiecesUptoRow.holds Tryz.pinned (OpenSpec.upto inflowPiecesSpec)

/-- 'barbicanlaw11.InflowSmuggles', WHERE WHAT IT READS IS OF BULK AT MOST 1048576: true; the input reads as it did. -/
def inflowSmugglesUptoRow : OpenClaim := { program := "ytgmjkkiahanekaagreatdoor", sum := "7c1a3088536fd2df46dee8c097b86492c553a562c1041b577933a7b306ac351c", func := "barbican/barbicanlaw11.InflowSmuggles", spec := "inflowSmuggles", inPlace := ["internal/bytealg.IndexByteString", "internal/bytealg.IndexString", "internal/bytealg.CountString", "internal/abi.NoEscape", "internal/bytealg.MakeNoZero"], unfollowed := true, recurses := true, named := ["internal/bytealg.MaxLen", "unicode/utf8.first", "unicode/utf8.acceptRanges"], apart := false, laid := [("unicode/utf8.acceptRanges", laid_unicode_utf8_acceptRanges), ("unicode/utf8.first", laid_unicode_utf8_first)], narrowed := true }
def InflowSmugglesUptoSaid : Prop := inflowSmugglesUptoRow.holds Tryz.pinned (OpenSpec.upto inflowSmugglesSpec)

/-- 'barbicanlaw11.InflowWhole', WHERE WHAT IT READS IS OF BULK AT MOST 1048576: true; the input reads as it did. -/
def inflowWholeUptoRow : OpenClaim := { program := "ytgmjkkiahanekaagreatdoor", sum := "7c1a3088536fd2df46dee8c097b86492c553a562c1041b577933a7b306ac351c", func := "barbican/barbicanlaw11.InflowWhole", spec := "inflowWhole", inPlace := ["internal/bytealg.IndexByteString", "internal/bytealg.IndexString", "internal/bytealg.CountString", "internal/abi.NoEscape", "internal/bytealg.MakeNoZero"], unfollowed := true, recurses := true, named := ["internal/bytealg.MaxLen", "unicode/utf8.first", "unicode/utf8.acceptRanges"], apart := false, laid := [("unicode/utf8.acceptRanges", laid_unicode_utf8_acceptRanges), ("unicode/utf8.first", laid_unicode_utf8_first)], narrowed := true }
def InflowWholeUptoSaid : Prop := inflowWholeUptoRow.holds Tryz.pinned (OpenSpec.upto inflowWholeSpec)

/-- 'barbicanlaw11.InflowMemory', WHERE WHAT IT READS IS OF BULK AT MOST 1048576: true; the input reads as it did. -/
def inflowMemoryUptoRow : OpenClaim := { program := "ytgmjkkiahanekaagreatdoor", sum := "7c1a3088536fd2df46dee8c097b86492c553a562c1041b577933a7b306ac351c", func := "barbican/barbicanlaw11.InflowMemory", spec := "inflowMemory", inPlace := ["internal/bytealg.IndexByteString", "internal/bytealg.IndexString", "internal/bytealg.CountString", "internal/abi.NoEscape", "internal/bytealg.MakeNoZero"], unfollowed := true, recurses := true, named := ["internal/bytealg.MaxLen", "unicode/utf8.first", "unicode/utf8.acceptRanges"], apart := false, laid := [("unicode/utf8.acceptRanges", laid_unicode_utf8_acceptRanges), ("unicode/utf8.first", laid_unicode_utf8_first)], narrowed := true }
def InflowMemoryUptoSaid : Prop := inflowMemoryUptoRow.holds Tryz.pinned (OpenSpec.upto inflowMemorySpec)

/-- 'barbicanlaw11.InflowWritten', WHERE WHAT IT READS IS OF BULK AT MOST 1048576: true; the input reads as it did. -/
def inflowWrittenUptoRow : OpenClaim := { program := "ytgmjkkiahanekaagreatdoor", sum := "7c1a3088536fd2df46dee8c097b86492c553a562c1041b577933a7b306ac351c", func := "barbican/barbicanlaw11.InflowWritten", spec := "inflowWritten", inPlace := ["internal/bytealg.IndexByteString", "internal/bytealg.IndexString", "internal/bytealg.CountString", "internal/abi.NoEscape", "internal/bytealg.MakeNoZero"], unfollowed := true, recurses := true, named := ["internal/bytealg.MaxLen", "unicode/utf8.first", "unicode/utf8.acceptRanges"], apart := false, laid := [("unicode/utf8.acceptRanges", laid_unicode_utf8_acceptRanges), ("unicode/utf8.first", laid_unicode_utf8_first)], narrowed := true }
def InflowWrittenUptoSaid : Prop := inflowWrittenUptoRow.holds Tryz.pinned (OpenSpec.upto inflowWrittenSpec)

/-- 'barbicanlaw11.InflowBound', WHERE WHAT IT READS IS OF BULK AT MOST 1048576: true; the input reads as it did. -/
def inflowBoundUptoRow : OpenClaim := { program := "ytgmjkkiahanekaagreatdoor", sum := "7c1a3088536fd2df46dee8c097b86492c553a562c1041b577933a7b306ac351c", func := "barbican/barbicanlaw11.InflowBound", spec := "inflowBound", inPlace := ["internal/bytealg.IndexByteString", "internal/bytealg.IndexString", "internal/bytealg.CountString", "internal/abi.NoEscape", "internal/bytealg.MakeNoZero"], unfollowed := true, recurses := true, named := ["internal/bytealg.MaxLen", "unicode/utf8.first", "unicode/utf8.acceptRanges"], apart := false, laid := [("unicode/utf8.acceptRanges", laid_unicode_utf8_acceptRanges), ("unicode/utf8.first", laid_unicode_utf8_first)], narrowed := true }
def InflowBoundUptoSaid : Prop := inflowBoundUptoRow.holds Tryz.pinned (OpenSpec.upto inflowBoundSpec)

/-- 'barbicanlaw11.InflowHosts', WHERE WHAT IT READS IS OF BULK AT MOST 1048576: true; the input reads as it did. -/
def inflowHostsUptoRow : OpenClaim := { program := "ytgmjkkiahanekaagreatdoor", sum := "7c1a3088536fd2df46dee8c097b86492c553a562c1041b577933a7b306ac351c", func := "barbican/barbicanlaw11.InflowHosts", spec := "inflowHosts", inPlace := ["internal/bytealg.IndexByteString", "internal/bytealg.IndexString", "internal/bytealg.CountString", "internal/abi.NoEscape", "internal/bytealg.MakeNoZero"], unfollowed := true, recurses := true, named := ["internal/bytealg.MaxLen", "unicode/utf8.first", "unicode/utf8.acceptRanges"], apart := false, laid := [("unicode/utf8.acceptRanges", laid_unicode_utf8_acceptRanges), ("unicode/utf8.first", laid_unicode_utf8_first)], narrowed := true }
def InflowHostsUptoSaid : Prop := inflowHostsUptoRow.holds Tryz.pinned (OpenSpec.upto inflowHostsSpec)

/-- 'barbicanlaw11.InflowPlays', WHERE WHAT IT READS IS OF BULK AT MOST 1048576: true; the input reads as it did. -/
def inflowPlaysUptoRow : OpenClaim := { program := "ytgmjkkiahanekaagreatdoor", sum := "7c1a3088536fd2df46dee8c097b86492c553a562c1041b577933a7b306ac351c", func := "barbican/barbicanlaw11.InflowPlays", spec := "inflowPlays", inPlace := ["internal/bytealg.IndexByteString", "internal/bytealg.IndexString", "internal/bytealg.CountString", "internal/abi.NoEscape", "internal/bytealg.MakeNoZero"], unfollowed := true, recurses := true, named := ["internal/bytealg.MaxLen", "unicode/utf8.first", "unicode/utf8.acceptRanges"], apart := false, laid := [("unicode/utf8.acceptRanges", laid_unicode_utf8_acceptRanges), ("unicode/utf8.first", laid_unicode_utf8_first)], narrowed := true }
def InflowPlaysUptoSaid : Prop := inflowPlaysUptoRow.holds Tryz.pinned (OpenSpec.upto inflowPlaysSpec)

/-- 'barbicanlaw11.InflowRest', WHERE WHAT IT READS IS OF BULK AT MOST 1048576: true; the input reads as it did. -/
def inflowRestUptoRow : OpenClaim := { program := "ytgmjkkiahanekaagreatdoor", sum := "7c1a3088536fd2df46dee8c097b86492c553a562c1041b577933a7b306ac351c", func := "barbican/barbicanlaw11.InflowRest", spec := "inflowRest", inPlace := ["internal/bytealg.IndexByteString", "internal/bytealg.IndexString", "internal/bytealg.CountString", "internal/abi.NoEscape", "internal/bytealg.MakeNoZero"], unfollowed := true, recurses := true, named := ["internal/bytealg.MaxLen", "unicode/utf8.first", "unicode/utf8.acceptRanges"], apart := false, laid := [("unicode/utf8.acceptRanges", laid_unicode_utf8_acceptRanges), ("unicode/utf8.first", laid_unicode_utf8_first)], narrowed := true }
def InflowRestUptoSaid : Prop := inflowRestUptoRow.holds Tryz.pinned (OpenSpec.upto inflowRestSpec)

end Rows
end Go.Proofs.YtgmjkkiahanekaaGreatDoor
