/-
  NARROWER THAN 'FOR EVERY INPUT', by the rows' own cells (each row's printed sentence says how): OutflowPieces: laid · OutflowBack: laid · OutflowInterim: laid · OutflowHead: laid · OutflowReuse: laid.
  DERIVED. THE GIVEN ROWS OF THIS SEAT. 5 by the template 'for every input the law returns true; each argument reads behind the call as it read before'; 0 by the template 'total and deterministic' (their statements: YtgmjkkiahanekaaDoorTotals.lean).
  GIVEN WITH THE SEED: the statements are not yours to turn. If you find one false, say at which input.
  Laid BY PROGRAM, IN A SANDBOX (cutbox-rows.mjs): the forced cells as the released guide's own fill.sh prints them over the translation 0c8b97e5017cb343… (all of the seat's roots in one cut). By AI agents, Wed Nov 11 2026. No macro, syntax, notation, axiom, sorry.
-/
import Derived.Test.YtgmjkkiahanekaaDoorChecked
import GoSem.PinnedTables
import GoSem.Claim
import GoSem.ClaimJoined
import GoSem.ClaimMapViews
import Derived.JoinedTies
import Derived.KernelRfl
namespace Go.Proofs.YtgmjkkiahanekaaDoor
/- THE CELL 'sum', in the pinned program and in every row, IS THE sha256 OF THE DUMP (.gsa) THAT YtgmjkkiahanekaaDoorProg.lean LOADS. Nothing in Lean hashes anything: it is a label: what it is worth is what the hold of that sum in a sandbox is worth. -/
noncomputable def Tryd.pinned : Pinned := { name := "ytgmjkkiahanekaadoor", sum := "0c8b97e5017cb3430a97ea2be862fcb1b0b84b405226245d9ec50f71ffe6e0c9", checked := Tryd.checked }
namespace Rows
def none {H : Type} : Left H := { results := [], args := [] }

/- WHAT THE LISTED PACKAGE-LEVEL VARIABLES READ AS WHEN THE CALL BEGINS. Each datum BY PROGRAM (the guide's laid-datum.mjs) off the statement by which the dump's own 'gosem.cut.vars' lays the variable. In a bare row this is a premise. The card (YtgmjkkiahanekaaDoorCards.lean) ties it to the program's text. -/
def laid_unicode_utf8_acceptRanges {H : Type} : DataW H := .agg [.agg [.lit (.int .u8 128), .lit (.int .u8 191)], .agg [.lit (.int .u8 160), .lit (.int .u8 191)], .agg [.lit (.int .u8 128), .lit (.int .u8 159)], .agg [.lit (.int .u8 144), .lit (.int .u8 191)], .agg [.lit (.int .u8 128), .lit (.int .u8 143)], .agg [.lit (.int .u8 0), .lit (.int .u8 0)], .agg [.lit (.int .u8 0), .lit (.int .u8 0)], .agg [.lit (.int .u8 0), .lit (.int .u8 0)], .agg [.lit (.int .u8 0), .lit (.int .u8 0)], .agg [.lit (.int .u8 0), .lit (.int .u8 0)], .agg [.lit (.int .u8 0), .lit (.int .u8 0)], .agg [.lit (.int .u8 0), .lit (.int .u8 0)], .agg [.lit (.int .u8 0), .lit (.int .u8 0)], .agg [.lit (.int .u8 0), .lit (.int .u8 0)], .agg [.lit (.int .u8 0), .lit (.int .u8 0)], .agg [.lit (.int .u8 0), .lit (.int .u8 0)]]
/-- One of Go's own tables, pinned by name: the form's constant. -/
def laid_unicode_utf8_first : DataW Unit := Go.Pinned.utf8First

/-- 'barbicanlaw12.OutflowPieces': WHATEVER THE INPUT: true; the input reads as it did. -/
def outflowPiecesSpec : ChangeSpec := { name := "outflowPieces", fn := fun _ => fun
  | [d1, d2, d3] => { results := [.lit (.bool true)], args := [d1, d2, d3] }
  | _ => none }
def outflowPiecesRow : OpenClaim := { program := "ytgmjkkiahanekaadoor", sum := "0c8b97e5017cb3430a97ea2be862fcb1b0b84b405226245d9ec50f71ffe6e0c9", func := "barbican/barbicanlaw12.OutflowPieces", spec := "outflowPieces", inPlace := ["internal/bytealg.IndexByteString", "internal/bytealg.IndexString", "internal/bytealg.CountString", "internal/abi.NoEscape"], unfollowed := true, recurses := true, named := ["internal/bytealg.MaxLen", "unicode/utf8.first", "unicode/utf8.acceptRanges"], apart := false, laid := [("unicode/utf8.acceptRanges", laid_unicode_utf8_acceptRanges), ("unicode/utf8.first", laid_unicode_utf8_first)] }
def OutflowPiecesSaid : Prop := outflowPiecesRow.holds Tryd.pinned (OpenSpec.ofChange outflowPiecesSpec)

/-- ITS FALSE NEIGHBOUR: 'it returns false'. Refute it at one input. -/
def outflowPiecesWrong : ChangeSpec := { name := "outflowPieces", fn := fun _ => fun
  | [d1, d2, d3] => { results := [.lit (.bool false)], args := [d1, d2, d3] }
  | _ => none }
def OutflowPiecesWrongFalsely : Prop := outflowPiecesRow.holds Tryd.pinned (OpenSpec.ofChange outflowPiecesWrong)

/-- 'barbicanlaw12.OutflowBack': WHATEVER THE INPUT: true; the input reads as it did. -/
def outflowBackSpec : ChangeSpec := { name := "outflowBack", fn := fun _ => fun
  | [d1, d2, d3] => { results := [.lit (.bool true)], args := [d1, d2, d3] }
  | _ => none }
def outflowBackRow : OpenClaim := { program := "ytgmjkkiahanekaadoor", sum := "0c8b97e5017cb3430a97ea2be862fcb1b0b84b405226245d9ec50f71ffe6e0c9", func := "barbican/barbicanlaw12.OutflowBack", spec := "outflowBack", inPlace := ["internal/bytealg.IndexByteString", "internal/bytealg.IndexString", "internal/bytealg.CountString", "internal/abi.NoEscape"], unfollowed := true, recurses := true, named := ["internal/bytealg.MaxLen", "unicode/utf8.first", "unicode/utf8.acceptRanges"], apart := false, laid := [("unicode/utf8.acceptRanges", laid_unicode_utf8_acceptRanges), ("unicode/utf8.first", laid_unicode_utf8_first)] }
def OutflowBackSaid : Prop := outflowBackRow.holds Tryd.pinned (OpenSpec.ofChange outflowBackSpec)

/-- ITS FALSE NEIGHBOUR: 'it returns false'. Refute it at one input. -/
def outflowBackWrong : ChangeSpec := { name := "outflowBack", fn := fun _ => fun
  | [d1, d2, d3] => { results := [.lit (.bool false)], args := [d1, d2, d3] }
  | _ => none }
def OutflowBackWrongFalsely : Prop := outflowBackRow.holds Tryd.pinned (OpenSpec.ofChange outflowBackWrong)

/-- 'barbicanlaw12.OutflowInterim': WHATEVER THE INPUT: true; the input reads as it did. -/
def outflowInterimSpec : ChangeSpec := { name := "outflowInterim", fn := fun _ => fun
  | [d1, d2, d3, d4] => { results := [.lit (.bool true)], args := [d1, d2, d3, d4] }
  | _ => none }
def outflowInterimRow : OpenClaim := { program := "ytgmjkkiahanekaadoor", sum := "0c8b97e5017cb3430a97ea2be862fcb1b0b84b405226245d9ec50f71ffe6e0c9", func := "barbican/barbicanlaw12.OutflowInterim", spec := "outflowInterim", inPlace := ["internal/bytealg.IndexByteString", "internal/bytealg.IndexString", "internal/bytealg.CountString", "internal/abi.NoEscape"], unfollowed := true, recurses := true, named := ["internal/bytealg.MaxLen", "unicode/utf8.first", "unicode/utf8.acceptRanges"], apart := false, laid := [("unicode/utf8.acceptRanges", laid_unicode_utf8_acceptRanges), ("unicode/utf8.first", laid_unicode_utf8_first)] }
def OutflowInterimSaid : Prop := outflowInterimRow.holds Tryd.pinned (OpenSpec.ofChange outflowInterimSpec)

/-- ITS FALSE NEIGHBOUR: 'it returns false'. Refute it at one input. -/
def outflowInterimWrong : ChangeSpec := { name := "outflowInterim", fn := fun _ => fun
  | [d1, d2, d3, d4] => { results := [.lit (.bool false)], args := [d1, d2, d3, d4] }
  | _ => none }
def OutflowInterimWrongFalsely : Prop := outflowInterimRow.holds Tryd.pinned (OpenSpec.ofChange outflowInterimWrong)

/-- 'barbicanlaw12.OutflowHead': WHATEVER THE INPUT: true; the input reads as it did. -/
def outflowHeadSpec : ChangeSpec := { name := "outflowHead", fn := fun _ => fun
  | [d1, d2, d3] => { results := [.lit (.bool true)], args := [d1, d2, d3] }
  | _ => none }
def outflowHeadRow : OpenClaim := { program := "ytgmjkkiahanekaadoor", sum := "0c8b97e5017cb3430a97ea2be862fcb1b0b84b405226245d9ec50f71ffe6e0c9", func := "barbican/barbicanlaw12.OutflowHead", spec := "outflowHead", inPlace := ["internal/bytealg.IndexByteString", "internal/bytealg.IndexString", "internal/bytealg.CountString", "internal/abi.NoEscape"], unfollowed := true, recurses := true, named := ["internal/bytealg.MaxLen", "unicode/utf8.first", "unicode/utf8.acceptRanges"], apart := false, laid := [("unicode/utf8.acceptRanges", laid_unicode_utf8_acceptRanges), ("unicode/utf8.first", laid_unicode_utf8_first)] }
def OutflowHeadSaid : Prop := outflowHeadRow.holds Tryd.pinned (OpenSpec.ofChange outflowHeadSpec)

/-- ITS FALSE NEIGHBOUR: 'it returns false'. Refute it at one input. -/
def outflowHeadWrong : ChangeSpec := { name := "outflowHead", fn := fun _ => fun
  | [d1, d2, d3] => { results := [.lit (.bool false)], args := [d1, d2, d3] }
  | _ => none }
def OutflowHeadWrongFalsely : Prop := outflowHeadRow.holds Tryd.pinned (OpenSpec.ofChange outflowHeadWrong)

/-- 'barbicanlaw12.OutflowReuse': WHATEVER THE INPUT: true; the input reads as it did. -/
def outflowReuseSpec : ChangeSpec := { name := "outflowReuse", fn := fun _ => fun
  | [d1, d2, d3] => { results := [.lit (.bool true)], args := [d1, d2, d3] }
  | _ => none }
def outflowReuseRow : OpenClaim := { program := "ytgmjkkiahanekaadoor", sum := "0c8b97e5017cb3430a97ea2be862fcb1b0b84b405226245d9ec50f71ffe6e0c9", func := "barbican/barbicanlaw12.OutflowReuse", spec := "outflowReuse", inPlace := ["internal/bytealg.IndexByteString", "internal/bytealg.IndexString", "internal/bytealg.CountString", "internal/abi.NoEscape"], unfollowed := true, recurses := true, named := ["internal/bytealg.MaxLen", "unicode/utf8.first", "unicode/utf8.acceptRanges"], apart := false, laid := [("unicode/utf8.acceptRanges", laid_unicode_utf8_acceptRanges), ("unicode/utf8.first", laid_unicode_utf8_first)] }
def OutflowReuseSaid : Prop := outflowReuseRow.holds Tryd.pinned (OpenSpec.ofChange outflowReuseSpec)

/-- ITS FALSE NEIGHBOUR: 'it returns false'. Refute it at one input. -/
def outflowReuseWrong : ChangeSpec := { name := "outflowReuse", fn := fun _ => fun
  | [d1, d2, d3] => { results := [.lit (.bool false)], args := [d1, d2, d3] }
  | _ => none }
def OutflowReuseWrongFalsely : Prop := outflowReuseRow.holds Tryd.pinned (OpenSpec.ofChange outflowReuseWrong)

/- THE SECOND FORM. 'bulk': how many values and letters a reading holds, each counted each time it is reached (what is shared counts as often as it is met; a slice's spare places count too). A statement '..UptoSaid' is the law's where the arguments, and the package variables that the reading takes, are together of bulk at most 1048576: NARROWER than '..Said'. Prove '..Said' where nothing that the law and all that it calls make is longer than what came in: it says more and counts as full. Else prove '..UptoSaid'. A law counts once. -/
mutual
def uptoBulk {H : Type} : DataW H → Nat
  | .lit (.string bytes) => bytes.length + 1
  | .lit _ => 1
  | .nil => 1
  | .ptr d => uptoBulk d + 1
  | .slice elems spare => uptoBulkAll elems + uptoBulkAll spare + 1
  | .agg parts => uptoBulkAll parts + 1
  | .iface _ d => uptoBulk d + 1
  | .map entries => uptoBulkEntries entries + 1
  | .held _ => 1
def uptoBulkAll {H : Type} : List (DataW H) → Nat
  | [] => 0
  | d :: r => uptoBulk d + uptoBulkAll r
def uptoBulkEntries {H : Type} : List (Lit × DataW H) → Nat
  | [] => 0
  | x :: r => uptoBulkEntry x + uptoBulkEntries r
def uptoBulkEntry {H : Type} : Lit × DataW H → Nat
  | (.string bytes, d) => bytes.length + uptoBulk d + 1
  | (_, d) => uptoBulk d + 1
 end
def uptoSmall : (H : Type) → List (DataW H) → Bool := fun _ ds => decide (uptoBulkAll ds ≤ 1048576)
def OpenSpec.upto (s : _root_.Go.ChangeSpec) : _root_.Go.OpenSpec := { _root_.Go.OpenSpec.ofChange s with cond := some uptoSmall }

/-- 'barbicanlaw12.OutflowPieces', WHERE WHAT IT READS IS OF BULK AT MOST 1048576: true; the input reads as it did. -/
def outflowPiecesUptoRow : OpenClaim := { program := "ytgmjkkiahanekaadoor", sum := "0c8b97e5017cb3430a97ea2be862fcb1b0b84b405226245d9ec50f71ffe6e0c9", func := "barbican/barbicanlaw12.OutflowPieces", spec := "outflowPieces", inPlace := ["internal/bytealg.IndexByteString", "internal/bytealg.IndexString", "internal/bytealg.CountString", "internal/abi.NoEscape"], unfollowed := true, recurses := true, named := ["internal/bytealg.MaxLen", "unicode/utf8.first", "unicode/utf8.acceptRanges"], apart := false, laid := [("unicode/utf8.acceptRanges", laid_unicode_utf8_acceptRanges), ("unicode/utf8.first", laid_unicode_utf8_first)], narrowed := true }
def OutflowPiecesUptoSaid : Prop := outflowPiecesUptoRow.holds Tryd.pinned (OpenSpec.upto outflowPiecesSpec)

/-- 'barbicanlaw12.OutflowBack', WHERE WHAT IT READS IS OF BULK AT MOST 1048576: true; the input reads as it did. -/
def outflowBackUptoRow : OpenClaim := { program := "ytgmjkkiahanekaadoor", sum := "0c8b97e5017cb3430a97ea2be862fcb1b0b84b405226245d9ec50f71ffe6e0c9", func := "barbican/barbicanlaw12.OutflowBack", spec := "outflowBack", inPlace := ["internal/bytealg.IndexByteString", "internal/bytealg.IndexString", "internal/bytealg.CountString", "internal/abi.NoEscape"], unfollowed := true, recurses := true, named := ["internal/bytealg.MaxLen", "unicode/utf8.first", "unicode/utf8.acceptRanges"], apart := false, laid := [("unicode/utf8.acceptRanges", laid_unicode_utf8_acceptRanges), ("unicode/utf8.first", laid_unicode_utf8_first)], narrowed := true }
def OutflowBackUptoSaid : Prop := outflowBackUptoRow.holds Tryd.pinned (OpenSpec.upto outflowBackSpec)

/-- 'barbicanlaw12.OutflowInterim', WHERE WHAT IT READS IS OF BULK AT MOST 1048576: true; the input reads as it did. -/
def outflowInterimUptoRow : OpenClaim := { program := "ytgmjkkiahanekaadoor", sum := "0c8b97e5017cb3430a97ea2be862fcb1b0b84b405226245d9ec50f71ffe6e0c9", func := "barbican/barbicanlaw12.OutflowInterim", spec := "outflowInterim", inPlace := ["internal/bytealg.IndexByteString", "internal/bytealg.IndexString", "internal/bytealg.CountString", "internal/abi.NoEscape"], unfollowed := true, recurses := true, named := ["internal/bytealg.MaxLen", "unicode/utf8.first", "unicode/utf8.acceptRanges"], apart := false, laid := [("unicode/utf8.acceptRanges", laid_unicode_utf8_acceptRanges), ("unicode/utf8.first", laid_unicode_utf8_first)], narrowed := true }
def OutflowInterimUptoSaid : Prop := outflowInterimUptoRow.holds Tryd.pinned (OpenSpec.upto outflowInterimSpec)

/-- 'barbicanlaw12.OutflowHead', WHERE WHAT IT READS IS OF BULK AT MOST 1048576: true; the input reads as it did. -/
def outflowHeadUptoRow : OpenClaim := { program := "ytgmjkkiahanekaadoor", sum := "0c8b97e5017cb3430a97ea2be862fcb1b0b84b405226245d9ec50f71ffe6e0c9", func := "barbican/barbicanlaw12.OutflowHead", spec := "outflowHead", inPlace := ["internal/bytealg.IndexByteString", "internal/bytealg.IndexString", "internal/bytealg.CountString", "internal/abi.NoEscape"], unfollowed := true, recurses := true, named := ["internal/bytealg.MaxLen", "unicode/utf8.first", "unicode/utf8.acceptRanges"], apart := false, laid := [("unicode/utf8.acceptRanges", laid_unicode_utf8_acceptRanges), ("unicode/utf8.first", laid_unicode_utf8_first)], narrowed := true }
def OutflowHeadUptoSaid : Prop := outflowHeadUptoRow.holds Tryd.pinned (OpenSpec.upto outflowHeadSpec)

/-- 'barbicanlaw12.OutflowReuse', WHERE WHAT IT READS IS OF BULK AT MOST 1048576: true; the input reads as it did. -/
def outflowReuseUptoRow : OpenClaim := { program := "ytgmjkkiahanekaadoor", sum := "0c8b97e5017cb3430a97ea2be862fcb1b0b84b405226245d9ec50f71ffe6e0c9", func := "barbican/barbicanlaw12.OutflowReuse", spec := "outflowReuse", inPlace := ["internal/bytealg.IndexByteString", "internal/bytealg.IndexString", "internal/bytealg.CountString", "internal/abi.NoEscape"], unfollowed := true, recurses := true, named := ["internal/bytealg.MaxLen", "unicode/utf8.first", "unicode/utf8.acceptRanges"], apart := false, laid := [("unicode/utf8.acceptRanges", laid_unicode_utf8_acceptRanges), ("unicode/utf8.first", laid_unicode_utf8_first)], narrowed := true }
def OutflowReuseUptoSaid : Prop := outflowReuseUptoRow.holds Tryd.pinned (OpenSpec.upto outflowReuseSpec)

end Rows
end Go.Proofs.YtgmjkkiahanekaaDoor
