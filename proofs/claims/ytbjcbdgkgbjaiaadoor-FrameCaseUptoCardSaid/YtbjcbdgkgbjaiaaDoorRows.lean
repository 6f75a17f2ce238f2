/-
  NARROWER THAN 'FOR EVERY INPUT', by the rows' own cells (each row's printed sentence says how): FrameOneWay: laid · FrameRequests: laid · FrameResponses: laid · FrameBodiless: laid · FrameAgrees: laid · FrameCase: laid.
  DERIVED. THE GIVEN ROWS OF THIS SEAT. 6 by the template 'for every input the law returns true; each argument reads behind the call as it read before'; 0 by the template 'total and deterministic' (their statements: YtbjcbdgkgbjaiaaDoorTotals.lean).
  GIVEN WITH THE SEED: the statements are not yours to turn. If you find one false, say at which input.
  Laid BY PROGRAM, IN A SANDBOX (cutbox-rows.mjs): the forced cells as the released guide's own fill.sh prints them over the translation 665f5b6564d584e6… (all of the seat's roots in one cut). By AI agents, Wed Nov 11 2026. No macro, syntax, notation, axiom, sorry.
-/
import Derived.Test.YtbjcbdgkgbjaiaaDoorChecked
import GoSem.PinnedTables
import GoSem.Claim
import GoSem.ClaimJoined
import GoSem.ClaimMapViews
import Derived.JoinedTies
import Derived.KernelRfl
namespace Go.Proofs.YtbjcbdgkgbjaiaaDoor
/- THE CELL 'sum', in the pinned program and in every row, IS THE sha256 OF THE DUMP (.gsa) THAT YtbjcbdgkgbjaiaaDoorProg.lean LOADS. Nothing in Lean hashes anything: it is a label: what it is worth is what the hold of that sum in a sandbox is worth. -/
noncomputable def Tryd.pinned : Pinned := { name := "ytbjcbdgkgbjaiaadoor", sum := "665f5b6564d584e6a3352ded077543c15f8fb6245236c5f7c1f06a27dce1fbbc", checked := Tryd.checked }
namespace Rows
def none {H : Type} : Left H := { results := [], args := [] }

/- WHAT THE LISTED PACKAGE-LEVEL VARIABLES READ AS WHEN THE CALL BEGINS. Each datum BY PROGRAM (the guide's laid-datum.mjs) off the statement by which the dump's own 'gosem.cut.vars' lays the variable. In a bare row this is a premise. The card (YtbjcbdgkgbjaiaaDoorCards.lean) ties it to the program's text. -/
def laid_unicode_utf8_acceptRanges {H : Type} : DataW H := .agg [.agg [.lit (.int .u8 128), .lit (.int .u8 191)], .agg [.lit (.int .u8 160), .lit (.int .u8 191)], .agg [.lit (.int .u8 128), .lit (.int .u8 159)], .agg [.lit (.int .u8 144), .lit (.int .u8 191)], .agg [.lit (.int .u8 128), .lit (.int .u8 143)], .agg [.lit (.int .u8 0), .lit (.int .u8 0)], .agg [.lit (.int .u8 0), .lit (.int .u8 0)], .agg [.lit (.int .u8 0), .lit (.int .u8 0)], .agg [.lit (.int .u8 0), .lit (.int .u8 0)], .agg [.lit (.int .u8 0), .lit (.int .u8 0)], .agg [.lit (.int .u8 0), .lit (.int .u8 0)], .agg [.lit (.int .u8 0), .lit (.int .u8 0)], .agg [.lit (.int .u8 0), .lit (.int .u8 0)], .agg [.lit (.int .u8 0), .lit (.int .u8 0)], .agg [.lit (.int .u8 0), .lit (.int .u8 0)], .agg [.lit (.int .u8 0), .lit (.int .u8 0)]]
/-- One of Go's own tables, pinned by name: the form's constant. -/
def laid_unicode_utf8_first : DataW Unit := Go.Pinned.utf8First

/-- 'barbicanlaw09.FrameOneWay': WHATEVER THE INPUT: true; the input reads as it did. -/
def frameOneWaySpec : ChangeSpec := { name := "frameOneWay", fn := fun _ => fun
  | [d1, d2] => { results := [.lit (.bool true)], args := [d1, d2] }
  | _ => none }
def frameOneWayRow : OpenClaim := { program := "ytbjcbdgkgbjaiaadoor", sum := "665f5b6564d584e6a3352ded077543c15f8fb6245236c5f7c1f06a27dce1fbbc", func := "barbican/barbicanlaw09.FrameOneWay", spec := "frameOneWay", inPlace := ["internal/bytealg.CountString", "internal/bytealg.IndexByteString", "internal/bytealg.IndexString"], unfollowed := true, recurses := true, named := ["unicode/utf8.first", "unicode/utf8.acceptRanges", "internal/bytealg.MaxLen"], apart := false, laid := [("unicode/utf8.acceptRanges", laid_unicode_utf8_acceptRanges), ("unicode/utf8.first", laid_unicode_utf8_first)] }
def FrameOneWaySaid : Prop := frameOneWayRow.holds Tryd.pinned (OpenSpec.ofChange frameOneWaySpec)

/-- ITS FALSE NEIGHBOUR: 'it returns false'. Refute it at one input. -/
def frameOneWayWrong : ChangeSpec := { name := "frameOneWay", fn := fun _ => fun
  | [d1, d2] => { results := [.lit (.bool false)], args := [d1, d2] }
  | _ => none }
def FrameOneWayWrongFalsely : Prop := frameOneWayRow.holds Tryd.pinned (OpenSpec.ofChange frameOneWayWrong)

/-- 'barbicanlaw09.FrameRequests': WHATEVER THE INPUT: true; the input reads as it did. -/
def frameRequestsSpec : ChangeSpec := { name := "frameRequests", fn := fun _ => fun
  | [d1, d2] => { results := [.lit (.bool true)], args := [d1, d2] }
  | _ => none }
def frameRequestsRow : OpenClaim := { program := "ytbjcbdgkgbjaiaadoor", sum := "665f5b6564d584e6a3352ded077543c15f8fb6245236c5f7c1f06a27dce1fbbc", func := "barbican/barbicanlaw09.FrameRequests", spec := "frameRequests", inPlace := ["internal/bytealg.CountString", "internal/bytealg.IndexByteString", "internal/bytealg.IndexString"], unfollowed := true, recurses := true, named := ["unicode/utf8.first", "unicode/utf8.acceptRanges", "internal/bytealg.MaxLen"], apart := false, laid := [("unicode/utf8.acceptRanges", laid_unicode_utf8_acceptRanges), ("unicode/utf8.first", laid_unicode_utf8_first)] }
def FrameRequestsSaid : Prop := frameRequestsRow.holds Tryd.pinned (OpenSpec.ofChange frameRequestsSpec)

/-- ITS FALSE NEIGHBOUR: 'it returns false'. Refute it at one input. -/
def frameRequestsWrong : ChangeSpec := { name := "frameRequests", fn := fun _ => fun
  | [d1, d2] => { results := [.lit (.bool false)], args := [d1, d2] }
  | _ => none }
def FrameRequestsWrongFalsely : Prop := frameRequestsRow.holds Tryd.pinned (OpenSpec.ofChange frameRequestsWrong)

/-- 'barbicanlaw09.FrameResponses': WHATEVER THE INPUT: true; the input reads as it did. -/
def frameResponsesSpec : ChangeSpec := { name := "frameResponses", fn := fun _ => fun
  | [d1, d2] => { results := [.lit (.bool true)], args := [d1, d2] }
  | _ => none }
def frameResponsesRow : OpenClaim := { program := "ytbjcbdgkgbjaiaadoor", sum := "665f5b6564d584e6a3352ded077543c15f8fb6245236c5f7c1f06a27dce1fbbc", func := "barbican/barbicanlaw09.FrameResponses", spec := "frameResponses", inPlace := ["internal/bytealg.CountString", "internal/bytealg.IndexByteString", "internal/bytealg.IndexString"], unfollowed := true, recurses := true, named := ["unicode/utf8.first", "unicode/utf8.acceptRanges", "internal/bytealg.MaxLen"], apart := false, laid := [("unicode/utf8.acceptRanges", laid_unicode_utf8_acceptRanges), ("unicode/utf8.first", laid_unicode_utf8_first)] }
def FrameResponsesSaid : Prop := frameResponsesRow.holds Tryd.pinned (OpenSpec.ofChange frameResponsesSpec)

/-- ITS FALSE NEIGHBOUR: 'it returns false'. Refute it at one input. -/
def frameResponsesWrong : ChangeSpec := { name := "frameResponses", fn := fun _ => fun
  | [d1, d2] => { results := [.lit (.bool false)], args := [d1, d2] }
  | _ => none }
def FrameResponsesWrongFalsely : Prop := frameResponsesRow.holds Tryd.pinned (OpenSpec.ofChange frameResponsesWrong)

/-- 'barbicanlaw09.FrameBodiless': WHATEVER THE INPUT: true; the input reads as it did. -/
def frameBodilessSpec : ChangeSpec := { name := "frameBodiless", fn := fun _ => fun
  | [d1, d2] => { results := [.lit (.bool true)], args := [d1, d2] }
  | _ => none }
def frameBodilessRow : OpenClaim := { program := "ytbjcbdgkgbjaiaadoor", sum := "665f5b6564d584e6a3352ded077543c15f8fb6245236c5f7c1f06a27dce1fbbc", func := "barbican/barbicanlaw09.FrameBodiless", spec := "frameBodiless", inPlace := ["internal/bytealg.CountString", "internal/bytealg.IndexByteString", "internal/bytealg.IndexString"], unfollowed := true, recurses := true, named := ["unicode/utf8.first", "unicode/utf8.acceptRanges", "internal/bytealg.MaxLen"], apart := false, laid := [("unicode/utf8.acceptRanges", laid_unicode_utf8_acceptRanges), ("unicode/utf8.first", laid_unicode_utf8_first)] }
def FrameBodilessSaid : Prop := frameBodilessRow.holds Tryd.pinned (OpenSpec.ofChange frameBodilessSpec)

/-- ITS FALSE NEIGHBOUR: 'it returns false'. Refute it at one input. -/
def frameBodilessWrong : ChangeSpec := { name := "frameBodiless", fn := fun _ => fun
  | [d1, d2] => { results := [.lit (.bool false)], args := [d1, d2] }
  | _ => none }
def FrameBodilessWrongFalsely : Prop := frameBodilessRow.holds Tryd.pinned (OpenSpec.ofChange frameBodilessWrong)

/-- 'barbicanlaw09.FrameAgrees': WHATEVER THE INPUT: true; the input reads as it did. -/
def frameAgreesSpec : ChangeSpec := { name := "frameAgrees", fn := fun _ => fun
  | [d1, d2] => { results := [.lit (.bool true)], args := [d1, d2] }
  | _ => none }
def frameAgreesRow : OpenClaim := { program := "ytbjcbdgkgbjaiaadoor", sum := "665f5b6564d584e6a3352ded077543c15f8fb6245236c5f7c1f06a27dce1fbbc", func := "barbican/barbicanlaw09.FrameAgrees", spec := "frameAgrees", inPlace := ["internal/bytealg.CountString", "internal/bytealg.IndexByteString", "internal/bytealg.IndexString"], unfollowed := true, recurses := true, named := ["unicode/utf8.first", "unicode/utf8.acceptRanges", "internal/bytealg.MaxLen"], apart := false, laid := [("unicode/utf8.acceptRanges", laid_unicode_utf8_acceptRanges), ("unicode/utf8.first", laid_unicode_utf8_first)] }
def FrameAgreesSaid : Prop := frameAgreesRow.holds Tryd.pinned (OpenSpec.ofChange frameAgreesSpec)

/-- ITS FALSE NEIGHBOUR: 'it returns false'. Refute it at one input. -/
def frameAgreesWrong : ChangeSpec := { name := "frameAgrees", fn := fun _ => fun
  | [d1, d2] => { results := [.lit (.bool false)], args := [d1, d2] }
  | _ => none }
def FrameAgreesWrongFalsely : Prop := frameAgreesRow.holds Tryd.pinned (OpenSpec.ofChange frameAgreesWrong)

/-- 'barbicanlaw09.FrameCase': WHATEVER THE INPUT: true; the input reads as it did. -/
def frameCaseSpec : ChangeSpec := { name := "frameCase", fn := fun _ => fun
  | [d1, d2] => { results := [.lit (.bool true)], args := [d1, d2] }
  | _ => none }
def frameCaseRow : OpenClaim := { program := "ytbjcbdgkgbjaiaadoor", sum := "665f5b6564d584e6a3352ded077543c15f8fb6245236c5f7c1f06a27dce1fbbc", func := "barbican/barbicanlaw09.FrameCase", spec := "frameCase", inPlace := ["internal/bytealg.CountString", "internal/bytealg.IndexByteString", "internal/bytealg.IndexString"], unfollowed := true, recurses := true, named := ["unicode/utf8.first", "unicode/utf8.acceptRanges", "internal/bytealg.MaxLen"], apart := false, laid := [("unicode/utf8.acceptRanges", laid_unicode_utf8_acceptRanges), ("unicode/utf8.first", laid_unicode_utf8_first)] }
def FrameCaseSaid : Prop := frameCaseRow.holds Tryd.pinned (OpenSpec.ofChange frameCaseSpec)

/-- ITS FALSE NEIGHBOUR: 'it returns false'. Refute it at one input. -/
def frameCaseWrong : ChangeSpec := { name := "frameCase", fn := fun _ => fun
  | [d1, d2] => { results := [.lit (.bool false)], args := [d1, d2] }
  | _ => none }
def FrameCaseWrongFalsely : Prop := frameCaseRow.holds Tryd.pinned (OpenSpec.ofChange frameCaseWrong)

/- THE SECOND FORM. 'bulk': how many values and letters a reading holds, each counted each time it is reached (what is shared counts as often as it is met; a slice's spare places count too). A statement '..UptoSaid' is the law's where the arguments, and the package variables that the reading takes, are together of bulk at most 1048576: NARROWER than '..Said'. Prove '..Said' where nothing that the law and all that it calls make is longer than what came in: it says more and counts as full. Else prove '..UptoSaid'. A law counts once. -/
mutual
def uptoBulk {H : Type} : DataW H → Nat
  | .lit (.string bytes) => bytes.length + 1
  | .lit _ => 1
  | .nil => 1
  | .ptr d => uptoBulk d + 1
  | .slice elems spare => uptoBulkAll elems + uptoBulkAll spare + 1
  | .agg parts => uptoBulkAll parts + 1
  | .iface _ d => uptoBulk d + 1
  | .map entries => uptoBulkEntries entries + 1
  | .held _ => 1
def uptoBulkAll {H : Type} : List (DataW H) → Nat
  | [] => 0
  | d :: r => uptoBulk d + uptoBulkAll r
def uptoBulkEntries {H : Type} : List (Lit × DataW H) → Nat
  | [] => 0
  | x :: r => uptoBulkEntry x + uptoBulkEntries r
def uptoBulkEntry {H : Type} : Lit × DataW H → Nat
  | (.string bytes, d) => bytes.length + uptoBulk d + 1
  | (_, d) => uptoBulk d + 1
 end
def uptoSmall : (H : Type) → List (DataW H) → Bool := fun _ ds => decide (uptoBulkAll ds ≤ 1048576)
def OpenSpec.upto (s : _root_.Go.ChangeSpec) : _root_.Go.OpenSpec := { _root_.Go.OpenSpec.ofChange s with cond := some uptoSmall }

/-- 'barbicanlaw09.FrameOneWay', WHERE WHAT IT READS IS OF BULK AT MOST 1048576: true; the input reads as it did. -/
def frameOneWayUptoRow : OpenClaim := { program := "ytbjcbdgkgbjaiaadoor", sum := "665f5b6564d584e6a3352ded077543c15f8fb6245236c5f7c1f06a27dce1fbbc", func := "barbican/barbicanlaw09.FrameOneWay", spec := "frameOneWay", inPlace := ["internal/bytealg.CountString", "internal/bytealg.IndexByteString", "internal/bytealg.IndexString"], unfollowed := true, recurses := true, named := ["unicode/utf8.first", "unicode/utf8.acceptRanges", "internal/bytealg.MaxLen"], apart := false, laid := [("unicode/utf8.acceptRanges", laid_unicode_utf8_acceptRanges), ("unicode/utf8.first", laid_unicode_utf8_first)], narrowed := true }
def FrameOneWayUptoSaid : Prop := frameOneWayUptoRow.holds Tryd.pinned (OpenSpec.upto frameOneWaySpec)

/-- 'barbicanlaw09.FrameRequests', WHERE WHAT IT READS IS OF BULK AT MOST 1048576: true; the input reads as it did. -/
def frameRequestsUptoRow : OpenClaim := { program := "ytbjcbdgkgbjaiaadoor", sum := "665f5b6564d584e6a3352ded077543c15f8fb6245236c5f7c1f06a27dce1fbbc", func := "barbican/barbicanlaw09.FrameRequests", spec := "frameRequests", inPlace := ["internal/bytealg.CountString", "internal/bytealg.IndexByteString", "internal/bytealg.IndexString"], unfollowed := true, recurses := true, named := ["unicode/utf8.first", "unicode/utf8.acceptRanges", "internal/bytealg.MaxLen"], apart := false, laid := [("unicode/utf8.acceptRanges", laid_unicode_utf8_acceptRanges), ("unicode/utf8.first", laid_unicode_utf8_first)], narrowed := true }
def FrameRequestsUptoSaid : Prop := frameRequestsUptoRow.holds Tryd.pinned (OpenSpec.upto frameRequestsSpec)

/-- 'barbicanlaw09.FrameResponses', WHERE WHAT IT READS IS OF BULK AT MOST 1048576: true; the input reads as it did. -/
def frameResponsesUptoRow : OpenClaim := { program := "ytbjcbdgkgbjaiaadoor", sum := "665f5b6564d584e6a3352ded077543c15f8fb6245236c5f7c1f06a27dce1fbbc", func := "barbican/barbicanlaw09.FrameResponses", spec := "frameResponses", inPlace := ["internal/bytealg.CountString", "internal/bytealg.IndexByteString", "internal/bytealg.IndexString"], unfollowed := true, recurses := true, named := ["unicode/utf8.first", "unicode/utf8.acceptRanges", "internal/bytealg.MaxLen"], apart := false, laid := [("unicode/utf8.acceptRanges", laid_unicode_utf8_acceptRanges), ("unicode/utf8.first", laid_unicode_utf8_first)], narrowed := true }
def FrameResponsesUptoSaid : Prop := frameResponsesUptoRow.holds Tryd.pinned (OpenSpec.upto frameResponsesSpec)

/-- 'barbicanlaw09.FrameBodiless', WHERE WHAT IT READS IS OF BULK AT MOST 1048576: true; the input reads as it did. -/
def frameBodilessUptoRow : OpenClaim := { program := "ytbjcbdgkgbjaiaadoor", sum := "665f5b6564d584e6a3352ded077543c15f8fb6245236c5f7c1f06a27dce1fbbc", func := "barbican/barbicanlaw09.FrameBodiless", spec := "frameBodiless", inPlace := ["internal/bytealg.CountString", "internal/bytealg.IndexByteString", "internal/bytealg.IndexString"], unfollowed := true, recurses := true, named := ["unicode/utf8.first", "unicode/utf8.acceptRanges", "internal/bytealg.MaxLen"], apart := false, laid := [("unicode/utf8.acceptRanges", laid_unicode_utf8_acceptRanges), ("unicode/utf8.first", laid_unicode_utf8_first)], narrowed := true }
def FrameBodilessUptoSaid : Prop := frameBodilessUptoRow.holds Tryd.pinned (OpenSpec.upto frameBodilessSpec)

/-- 'barbicanlaw09.FrameAgrees', WHERE WHAT IT READS IS OF BULK AT MOST 1048576: true; the input reads as it did. -/
def frameAgreesUptoRow : OpenClaim := { program := "ytbjcbdgkgbjaiaadoor", sum := "665f5b6564d584e6a3352ded077543c15f8fb6245236c5f7c1f06a27dce1fbbc", func := "barbican/barbicanlaw09.FrameAgrees", spec := "frameAgrees", inPlace := ["internal/bytealg.CountString", "internal/bytealg.IndexByteString", "internal/bytealg.IndexString"], unfollowed := true, recurses := true, named := ["unicode/utf8.first", "unicode/utf8.acceptRanges", "internal/bytealg.MaxLen"], apart := false, laid := [("unicode/utf8.acceptRanges", laid_unicode_utf8_acceptRanges), ("unicode/utf8.first", laid_unicode_utf8_first)], narrowed := true }
def FrameAgreesUptoSaid : Prop := frameAgreesUptoRow.holds Tryd.pinned (OpenSpec.upto frameAgreesSpec)

/-- 'barbicanlaw09.FrameCase', WHERE WHAT IT READS IS OF BULK AT MOST 1048576: true; the input reads as it did. -/
def frameCaseUptoRow : OpenClaim := { program := "ytbjcbdgkgbjaiaadoor", sum := "665f5b6564d584e6a3352ded077543c15f8fb6245236c5f7c1f06a27dce1fbbc", func := "barbican/barbicanlaw09.FrameCase", spec := "frameCase", inPlace := ["internal/bytealg.CountString", "internal/bytealg.IndexByteString", "internal/bytealg.IndexString"], unfollowed := true, recurses := true, named := ["unicode/utf8.first", "unicode/utf8.acceptRanges", "internal/bytealg.MaxLen"], apart := false, laid := [("unicode/utf8.acceptRanges", laid_unicode_utf8_acceptRanges), ("unicode/utf8.first", laid_unicode_utf8_first)], narrowed := true }
def FrameCaseUptoSaid : Prop := frameCaseUptoRow.holds Tryd.pinned (OpenSpec.upto frameCaseSpec)

end Rows
end Go.Proofs.YtbjcbdgkgbjaiaaDoor
