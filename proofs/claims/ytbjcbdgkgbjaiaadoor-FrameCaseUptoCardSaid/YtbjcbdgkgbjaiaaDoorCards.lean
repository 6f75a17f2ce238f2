/-
  DERIVED. GIVEN WITH THE SEED: THE CARDS: each row of YtbjcbdgkgbjaiaaDoorRows.lean that lists a variable, with what it lists TIED to the program's text (the seventh form; the later family's looks); each row that meets fmt, with fmt's text TOLD by the authors' own Lean function (tested against real Go, not proved from fmt's source: count such statements apart). THE CARD IS WHAT COUNTS. Prove the row's statement (the work); the ties are given (YtbjcbdgkgbjaiaaDoorTie.lean); close each card by the builder's one call (the guide's Derived/Test/ToyasCard.lean, 'card_holds'). Laid BY PROGRAM, IN A SANDBOX (cutbox-door.mjs). By AI agents, Wed Nov 11 2026. No macro, syntax, notation, axiom, sorry.
-/
import Derived.Test.YtbjcbdgkgbjaiaaDoorRows
import GoSem.ClaimSeven
namespace Go.Proofs.YtbjcbdgkgbjaiaaDoor
namespace Rows

/-- THE TIED CARD OF 'barbicanlaw09.FrameOneWay'. -/
def frameOneWayCard : Claim7 := { stood := { row := frameOneWayRow, standIns := [], harness := (true, "405142addeb9547866a1b6897ef09c299663c5cd0916f8887b1ecfa53e2f8d7b"), looks := false }, kinds := [], alts := [], laidByText := true, laidKinds := [.data, .pinned], laidTests := true, laidLooks := .later }
def FrameOneWayCardSaid : Prop := Claim7.holds Tryd.pinned (.plain (OpenSpec.ofChange frameOneWaySpec)) frameOneWayCard

/-- THE TIED CARD OF 'barbicanlaw09.FrameRequests'. -/
def frameRequestsCard : Claim7 := { stood := { row := frameRequestsRow, standIns := [], harness := (true, "405142addeb9547866a1b6897ef09c299663c5cd0916f8887b1ecfa53e2f8d7b"), looks := false }, kinds := [], alts := [], laidByText := true, laidKinds := [.data, .pinned], laidTests := true, laidLooks := .later }
def FrameRequestsCardSaid : Prop := Claim7.holds Tryd.pinned (.plain (OpenSpec.ofChange frameRequestsSpec)) frameRequestsCard

/-- THE TIED CARD OF 'barbicanlaw09.FrameResponses'. -/
def frameResponsesCard : Claim7 := { stood := { row := frameResponsesRow, standIns := [], harness := (true, "405142addeb9547866a1b6897ef09c299663c5cd0916f8887b1ecfa53e2f8d7b"), looks := false }, kinds := [], alts := [], laidByText := true, laidKinds := [.data, .pinned], laidTests := true, laidLooks := .later }
def FrameResponsesCardSaid : Prop := Claim7.holds Tryd.pinned (.plain (OpenSpec.ofChange frameResponsesSpec)) frameResponsesCard

/-- THE TIED CARD OF 'barbicanlaw09.FrameBodiless'. -/
def frameBodilessCard : Claim7 := { stood := { row := frameBodilessRow, standIns := [], harness := (true, "405142addeb9547866a1b6897ef09c299663c5cd0916f8887b1ecfa53e2f8d7b"), looks := false }, kinds := [], alts := [], laidByText := true, laidKinds := [.data, .pinned], laidTests := true, laidLooks := .later }
def FrameBodilessCardSaid : Prop := Claim7.holds Tryd.pinned (.plain (OpenSpec.ofChange frameBodilessSpec)) frameBodilessCard

/-- THE TIED CARD OF 'barbicanlaw09.FrameAgrees'. -/
def frameAgreesCard : Claim7 := { stood := { row := frameAgreesRow, standIns := [], harness := (true, "405142addeb9547866a1b6897ef09c299663c5cd0916f8887b1ecfa53e2f8d7b"), looks := false }, kinds := [], alts := [], laidByText := true, laidKinds := [.data, .pinned], laidTests := true, laidLooks := .later }
def FrameAgreesCardSaid : Prop := Claim7.holds Tryd.pinned (.plain (OpenSpec.ofChange frameAgreesSpec)) frameAgreesCard

/-- THE TIED CARD OF 'barbicanlaw09.FrameCase'. -/
def frameCaseCard : Claim7 := { stood := { row := frameCaseRow, standIns := [], harness := (true, "405142addeb9547866a1b6897ef09c299663c5cd0916f8887b1ecfa53e2f8d7b"), looks := false }, kinds := [], alts := [], laidByText := true, laidKinds := [.data, .pinned], laidTests := true, laidLooks := .later }
def FrameCaseCardSaid : Prop := Claim7.holds Tryd.pinned (.plain (OpenSpec.ofChange frameCaseSpec)) frameCaseCard

/-- THE SECOND FORM's CARD OF 'barbicanlaw09.FrameOneWay'. -/
def frameOneWayUptoCard : Claim7 := { stood := { row := frameOneWayUptoRow, standIns := [], harness := (true, "405142addeb9547866a1b6897ef09c299663c5cd0916f8887b1ecfa53e2f8d7b"), looks := false }, kinds := [], alts := [], laidByText := true, laidKinds := [.data, .pinned], laidTests := true, laidLooks := .later }
def FrameOneWayUptoCardSaid : Prop := Claim7.holds Tryd.pinned (.plain (OpenSpec.upto frameOneWaySpec)) frameOneWayUptoCard

/-- THE SECOND FORM's CARD OF 'barbicanlaw09.FrameRequests'. -/
def frameRequestsUptoCard : Claim7 := { stood := { row := frameRequestsUptoRow, standIns := [], harness := (true, "405142addeb9547866a1b6897ef09c299663c5cd0916f8887b1ecfa53e2f8d7b"), looks := false }, kinds := [], alts := [], laidByText := true, laidKinds := [.data, .pinned], laidTests := true, laidLooks := .later }
def FrameRequestsUptoCardSaid : Prop := Claim7.holds Tryd.pinned (.plain (OpenSpec.upto frameRequestsSpec)) frameRequestsUptoCard

/-- THE SECOND FORM's CARD OF 'barbicanlaw09.FrameResponses'. -/
def frameResponsesUptoCard : Claim7 := { stood := { row := frameResponsesUptoRow, standIns := [], harness := (true, "405142addeb9547866a1b6897ef09c299663c5cd0916f8887b1ecfa53e2f8d7b"), looks := false }, kinds := [], alts := [], laidByText := true, laidKinds := [.data, .pinned], laidTests := true, laidLooks := .later }
def FrameResponsesUptoCardSaid : Prop := Claim7.holds Tryd.pinned (.plain (OpenSpec.upto frameResponsesSpec)) frameResponsesUptoCard

/-- THE SECOND FORM's CARD OF 'barbicanlaw09.FrameBodiless'. -/
def frameBodilessUptoCard : Claim7 := { stood := { row := frameBodilessUptoRow, standIns := [], harness := (true, "405142addeb9547866a1b6897ef09c299663c5cd0916f8887b1ecfa53e2f8d7b"), looks := false }, kinds := [], alts := [], laidByText := true, laidKinds := [.data, .pinned], laidTests := true, laidLooks := .later }
def FrameBodilessUptoCardSaid : Prop := Claim7.holds Tryd.pinned (.plain (OpenSpec.upto frameBodilessSpec)) frameBodilessUptoCard

/-- THE SECOND FORM's CARD OF 'barbicanlaw09.FrameAgrees'. -/
def frameAgreesUptoCard : Claim7 := { stood := { row := frameAgreesUptoRow, standIns := [], harness := (true, "405142addeb9547866a1b6897ef09c299663c5cd0916f8887b1ecfa53e2f8d7b"), looks := false }, kinds := [], alts := [], laidByText := true, laidKinds := [.data, .pinned], laidTests := true, laidLooks := .later }
def FrameAgreesUptoCardSaid : Prop := Claim7.holds Tryd.pinned (.plain (OpenSpec.upto frameAgreesSpec)) frameAgreesUptoCard

/-- THE SECOND FORM's CARD OF 'barbicanlaw09.FrameCase'. -/
def frameCaseUptoCard : Claim7 := { stood := { row := frameCaseUptoRow, standIns := [], harness := (true, "405142addeb9547866a1b6897ef09c299663c5cd0916f8887b1ecfa53e2f8d7b"), looks := false }, kinds := [], alts := [], laidByText := true, laidKinds := [.data, .pinned], laidTests := true, laidLooks := .later }
def FrameCaseUptoCardSaid : Prop := Claim7.holds Tryd.pinned (.plain (OpenSpec.upto frameCaseSpec)) frameCaseUptoCard
end Rows
end Go.Proofs.YtbjcbdgkgbjaiaaDoor
