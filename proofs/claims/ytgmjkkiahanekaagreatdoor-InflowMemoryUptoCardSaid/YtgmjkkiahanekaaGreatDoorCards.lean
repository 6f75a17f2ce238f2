/-
  DERIVED. GIVEN WITH THE SEED: THE CARDS: each row of YtgmjkkiahanekaaGreatDoorRows.lean that lists a variable, with what it lists TIED to the program's text (the seventh form; the later family's looks); each row that meets fmt, with fmt's text TOLD by the authors' own Lean function (tested against real Go, not proved from fmt's source: count such statements apart). THE CARD IS WHAT COUNTS. Prove the row's statement (the work); the ties are given (YtgmjkkiahanekaaGreatDoorTie.lean); close each card by the builder's one call (the guide's Derived/Test/ToyasCard.lean, 'card_holds'). Laid BY PROGRAM, IN A SANDBOX (cutbox-door.mjs). By AI agents, Wed Nov 11 2026. No macro, syntax, notation, axiom, sorry.
-/
import Derived.Test.YtgmjkkiahanekaaGreatDoorRows
import GoSem.ClaimSeven
namespace Go.Proofs.YtgmjkkiahanekaaGreatDoor
namespace Rows

/-- THE TIED CARD OF 'barbicanlaw12.OutflowPlays'. -/
def outflowPlaysCard : Claim7 := { stood := { row := outflowPlaysRow, standIns := [], harness := (true, "fa6118472cafae569c07f14c777966c9453f64bdde61d9c2cf768e48d4455644"), looks := false }, kinds := [], alts := [], laidByText := true, laidKinds := [.data, .pinned], laidTests := true, laidLooks := .later }
def OutflowPlaysCardSaid : Prop := Claim7.holds Tryz.pinned (.plain (OpenSpec.ofChange outflowPlaysSpec)) outflowPlaysCard

/-- THE TIED CARD OF 'barbicanlaw11.InflowPieces'. -/
def inflowPiecesCard : Claim7 := { stood := { row := inflowPiecesRow, standIns := [], harness := (true, "fa6118472cafae569c07f14c777966c9453f64bdde61d9c2cf768e48d4455644"), looks := false }, kinds := [], alts := [], laidByText := true, laidKinds := [.data, .pinned], laidTests := true, laidLooks := .later }
def InflowPiecesCardSaid : Prop := Claim7.holds Tryz.pinned (.plain (OpenSpec.ofChange inflowPiecesSpec)) inflowPiecesCard

/-- THE TIED CARD OF 'barbicanlaw11.InflowSmuggles'. -/
def inflowSmugglesCard : Claim7 := { stood := { row := inflowSmugglesRow, standIns := [], harness := (true, "fa6118472cafae569c07f14c777966c9453f64bdde61d9c2cf768e48d4455644"), looks := false }, kinds := [], alts := [], laidByText := true, laidKinds := [.data, .pinned], laidTests := true, laidLooks := .later }
def InflowSmugglesCardSaid : Prop := Claim7.holds Tryz.pinned (.plain (OpenSpec.ofChange inflowSmugglesSpec)) inflowSmugglesCard

/-- THE TIED CARD OF 'barbicanlaw11.InflowWhole'. -/
def inflowWholeCard : Claim7 := { stood := { row := inflowWholeRow, standIns := [], harness := (true, "fa6118472cafae569c07f14c777966c9453f64bdde61d9c2cf768e48d4455644"), looks := false }, kinds := [], alts := [], laidByText := true, laidKinds := [.data, .pinned], laidTests := true, laidLooks := .later }
def InflowWholeCardSaid : Prop := Claim7.holds Tryz.pinned (.plain (OpenSpec.ofChange inflowWholeSpec)) inflowWholeCard

/-- THE TIED CARD OF 'barbicanlaw11.InflowMemory'. -/
def inflowMemoryCard : Claim7 := { stood := { row := inflowMemoryRow, standIns := [], harness := (true, "fa6118472cafae569c07f14c777966c9453f64bdde61d9c2cf768e48d4455644"), looks := false }, kinds := [], alts := [], laidByText := true, laidKinds := [.data, .pinned], laidTests := true, laidLooks := .later }
def InflowMemoryCardSaid : Prop := Claim7.holds Tryz.pinned (.plain (OpenSpec.ofChange inflowMemorySpec)) inflowMemoryCard

/-- THE TIED CARD OF 'barbicanlaw11.InflowWritten'. -/
def inflowWrittenCard : Claim7 := { stood := { row := inflowWrittenRow, standIns := [], harness := (true, "fa6118472cafae569c07f14c777966c9453f64bdde61d9c2cf768e48d4455644"), looks := false }, kinds := [], alts := [], laidByText := true, laidKinds := [.data, .pinned], laidTests := true, laidLooks := .later }
def InflowWrittenCardSaid : Prop := Claim7.holds Tryz.pinned (.plain (OpenSpec.ofChange inflowWrittenSpec)) inflowWrittenCard

/-- THE TIED CARD OF 'barbicanlaw11.InflowBound'. -/
def inflowBoundCard : Claim7 := { stood := { row := inflowBoundRow, standIns := [], harness := (true, "fa6118472cafae569c07f14c777966c9453f64bdde61d9c2cf768e48d4455644"), looks := false }, kinds := [], alts := [], laidByText := true, laidKinds := [.data, .pinned], laidTests := true, laidLooks := .later }
def InflowBoundCardSaid : Prop := Claim7.holds Tryz.pinned (.plain (OpenSpec.ofChange inflowBoundSpec)) inflowBoundCard

/-- THE TIED CARD OF 'barbicanlaw11.InflowHosts'. -/
def inflowHostsCard : Claim7 := { stood := { row := inflowHostsRow, standIns := [], harness := (true, "fa6118472cafae569c07f14c777966c9453f64bdde61d9c2cf768e48d4455644"), looks := false }, kinds := [], alts := [], laidByText := true, laidKinds := [.data, .pinned], laidTests := true, laidLooks := .later }
def InflowHostsCardSaid : Prop := Claim7.holds Tryz.pinned (.plain (OpenSpec.ofChange inflowHostsSpec)) inflowHostsCard

/-- THE TIED CARD OF 'barbicanlaw11.InflowPlays'. -/
def inflowPlaysCard : Claim7 := { stood := { row := inflowPlaysRow, standIns := [], harness := (true, "fa6118472cafae569c07f14c777966c9453f64bdde61d9c2cf768e48d4455644"), looks := false }, kinds := [], alts := [], laidByText := true, laidKinds := [.data, .pinned], laidTests := true, laidLooks := .later }
def InflowPlaysCardSaid : Prop := Claim7.holds Tryz.pinned (.plain (OpenSpec.ofChange inflowPlaysSpec)) inflowPlaysCard

/-- THE TIED CARD OF 'barbicanlaw11.InflowRest'. -/
def inflowRestCard : Claim7 := { stood := { row := inflowRestRow, standIns := [], harness := (true, "fa6118472cafae569c07f14c777966c9453f64bdde61d9c2cf768e48d4455644"), looks := false }, kinds := [], alts := [], laidByText := true, laidKinds := [.data, .pinned], laidTests := true, laidLooks := .later }
def InflowRestCardSaid : Prop := Claim7.holds Tryz.pinned (.plain (OpenSpec.ofChange inflowRestSpec)) inflowRestCard

/-- THE SECOND FORM's CARD OF 'barbicanlaw12.OutflowPlays'. -/
def outflowPlaysUptoCard : Claim7 := { stood := { row := outflowPlaysUptoRow, standIns := [], harness := (true, "fa6118472cafae569c07f14c777966c9453f64bdde61d9c2cf768e48d4455644"), looks := false }, kinds := [], alts := [], laidByText := true, laidKinds := [.data, .pinned], laidTests := true, laidLooks := .later }
def OutflowPlaysUptoCardSaid : Prop := Claim7.holds Tryz.pinned (.plain (OpenSpec.upto outflowPlaysSpec)) outflowPlaysUptoCard

/-- THE SECOND FORM's CARD OF 'barbicanlaw11.InflowPieces'. -/
def inflowPiecesUptoCard : Claim7 := { stood := { row := inflowPiecesUptoRow, standIns := [], harness := (true, "fa6118472cafae569c07f14c777966c9453f64bdde61d9c2cf768e48d4455644"), looks := false }, kinds := [], alts := [], laidByText := true, laidKinds := [.data, .pinned], laidTests := true, laidLooks := .later }
def InflowPiecesUptoCardSaid : Prop := Claim7.holds Tryz.pinned (.plain (OpenSpec.upto inflowPiecesSpec)) inflowPiecesUptoCard

/-- THE SECOND FORM's CARD OF 'barbicanlaw11.InflowSmuggles'. -/
def inflowSmugglesUptoCard : Claim7 := { stood := { row := inflowSmugglesUptoRow, standIns := [], harness := (true, "fa6118472cafae569c07f14c777966c9453f64bdde61d9c2cf768e48d4455644"), looks := false }, kinds := [], alts := [], laidByText := true, laidKinds := [.data, .pinned], laidTests := true, laidLooks := .later }
def InflowSmugglesUptoCardSaid : Prop := Claim7.holds Tryz.pinned (.plain (OpenSpec.upto inflowSmugglesSpec)) inflowSmugglesUptoCard

/-- THE SECOND FORM's CARD OF 'barbicanlaw11.InflowWhole'. -/
def inflowWholeUptoCard : Claim7 := { stood := { row := inflowWholeUptoRow, standIns := [], harness := (true, "fa6118472cafae569c07f14c777966c9453f64bdde61d9c2cf768e48d4455644"), looks := false }, kinds := [], alts := [], laidByText := true, laidKinds := [.data, .pinned], laidTests := true, laidLooks := .later }
def InflowWholeUptoCardSaid : Prop := Claim7.holds Tryz.pinned (.plain (OpenSpec.upto inflowWholeSpec)) inflowWholeUptoCard

/-- THE SECOND FORM's CARD OF 'barbicanlaw11.InflowMemory'. -/
def inflowMemoryUptoCard : Claim7 := { stood := { row := inflowMemoryUptoRow, standIns := [], harness := (true, "fa6118472cafae569c07f14c777966c9453f64bdde61d9c2cf768e48d4455644"), looks := false }, kinds := [], alts := [], laidByText := true, laidKinds := [.data, .pinned], laidTests := true, laidLooks := .later }
def InflowMemoryUptoCardSaid : Prop := Claim7.holds Tryz.pinned (.plain (OpenSpec.upto inflowMemorySpec)) inflowMemoryUptoCard

/-- THE SECOND FORM's CARD OF 'barbicanlaw11.InflowWritten'. -/
def inflowWrittenUptoCard : Claim7 := { stood := { row := inflowWrittenUptoRow, standIns := [], harness := (true, "fa6118472cafae569c07f14c777966c9453f64bdde61d9c2cf768e48d4455644"), looks := false }, kinds := [], alts := [], laidByText := true, laidKinds := [.data, .pinned], laidTests := true, laidLooks := .later }
def InflowWrittenUptoCardSaid : Prop := Claim7.holds Tryz.pinned (.plain (OpenSpec.upto inflowWrittenSpec)) inflowWrittenUptoCard

/-- THE SECOND FORM's CARD OF 'barbicanlaw11.InflowBound'. -/
def inflowBoundUptoCard : Claim7 := { stood := { row := inflowBoundUptoRow, standIns := [], harness := (true, "fa6118472cafae569c07f14c777966c9453f64bdde61d9c2cf768e48d4455644"), looks := false }, kinds := [], alts := [], laidByText := true, laidKinds := [.data, .pinned], laidTests := true, laidLooks := .later }
def InflowBoundUptoCardSaid : Prop := Claim7.holds Tryz.pinned (.plain (OpenSpec.upto inflowBoundSpec)) inflowBoundUptoCard

/-- THE SECOND FORM's CARD OF 'barbicanlaw11.InflowHosts'. -/
def inflowHostsUptoCard : Claim7 := { stood := { row := inflowHostsUptoRow, standIns := [], harness := (true, "fa6118472cafae569c07f14c777966c9453f64bdde61d9c2cf768e48d4455644"), looks := false }, kinds := [], alts := [], laidByText := true, laidKinds := [.data, .pinned], laidTests := true, laidLooks := .later }
def InflowHostsUptoCardSaid : Prop := Claim7.holds Tryz.pinned (.plain (OpenSpec.upto inflowHostsSpec)) inflowHostsUptoCard

/-- THE SECOND FORM's CARD OF 'barbicanlaw11.InflowPlays'. -/
def inflowPlaysUptoCard : Claim7 := { stood := { row := inflowPlaysUptoRow, standIns := [], harness := (true, "fa6118472cafae569c07f14c777966c9453f64bdde61d9c2cf768e48d4455644"), looks := false }, kinds := [], alts := [], laidByText := true, laidKinds := [.data, .pinned], laidTests := true, laidLooks := .later }
def InflowPlaysUptoCardSaid : Prop := Claim7.holds Tryz.pinned (.plain (OpenSpec.upto inflowPlaysSpec)) inflowPlaysUptoCard

/-- THE SECOND FORM's CARD OF 'barbicanlaw11.InflowRest'. -/
def inflowRestUptoCard : Claim7 := { stood := { row := inflowRestUptoRow, standIns := [], harness := (true, "fa6118472cafae569c07f14c777966c9453f64bdde61d9c2cf768e48d4455644"), looks := false }, kinds := [], alts := [], laidByText := true, laidKinds := [.data, .pinned], laidTests := true, laidLooks := .later }
def InflowRestUptoCardSaid : Prop := Claim7.holds Tryz.pinned (.plain (OpenSpec.upto inflowRestSpec)) inflowRestUptoCard
end Rows
end Go.Proofs.YtgmjkkiahanekaaGreatDoor
