/-
  DERIVED. GIVEN WITH THE SEED: THE CARDS: each row of YtjbmipbjlhcooaaDoorRows.lean that lists a variable, with what it lists TIED to the program's text (the seventh form; the later family's looks); each row that meets fmt, with fmt's text TOLD by the authors' own Lean function (tested against real Go, not proved from fmt's source: count such statements apart). THE CARD IS WHAT COUNTS. Prove the row's statement (the work); the ties are given (YtjbmipbjlhcooaaDoorTie.lean); close each card by the builder's one call (the guide's Derived/Test/ToyasCard.lean, 'card_holds'). Laid BY PROGRAM, IN A SANDBOX (cutbox-door.mjs). By AI agents, Wed Nov 11 2026. No macro, syntax, notation, axiom, sorry.
-/
import Derived.Test.YtjbmipbjlhcooaaDoorRows
import GoSem.ClaimSeven
namespace Go.Proofs.YtjbmipbjlhcooaaDoor
namespace Rows

/-- THE TIED CARD OF 'barbicanlaw06.TargetHosts'. -/
def targetHostsCard : Claim7 := { stood := { row := targetHostsRow, standIns := [], harness := (true, "5d439fbf54b8345d729b4fa9630fc9cfa9b5be4514581c57d8fc4ba14ad65b9a"), looks := false }, kinds := [], alts := [], laidByText := true, laidKinds := [.data, .pinned], laidTests := true, laidLooks := .later }
def TargetHostsCardSaid : Prop := Claim7.holds Tryd.pinned (.plain (OpenSpec.ofChange targetHostsSpec)) targetHostsCard

/-- THE TIED CARD OF 'barbicanlaw06.TargetAbsolute'. -/
def targetAbsoluteCard : Claim7 := { stood := { row := targetAbsoluteRow, standIns := [], harness := (true, "5d439fbf54b8345d729b4fa9630fc9cfa9b5be4514581c57d8fc4ba14ad65b9a"), looks := false }, kinds := [], alts := [], laidByText := true, laidKinds := [.data, .pinned], laidTests := true, laidLooks := .later }
def TargetAbsoluteCardSaid : Prop := Claim7.holds Tryd.pinned (.plain (OpenSpec.ofChange targetAbsoluteSpec)) targetAbsoluteCard

/-- THE TIED CARD OF 'barbicanlaw06.TargetCase'. -/
def targetCaseCard : Claim7 := { stood := { row := targetCaseRow, standIns := [], harness := (true, "5d439fbf54b8345d729b4fa9630fc9cfa9b5be4514581c57d8fc4ba14ad65b9a"), looks := false }, kinds := [], alts := [], laidByText := true, laidKinds := [.data, .pinned], laidTests := true, laidLooks := .later }
def TargetCaseCardSaid : Prop := Claim7.holds Tryd.pinned (.plain (OpenSpec.ofChange targetCaseSpec)) targetCaseCard

/-- THE TIED CARD OF 'barbicanlaw06.TargetParses'. -/
def targetParsesCard : Claim7 := { stood := { row := targetParsesRow, standIns := [], harness := (true, "5d439fbf54b8345d729b4fa9630fc9cfa9b5be4514581c57d8fc4ba14ad65b9a"), looks := false }, kinds := [], alts := [], laidByText := true, laidKinds := [.data, .pinned], laidTests := true, laidLooks := .later }
def TargetParsesCardSaid : Prop := Claim7.holds Tryd.pinned (.plain (OpenSpec.ofChange targetParsesSpec)) targetParsesCard

/-- THE TIED CARD OF 'barbicanlaw06.TargetAgain'. -/
def targetAgainCard : Claim7 := { stood := { row := targetAgainRow, standIns := [], harness := (true, "5d439fbf54b8345d729b4fa9630fc9cfa9b5be4514581c57d8fc4ba14ad65b9a"), looks := false }, kinds := [], alts := [], laidByText := true, laidKinds := [.data, .pinned], laidTests := true, laidLooks := .later }
def TargetAgainCardSaid : Prop := Claim7.holds Tryd.pinned (.plain (OpenSpec.ofChange targetAgainSpec)) targetAgainCard

/-- THE TIED CARD OF 'barbicanlaw08.HeadUsed'. -/
def headUsedCard : Claim7 := { stood := { row := headUsedRow, standIns := [], harness := (true, "5d439fbf54b8345d729b4fa9630fc9cfa9b5be4514581c57d8fc4ba14ad65b9a"), looks := false }, kinds := [], alts := [], laidByText := true, laidKinds := [.data, .pinned], laidTests := true, laidLooks := .later }
def HeadUsedCardSaid : Prop := Claim7.holds Tryd.pinned (.plain (OpenSpec.ofChange headUsedSpec)) headUsedCard

/-- THE TIED CARD OF 'barbicanlaw08.HeadWritten'. -/
def headWrittenCard : Claim7 := { stood := { row := headWrittenRow, standIns := [], harness := (true, "5d439fbf54b8345d729b4fa9630fc9cfa9b5be4514581c57d8fc4ba14ad65b9a"), looks := false }, kinds := [], alts := [], laidByText := true, laidKinds := [.data, .pinned], laidTests := true, laidLooks := .later }
def HeadWrittenCardSaid : Prop := Claim7.holds Tryd.pinned (.plain (OpenSpec.ofChange headWrittenSpec)) headWrittenCard

/-- THE TIED CARD OF 'barbicanlaw08.HeadFields'. -/
def headFieldsCard : Claim7 := { stood := { row := headFieldsRow, standIns := [], harness := (true, "5d439fbf54b8345d729b4fa9630fc9cfa9b5be4514581c57d8fc4ba14ad65b9a"), looks := false }, kinds := [], alts := [], laidByText := true, laidKinds := [.data, .pinned], laidTests := true, laidLooks := .later }
def HeadFieldsCardSaid : Prop := Claim7.holds Tryd.pinned (.plain (OpenSpec.ofChange headFieldsSpec)) headFieldsCard

/-- THE TIED CARD OF 'barbicanlaw08.HeadBounds'. -/
def headBoundsCard : Claim7 := { stood := { row := headBoundsRow, standIns := [], harness := (true, "5d439fbf54b8345d729b4fa9630fc9cfa9b5be4514581c57d8fc4ba14ad65b9a"), looks := false }, kinds := [], alts := [], laidByText := true, laidKinds := [.data, .pinned], laidTests := true, laidLooks := .later }
def HeadBoundsCardSaid : Prop := Claim7.holds Tryd.pinned (.plain (OpenSpec.ofChange headBoundsSpec)) headBoundsCard

/-- THE TIED CARD OF 'barbicanlaw08.HeadAhead'. -/
def headAheadCard : Claim7 := { stood := { row := headAheadRow, standIns := [], harness := (true, "5d439fbf54b8345d729b4fa9630fc9cfa9b5be4514581c57d8fc4ba14ad65b9a"), looks := false }, kinds := [], alts := [], laidByText := true, laidKinds := [.data, .pinned], laidTests := true, laidLooks := .later }
def HeadAheadCardSaid : Prop := Claim7.holds Tryd.pinned (.plain (OpenSpec.ofChange headAheadSpec)) headAheadCard

/-- THE TIED CARD OF 'barbicanlaw08.HeadReads'. -/
def headReadsCard : Claim7 := { stood := { row := headReadsRow, standIns := [], harness := (true, "5d439fbf54b8345d729b4fa9630fc9cfa9b5be4514581c57d8fc4ba14ad65b9a"), looks := false }, kinds := [], alts := [], laidByText := true, laidKinds := [.data, .pinned], laidTests := true, laidLooks := .later }
def HeadReadsCardSaid : Prop := Claim7.holds Tryd.pinned (.plain (OpenSpec.ofChange headReadsSpec)) headReadsCard

/-- THE TIED CARD OF 'barbicanlaw08.HeadSteady'. -/
def headSteadyCard : Claim7 := { stood := { row := headSteadyRow, standIns := [], harness := (true, "5d439fbf54b8345d729b4fa9630fc9cfa9b5be4514581c57d8fc4ba14ad65b9a"), looks := false }, kinds := [], alts := [], laidByText := true, laidKinds := [.data, .pinned], laidTests := true, laidLooks := .later }
def HeadSteadyCardSaid : Prop := Claim7.holds Tryd.pinned (.plain (OpenSpec.ofChange headSteadySpec)) headSteadyCard

/-- THE TIED CARD OF 'barbicanlaw08.HeadBare'. -/
def headBareCard : Claim7 := { stood := { row := headBareRow, standIns := [], harness := (true, "5d439fbf54b8345d729b4fa9630fc9cfa9b5be4514581c57d8fc4ba14ad65b9a"), looks := false }, kinds := [], alts := [], laidByText := true, laidKinds := [.data, .pinned], laidTests := true, laidLooks := .later }
def HeadBareCardSaid : Prop := Claim7.holds Tryd.pinned (.plain (OpenSpec.ofChange headBareSpec)) headBareCard

/-- THE SECOND FORM's CARD OF 'barbicanlaw06.TargetHosts'. -/
def targetHostsUptoCard : Claim7 := { stood := { row := targetHostsUptoRow, standIns := [], harness := (true, "5d439fbf54b8345d729b4fa9630fc9cfa9b5be4514581c57d8fc4ba14ad65b9a"), looks := false }, kinds := [], alts := [], laidByText := true, laidKinds := [.data, .pinned], laidTests := true, laidLooks := .later }
def TargetHostsUptoCardSaid : Prop := Claim7.holds Tryd.pinned (.plain (OpenSpec.upto targetHostsSpec)) targetHostsUptoCard

/-- THE SECOND FORM's CARD OF 'barbicanlaw06.TargetAbsolute'. -/
def targetAbsoluteUptoCard : Claim7 := { stood := { row := targetAbsoluteUptoRow, standIns := [], harness := (true, "5d439fbf54b8345d729b4fa9630fc9cfa9b5be4514581c57d8fc4ba14ad65b9a"), looks := false }, kinds := [], alts := [], laidByText := true, laidKinds := [.data, .pinned], laidTests := true, laidLooks := .later }
def TargetAbsoluteUptoCardSaid : Prop := Claim7.holds Tryd.pinned (.plain (OpenSpec.upto targetAbsoluteSpec)) targetAbsoluteUptoCard

/-- THE SECOND FORM's CARD OF 'barbicanlaw06.TargetCase'. -/
def targetCaseUptoCard : Claim7 := { stood := { row := targetCaseUptoRow, standIns := [], harness := (true, "5d439fbf54b8345d729b4fa9630fc9cfa9b5be4514581c57d8fc4ba14ad65b9a"), looks := false }, kinds := [], alts := [], laidByText := true, laidKinds := [.data, .pinned], laidTests := true, laidLooks := .later }
def TargetCaseUptoCardSaid : Prop := Claim7.holds Tryd.pinned (.plain (OpenSpec.upto targetCaseSpec)) targetCaseUptoCard

/-- THE SECOND FORM's CARD OF 'barbicanlaw06.TargetParses'. -/
def targetParsesUptoCard : Claim7 := { stood := { row := targetParsesUptoRow, standIns := [], harness := (true, "5d439fbf54b8345d729b4fa9630fc9cfa9b5be4514581c57d8fc4ba14ad65b9a"), looks := false }, kinds := [], alts := [], laidByText := true, laidKinds := [.data, .pinned], laidTests := true, laidLooks := .later }
def TargetParsesUptoCardSaid : Prop := Claim7.holds Tryd.pinned (.plain (OpenSpec.upto targetParsesSpec)) targetParsesUptoCard

/-- THE SECOND FORM's CARD OF 'barbicanlaw06.TargetAgain'. -/
def targetAgainUptoCard : Claim7 := { stood := { row := targetAgainUptoRow, standIns := [], harness := (true, "5d439fbf54b8345d729b4fa9630fc9cfa9b5be4514581c57d8fc4ba14ad65b9a"), looks := false }, kinds := [], alts := [], laidByText := true, laidKinds := [.data, .pinned], laidTests := true, laidLooks := .later }
def TargetAgainUptoCardSaid : Prop := Claim7.holds Tryd.pinned (.plain (OpenSpec.upto targetAgainSpec)) targetAgainUptoCard

/-- THE SECOND FORM's CARD OF 'barbicanlaw08.HeadUsed'. -/
def headUsedUptoCard : Claim7 := { stood := { row := headUsedUptoRow, standIns := [], harness := (true, "5d439fbf54b8345d729b4fa9630fc9cfa9b5be4514581c57d8fc4ba14ad65b9a"), looks := false }, kinds := [], alts := [], laidByText := true, laidKinds := [.data, .pinned], laidTests := true, laidLooks := .later }
def HeadUsedUptoCardSaid : Prop := Claim7.holds Tryd.pinned (.plain (OpenSpec.upto headUsedSpec)) headUsedUptoCard

/-- THE SECOND FORM's CARD OF 'barbicanlaw08.HeadWritten'. -/
def headWrittenUptoCard : Claim7 := { stood := { row := headWrittenUptoRow, standIns := [], harness := (true, "5d439fbf54b8345d729b4fa9630fc9cfa9b5be4514581c57d8fc4ba14ad65b9a"), looks := false }, kinds := [], alts := [], laidByText := true, laidKinds := [.data, .pinned], laidTests := true, laidLooks := .later }
def HeadWrittenUptoCardSaid : Prop := Claim7.holds Tryd.pinned (.plain (OpenSpec.upto headWrittenSpec)) headWrittenUptoCard

/-- THE SECOND FORM's CARD OF 'barbicanlaw08.HeadFields'. -/
def headFieldsUptoCard : Claim7 := { stood := { row := headFieldsUptoRow, standIns := [], harness := (true, "5d439fbf54b8345d729b4fa9630fc9cfa9b5be4514581c57d8fc4ba14ad65b9a"), looks := false }, kinds := [], alts := [], laidByText := true, laidKinds := [.data, .pinned], laidTests := true, laidLooks := .later }
def HeadFieldsUptoCardSaid : Prop := Claim7.holds Tryd.pinned (.plain (OpenSpec.upto headFieldsSpec)) headFieldsUptoCard

/-- THE SECOND FORM's CARD OF 'barbicanlaw08.HeadBounds'. -/
def headBoundsUptoCard : Claim7 := { stood := { row := headBoundsUptoRow, standIns := [], harness := (true, "5d439fbf54b8345d729b4fa9630fc9cfa9b5be4514581c57d8fc4ba14ad65b9a"), looks := false }, kinds := [], alts := [], laidByText := true, laidKinds := [.data, .pinned], laidTests := true, laidLooks := .later }
def HeadBoundsUptoCardSaid : Prop := Claim7.holds Tryd.pinned (.plain (OpenSpec.upto headBoundsSpec)) headBoundsUptoCard

/-- THE SECOND FORM's CARD OF 'barbicanlaw08.HeadAhead'. -/
def headAheadUptoCard : Claim7 := { stood := { row := headAheadUptoRow, standIns := [], harness := (true, "5d439fbf54b8345d729b4fa9630fc9cfa9b5be4514581c57d8fc4ba14ad65b9a"), looks := false }, kinds := [], alts := [], laidByText := true, laidKinds := [.data, .pinned], laidTests := true, laidLooks := .later }
def HeadAheadUptoCardSaid : Prop := Claim7.holds Tryd.pinned (.plain (OpenSpec.upto headAheadSpec)) headAheadUptoCard

/-- THE SECOND FORM's CARD OF 'barbicanlaw08.HeadReads'. -/
def headReadsUptoCard : Claim7 := { stood := { row := headReadsUptoRow, standIns := [], harness := (true, "5d439fbf54b8345d729b4fa9630fc9cfa9b5be4514581c57d8fc4ba14ad65b9a"), looks := false }, kinds := [], alts := [], laidByText := true, laidKinds := [.data, .pinned], laidTests := true, laidLooks := .later }
def HeadReadsUptoCardSaid : Prop := Claim7.holds Tryd.pinned (.plain (OpenSpec.upto headReadsSpec)) headReadsUptoCard

/-- THE SECOND FORM's CARD OF 'barbicanlaw08.HeadSteady'. -/
def headSteadyUptoCard : Claim7 := { stood := { row := headSteadyUptoRow, standIns := [], harness := (true, "5d439fbf54b8345d729b4fa9630fc9cfa9b5be4514581c57d8fc4ba14ad65b9a"), looks := false }, kinds := [], alts := [], laidByText := true, laidKinds := [.data, .pinned], laidTests := true, laidLooks := .later }
def HeadSteadyUptoCardSaid : Prop := Claim7.holds Tryd.pinned (.plain (OpenSpec.upto headSteadySpec)) headSteadyUptoCard

/-- THE SECOND FORM's CARD OF 'barbicanlaw08.HeadBare'. -/
def headBareUptoCard : Claim7 := { stood := { row := headBareUptoRow, standIns := [], harness := (true, "5d439fbf54b8345d729b4fa9630fc9cfa9b5be4514581c57d8fc4ba14ad65b9a"), looks := false }, kinds := [], alts := [], laidByText := true, laidKinds := [.data, .pinned], laidTests := true, laidLooks := .later }
def HeadBareUptoCardSaid : Prop := Claim7.holds Tryd.pinned (.plain (OpenSpec.upto headBareSpec)) headBareUptoCard
end Rows
end Go.Proofs.YtjbmipbjlhcooaaDoor
