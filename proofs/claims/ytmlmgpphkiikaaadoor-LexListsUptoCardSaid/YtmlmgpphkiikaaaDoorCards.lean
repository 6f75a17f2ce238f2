/-
  DERIVED. GIVEN WITH THE SEED: THE CARDS: each row of YtmlmgpphkiikaaaDoorRows.lean that lists a variable, with what it lists TIED to the program's text (the seventh form; the later family's looks); each row that meets fmt, with fmt's text TOLD by the authors' own Lean function (tested against real Go, not proved from fmt's source: count such statements apart). THE CARD IS WHAT COUNTS. Prove the row's statement (the work); the ties are given (YtmlmgpphkiikaaaDoorTie.lean); close each card by the builder's one call (the guide's Derived/Test/ToyasCard.lean, 'card_holds'). Laid BY PROGRAM, IN A SANDBOX (cutbox-door.mjs). By AI agents, Wed Nov 11 2026. No macro, syntax, notation, axiom, sorry.
-/
import Derived.Test.YtmlmgpphkiikaaaDoorRows
import GoSem.ClaimSeven
namespace Go.Proofs.YtmlmgpphkiikaaaDoor
namespace Rows

/-- THE TIED CARD OF 'barbicanlaw04.LexNumbers'. -/
def lexNumbersCard : Claim7 := { stood := { row := lexNumbersRow, standIns := [], harness := (true, "b26980ffe7a802941d4c8e261c7810f2aa341178be57dec6a450cc815524b6c2"), looks := false }, kinds := [], alts := [], laidByText := true, laidKinds := [.data, .pinned], laidTests := true, laidLooks := .later }
def LexNumbersCardSaid : Prop := Claim7.holds Tryd.pinned (.plain (OpenSpec.ofChange lexNumbersSpec)) lexNumbersCard

/-- THE TIED CARD OF 'barbicanlaw04.LexShifts'. -/
def lexShiftsCard : Claim7 := { stood := { row := lexShiftsRow, standIns := [], harness := (true, "b26980ffe7a802941d4c8e261c7810f2aa341178be57dec6a450cc815524b6c2"), looks := false }, kinds := [], alts := [], laidByText := true, laidKinds := [.data, .pinned], laidTests := true, laidLooks := .later }
def LexShiftsCardSaid : Prop := Claim7.holds Tryd.pinned (.plain (OpenSpec.ofChange lexShiftsSpec)) lexShiftsCard

/-- THE TIED CARD OF 'barbicanlaw04.LexTexts'. -/
def lexTextsCard : Claim7 := { stood := { row := lexTextsRow, standIns := [], harness := (true, "b26980ffe7a802941d4c8e261c7810f2aa341178be57dec6a450cc815524b6c2"), looks := false }, kinds := [], alts := [], laidByText := true, laidKinds := [.data, .pinned], laidTests := true, laidLooks := .later }
def LexTextsCardSaid : Prop := Claim7.holds Tryd.pinned (.plain (OpenSpec.ofChange lexTextsSpec)) lexTextsCard

/-- THE TIED CARD OF 'barbicanlaw04.LexCase'. -/
def lexCaseCard : Claim7 := { stood := { row := lexCaseRow, standIns := [], harness := (true, "b26980ffe7a802941d4c8e261c7810f2aa341178be57dec6a450cc815524b6c2"), looks := false }, kinds := [], alts := [], laidByText := true, laidKinds := [.data, .pinned], laidTests := true, laidLooks := .later }
def LexCaseCardSaid : Prop := Claim7.holds Tryd.pinned (.plain (OpenSpec.ofChange lexCaseSpec)) lexCaseCard

/-- THE TIED CARD OF 'barbicanlaw05.PathNormals'. -/
def pathNormalsCard : Claim7 := { stood := { row := pathNormalsRow, standIns := [], harness := (true, "b26980ffe7a802941d4c8e261c7810f2aa341178be57dec6a450cc815524b6c2"), looks := false }, kinds := [], alts := [], laidByText := true, laidKinds := [.data, .pinned], laidTests := true, laidLooks := .later }
def PathNormalsCardSaid : Prop := Claim7.holds Tryd.pinned (.plain (OpenSpec.ofChange pathNormalsSpec)) pathNormalsCard

/-- THE TIED CARD OF 'barbicanlaw05.PathFixed'. -/
def pathFixedCard : Claim7 := { stood := { row := pathFixedRow, standIns := [], harness := (true, "b26980ffe7a802941d4c8e261c7810f2aa341178be57dec6a450cc815524b6c2"), looks := false }, kinds := [], alts := [], laidByText := true, laidKinds := [.data, .pinned], laidTests := true, laidLooks := .later }
def PathFixedCardSaid : Prop := Claim7.holds Tryd.pinned (.plain (OpenSpec.ofChange pathFixedSpec)) pathFixedCard

/-- THE TIED CARD OF 'barbicanlaw05.PathSteps'. -/
def pathStepsCard : Claim7 := { stood := { row := pathStepsRow, standIns := [], harness := (true, "b26980ffe7a802941d4c8e261c7810f2aa341178be57dec6a450cc815524b6c2"), looks := false }, kinds := [], alts := [], laidByText := true, laidKinds := [.data, .pinned], laidTests := true, laidLooks := .later }
def PathStepsCardSaid : Prop := Claim7.holds Tryd.pinned (.plain (OpenSpec.ofChange pathStepsSpec)) pathStepsCard

/-- THE TIED CARD OF 'barbicanlaw05.PathMeans'. -/
def pathMeansCard : Claim7 := { stood := { row := pathMeansRow, standIns := [], harness := (true, "b26980ffe7a802941d4c8e261c7810f2aa341178be57dec6a450cc815524b6c2"), looks := false }, kinds := [], alts := [], laidByText := true, laidKinds := [.data, .pinned], laidTests := true, laidLooks := .later }
def PathMeansCardSaid : Prop := Claim7.holds Tryd.pinned (.plain (OpenSpec.ofChange pathMeansSpec)) pathMeansCard

/-- THE TIED CARD OF 'barbicanlaw05.PathChain'. -/
def pathChainCard : Claim7 := { stood := { row := pathChainRow, standIns := [], harness := (true, "b26980ffe7a802941d4c8e261c7810f2aa341178be57dec6a450cc815524b6c2"), looks := false }, kinds := [], alts := [], laidByText := true, laidKinds := [.data, .pinned], laidTests := true, laidLooks := .later }
def PathChainCardSaid : Prop := Claim7.holds Tryd.pinned (.plain (OpenSpec.ofChange pathChainSpec)) pathChainCard

/-- THE TIED CARD OF 'barbicanlaw05.PathDecodes'. -/
def pathDecodesCard : Claim7 := { stood := { row := pathDecodesRow, standIns := [], harness := (true, "b26980ffe7a802941d4c8e261c7810f2aa341178be57dec6a450cc815524b6c2"), looks := false }, kinds := [], alts := [], laidByText := true, laidKinds := [.data, .pinned], laidTests := true, laidLooks := .later }
def PathDecodesCardSaid : Prop := Claim7.holds Tryd.pinned (.plain (OpenSpec.ofChange pathDecodesSpec)) pathDecodesCard

/-- THE TIED CARD OF 'barbicanlaw04.LexLists'. -/
def lexListsCard : Claim7 := { stood := { row := lexListsRow, standIns := [], harness := (true, "b26980ffe7a802941d4c8e261c7810f2aa341178be57dec6a450cc815524b6c2"), looks := false }, kinds := [], alts := [], laidByText := true, laidKinds := [.data, .pinned], laidTests := true, laidLooks := .later }
def LexListsCardSaid : Prop := Claim7.holds Tryd.pinned (.plain (OpenSpec.ofChange lexListsSpec)) lexListsCard

/-- THE SECOND FORM's CARD OF 'barbicanlaw04.LexNumbers'. -/
def lexNumbersUptoCard : Claim7 := { stood := { row := lexNumbersUptoRow, standIns := [], harness := (true, "b26980ffe7a802941d4c8e261c7810f2aa341178be57dec6a450cc815524b6c2"), looks := false }, kinds := [], alts := [], laidByText := true, laidKinds := [.data, .pinned], laidTests := true, laidLooks := .later }
def LexNumbersUptoCardSaid : Prop := Claim7.holds Tryd.pinned (.plain (OpenSpec.upto lexNumbersSpec)) lexNumbersUptoCard

/-- THE SECOND FORM's CARD OF 'barbicanlaw04.LexShifts'. -/
def lexShiftsUptoCard : Claim7 := { stood := { row := lexShiftsUptoRow, standIns := [], harness := (true, "b26980ffe7a802941d4c8e261c7810f2aa341178be57dec6a450cc815524b6c2"), looks := false }, kinds := [], alts := [], laidByText := true, laidKinds := [.data, .pinned], laidTests := true, laidLooks := .later }
def LexShiftsUptoCardSaid : Prop := Claim7.holds Tryd.pinned (.plain (OpenSpec.upto lexShiftsSpec)) lexShiftsUptoCard

/-- THE SECOND FORM's CARD OF 'barbicanlaw04.LexTexts'. -/
def lexTextsUptoCard : Claim7 := { stood := { row := lexTextsUptoRow, standIns := [], harness := (true, "b26980ffe7a802941d4c8e261c7810f2aa341178be57dec6a450cc815524b6c2"), looks := false }, kinds := [], alts := [], laidByText := true, laidKinds := [.data, .pinned], laidTests := true, laidLooks := .later }
def LexTextsUptoCardSaid : Prop := Claim7.holds Tryd.pinned (.plain (OpenSpec.upto lexTextsSpec)) lexTextsUptoCard

/-- THE SECOND FORM's CARD OF 'barbicanlaw04.LexCase'. -/
def lexCaseUptoCard : Claim7 := { stood := { row := lexCaseUptoRow, standIns := [], harness := (true, "b26980ffe7a802941d4c8e261c7810f2aa341178be57dec6a450cc815524b6c2"), looks := false }, kinds := [], alts := [], laidByText := true, laidKinds := [.data, .pinned], laidTests := true, laidLooks := .later }
def LexCaseUptoCardSaid : Prop := Claim7.holds Tryd.pinned (.plain (OpenSpec.upto lexCaseSpec)) lexCaseUptoCard

/-- THE SECOND FORM's CARD OF 'barbicanlaw05.PathNormals'. -/
def pathNormalsUptoCard : Claim7 := { stood := { row := pathNormalsUptoRow, standIns := [], harness := (true, "b26980ffe7a802941d4c8e261c7810f2aa341178be57dec6a450cc815524b6c2"), looks := false }, kinds := [], alts := [], laidByText := true, laidKinds := [.data, .pinned], laidTests := true, laidLooks := .later }
def PathNormalsUptoCardSaid : Prop := Claim7.holds Tryd.pinned (.plain (OpenSpec.upto pathNormalsSpec)) pathNormalsUptoCard

/-- THE SECOND FORM's CARD OF 'barbicanlaw05.PathFixed'. -/
def pathFixedUptoCard : Claim7 := { stood := { row := pathFixedUptoRow, standIns := [], harness := (true, "b26980ffe7a802941d4c8e261c7810f2aa341178be57dec6a450cc815524b6c2"), looks := false }, kinds := [], alts := [], laidByText := true, laidKinds := [.data, .pinned], laidTests := true, laidLooks := .later }
def PathFixedUptoCardSaid : Prop := Claim7.holds Tryd.pinned (.plain (OpenSpec.upto pathFixedSpec)) pathFixedUptoCard

/-- THE SECOND FORM's CARD OF 'barbicanlaw05.PathSteps'. -/
def pathStepsUptoCard : Claim7 := { stood := { row := pathStepsUptoRow, standIns := [], harness := (true, "b26980ffe7a802941d4c8e261c7810f2aa341178be57dec6a450cc815524b6c2"), looks := false }, kinds := [], alts := [], laidByText := true, laidKinds := [.data, .pinned], laidTests := true, laidLooks := .later }
def PathStepsUptoCardSaid : Prop := Claim7.holds Tryd.pinned (.plain (OpenSpec.upto pathStepsSpec)) pathStepsUptoCard

/-- THE SECOND FORM's CARD OF 'barbicanlaw05.PathMeans'. -/
def pathMeansUptoCard : Claim7 := { stood := { row := pathMeansUptoRow, standIns := [], harness := (true, "b26980ffe7a802941d4c8e261c7810f2aa341178be57dec6a450cc815524b6c2"), looks := false }, kinds := [], alts := [], laidByText := true, laidKinds := [.data, .pinned], laidTests := true, laidLooks := .later }
def PathMeansUptoCardSaid : Prop := Claim7.holds Tryd.pinned (.plain (OpenSpec.upto pathMeansSpec)) pathMeansUptoCard

/-- THE SECOND FORM's CARD OF 'barbicanlaw05.PathChain'. -/
def pathChainUptoCard : Claim7 := { stood := { row := pathChainUptoRow, standIns := [], harness := (true, "b26980ffe7a802941d4c8e261c7810f2aa341178be57dec6a450cc815524b6c2"), looks := false }, kinds := [], alts := [], laidByText := true, laidKinds := [.data, .pinned], laidTests := true, laidLooks := .later }
def PathChainUptoCardSaid : Prop := Claim7.holds Tryd.pinned (.plain (OpenSpec.upto pathChainSpec)) pathChainUptoCard

/-- THE SECOND FORM's CARD OF 'barbicanlaw05.PathDecodes'. -/
def pathDecodesUptoCard : Claim7 := { stood := { row := pathDecodesUptoRow, standIns := [], harness := (true, "b26980ffe7a802941d4c8e261c7810f2aa341178be57dec6a450cc815524b6c2"), looks := false }, kinds := [], alts := [], laidByText := true, laidKinds := [.data, .pinned], laidTests := true, laidLooks := .later }
def PathDecodesUptoCardSaid : Prop := Claim7.holds Tryd.pinned (.plain (OpenSpec.upto pathDecodesSpec)) pathDecodesUptoCard

/-- THE SECOND FORM's CARD OF 'barbicanlaw04.LexLists'. -/
def lexListsUptoCard : Claim7 := { stood := { row := lexListsUptoRow, standIns := [], harness := (true, "b26980ffe7a802941d4c8e261c7810f2aa341178be57dec6a450cc815524b6c2"), looks := false }, kinds := [], alts := [], laidByText := true, laidKinds := [.data, .pinned], laidTests := true, laidLooks := .later }
def LexListsUptoCardSaid : Prop := Claim7.holds Tryd.pinned (.plain (OpenSpec.upto lexListsSpec)) lexListsUptoCard
end Rows
end Go.Proofs.YtmlmgpphkiikaaaDoor
