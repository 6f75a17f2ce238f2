/-
  DERIVED. GIVEN WITH THE SEED: THE CARDS: each row of YtgmjkkiahanekaaDoorRows.lean that lists a variable, with what it lists TIED to the program's text (the seventh form; the later family's looks); each row that meets fmt, with fmt's text TOLD by the authors' own Lean function (tested against real Go, not proved from fmt's source: count such statements apart). THE CARD IS WHAT COUNTS. Prove the row's statement (the work); the ties are given (YtgmjkkiahanekaaDoorTie.lean); close each card by the builder's one call (the guide's Derived/Test/ToyasCard.lean, 'card_holds'). Laid BY PROGRAM, IN A SANDBOX (cutbox-door.mjs). By AI agents, Wed Nov 11 2026. No macro, syntax, notation, axiom, sorry.
-/
import Derived.Test.YtgmjkkiahanekaaDoorRows
import GoSem.ClaimSeven
namespace Go.Proofs.YtgmjkkiahanekaaDoor
namespace Rows

/-- THE TIED CARD OF 'barbicanlaw12.OutflowPieces'. -/
def outflowPiecesCard : Claim7 := { stood := { row := outflowPiecesRow, standIns := [], harness := (true, "5da9d5d5d849bb006163a578dffb50d40fbeae752ce7c60d0eeedadb902ab94f"), looks := false }, kinds := [], alts := [], laidByText := true, laidKinds := [.data, .pinned], laidTests := true, laidLooks := .later }
def OutflowPiecesCardSaid : Prop := Claim7.holds Tryd.pinned (.plain (OpenSpec.ofChange outflowPiecesSpec)) outflowPiecesCard

/-- THE TIED CARD OF 'barbicanlaw12.OutflowBack'. -/
def outflowBackCard : Claim7 := { stood := { row := outflowBackRow, standIns := [], harness := (true, "5da9d5d5d849bb006163a578dffb50d40fbeae752ce7c60d0eeedadb902ab94f"), looks := false }, kinds := [], alts := [], laidByText := true, laidKinds := [.data, .pinned], laidTests := true, laidLooks := .later }
def OutflowBackCardSaid : Prop := Claim7.holds Tryd.pinned (.plain (OpenSpec.ofChange outflowBackSpec)) outflowBackCard

/-- THE TIED CARD OF 'barbicanlaw12.OutflowInterim'. -/
def outflowInterimCard : Claim7 := { stood := { row := outflowInterimRow, standIns := [], harness := (true, "5da9d5d5d849bb006163a578dffb50d40fbeae752ce7c60d0eeedadb902ab94f"), looks := false }, kinds := [], alts := [], laidByText := true, laidKinds := [.data, .pinned], laidTests := true, laidLooks := .later }
def OutflowInterimCardSaid : Prop := Claim7.holds Tryd.pinned (.plain (OpenSpec.ofChange outflowInterimSpec)) outflowInterimCard

/-- THE TIED CARD OF 'barbicanlaw12.OutflowHead'. -/
def outflowHeadCard : Claim7 := { stood := { row := outflowHeadRow, standIns := [], harness := (true, "5da9d5d5d849bb006163a578dffb50d40fbeae752ce7c60d0eeedadb902ab94f"), looks := false }, kinds := [], alts := [], laidByText := true, laidKinds := [.data, .pinned], laidTests := true, laidLooks := .later }
def OutflowHeadCardSaid : Prop := Claim7.holds Tryd.pinned (.plain (OpenSpec.ofChange outflowHeadSpec)) outflowHeadCard

/-- THE TIED CARD OF 'barbicanlaw12.OutflowReuse'. -/
def outflowReuseCard : Claim7 := { stood := { row := outflowReuseRow, standIns := [], harness := (true, "5da9d5d5d849bb006163a578dffb50d40fbeae752ce7c60d0eeedadb902ab94f"), looks := false }, kinds := [], alts := [], laidByText := true, laidKinds := [.data, .pinned], laidTests := true, laidLooks := .later }
def OutflowReuseCardSaid : Prop := Claim7.holds Tryd.pinned (.plain (OpenSpec.ofChange outflowReuseSpec)) outflowReuseCard

/-- THE SECOND FORM's CARD OF 'barbicanlaw12.OutflowPieces'. -/
def outflowPiecesUptoCard : Claim7 := { stood := { row := outflowPiecesUptoRow, standIns := [], harness := (true, "5da9d5d5d849bb006163a578dffb50d40fbeae752ce7c60d0eeedadb902ab94f"), looks := false }, kinds := [], alts := [], laidByText := true, laidKinds := [.data, .pinned], laidTests := true, laidLooks := .later }
def OutflowPiecesUptoCardSaid : Prop := Claim7.holds Tryd.pinned (.plain (OpenSpec.upto outflowPiecesSpec)) outflowPiecesUptoCard

/-- THE SECOND FORM's CARD OF 'barbicanlaw12.OutflowBack'. -/
def outflowBackUptoCard : Claim7 := { stood := { row := outflowBackUptoRow, standIns := [], harness := (true, "5da9d5d5d849bb006163a578dffb50d40fbeae752ce7c60d0eeedadb902ab94f"), looks := false }, kinds := [], alts := [], laidByText := true, laidKinds := [.data, .pinned], laidTests := true, laidLooks := .later }
def OutflowBackUptoCardSaid : Prop := Claim7.holds Tryd.pinned (.plain (OpenSpec.upto outflowBackSpec)) outflowBackUptoCard

/-- THE SECOND FORM's CARD OF 'barbicanlaw12.OutflowInterim'. -/
def outflowInterimUptoCard : Claim7 := { stood := { row := outflowInterimUptoRow, standIns := [], harness := (true, "5da9d5d5d849bb006163a578dffb50d40fbeae752ce7c60d0eeedadb902ab94f"), looks := false }, kinds := [], alts := [], laidByText := true, laidKinds := [.data, .pinned], laidTests := true, laidLooks := .later }
def OutflowInterimUptoCardSaid : Prop := Claim7.holds Tryd.pinned (.plain (OpenSpec.upto outflowInterimSpec)) outflowInterimUptoCard

/-- THE SECOND FORM's CARD OF 'barbicanlaw12.OutflowHead'. -/
def outflowHeadUptoCard : Claim7 := { stood := { row := outflowHeadUptoRow, standIns := [], harness := (true, "5da9d5d5d849bb006163a578dffb50d40fbeae752ce7c60d0eeedadb902ab94f"), looks := false }, kinds := [], alts := [], laidByText := true, laidKinds := [.data, .pinned], laidTests := true, laidLooks := .later }
def OutflowHeadUptoCardSaid : Prop := Claim7.holds Tryd.pinned (.plain (OpenSpec.upto outflowHeadSpec)) outflowHeadUptoCard

/-- THE SECOND FORM's CARD OF 'barbicanlaw12.OutflowReuse'. -/
def outflowReuseUptoCard : Claim7 := { stood := { row := outflowReuseUptoRow, standIns := [], harness := (true, "5da9d5d5d849bb006163a578dffb50d40fbeae752ce7c60d0eeedadb902ab94f"), looks := false }, kinds := [], alts := [], laidByText := true, laidKinds := [.data, .pinned], laidTests := true, laidLooks := .later }
def OutflowReuseUptoCardSaid : Prop := Claim7.holds Tryd.pinned (.plain (OpenSpec.upto outflowReuseSpec)) outflowReuseUptoCard
end Rows
end Go.Proofs.YtgmjkkiahanekaaDoor
