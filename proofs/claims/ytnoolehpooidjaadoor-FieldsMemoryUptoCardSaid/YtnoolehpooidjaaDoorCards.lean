/-
  DERIVED. GIVEN WITH THE SEED: THE CARDS: each row of YtnoolehpooidjaaDoorRows.lean that lists a variable, with what it lists TIED to the program's text (the seventh form; the later family's looks); each row that meets fmt, with fmt's text TOLD by the authors' own Lean function (tested against real Go, not proved from fmt's source: count such statements apart). THE CARD IS WHAT COUNTS. Prove the row's statement (the work); the ties are given (YtnoolehpooidjaaDoorTie.lean); close each card by the builder's one call (the guide's Derived/Test/ToyasCard.lean, 'card_holds'). Laid BY PROGRAM, IN A SANDBOX (cutbox-door.mjs). By AI agents, Wed Nov 11 2026. No macro, syntax, notation, axiom, sorry.
-/
import Derived.Test.YtnoolehpooidjaaDoorRows
import GoSem.ClaimSeven
namespace Go.Proofs.YtnoolehpooidjaaDoor
namespace Rows

/-- THE TIED CARD OF 'barbicanlaw07.FieldsTurns'. -/
def fieldsTurnsCard : Claim7 := { stood := { row := fieldsTurnsRow, standIns := [], harness := (true, "4a497e7d951cb64eca2ce6f6eb92831adf552f12a98edb99eed9003fe222cb9e"), looks := false }, kinds := [], alts := [], laidByText := true, laidKinds := [.data, .pinned], laidTests := true, laidLooks := .later }
def FieldsTurnsCardSaid : Prop := Claim7.holds Tryd.pinned (.plain (OpenSpec.ofChange fieldsTurnsSpec)) fieldsTurnsCard

/-- THE TIED CARD OF 'barbicanlaw07.FieldsMemory'. -/
def fieldsMemoryCard : Claim7 := { stood := { row := fieldsMemoryRow, standIns := [], harness := (true, "4a497e7d951cb64eca2ce6f6eb92831adf552f12a98edb99eed9003fe222cb9e"), looks := false }, kinds := [], alts := [], laidByText := true, laidKinds := [.data, .pinned], laidTests := true, laidLooks := .later }
def FieldsMemoryCardSaid : Prop := Claim7.holds Tryd.pinned (.plain (OpenSpec.ofChange fieldsMemorySpec)) fieldsMemoryCard

/-- THE TIED CARD OF 'barbicanlaw07.FieldsStripped'. -/
def fieldsStrippedCard : Claim7 := { stood := { row := fieldsStrippedRow, standIns := [], harness := (true, "4a497e7d951cb64eca2ce6f6eb92831adf552f12a98edb99eed9003fe222cb9e"), looks := false }, kinds := [], alts := [], laidByText := true, laidKinds := [.data, .pinned], laidTests := true, laidLooks := .later }
def FieldsStrippedCardSaid : Prop := Claim7.holds Tryd.pinned (.plain (OpenSpec.ofChange fieldsStrippedSpec)) fieldsStrippedCard

/-- THE TIED CARD OF 'barbicanlaw07.FieldsSets'. -/
def fieldsSetsCard : Claim7 := { stood := { row := fieldsSetsRow, standIns := [], harness := (true, "4a497e7d951cb64eca2ce6f6eb92831adf552f12a98edb99eed9003fe222cb9e"), looks := false }, kinds := [], alts := [], laidByText := true, laidKinds := [.data, .pinned], laidTests := true, laidLooks := .later }
def FieldsSetsCardSaid : Prop := Claim7.holds Tryd.pinned (.plain (OpenSpec.ofChange fieldsSetsSpec)) fieldsSetsCard

/-- THE TIED CARD OF 'barbicanlaw07.FieldsBounds'. -/
def fieldsBoundsCard : Claim7 := { stood := { row := fieldsBoundsRow, standIns := [], harness := (true, "4a497e7d951cb64eca2ce6f6eb92831adf552f12a98edb99eed9003fe222cb9e"), looks := false }, kinds := [], alts := [], laidByText := true, laidKinds := [.data, .pinned], laidTests := true, laidLooks := .later }
def FieldsBoundsCardSaid : Prop := Claim7.holds Tryd.pinned (.plain (OpenSpec.ofChange fieldsBoundsSpec)) fieldsBoundsCard

/-- THE TIED CARD OF 'barbicanlaw07.FieldsFinds'. -/
def fieldsFindsCard : Claim7 := { stood := { row := fieldsFindsRow, standIns := [], harness := (true, "4a497e7d951cb64eca2ce6f6eb92831adf552f12a98edb99eed9003fe222cb9e"), looks := false }, kinds := [], alts := [], laidByText := true, laidKinds := [.data, .pinned], laidTests := true, laidLooks := .later }
def FieldsFindsCardSaid : Prop := Claim7.holds Tryd.pinned (.plain (OpenSpec.ofChange fieldsFindsSpec)) fieldsFindsCard

/-- THE SECOND FORM's CARD OF 'barbicanlaw07.FieldsTurns'. -/
def fieldsTurnsUptoCard : Claim7 := { stood := { row := fieldsTurnsUptoRow, standIns := [], harness := (true, "4a497e7d951cb64eca2ce6f6eb92831adf552f12a98edb99eed9003fe222cb9e"), looks := false }, kinds := [], alts := [], laidByText := true, laidKinds := [.data, .pinned], laidTests := true, laidLooks := .later }
def FieldsTurnsUptoCardSaid : Prop := Claim7.holds Tryd.pinned (.plain (OpenSpec.upto fieldsTurnsSpec)) fieldsTurnsUptoCard

/-- THE SECOND FORM's CARD OF 'barbicanlaw07.FieldsMemory'. -/
def fieldsMemoryUptoCard : Claim7 := { stood := { row := fieldsMemoryUptoRow, standIns := [], harness := (true, "4a497e7d951cb64eca2ce6f6eb92831adf552f12a98edb99eed9003fe222cb9e"), looks := false }, kinds := [], alts := [], laidByText := true, laidKinds := [.data, .pinned], laidTests := true, laidLooks := .later }
def FieldsMemoryUptoCardSaid : Prop := Claim7.holds Tryd.pinned (.plain (OpenSpec.upto fieldsMemorySpec)) fieldsMemoryUptoCard

/-- THE SECOND FORM's CARD OF 'barbicanlaw07.FieldsStripped'. -/
def fieldsStrippedUptoCard : Claim7 := { stood := { row := fieldsStrippedUptoRow, standIns := [], harness := (true, "4a497e7d951cb64eca2ce6f6eb92831adf552f12a98edb99eed9003fe222cb9e"), looks := false }, kinds := [], alts := [], laidByText := true, laidKinds := [.data, .pinned], laidTests := true, laidLooks := .later }
def FieldsStrippedUptoCardSaid : Prop := Claim7.holds Tryd.pinned (.plain (OpenSpec.upto fieldsStrippedSpec)) fieldsStrippedUptoCard

/-- THE SECOND FORM's CARD OF 'barbicanlaw07.FieldsSets'. -/
def fieldsSetsUptoCard : Claim7 := { stood := { row := fieldsSetsUptoRow, standIns := [], harness := (true, "4a497e7d951cb64eca2ce6f6eb92831adf552f12a98edb99eed9003fe222cb9e"), looks := false }, kinds := [], alts := [], laidByText := true, laidKinds := [.data, .pinned], laidTests := true, laidLooks := .later }
def FieldsSetsUptoCardSaid : Prop := Claim7.holds Tryd.pinned (.plain (OpenSpec.upto fieldsSetsSpec)) fieldsSetsUptoCard

/-- THE SECOND FORM's CARD OF 'barbicanlaw07.FieldsBounds'. -/
def fieldsBoundsUptoCard : Claim7 := { stood := { row := fieldsBoundsUptoRow, standIns := [], harness := (true, "4a497e7d951cb64eca2ce6f6eb92831adf552f12a98edb99eed9003fe222cb9e"), looks := false }, kinds := [], alts := [], laidByText := true, laidKinds := [.data, .pinned], laidTests := true, laidLooks := .later }
def FieldsBoundsUptoCardSaid : Prop := Claim7.holds Tryd.pinned (.plain (OpenSpec.upto fieldsBoundsSpec)) fieldsBoundsUptoCard

/-- THE SECOND FORM's CARD OF 'barbicanlaw07.FieldsFinds'. -/
def fieldsFindsUptoCard : Claim7 := { stood := { row := fieldsFindsUptoRow, standIns := [], harness := (true, "4a497e7d951cb64eca2ce6f6eb92831adf552f12a98edb99eed9003fe222cb9e"), looks := false }, kinds := [], alts := [], laidByText := true, laidKinds := [.data, .pinned], laidTests := true, laidLooks := .later }
def FieldsFindsUptoCardSaid : Prop := Claim7.holds Tryd.pinned (.plain (OpenSpec.upto fieldsFindsSpec)) fieldsFindsUptoCard
end Rows
end Go.Proofs.YtnoolehpooidjaaDoor
