/-
  NARROWER THAN 'FOR EVERY INPUT', by the rows' own cells (each row's printed sentence says how): FieldsTurns: laid · FieldsMemory: laid · FieldsStripped: laid · FieldsSets: laid · FieldsBounds: laid · FieldsFinds: laid.
  DERIVED. THE GIVEN ROWS OF THIS SEAT. 6 by the template 'for every input the law returns true; each argument reads behind the call as it read before'; 0 by the template 'total and deterministic' (their statements: YtnoolehpooidjaaDoorTotals.lean).
  GIVEN WITH THE SEED: the statements are not yours to turn. If you find one false, say at which input.
  Laid BY PROGRAM, IN A SANDBOX (cutbox-rows.mjs): the forced cells as the released guide's own fill.sh prints them over the translation b9222c733449c538… (all of the seat's roots in one cut). By AI agents, Wed Nov 11 2026. No macro, syntax, notation, axiom, sorry.
-/
import Derived.Test.YtnoolehpooidjaaDoorChecked
import GoSem.PinnedTables
import GoSem.Claim
import GoSem.ClaimJoined
import GoSem.ClaimMapViews
import Derived.JoinedTies
import Derived.KernelRfl
namespace Go.Proofs.YtnoolehpooidjaaDoor
/- THE CELL 'sum', in the pinned program and in every row, IS THE sha256 OF THE DUMP (.gsa) THAT YtnoolehpooidjaaDoorProg.lean LOADS. Nothing in Lean hashes anything: it is a label: what it is worth is what the hold of that sum in a sandbox is worth. -/
noncomputable def Tryd.pinned : Pinned := { name := "ytnoolehpooidjaadoor", sum := "b9222c733449c5388c30e3daf75b737bc324870b7af37ce2d647b60c6250b62c", checked := Tryd.checked }
namespace Rows
def none {H : Type} : Left H := { results := [], args := [] }

/- WHAT THE LISTED PACKAGE-LEVEL VARIABLES READ AS WHEN THE CALL BEGINS. Each datum BY PROGRAM (the guide's laid-datum.mjs) off the statement by which the dump's own 'gosem.cut.vars' lays the variable. In a bare row this is a premise. The card (YtnoolehpooidjaaDoorCards.lean) ties it to the program's text. -/
def laid_unicode_utf8_acceptRanges {H : Type} : DataW H := .agg [.agg [.lit (.int .u8 128), .lit (.int .u8 191)], .agg [.lit (.int .u8 160), .lit (.int .u8 191)], .agg [.lit (.int .u8 128), .lit (.int .u8 159)], .agg [.lit (.int .u8 144), .lit (.int .u8 191)], .agg [.lit (.int .u8 128), .lit (.int .u8 143)], .agg [.lit (.int .u8 0), .lit (.int .u8 0)], .agg [.lit (.int .u8 0), .lit (.int .u8 0)], .agg [.lit (.int .u8 0), .lit (.int .u8 0)], .agg [.lit (.int .u8 0), .lit (.int .u8 0)], .agg [.lit (.int .u8 0), .lit (.int .u8 0)], .agg [.lit (.int .u8 0), .lit (.int .u8 0)], .agg [.lit (.int .u8 0), .lit (.int .u8 0)], .agg [.lit (.int .u8 0), .lit (.int .u8 0)], .agg [.lit (.int .u8 0), .lit (.int .u8 0)], .agg [.lit (.int .u8 0), .lit (.int .u8 0)], .agg [.lit (.int .u8 0), .lit (.int .u8 0)]]
/-- One of Go's own tables, pinned by name: the form's constant. -/
def laid_unicode_utf8_first : DataW Unit := Go.Pinned.utf8First

/-- 'barbicanlaw07.FieldsTurns': WHATEVER THE INPUT: true; the input reads as it did. -/
def fieldsTurnsSpec : ChangeSpec := { name := "fieldsTurns", fn := fun _ => fun
  | [d1, d2, d3] => { results := [.lit (.bool true)], args := [d1, d2, d3] }
  | _ => none }
def fieldsTurnsRow : OpenClaim := { program := "ytnoolehpooidjaadoor", sum := "b9222c733449c5388c30e3daf75b737bc324870b7af37ce2d647b60c6250b62c", func := "barbican/barbicanlaw07.FieldsTurns", spec := "fieldsTurns", inPlace := ["internal/bytealg.CountString", "internal/bytealg.IndexByteString", "internal/bytealg.IndexString"], unfollowed := true, recurses := true, named := ["unicode/utf8.first", "unicode/utf8.acceptRanges", "internal/bytealg.MaxLen"], apart := false, laid := [("unicode/utf8.acceptRanges", laid_unicode_utf8_acceptRanges), ("unicode/utf8.first", laid_unicode_utf8_first)] }
def FieldsTurnsSaid : Prop := fieldsTurnsRow.holds Tryd.pinned (OpenSpec.ofChange fieldsTurnsSpec)

/-- ITS FALSE NEIGHBOUR: 'it returns false'. Refute it at one input. -/
def fieldsTurnsWrong : ChangeSpec := { name := "fieldsTurns", fn := fun _ => fun
  | [d1, d2, d3] => { results := [.lit (.bool false)], args := [d1, d2, d3] }
  | _ => none }
def FieldsTurnsWrongFalsely : Prop := fieldsTurnsRow.holds Tryd.pinned (OpenSpec.ofChange fieldsTurnsWrong)

/-- 'barbicanlaw07.FieldsMemory': WHATEVER THE INPUT: true; the input reads as it did. -/
def fieldsMemorySpec : ChangeSpec := { name := "fieldsMemory", fn := fun _ => fun
  | [d] => { results := [.lit (.bool true)], args := [d] }
  | _ => none }
def fieldsMemoryRow : OpenClaim := { program := "ytnoolehpooidjaadoor", sum := "b9222c733449c5388c30e3daf75b737bc324870b7af37ce2d647b60c6250b62c", func := "barbican/barbicanlaw07.FieldsMemory", spec := "fieldsMemory", inPlace := ["internal/bytealg.CountString", "internal/bytealg.IndexByteString", "internal/bytealg.IndexString"], unfollowed := true, recurses := true, named := ["unicode/utf8.first", "unicode/utf8.acceptRanges", "internal/bytealg.MaxLen"], apart := false, laid := [("unicode/utf8.acceptRanges", laid_unicode_utf8_acceptRanges), ("unicode/utf8.first", laid_unicode_utf8_first)] }
def FieldsMemorySaid : Prop := fieldsMemoryRow.holds Tryd.pinned (OpenSpec.ofChange fieldsMemorySpec)

/-- ITS FALSE NEIGHBOUR: 'it returns false'. Refute it at one input. -/
def fieldsMemoryWrong : ChangeSpec := { name := "fieldsMemory", fn := fun _ => fun
  | [d] => { results := [.lit (.bool false)], args := [d] }
  | _ => none }
def FieldsMemoryWrongFalsely : Prop := fieldsMemoryRow.holds Tryd.pinned (OpenSpec.ofChange fieldsMemoryWrong)

/-- 'barbicanlaw07.FieldsStripped': WHATEVER THE INPUT: true; the input reads as it did. -/
def fieldsStrippedSpec : ChangeSpec := { name := "fieldsStripped", fn := fun _ => fun
  | [d] => { results := [.lit (.bool true)], args := [d] }
  | _ => none }
def fieldsStrippedRow : OpenClaim := { program := "ytnoolehpooidjaadoor", sum := "b9222c733449c5388c30e3daf75b737bc324870b7af37ce2d647b60c6250b62c", func := "barbican/barbicanlaw07.FieldsStripped", spec := "fieldsStripped", inPlace := ["internal/bytealg.CountString", "internal/bytealg.IndexByteString", "internal/bytealg.IndexString"], unfollowed := true, recurses := true, named := ["unicode/utf8.first", "unicode/utf8.acceptRanges", "internal/bytealg.MaxLen"], apart := false, laid := [("unicode/utf8.acceptRanges", laid_unicode_utf8_acceptRanges), ("unicode/utf8.first", laid_unicode_utf8_first)] }
def FieldsStrippedSaid : Prop := fieldsStrippedRow.holds Tryd.pinned (OpenSpec.ofChange fieldsStrippedSpec)

/-- ITS FALSE NEIGHBOUR: 'it returns false'. Refute it at one input. -/
def fieldsStrippedWrong : ChangeSpec := { name := "fieldsStripped", fn := fun _ => fun
  | [d] => { results := [.lit (.bool false)], args := [d] }
  | _ => none }
def FieldsStrippedWrongFalsely : Prop := fieldsStrippedRow.holds Tryd.pinned (OpenSpec.ofChange fieldsStrippedWrong)

/-- 'barbicanlaw07.FieldsSets': WHATEVER THE INPUT: true; the input reads as it did. -/
def fieldsSetsSpec : ChangeSpec := { name := "fieldsSets", fn := fun _ => fun
  | [d1, d2, d3, d4] => { results := [.lit (.bool true)], args := [d1, d2, d3, d4] }
  | _ => none }
def fieldsSetsRow : OpenClaim := { program := "ytnoolehpooidjaadoor", sum := "b9222c733449c5388c30e3daf75b737bc324870b7af37ce2d647b60c6250b62c", func := "barbican/barbicanlaw07.FieldsSets", spec := "fieldsSets", inPlace := ["internal/bytealg.CountString", "internal/bytealg.IndexByteString", "internal/bytealg.IndexString"], unfollowed := true, recurses := true, named := ["unicode/utf8.first", "unicode/utf8.acceptRanges", "internal/bytealg.MaxLen"], apart := false, laid := [("unicode/utf8.acceptRanges", laid_unicode_utf8_acceptRanges), ("unicode/utf8.first", laid_unicode_utf8_first)] }
def FieldsSetsSaid : Prop := fieldsSetsRow.holds Tryd.pinned (OpenSpec.ofChange fieldsSetsSpec)

/-- ITS FALSE NEIGHBOUR: 'it returns false'. Refute it at one input. -/
def fieldsSetsWrong : ChangeSpec := { name := "fieldsSets", fn := fun _ => fun
  | [d1, d2, d3, d4] => { results := [.lit (.bool false)], args := [d1, d2, d3, d4] }
  | _ => none }
def FieldsSetsWrongFalsely : Prop := fieldsSetsRow.holds Tryd.pinned (OpenSpec.ofChange fieldsSetsWrong)

/-- 'barbicanlaw07.FieldsBounds': WHATEVER THE INPUT: true; the input reads as it did. -/
def fieldsBoundsSpec : ChangeSpec := { name := "fieldsBounds", fn := fun _ => fun
  | [d1, d2] => { results := [.lit (.bool true)], args := [d1, d2] }
  | _ => none }
def fieldsBoundsRow : OpenClaim := { program := "ytnoolehpooidjaadoor", sum := "b9222c733449c5388c30e3daf75b737bc324870b7af37ce2d647b60c6250b62c", func := "barbican/barbicanlaw07.FieldsBounds", spec := "fieldsBounds", inPlace := ["internal/bytealg.CountString", "internal/bytealg.IndexByteString", "internal/bytealg.IndexString"], unfollowed := true, recurses := true, named := ["unicode/utf8.first", "unicode/utf8.acceptRanges", "internal/bytealg.MaxLen"], apart := false, laid := [("unicode/utf8.acceptRanges", laid_unicode_utf8_acceptRanges), ("unicode/utf8.first", laid_unicode_utf8_first)] }
def FieldsBoundsSaid : Prop := fieldsBoundsRow.holds Tryd.pinned (OpenSpec.ofChange fieldsBoundsSpec)

/-- ITS FALSE NEIGHBOUR: 'it returns false'. Refute it at one input. -/
def fieldsBoundsWrong : ChangeSpec := { name := "fieldsBounds", fn := fun _ => fun
  | [d1, d2] => { results := [.lit (.bool false)], args := [d1, d2] }
  | _ => none }
def FieldsBoundsWrongFalsely : Prop := fieldsBoundsRow.holds Tryd.pinned (OpenSpec.ofChange fieldsBoundsWrong)

/-- 'barbicanlaw07.FieldsFinds': WHATEVER THE INPUT: true; the input reads as it did. -/
def fieldsFindsSpec : ChangeSpec := { name := "fieldsFinds", fn := fun _ => fun
  | [d1, d2, d3] => { results := [.lit (.bool true)], args := [d1, d2, d3] }
  | _ => none }
def fieldsFindsRow : OpenClaim := { program := "ytnoolehpooidjaadoor", sum := "b9222c733449c5388c30e3daf75b737bc324870b7af37ce2d647b60c6250b62c", func := "barbican/barbicanlaw07.FieldsFinds", spec := "fieldsFinds", inPlace := ["internal/bytealg.CountString", "internal/bytealg.IndexByteString", "internal/bytealg.IndexString"], unfollowed := true, recurses := true, named := ["unicode/utf8.first", "unicode/utf8.acceptRanges", "internal/bytealg.MaxLen"], apart := false, laid := [("unicode/utf8.acceptRanges", laid_unicode_utf8_acceptRanges), ("unicode/utf8.first", laid_unicode_utf8_first)] }
def FieldsFindsSaid : Prop := fieldsFindsRow.holds Tryd.pinned (OpenSpec.ofChange fieldsFindsSpec)

/-- ITS FALSE NEIGHBOUR: 'it returns false'. Refute it at one input. -/
def fieldsFindsWrong : ChangeSpec := { name := "fieldsFinds", fn := fun _ => fun
  | [d1, d2, d3] => { results := [.lit (.bool false)], args := [d1, d2, d3] }
  | _ => none }
def FieldsFindsWrongFalsely : Prop := fieldsFindsRow.holds Tryd.pinned (OpenSpec.ofChange fieldsFindsWrong)

/- THE SECOND FORM. 'bulk': how many values and letters a reading holds, each counted each time it is reached (what is shared counts as often as it is met; a slice's spare places count too). A statement '..UptoSaid' is the law's where the arguments, and the package variables that the reading takes, are together of bulk at most 1048576: NARROWER than '..Said'. Prove '..Said' where nothing that the law and all that it calls make is longer than what came in: it says more and counts as full. Else prove '..UptoSaid'. A law counts once. -/
mutual
def uptoBulk {H : Type} : DataW H → Nat
  | .lit (.string bytes) => bytes.length + 1
  | .lit _ => 1
  | .nil => 1
  | .ptr d => uptoBulk d + 1
  | .slice elems spare => uptoBulkAll elems + uptoBulkAll spare + 1
  | .agg parts => uptoBulkAll parts + 1
  | .iface _ d => uptoBulk d + 1
  | .map entries => uptoBulkEntries entries + 1
  | .held _ => 1
def uptoBulkAll {H : Type} : List (DataW H) → Nat
  | [] => 0
  | d :: r => uptoBulk d + uptoBulkAll r
def uptoBulkEntries {H : Type} : List (Lit × DataW H) → Nat
  | [] => 0
  | x :: r => uptoBulkEntry x + uptoBulkEntries r
def uptoBulkEntry {H : Type} : Lit × DataW H → Nat
  | (.string bytes, d) => bytes.length + uptoBulk d + 1
  | (_, d) => uptoBulk d + 1
 end
def uptoSmall : (H : Type) → List (DataW H) → Bool := fun _ ds => decide (uptoBulkAll ds ≤ 1048576)
def OpenSpec.upto (s : _root_.Go.ChangeSpec) : _root_.Go.OpenSpec := { _root_.Go.OpenSpec.ofChange s with cond := some uptoSmall }

/-- 'barbicanlaw07.FieldsTurns', WHERE WHAT IT READS IS OF BULK AT MOST 1048576: true; the input reads as it did. -/
def fieldsTurnsUptoRow : OpenClaim := { program := "ytnoolehpooidjaadoor", sum := "b9222c733449c5388c30e3daf75b737bc324870b7af37ce2d647b60c6250b62c", func := "barbican/barbicanlaw07.FieldsTurns", spec := "fieldsTurns", inPlace := ["internal/bytealg.CountString", "internal/bytealg.IndexByteString", "internal/bytealg.IndexString"], unfollowed := true, recurses := true, named := ["unicode/utf8.first", "unicode/utf8.acceptRanges", "internal/bytealg.MaxLen"], apart := false, laid := [("unicode/utf8.acceptRanges", laid_unicode_utf8_acceptRanges), ("unicode/utf8.first", laid_unicode_utf8_first)], narrowed := true }
def FieldsTurnsUptoSaid : Prop := fieldsTurnsUptoRow.holds Tryd.pinned (OpenSpec.upto fieldsTurnsSpec)

/-- 'barbicanlaw07.FieldsMemory', WHERE WHAT IT READS IS OF BULK AT MOST 1048576: true; the input reads as it did. -/
def fieldsMemoryUptoRow : OpenClaim := { program := "ytnoolehpooidjaadoor", sum := "b9222c733449c5388c30e3daf75b737bc324870b7af37ce2d647b60c6250b62c", func := "barbican/barbicanlaw07.FieldsMemory", spec := "fieldsMemory", inPlace := ["internal/bytealg.CountString", "internal/bytealg.IndexByteString", "internal/bytealg.IndexString"], unfollowed := true, recurses := true, named := ["unicode/utf8.first", "unicode/utf8.acceptRanges", "internal/bytealg.MaxLen"], apart := false, laid := [("unicode/utf8.acceptRanges", laid_unicode_utf8_acceptRanges), ("unicode/utf8.first", laid_unicode_utf8_first)], narrowed := true }
def FieldsMemoryUptoSaid : Prop := fieldsMemoryUptoRow.holds Tryd.pinned (OpenSpec.upto fieldsMemorySpec)

/-- 'barbicanlaw07.FieldsStripped', WHERE WHAT IT READS IS OF BULK AT MOST 1048576: true; the input reads as it did. -/
def fieldsStrippedUptoRow : OpenClaim := { program := "ytnoolehpooidjaadoor", sum := "b9222c733449c5388c30e3daf75b737bc324870b7af37ce2d647b60c6250b62c", func := "barbican/barbicanlaw07.FieldsStripped", spec := "fieldsStripped", inPlace := ["internal/bytealg.CountString", "internal/bytealg.IndexByteString", "internal/bytealg.IndexString"], unfollowed := true, recurses := true, named := ["unicode/utf8.first", "unicode/utf8.acceptRanges", "internal/bytealg.MaxLen"], apart := false, laid := [("unicode/utf8.acceptRanges", laid_unicode_utf8_acceptRanges), ("unicode/utf8.first", laid_unicode_utf8_first)], narrowed := true }
def FieldsStrippedUptoSaid : Prop := fieldsStrippedUptoRow.holds Tryd.pinned (OpenSpec.upto fieldsStrippedSpec)

/-- 'barbicanlaw07.FieldsSets', WHERE WHAT IT READS IS OF BULK AT MOST 1048576: true; the input reads as it did. -/
def fieldsSetsUptoRow : OpenClaim := { program := "ytnoolehpooidjaadoor", sum := "b9222c733449c5388c30e3daf75b737bc324870b7af37ce2d647b60c6250b62c", func := "barbican/barbicanlaw07.FieldsSets", spec := "fieldsSets", inPlace := ["internal/bytealg.CountString", "internal/bytealg.IndexByteString", "internal/bytealg.IndexString"], unfollowed := true, recurses := true, named := ["unicode/utf8.first", "unicode/utf8.acceptRanges", "internal/bytealg.MaxLen"], apart := false, laid := [("unicode/utf8.acceptRanges", laid_unicode_utf8_acceptRanges), ("unicode/utf8.first", laid_unicode_utf8_first)], narrowed := true }
def FieldsSetsUptoSaid : Prop := fieldsSetsUptoRow.holds Tryd.pinned (OpenSpec.upto fieldsSetsSpec)

/-- 'barbicanlaw07.FieldsBounds', WHERE WHAT IT READS IS OF BULK AT MOST 1048576: true; the input reads as it did. -/
def fieldsBoundsUptoRow : OpenClaim := { program := "ytnoolehpooidjaadoor", sum := "b9222c733449c5388c30e3daf75b737bc324870b7af37ce2d647b60c6250b62c", func := "barbican/barbicanlaw07.FieldsBounds", spec := "fieldsBounds", inPlace := ["internal/bytealg.CountString", "internal/bytealg.IndexByteString", "internal/bytealg.IndexString"], unfollowed := true, recurses := true, named := ["unicode/utf8.first", "unicode/utf8.acceptRanges", "internal/bytealg.MaxLen"], apart := false, laid := [("unicode/utf8.acceptRanges", laid_unicode_utf8_acceptRanges), ("unicode/utf8.first", laid_unicode_utf8_first)], narrowed := true }
def FieldsBoundsUptoSaid : Prop := fieldsBoundsUptoRow.holds Tryd.pinned (OpenSpec.upto fieldsBoundsSpec)

/-- 'barbicanlaw07.FieldsFinds', WHERE WHAT IT READS IS OF BULK AT MOST 1048576: true; the input reads as it did. -/
def fieldsFindsUptoRow : OpenClaim := { program := "ytnoolehpooidjaadoor", sum := "b9222c733449c5388c30e3daf75b737bc324870b7af37ce2d647b60c6250b62c", func := "barbican/barbicanlaw07.FieldsFinds", spec := "fieldsFinds", inPlace := ["internal/bytealg.CountString", "internal/bytealg.IndexByteString", "internal/bytealg.IndexString"], unfollowed := true, recurses := true, named := ["unicode/utf8.first", "unicode/utf8.acceptRanges", "internal/bytealg.MaxLen"], apart := false, laid := [("unicode/utf8.acceptRanges", laid_unicode_utf8_acceptRanges), ("unicode/utf8.first", laid_unicode_utf8_first)], narrowed := true }
def FieldsFindsUptoSaid : Prop := fieldsFindsUptoRow.holds Tryd.pinned (OpenSpec.upto fieldsFindsSpec)

end Rows
end Go.Proofs.YtnoolehpooidjaaDoor
