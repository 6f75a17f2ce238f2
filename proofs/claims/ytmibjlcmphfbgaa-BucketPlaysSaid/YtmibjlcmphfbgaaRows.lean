/-
  No cell of these rows narrows 'for every input' (looked for: loops, veiled, ifaces, maps, wideKeys, modest, calm, conditions, laid).
  DERIVED. THE GIVEN ROWS OF THIS SEAT. 5 by the template 'for every input the law returns true; each argument reads behind the call as it read before'; 0 by the template 'total and deterministic' (their statements: YtmibjlcmphfbgaaTotals.lean).
  GIVEN WITH THE SEED: the statements are not yours to turn. If you find one false, say at which input.
  Laid BY PROGRAM, IN A SANDBOX (cutbox-rows.mjs): the forced cells as the released guide's own fill.sh prints them over the translation 0788ff3d45d9e3dd… (all of the seat's roots in one cut). By AI agents, Wed Nov 11 2026. No macro, syntax, notation, axiom, sorry.
-/
import Derived.Test.YtmibjlcmphfbgaaChecked
import GoSem.Claim
import GoSem.ClaimJoined
import GoSem.ClaimMapViews
import Derived.JoinedTies
import Derived.KernelRfl
namespace Go.Proofs.Ytmibjlcmphfbgaa
/- THE CELL 'sum', in the pinned program and in every row, IS THE sha256 OF THE DUMP (.gsa) THAT YtmibjlcmphfbgaaProg.lean LOADS. Nothing in Lean hashes anything: it is a label: what it is worth is what the hold of that sum in a sandbox is worth. -/
noncomputable def Try.pinned : Pinned := { name := "ytmibjlcmphfbgaa", sum := "0788ff3d45d9e3dd5f83e75cb2ac830388469b63b500d6256b249cf2e3fceaca", checked := Try.checked }
namespace Rows
def none {H : Type} : Left H := { results := [], args := [] }

/-- 'barbicanlaw03.BucketRate': WHATEVER THE INPUT: true; the input reads as it did. -/
def bucketRateSpec : ChangeSpec := { name := "bucketRate", fn := fun _ => fun
  | [d1, d2, d3, d4, d5] => { results := [.lit (.bool true)], args := [d1, d2, d3, d4, d5] }
  | _ => none }
def bucketRateRow : OpenClaim := { program := "ytmibjlcmphfbgaa", sum := "0788ff3d45d9e3dd5f83e75cb2ac830388469b63b500d6256b249cf2e3fceaca", func := "barbican/barbicanlaw03.BucketRate", spec := "bucketRate", apart := false }
def BucketRateSaid : Prop := bucketRateRow.holds Try.pinned (OpenSpec.ofChange bucketRateSpec)

/-- ITS FALSE NEIGHBOUR: 'it returns false'. Refute it at one input. -/
def bucketRateWrong : ChangeSpec := { name := "bucketRate", fn := fun _ => fun
  | [d1, d2, d3, d4, d5] => { results := [.lit (.bool false)], args := [d1, d2, d3, d4, d5] }
  | _ => none }
def BucketRateWrongFalsely : Prop := bucketRateRow.holds Try.pinned (OpenSpec.ofChange bucketRateWrong)

/-- 'barbicanlaw03.BucketPlays': WHATEVER THE INPUT: true; the input reads as it did. -/
def bucketPlaysSpec : ChangeSpec := { name := "bucketPlays", fn := fun _ => fun
  | [d1, d2, d3, d4] => { results := [.lit (.bool true)], args := [d1, d2, d3, d4] }
  | _ => none }
def bucketPlaysRow : OpenClaim := { program := "ytmibjlcmphfbgaa", sum := "0788ff3d45d9e3dd5f83e75cb2ac830388469b63b500d6256b249cf2e3fceaca", func := "barbican/barbicanlaw03.BucketPlays", spec := "bucketPlays", apart := false }
def BucketPlaysSaid : Prop := bucketPlaysRow.holds Try.pinned (OpenSpec.ofChange bucketPlaysSpec)

/-- ITS FALSE NEIGHBOUR: 'it returns false'. Refute it at one input. -/
def bucketPlaysWrong : ChangeSpec := { name := "bucketPlays", fn := fun _ => fun
  | [d1, d2, d3, d4] => { results := [.lit (.bool false)], args := [d1, d2, d3, d4] }
  | _ => none }
def BucketPlaysWrongFalsely : Prop := bucketPlaysRow.holds Try.pinned (OpenSpec.ofChange bucketPlaysWrong)

/-- 'barbicanlaw03.BucketWaits': WHATEVER THE INPUT: true; the input reads as it did. -/
def bucketWaitsSpec : ChangeSpec := { name := "bucketWaits", fn := fun _ => fun
  | [d1, d2, d3, d4, d5, d6] => { results := [.lit (.bool true)], args := [d1, d2, d3, d4, d5, d6] }
  | _ => none }
def bucketWaitsRow : OpenClaim := { program := "ytmibjlcmphfbgaa", sum := "0788ff3d45d9e3dd5f83e75cb2ac830388469b63b500d6256b249cf2e3fceaca", func := "barbican/barbicanlaw03.BucketWaits", spec := "bucketWaits", apart := false }
def BucketWaitsSaid : Prop := bucketWaitsRow.holds Try.pinned (OpenSpec.ofChange bucketWaitsSpec)

/-- ITS FALSE NEIGHBOUR: 'it returns false'. Refute it at one input. -/
def bucketWaitsWrong : ChangeSpec := { name := "bucketWaits", fn := fun _ => fun
  | [d1, d2, d3, d4, d5, d6] => { results := [.lit (.bool false)], args := [d1, d2, d3, d4, d5, d6] }
  | _ => none }
def BucketWaitsWrongFalsely : Prop := bucketWaitsRow.holds Try.pinned (OpenSpec.ofChange bucketWaitsWrong)

/-- 'barbicanlaw03.BucketLooks': WHATEVER THE INPUT: true; the input reads as it did. -/
def bucketLooksSpec : ChangeSpec := { name := "bucketLooks", fn := fun _ => fun
  | [d1, d2, d3, d4, d5] => { results := [.lit (.bool true)], args := [d1, d2, d3, d4, d5] }
  | _ => none }
def bucketLooksRow : OpenClaim := { program := "ytmibjlcmphfbgaa", sum := "0788ff3d45d9e3dd5f83e75cb2ac830388469b63b500d6256b249cf2e3fceaca", func := "barbican/barbicanlaw03.BucketLooks", spec := "bucketLooks", apart := false }
def BucketLooksSaid : Prop := bucketLooksRow.holds Try.pinned (OpenSpec.ofChange bucketLooksSpec)

/-- ITS FALSE NEIGHBOUR: 'it returns false'. Refute it at one input. -/
def bucketLooksWrong : ChangeSpec := { name := "bucketLooks", fn := fun _ => fun
  | [d1, d2, d3, d4, d5] => { results := [.lit (.bool false)], args := [d1, d2, d3, d4, d5] }
  | _ => none }
def BucketLooksWrongFalsely : Prop := bucketLooksRow.holds Try.pinned (OpenSpec.ofChange bucketLooksWrong)

/-- 'barbicanlaw03.BucketSteady': WHATEVER THE INPUT: true; the input reads as it did. -/
def bucketSteadySpec : ChangeSpec := { name := "bucketSteady", fn := fun _ => fun
  | [d1, d2, d3, d4] => { results := [.lit (.bool true)], args := [d1, d2, d3, d4] }
  | _ => none }
def bucketSteadyRow : OpenClaim := { program := "ytmibjlcmphfbgaa", sum := "0788ff3d45d9e3dd5f83e75cb2ac830388469b63b500d6256b249cf2e3fceaca", func := "barbican/barbicanlaw03.BucketSteady", spec := "bucketSteady", apart := false }
def BucketSteadySaid : Prop := bucketSteadyRow.holds Try.pinned (OpenSpec.ofChange bucketSteadySpec)

/-- ITS FALSE NEIGHBOUR: 'it returns false'. Refute it at one input. -/
def bucketSteadyWrong : ChangeSpec := { name := "bucketSteady", fn := fun _ => fun
  | [d1, d2, d3, d4] => { results := [.lit (.bool false)], args := [d1, d2, d3, d4] }
  | _ => none }
def BucketSteadyWrongFalsely : Prop := bucketSteadyRow.holds Try.pinned (OpenSpec.ofChange bucketSteadyWrong)

/- THE SECOND FORM. 'bulk': how many values and letters a reading holds, each counted each time it is reached (what is shared counts as often as it is met; a slice's spare places count too). A statement '..UptoSaid' is the law's where the arguments, and the package variables that the reading takes, are together of bulk at most 1048576: NARROWER than '..Said'. Prove '..Said' where nothing that the law and all that it calls make is longer than what came in: it says more and counts as full. Else prove '..UptoSaid'. A law counts once. -/
mutual
def uptoBulk {H : Type} : DataW H → Nat
  | .lit (.string bytes) => bytes.length + 1
  | .lit _ => 1
  | .nil => 1
  | .ptr d => uptoBulk d + 1
  | .slice elems spare => uptoBulkAll elems + uptoBulkAll spare + 1
  | .agg parts => uptoBulkAll parts + 1
  | .iface _ d => uptoBulk d + 1
  | .map entries => uptoBulkEntries entries + 1
  | .held _ => 1
def uptoBulkAll {H : Type} : List (DataW H) → Nat
  | [] => 0
  | d :: r => uptoBulk d + uptoBulkAll r
def uptoBulkEntries {H : Type} : List (Lit × DataW H) → Nat
  | [] => 0
  | x :: r => uptoBulkEntry x + uptoBulkEntries r
def uptoBulkEntry {H : Type} : Lit × DataW H → Nat
  | (.string bytes, d) => bytes.length + uptoBulk d + 1
  | (_, d) => uptoBulk d + 1
 end
def uptoSmall : (H : Type) → List (DataW H) → Bool := fun _ ds => decide (uptoBulkAll ds ≤ 1048576)
def OpenSpec.upto (s : _root_.Go.ChangeSpec) : _root_.Go.OpenSpec := { _root_.Go.OpenSpec.ofChange s with cond := some uptoSmall }

/-- 'barbicanlaw03.BucketRate', WHERE WHAT IT READS IS OF BULK AT MOST 1048576: true; the input reads as it did. -/
def bucketRateUptoRow : OpenClaim := { program := "ytmibjlcmphfbgaa", sum := "0788ff3d45d9e3dd5f83e75cb2ac830388469b63b500d6256b249cf2e3fceaca", func := "barbican/barbicanlaw03.BucketRate", spec := "bucketRate", apart := false, narrowed := true }
def BucketRateUptoSaid : Prop := bucketRateUptoRow.holds Try.pinned (OpenSpec.upto bucketRateSpec)

/-- 'barbicanlaw03.BucketPlays', WHERE WHAT IT READS IS OF BULK AT MOST 1048576: true; the input reads as it did. -/
def bucketPlaysUptoRow : OpenClaim := { program := "ytmibjlcmphfbgaa", sum := "0788ff3d45d9e3dd5f83e75cb2ac830388469b63b500d6256b249cf2e3fceaca", func := "barbican/barbicanlaw03.BucketPlays", spec := "bucketPlays", apart := false, narrowed := true }
def BucketPlaysUptoSaid : Prop := bucketPlaysUptoRow.holds Try.pinned (OpenSpec.upto bucketPlaysSpec)

/-- 'barbicanlaw03.BucketWaits', WHERE WHAT IT READS IS OF BULK AT MOST 1048576: true; the input reads as it did. -/
def bucketWaitsUptoRow : OpenClaim := { program := "ytmibjlcmphfbgaa", sum := "0788ff3d45d9e3dd5f83e75cb2ac830388469b63b500d6256b249cf2e3fceaca", func := "barbican/barbicanlaw03.BucketWaits", spec := "bucketWaits", apart := false, narrowed := true }
def BucketWaitsUptoSaid : Prop := bucketWaitsUptoRow.holds Try.pinned (OpenSpec.upto bucketWaitsSpec)

/-- 'barbicanlaw03.BucketLooks', WHERE WHAT IT READS IS OF BULK AT MOST 1048576: true; the input reads as it did. -/
def bucketLooksUptoRow : OpenClaim := { program := "ytmibjlcmphfbgaa", sum := "0788ff3d45d9e3dd5f83e75cb2ac830388469b63b500d6256b249cf2e3fceaca", func := "barbican/barbicanlaw03.BucketLooks", spec := "bucketLooks", apart := false, narrowed := true }
def BucketLooksUptoSaid : Prop := bucketLooksUptoRow.holds Try.pinned (OpenSpec.upto bucketLooksSpec)

/-- 'barbicanlaw03.BucketSteady', WHERE WHAT IT READS IS OF BULK AT MOST 1048576: true; the input reads as it did. -/
def bucketSteadyUptoRow : OpenClaim := { program := "ytmibjlcmphfbgaa", sum := "0788ff3d45d9e3dd5f83e75cb2ac830388469b63b500d6256b249cf2e3fceaca", func := "barbican/barbicanlaw03.BucketSteady", spec := "bucketSteady", apart := false, narrowed := true }
def BucketSteadyUptoSaid : Prop := bucketSteadyUptoRow.holds Try.pinned (OpenSpec.upto bucketSteadySpec)

end Rows
end Go.Proofs.Ytmibjlcmphfbgaa
