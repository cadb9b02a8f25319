/-
  No cell of these rows narrows 'for every input' (looked for: loops, veiled, ifaces, maps, wideKeys, modest, calm, conditions, laid).
  DERIVED. THE GIVEN ROWS OF THIS SEAT. 10 by the template 'for every input the law returns true; each argument reads behind the call as it read before'; 0 by the template 'total and deterministic' (their statements: YtaadkicopnacbaaTotals.lean).
  GIVEN WITH THE SEED: the statements are not yours to turn. If you find one false, say at which input.
  Laid BY PROGRAM, IN A SANDBOX (cutbox-rows.mjs): the forced cells as the released guide's own fill.sh prints them over the translation 5d66174b6a44825e… (all of the seat's roots in one cut). By AI agents, Wed Nov 11 2026. No macro, syntax, notation, axiom, sorry.
-/
import Derived.Test.YtaadkicopnacbaaChecked
import GoSem.Claim
import GoSem.ClaimJoined
import GoSem.ClaimMapViews
import Derived.JoinedTies
import Derived.KernelRfl
namespace Go.Proofs.Ytaadkicopnacbaa
/- THE CELL 'sum', in the pinned program and in every row, IS THE sha256 OF THE DUMP (.gsa) THAT YtaadkicopnacbaaProg.lean LOADS. Nothing in Lean hashes anything: it is a label: what it is worth is what the hold of that sum in a sandbox is worth. -/
noncomputable def Try.pinned : Pinned := { name := "ytaadkicopnacbaa", sum := "5d66174b6a44825e06f1e754ba89aff6d8dc453786a9ed3639bd5e23dad3f75b", checked := Try.checked }
namespace Rows
def none {H : Type} : Left H := { results := [], args := [] }

/-- 'fourinhandlaw04.SpansBack': WHATEVER THE INPUT: true; the input reads as it did. -/
def spansBackSpec : ChangeSpec := { name := "spansBack", fn := fun _ => fun
  | [d1, d2, d3] => { results := [.lit (.bool true)], args := [d1, d2, d3] }
  | _ => none }
def spansBackRow : OpenClaim := { program := "ytaadkicopnacbaa", sum := "5d66174b6a44825e06f1e754ba89aff6d8dc453786a9ed3639bd5e23dad3f75b", func := "fourinhand/fourinhandlaw04.SpansBack", spec := "spansBack", unfollowed := true, recurses := true, apart := false }
def SpansBackSaid : Prop := spansBackRow.holds Try.pinned (OpenSpec.ofChange spansBackSpec)

/-- ITS FALSE NEIGHBOUR: 'it returns false'. Refute it at one input. -/
def spansBackWrong : ChangeSpec := { name := "spansBack", fn := fun _ => fun
  | [d1, d2, d3] => { results := [.lit (.bool false)], args := [d1, d2, d3] }
  | _ => none }
def SpansBackWrongFalsely : Prop := spansBackRow.holds Try.pinned (OpenSpec.ofChange spansBackWrong)

/-- 'fourinhandlaw04.SpansApart': WHATEVER THE INPUT: true; the input reads as it did. -/
def spansApartSpec : ChangeSpec := { name := "spansApart", fn := fun _ => fun
  | [d1, d2] => { results := [.lit (.bool true)], args := [d1, d2] }
  | _ => none }
def spansApartRow : OpenClaim := { program := "ytaadkicopnacbaa", sum := "5d66174b6a44825e06f1e754ba89aff6d8dc453786a9ed3639bd5e23dad3f75b", func := "fourinhand/fourinhandlaw04.SpansApart", spec := "spansApart", unfollowed := true, recurses := true, apart := false }
def SpansApartSaid : Prop := spansApartRow.holds Try.pinned (OpenSpec.ofChange spansApartSpec)

/-- ITS FALSE NEIGHBOUR: 'it returns false'. Refute it at one input. -/
def spansApartWrong : ChangeSpec := { name := "spansApart", fn := fun _ => fun
  | [d1, d2] => { results := [.lit (.bool false)], args := [d1, d2] }
  | _ => none }
def SpansApartWrongFalsely : Prop := spansApartRow.holds Try.pinned (OpenSpec.ofChange spansApartWrong)

/-- 'fourinhandlaw05.KeepShut': WHATEVER THE INPUT: true; the input reads as it did. -/
def keepShutSpec : ChangeSpec := { name := "keepShut", fn := fun _ => fun
  | [d1, d2, d3] => { results := [.lit (.bool true)], args := [d1, d2, d3] }
  | _ => none }
def keepShutRow : OpenClaim := { program := "ytaadkicopnacbaa", sum := "5d66174b6a44825e06f1e754ba89aff6d8dc453786a9ed3639bd5e23dad3f75b", func := "fourinhand/fourinhandlaw05.KeepShut", spec := "keepShut", apart := false }
def KeepShutSaid : Prop := keepShutRow.holds Try.pinned (OpenSpec.ofChange keepShutSpec)

/-- ITS FALSE NEIGHBOUR: 'it returns false'. Refute it at one input. -/
def keepShutWrong : ChangeSpec := { name := "keepShut", fn := fun _ => fun
  | [d1, d2, d3] => { results := [.lit (.bool false)], args := [d1, d2, d3] }
  | _ => none }
def KeepShutWrongFalsely : Prop := keepShutRow.holds Try.pinned (OpenSpec.ofChange keepShutWrong)

/-- 'fourinhandlaw04.SpansNumbers': WHATEVER THE INPUT: true; the input reads as it did. -/
def spansNumbersSpec : ChangeSpec := { name := "spansNumbers", fn := fun _ => fun
  | [d1, d2, d3] => { results := [.lit (.bool true)], args := [d1, d2, d3] }
  | _ => none }
def spansNumbersRow : OpenClaim := { program := "ytaadkicopnacbaa", sum := "5d66174b6a44825e06f1e754ba89aff6d8dc453786a9ed3639bd5e23dad3f75b", func := "fourinhand/fourinhandlaw04.SpansNumbers", spec := "spansNumbers", unfollowed := true, recurses := true, apart := false }
def SpansNumbersSaid : Prop := spansNumbersRow.holds Try.pinned (OpenSpec.ofChange spansNumbersSpec)

/-- ITS FALSE NEIGHBOUR: 'it returns false'. Refute it at one input. -/
def spansNumbersWrong : ChangeSpec := { name := "spansNumbers", fn := fun _ => fun
  | [d1, d2, d3] => { results := [.lit (.bool false)], args := [d1, d2, d3] }
  | _ => none }
def SpansNumbersWrongFalsely : Prop := spansNumbersRow.holds Try.pinned (OpenSpec.ofChange spansNumbersWrong)

/-- 'fourinhandlaw04.SpansGap': WHATEVER THE INPUT: true; the input reads as it did. -/
def spansGapSpec : ChangeSpec := { name := "spansGap", fn := fun _ => fun
  | [d1, d2] => { results := [.lit (.bool true)], args := [d1, d2] }
  | _ => none }
def spansGapRow : OpenClaim := { program := "ytaadkicopnacbaa", sum := "5d66174b6a44825e06f1e754ba89aff6d8dc453786a9ed3639bd5e23dad3f75b", func := "fourinhand/fourinhandlaw04.SpansGap", spec := "spansGap", unfollowed := true, recurses := true, apart := false }
def SpansGapSaid : Prop := spansGapRow.holds Try.pinned (OpenSpec.ofChange spansGapSpec)

/-- ITS FALSE NEIGHBOUR: 'it returns false'. Refute it at one input. -/
def spansGapWrong : ChangeSpec := { name := "spansGap", fn := fun _ => fun
  | [d1, d2] => { results := [.lit (.bool false)], args := [d1, d2] }
  | _ => none }
def SpansGapWrongFalsely : Prop := spansGapRow.holds Try.pinned (OpenSpec.ofChange spansGapWrong)

/-- 'fourinhandlaw05.KeepParts': WHATEVER THE INPUT: true; the input reads as it did. -/
def keepPartsSpec : ChangeSpec := { name := "keepParts", fn := fun _ => fun
  | [d1, d2, d3, d4] => { results := [.lit (.bool true)], args := [d1, d2, d3, d4] }
  | _ => none }
def keepPartsRow : OpenClaim := { program := "ytaadkicopnacbaa", sum := "5d66174b6a44825e06f1e754ba89aff6d8dc453786a9ed3639bd5e23dad3f75b", func := "fourinhand/fourinhandlaw05.KeepParts", spec := "keepParts", unfollowed := true, recurses := true, apart := false }
def KeepPartsSaid : Prop := keepPartsRow.holds Try.pinned (OpenSpec.ofChange keepPartsSpec)

/-- ITS FALSE NEIGHBOUR: 'it returns false'. Refute it at one input. -/
def keepPartsWrong : ChangeSpec := { name := "keepParts", fn := fun _ => fun
  | [d1, d2, d3, d4] => { results := [.lit (.bool false)], args := [d1, d2, d3, d4] }
  | _ => none }
def KeepPartsWrongFalsely : Prop := keepPartsRow.holds Try.pinned (OpenSpec.ofChange keepPartsWrong)

/-- 'fourinhandlaw05.KeepTells': WHATEVER THE INPUT: true; the input reads as it did. -/
def keepTellsSpec : ChangeSpec := { name := "keepTells", fn := fun _ => fun
  | [d1, d2, d3, d4] => { results := [.lit (.bool true)], args := [d1, d2, d3, d4] }
  | _ => none }
def keepTellsRow : OpenClaim := { program := "ytaadkicopnacbaa", sum := "5d66174b6a44825e06f1e754ba89aff6d8dc453786a9ed3639bd5e23dad3f75b", func := "fourinhand/fourinhandlaw05.KeepTells", spec := "keepTells", unfollowed := true, recurses := true, apart := false }
def KeepTellsSaid : Prop := keepTellsRow.holds Try.pinned (OpenSpec.ofChange keepTellsSpec)

/-- ITS FALSE NEIGHBOUR: 'it returns false'. Refute it at one input. -/
def keepTellsWrong : ChangeSpec := { name := "keepTells", fn := fun _ => fun
  | [d1, d2, d3, d4] => { results := [.lit (.bool false)], args := [d1, d2, d3, d4] }
  | _ => none }
def KeepTellsWrongFalsely : Prop := keepTellsRow.holds Try.pinned (OpenSpec.ofChange keepTellsWrong)

/-- 'fourinhandlaw05.KeepWrong': WHATEVER THE INPUT: true; the input reads as it did. -/
def keepWrongSpec : ChangeSpec := { name := "keepWrong", fn := fun _ => fun
  | [d1, d2, d3] => { results := [.lit (.bool true)], args := [d1, d2, d3] }
  | _ => none }
def keepWrongRow : OpenClaim := { program := "ytaadkicopnacbaa", sum := "5d66174b6a44825e06f1e754ba89aff6d8dc453786a9ed3639bd5e23dad3f75b", func := "fourinhand/fourinhandlaw05.KeepWrong", spec := "keepWrong", unfollowed := true, recurses := true, apart := false }
def KeepWrongSaid : Prop := keepWrongRow.holds Try.pinned (OpenSpec.ofChange keepWrongSpec)

/-- ITS FALSE NEIGHBOUR: 'it returns false'. Refute it at one input. -/
def keepWrongWrong : ChangeSpec := { name := "keepWrong", fn := fun _ => fun
  | [d1, d2, d3] => { results := [.lit (.bool false)], args := [d1, d2, d3] }
  | _ => none }
def KeepWrongWrongFalsely : Prop := keepWrongRow.holds Try.pinned (OpenSpec.ofChange keepWrongWrong)

/-- 'fourinhandlaw04.SpansTell': WHATEVER THE INPUT: true; the input reads as it did. -/
def spansTellSpec : ChangeSpec := { name := "spansTell", fn := fun _ => fun
  | [d1, d2, d3] => { results := [.lit (.bool true)], args := [d1, d2, d3] }
  | _ => none }
def spansTellRow : OpenClaim := { program := "ytaadkicopnacbaa", sum := "5d66174b6a44825e06f1e754ba89aff6d8dc453786a9ed3639bd5e23dad3f75b", func := "fourinhand/fourinhandlaw04.SpansTell", spec := "spansTell", unfollowed := true, recurses := true, apart := false }
def SpansTellSaid : Prop := spansTellRow.holds Try.pinned (OpenSpec.ofChange spansTellSpec)

/-- ITS FALSE NEIGHBOUR: 'it returns false'. Refute it at one input. -/
def spansTellWrong : ChangeSpec := { name := "spansTell", fn := fun _ => fun
  | [d1, d2, d3] => { results := [.lit (.bool false)], args := [d1, d2, d3] }
  | _ => none }
def SpansTellWrongFalsely : Prop := spansTellRow.holds Try.pinned (OpenSpec.ofChange spansTellWrong)

/-- 'fourinhandlaw04.SpansSize': WHATEVER THE INPUT: true; the input reads as it did. -/
def spansSizeSpec : ChangeSpec := { name := "spansSize", fn := fun _ => fun
  | [d1, d2] => { results := [.lit (.bool true)], args := [d1, d2] }
  | _ => none }
def spansSizeRow : OpenClaim := { program := "ytaadkicopnacbaa", sum := "5d66174b6a44825e06f1e754ba89aff6d8dc453786a9ed3639bd5e23dad3f75b", func := "fourinhand/fourinhandlaw04.SpansSize", spec := "spansSize", unfollowed := true, recurses := true, apart := false }
def SpansSizeSaid : Prop := spansSizeRow.holds Try.pinned (OpenSpec.ofChange spansSizeSpec)

/-- ITS FALSE NEIGHBOUR: 'it returns false'. Refute it at one input. -/
def spansSizeWrong : ChangeSpec := { name := "spansSize", fn := fun _ => fun
  | [d1, d2] => { results := [.lit (.bool false)], args := [d1, d2] }
  | _ => none }
def SpansSizeWrongFalsely : Prop := spansSizeRow.holds Try.pinned (OpenSpec.ofChange spansSizeWrong)

/- THE SECOND FORM. 'bulk': how many values and letters a reading holds, each counted each time it is reached (what is shared counts as often as it is met; a slice's spare places count too). A statement '..UptoSaid' is the law's where the arguments, and the package variables that the reading takes, are together of bulk at most 1048576: NARROWER than '..Said'. Prove '..Said' where nothing that the law and all that it calls make is longer than what came in: it says more and counts as full. Else prove '..UptoSaid'. A law counts once. -/
mutual
def uptoBulk {H : Type} : DataW H → Nat
  | .lit (.string bytes) => bytes.length + 1
  | .lit _ => 1
  | .nil => 1
  | .ptr d => uptoBulk d + 1
  | .slice elems spare => uptoBulkAll elems + uptoBulkAll spare + 1
  | .agg parts => uptoBulkAll parts + 1
  | .iface _ d => uptoBulk d + 1
  | .map entries => uptoBulkEntries entries + 1
  | .held _ => 1
def uptoBulkAll {H : Type} : List (DataW H) → Nat
  | [] => 0
  | d :: r => uptoBulk d + uptoBulkAll r
def uptoBulkEntries {H : Type} : List (Lit × DataW H) → Nat
  | [] => 0
  | x :: r => uptoBulkEntry x + uptoBulkEntries r
def uptoBulkEntry {H : Type} : Lit × DataW H → Nat
  | (.string bytes, d) => bytes.length + uptoBulk d + 1
  | (_, d) => uptoBulk d + 1
 end
def uptoSmall : (H : Type) → List (DataW H) → Bool := fun _ ds => decide (uptoBulkAll ds ≤ 1048576)
def OpenSpec.upto (s : _root_.Go.ChangeSpec) : _root_.Go.OpenSpec := { _root_.Go.OpenSpec.ofChange s with cond := some uptoSmall }

/-- 'fourinhandlaw04.SpansBack', WHERE WHAT IT READS IS OF BULK AT MOST 1048576: true; the input reads as it did. -/
def spansBackUptoRow : OpenClaim := { program := "ytaadkicopnacbaa", sum := "5d66174b6a44825e06f1e754ba89aff6d8dc453786a9ed3639bd5e23dad3f75b", func := "fourinhand/fourinhandlaw04.SpansBack", spec := "spansBack", unfollowed := true, recurses := true, apart := false, narrowed := true }
def SpansBackUptoSaid : Prop := spansBackUptoRow.holds Try.pinned (OpenSpec.upto spansBackSpec)

/-- 'fourinhandlaw04.SpansApart', WHERE WHAT IT READS IS OF BULK AT MOST 1048576: true; the input reads as it did. -/
def spansApartUptoRow : OpenClaim := { program := "ytaadkicopnacbaa", sum := "5d66174b6a44825e06f1e754ba89aff6d8dc453786a9ed3639bd5e23dad3f75b", func := "fourinhand/fourinhandlaw04.SpansApart", spec := "spansApart", unfollowed := true, recurses := true, apart := false, narrowed := true }
def SpansApartUptoSaid : Prop := spansApartUptoRow.holds Try.pinned (OpenSpec.upto spansApartSpec)

/-- 'fourinhandlaw05.KeepShut', WHERE WHAT IT READS IS OF BULK AT MOST 1048576: true; the input reads as it did. -/
def keepShutUptoRow : OpenClaim := { program := "ytaadkicopnacbaa", sum := "5d66174b6a44825e06f1e754ba89aff6d8dc453786a9ed3639bd5e23dad3f75b", func := "fourinhand/fourinhandlaw05.KeepShut", spec := "keepShut", apart := false, narrowed := true }
def KeepShutUptoSaid : Prop := keepShutUptoRow.holds Try.pinned (OpenSpec.upto keepShutSpec)

/-- 'fourinhandlaw04.SpansNumbers', WHERE WHAT IT READS IS OF BULK AT MOST 1048576: true; the input reads as it did. -/
def spansNumbersUptoRow : OpenClaim := { program := "ytaadkicopnacbaa", sum := "5d66174b6a44825e06f1e754ba89aff6d8dc453786a9ed3639bd5e23dad3f75b", func := "fourinhand/fourinhandlaw04.SpansNumbers", spec := "spansNumbers", unfollowed := true, recurses := true, apart := false, narrowed := true }
def SpansNumbersUptoSaid : Prop := spansNumbersUptoRow.holds Try.pinned (OpenSpec.upto spansNumbersSpec)

/-- 'fourinhandlaw04.SpansGap', WHERE WHAT IT READS IS OF BULK AT MOST 1048576: true; the input reads as it did. -/
def spansGapUptoRow : OpenClaim := { program := "ytaadkicopnacbaa", sum := "5d66174b6a44825e06f1e754ba89aff6d8dc453786a9ed3639bd5e23dad3f75b", func := "fourinhand/fourinhandlaw04.SpansGap", spec := "spansGap", unfollowed := true, recurses := true, apart := false, narrowed := true }
def SpansGapUptoSaid : Prop := spansGapUptoRow.holds Try.pinned (OpenSpec.upto spansGapSpec)

/-- 'fourinhandlaw05.KeepParts', WHERE WHAT IT READS IS OF BULK AT MOST 1048576: true; the input reads as it did. -/
def keepPartsUptoRow : OpenClaim := { program := "ytaadkicopnacbaa", sum := "5d66174b6a44825e06f1e754ba89aff6d8dc453786a9ed3639bd5e23dad3f75b", func := "fourinhand/fourinhandlaw05.KeepParts", spec := "keepParts", unfollowed := true, recurses := true, apart := false, narrowed := true }
def KeepPartsUptoSaid : Prop := keepPartsUptoRow.holds Try.pinned (OpenSpec.upto keepPartsSpec)

/-- 'fourinhandlaw05.KeepTells', WHERE WHAT IT READS IS OF BULK AT MOST 1048576: true; the input reads as it did. -/
def keepTellsUptoRow : OpenClaim := { program := "ytaadkicopnacbaa", sum := "5d66174b6a44825e06f1e754ba89aff6d8dc453786a9ed3639bd5e23dad3f75b", func := "fourinhand/fourinhandlaw05.KeepTells", spec := "keepTells", unfollowed := true, recurses := true, apart := false, narrowed := true }
def KeepTellsUptoSaid : Prop := keepTellsUptoRow.holds Try.pinned (OpenSpec.upto keepTellsSpec)

/-- 'fourinhandlaw05.KeepWrong', WHERE WHAT IT READS IS OF BULK AT MOST 1048576: true; the input reads as it did. -/
def keepWrongUptoRow : OpenClaim := { program := "ytaadkicopnacbaa", sum := "5d66174b6a44825e06f1e754ba89aff6d8dc453786a9ed3639bd5e23dad3f75b", func := "fourinhand/fourinhandlaw05.KeepWrong", spec := "keepWrong", unfollowed := true, recurses := true, apart := false, narrowed := true }
def KeepWrongUptoSaid : Prop := keepWrongUptoRow.holds Try.pinned (OpenSpec.upto keepWrongSpec)

/-- 'fourinhandlaw04.SpansTell', WHERE WHAT IT READS IS OF BULK AT MOST 1048576: true; the input reads as it did. -/
def spansTellUptoRow : OpenClaim := { program := "ytaadkicopnacbaa", sum := "5d66174b6a44825e06f1e754ba89aff6d8dc453786a9ed3639bd5e23dad3f75b", func := "fourinhand/fourinhandlaw04.SpansTell", spec := "spansTell", unfollowed := true, recurses := true, apart := false, narrowed := true }
def SpansTellUptoSaid : Prop := spansTellUptoRow.holds Try.pinned (OpenSpec.upto spansTellSpec)

/-- 'fourinhandlaw04.SpansSize', WHERE WHAT IT READS IS OF BULK AT MOST 1048576: true; the input reads as it did. -/
def spansSizeUptoRow : OpenClaim := { program := "ytaadkicopnacbaa", sum := "5d66174b6a44825e06f1e754ba89aff6d8dc453786a9ed3639bd5e23dad3f75b", func := "fourinhand/fourinhandlaw04.SpansSize", spec := "spansSize", unfollowed := true, recurses := true, apart := false, narrowed := true }
def SpansSizeUptoSaid : Prop := spansSizeUptoRow.holds Try.pinned (OpenSpec.upto spansSizeSpec)

end Rows
end Go.Proofs.Ytaadkicopnacbaa
