/-
  No cell of these rows narrows 'for every input' (looked for: loops, veiled, ifaces, maps, wideKeys, modest, calm, conditions, laid).
  DERIVED. THE GIVEN ROWS OF THIS SEAT. 10 by the template 'for every input the law returns true; each argument reads behind the call as it read before'; 0 by the template 'total and deterministic' (their statements: YtjienkojedlfjaaTotals.lean).
  GIVEN WITH THE SEED: the statements are not yours to turn. If you find one false, say at which input.
  Laid BY PROGRAM, IN A SANDBOX (cutbox-rows.mjs): the forced cells as the released guide's own fill.sh prints them over the translation d44626c469b80d40… (all of the seat's roots in one cut). By AI agents, Wed Nov 11 2026. No macro, syntax, notation, axiom, sorry.
-/
import Derived.Test.YtjienkojedlfjaaChecked
import GoSem.Claim
import GoSem.ClaimJoined
import GoSem.ClaimMapViews
import Derived.JoinedTies
import Derived.KernelRfl
namespace Go.Proofs.Ytjienkojedlfjaa
/- THE CELL 'sum', in the pinned program and in every row, IS THE sha256 OF THE DUMP (.gsa) THAT YtjienkojedlfjaaProg.lean LOADS. Nothing in Lean hashes anything: it is a label: what it is worth is what the hold of that sum in a sandbox is worth. -/
noncomputable def Try.pinned : Pinned := { name := "ytjienkojedlfjaa", sum := "d44626c469b80d402db4a60b3a91a3bc41114e5db8a52bb3593c845e35a9ac6b", checked := Try.checked }
namespace Rows
def none {H : Type} : Left H := { results := [], args := [] }

/-- 'fourinhandlaw06.WeaveTwice': WHATEVER THE INPUT: true; the input reads as it did. -/
def weaveTwiceSpec : ChangeSpec := { name := "weaveTwice", fn := fun _ => fun
  | [d1, d2, d3, d4] => { results := [.lit (.bool true)], args := [d1, d2, d3, d4] }
  | _ => none }
def weaveTwiceRow : OpenClaim := { program := "ytjienkojedlfjaa", sum := "d44626c469b80d402db4a60b3a91a3bc41114e5db8a52bb3593c845e35a9ac6b", func := "fourinhand/fourinhandlaw06.WeaveTwice", spec := "weaveTwice", unfollowed := true, recurses := true, apart := false }
def WeaveTwiceSaid : Prop := weaveTwiceRow.holds Try.pinned (OpenSpec.ofChange weaveTwiceSpec)

/-- ITS FALSE NEIGHBOUR: 'it returns false'. Refute it at one input. -/
def weaveTwiceWrong : ChangeSpec := { name := "weaveTwice", fn := fun _ => fun
  | [d1, d2, d3, d4] => { results := [.lit (.bool false)], args := [d1, d2, d3, d4] }
  | _ => none }
def WeaveTwiceWrongFalsely : Prop := weaveTwiceRow.holds Try.pinned (OpenSpec.ofChange weaveTwiceWrong)

/-- 'fourinhandlaw06.WeaveNew': WHATEVER THE INPUT: true; the input reads as it did. -/
def weaveNewSpec : ChangeSpec := { name := "weaveNew", fn := fun _ => fun
  | [d1, d2] => { results := [.lit (.bool true)], args := [d1, d2] }
  | _ => none }
def weaveNewRow : OpenClaim := { program := "ytjienkojedlfjaa", sum := "d44626c469b80d402db4a60b3a91a3bc41114e5db8a52bb3593c845e35a9ac6b", func := "fourinhand/fourinhandlaw06.WeaveNew", spec := "weaveNew", unfollowed := true, recurses := true, apart := false }
def WeaveNewSaid : Prop := weaveNewRow.holds Try.pinned (OpenSpec.ofChange weaveNewSpec)

/-- ITS FALSE NEIGHBOUR: 'it returns false'. Refute it at one input. -/
def weaveNewWrong : ChangeSpec := { name := "weaveNew", fn := fun _ => fun
  | [d1, d2] => { results := [.lit (.bool false)], args := [d1, d2] }
  | _ => none }
def WeaveNewWrongFalsely : Prop := weaveNewRow.holds Try.pinned (OpenSpec.ofChange weaveNewWrong)

/-- 'fourinhandlaw06.WeaveOrder': WHATEVER THE INPUT: true; the input reads as it did. -/
def weaveOrderSpec : ChangeSpec := { name := "weaveOrder", fn := fun _ => fun
  | [d1, d2, d3] => { results := [.lit (.bool true)], args := [d1, d2, d3] }
  | _ => none }
def weaveOrderRow : OpenClaim := { program := "ytjienkojedlfjaa", sum := "d44626c469b80d402db4a60b3a91a3bc41114e5db8a52bb3593c845e35a9ac6b", func := "fourinhand/fourinhandlaw06.WeaveOrder", spec := "weaveOrder", unfollowed := true, recurses := true, apart := false }
def WeaveOrderSaid : Prop := weaveOrderRow.holds Try.pinned (OpenSpec.ofChange weaveOrderSpec)

/-- ITS FALSE NEIGHBOUR: 'it returns false'. Refute it at one input. -/
def weaveOrderWrong : ChangeSpec := { name := "weaveOrder", fn := fun _ => fun
  | [d1, d2, d3] => { results := [.lit (.bool false)], args := [d1, d2, d3] }
  | _ => none }
def WeaveOrderWrongFalsely : Prop := weaveOrderRow.holds Try.pinned (OpenSpec.ofChange weaveOrderWrong)

/-- 'fourinhandlaw06.WeaveTells': WHATEVER THE INPUT: true; the input reads as it did. -/
def weaveTellsSpec : ChangeSpec := { name := "weaveTells", fn := fun _ => fun
  | [d1, d2, d3, d4] => { results := [.lit (.bool true)], args := [d1, d2, d3, d4] }
  | _ => none }
def weaveTellsRow : OpenClaim := { program := "ytjienkojedlfjaa", sum := "d44626c469b80d402db4a60b3a91a3bc41114e5db8a52bb3593c845e35a9ac6b", func := "fourinhand/fourinhandlaw06.WeaveTells", spec := "weaveTells", unfollowed := true, recurses := true, apart := false }
def WeaveTellsSaid : Prop := weaveTellsRow.holds Try.pinned (OpenSpec.ofChange weaveTellsSpec)

/-- ITS FALSE NEIGHBOUR: 'it returns false'. Refute it at one input. -/
def weaveTellsWrong : ChangeSpec := { name := "weaveTells", fn := fun _ => fun
  | [d1, d2, d3, d4] => { results := [.lit (.bool false)], args := [d1, d2, d3, d4] }
  | _ => none }
def WeaveTellsWrongFalsely : Prop := weaveTellsRow.holds Try.pinned (OpenSpec.ofChange weaveTellsWrong)

/-- 'fourinhandlaw06.WeaveShut': WHATEVER THE INPUT: true; the input reads as it did. -/
def weaveShutSpec : ChangeSpec := { name := "weaveShut", fn := fun _ => fun
  | [d1, d2, d3] => { results := [.lit (.bool true)], args := [d1, d2, d3] }
  | _ => none }
def weaveShutRow : OpenClaim := { program := "ytjienkojedlfjaa", sum := "d44626c469b80d402db4a60b3a91a3bc41114e5db8a52bb3593c845e35a9ac6b", func := "fourinhand/fourinhandlaw06.WeaveShut", spec := "weaveShut", unfollowed := true, recurses := true, apart := false }
def WeaveShutSaid : Prop := weaveShutRow.holds Try.pinned (OpenSpec.ofChange weaveShutSpec)

/-- ITS FALSE NEIGHBOUR: 'it returns false'. Refute it at one input. -/
def weaveShutWrong : ChangeSpec := { name := "weaveShut", fn := fun _ => fun
  | [d1, d2, d3] => { results := [.lit (.bool false)], args := [d1, d2, d3] }
  | _ => none }
def WeaveShutWrongFalsely : Prop := weaveShutRow.holds Try.pinned (OpenSpec.ofChange weaveShutWrong)

/-- 'fourinhandlaw21.ReceiverTold': WHATEVER THE INPUT: true; the input reads as it did. -/
def receiverToldSpec : ChangeSpec := { name := "receiverTold", fn := fun _ => fun
  | [d1, d2] => { results := [.lit (.bool true)], args := [d1, d2] }
  | _ => none }
def receiverToldRow : OpenClaim := { program := "ytjienkojedlfjaa", sum := "d44626c469b80d402db4a60b3a91a3bc41114e5db8a52bb3593c845e35a9ac6b", func := "fourinhand/fourinhandlaw21.ReceiverTold", spec := "receiverTold", unfollowed := true, recurses := true, apart := false }
def ReceiverToldSaid : Prop := receiverToldRow.holds Try.pinned (OpenSpec.ofChange receiverToldSpec)

/-- ITS FALSE NEIGHBOUR: 'it returns false'. Refute it at one input. -/
def receiverToldWrong : ChangeSpec := { name := "receiverTold", fn := fun _ => fun
  | [d1, d2] => { results := [.lit (.bool false)], args := [d1, d2] }
  | _ => none }
def ReceiverToldWrongFalsely : Prop := receiverToldRow.holds Try.pinned (OpenSpec.ofChange receiverToldWrong)

/-- 'fourinhandlaw21.ReceiverMarks': WHATEVER THE INPUT: true; the input reads as it did. -/
def receiverMarksSpec : ChangeSpec := { name := "receiverMarks", fn := fun _ => fun
  | [d1, d2] => { results := [.lit (.bool true)], args := [d1, d2] }
  | _ => none }
def receiverMarksRow : OpenClaim := { program := "ytjienkojedlfjaa", sum := "d44626c469b80d402db4a60b3a91a3bc41114e5db8a52bb3593c845e35a9ac6b", func := "fourinhand/fourinhandlaw21.ReceiverMarks", spec := "receiverMarks", unfollowed := true, recurses := true, apart := false }
def ReceiverMarksSaid : Prop := receiverMarksRow.holds Try.pinned (OpenSpec.ofChange receiverMarksSpec)

/-- ITS FALSE NEIGHBOUR: 'it returns false'. Refute it at one input. -/
def receiverMarksWrong : ChangeSpec := { name := "receiverMarks", fn := fun _ => fun
  | [d1, d2] => { results := [.lit (.bool false)], args := [d1, d2] }
  | _ => none }
def ReceiverMarksWrongFalsely : Prop := receiverMarksRow.holds Try.pinned (OpenSpec.ofChange receiverMarksWrong)

/-- 'fourinhandlaw21.ReceiverFar': WHATEVER THE INPUT: true; the input reads as it did. -/
def receiverFarSpec : ChangeSpec := { name := "receiverFar", fn := fun _ => fun
  | [d1, d2, d3] => { results := [.lit (.bool true)], args := [d1, d2, d3] }
  | _ => none }
def receiverFarRow : OpenClaim := { program := "ytjienkojedlfjaa", sum := "d44626c469b80d402db4a60b3a91a3bc41114e5db8a52bb3593c845e35a9ac6b", func := "fourinhand/fourinhandlaw21.ReceiverFar", spec := "receiverFar", unfollowed := true, recurses := true, apart := false }
def ReceiverFarSaid : Prop := receiverFarRow.holds Try.pinned (OpenSpec.ofChange receiverFarSpec)

/-- ITS FALSE NEIGHBOUR: 'it returns false'. Refute it at one input. -/
def receiverFarWrong : ChangeSpec := { name := "receiverFar", fn := fun _ => fun
  | [d1, d2, d3] => { results := [.lit (.bool false)], args := [d1, d2, d3] }
  | _ => none }
def ReceiverFarWrongFalsely : Prop := receiverFarRow.holds Try.pinned (OpenSpec.ofChange receiverFarWrong)

/-- 'fourinhandlaw21.ReceiverTells': WHATEVER THE INPUT: true; the input reads as it did. -/
def receiverTellsSpec : ChangeSpec := { name := "receiverTells", fn := fun _ => fun
  | [d1, d2, d3, d4] => { results := [.lit (.bool true)], args := [d1, d2, d3, d4] }
  | _ => none }
def receiverTellsRow : OpenClaim := { program := "ytjienkojedlfjaa", sum := "d44626c469b80d402db4a60b3a91a3bc41114e5db8a52bb3593c845e35a9ac6b", func := "fourinhand/fourinhandlaw21.ReceiverTells", spec := "receiverTells", unfollowed := true, recurses := true, apart := false }
def ReceiverTellsSaid : Prop := receiverTellsRow.holds Try.pinned (OpenSpec.ofChange receiverTellsSpec)

/-- ITS FALSE NEIGHBOUR: 'it returns false'. Refute it at one input. -/
def receiverTellsWrong : ChangeSpec := { name := "receiverTells", fn := fun _ => fun
  | [d1, d2, d3, d4] => { results := [.lit (.bool false)], args := [d1, d2, d3, d4] }
  | _ => none }
def ReceiverTellsWrongFalsely : Prop := receiverTellsRow.holds Try.pinned (OpenSpec.ofChange receiverTellsWrong)

/-- 'fourinhandlaw21.ReceiverPrefix': WHATEVER THE INPUT: true; the input reads as it did. -/
def receiverPrefixSpec : ChangeSpec := { name := "receiverPrefix", fn := fun _ => fun
  | [d1, d2, d3] => { results := [.lit (.bool true)], args := [d1, d2, d3] }
  | _ => none }
def receiverPrefixRow : OpenClaim := { program := "ytjienkojedlfjaa", sum := "d44626c469b80d402db4a60b3a91a3bc41114e5db8a52bb3593c845e35a9ac6b", func := "fourinhand/fourinhandlaw21.ReceiverPrefix", spec := "receiverPrefix", unfollowed := true, recurses := true, apart := false }
def ReceiverPrefixSaid : Prop := receiverPrefixRow.holds Try.pinned (OpenSpec.ofChange receiverPrefixSpec)

/-- ITS FALSE NEIGHBOUR: 'it returns false'. Refute it at one input. -/
def receiverPrefixWrong : ChangeSpec := { name := "receiverPrefix", fn := fun _ => fun
  | [d1, d2, d3] => { results := [.lit (.bool false)], args := [d1, d2, d3] }
  | _ => none }
def ReceiverPrefixWrongFalsely : Prop := receiverPrefixRow.holds Try.pinned (OpenSpec.ofChange receiverPrefixWrong)

/- THE SECOND FORM. 'bulk': how many values and letters a reading holds, each counted each time it is reached (what is shared counts as often as it is met; a slice's spare places count too). A statement '..UptoSaid' is the law's where the arguments, and the package variables that the reading takes, are together of bulk at most 1048576: NARROWER than '..Said'. Prove '..Said' where nothing that the law and all that it calls make is longer than what came in: it says more and counts as full. Else prove '..UptoSaid'. A law counts once. -/
mutual
def uptoBulk {H : Type} : DataW H → Nat
  | .lit (.string bytes) => bytes.length + 1
  | .lit _ => 1
  | .nil => 1
  | .ptr d => uptoBulk d + 1
  | .slice elems spare => uptoBulkAll elems + uptoBulkAll spare + 1
  | .agg parts => uptoBulkAll parts + 1
  | .iface _ d => uptoBulk d + 1
  | .map entries => uptoBulkEntries entries + 1
  | .held _ => 1
def uptoBulkAll {H : Type} : List (DataW H) → Nat
  | [] => 0
  | d :: r => uptoBulk d + uptoBulkAll r
def uptoBulkEntries {H : Type} : List (Lit × DataW H) → Nat
  | [] => 0
  | x :: r => uptoBulkEntry x + uptoBulkEntries r
def uptoBulkEntry {H : Type} : Lit × DataW H → Nat
  | (.string bytes, d) => bytes.length + uptoBulk d + 1
  | (_, d) => uptoBulk d + 1
 end
def uptoSmall : (H : Type) → List (DataW H) → Bool := fun _ ds => decide (uptoBulkAll ds ≤ 1048576)
def OpenSpec.upto (s : _root_.Go.ChangeSpec) : _root_.Go.OpenSpec := { _root_.Go.OpenSpec.ofChange s with cond := some uptoSmall }

/-- 'fourinhandlaw06.WeaveTwice', WHERE WHAT IT READS IS OF BULK AT MOST 1048576: true; the input reads as it did. -/
def weaveTwiceUptoRow : OpenClaim := { program := "ytjienkojedlfjaa", sum := "d44626c469b80d402db4a60b3a91a3bc41114e5db8a52bb3593c845e35a9ac6b", func := "fourinhand/fourinhandlaw06.WeaveTwice", spec := "weaveTwice", unfollowed := true, recurses := true, apart := false, narrowed := true }
def WeaveTwiceUptoSaid : Prop := weaveTwiceUptoRow.holds Try.pinned (OpenSpec.upto weaveTwiceSpec)

/-- 'fourinhandlaw06.WeaveNew', WHERE WHAT IT READS IS OF BULK AT MOST 1048576: true; the input reads as it did. -/
def weaveNewUptoRow : OpenClaim := { program := "ytjienkojedlfjaa", sum := "d44626c469b80d402db4a60b3a91a3bc41114e5db8a52bb3593c845e35a9ac6b", func := "fourinhand/fourinhandlaw06.WeaveNew", spec := "weaveNew", unfollowed := true, recurses := true, apart := false, narrowed := true }
def WeaveNewUptoSaid : Prop := weaveNewUptoRow.holds Try.pinned (OpenSpec.upto weaveNewSpec)

/-- 'fourinhandlaw06.WeaveOrder', WHERE WHAT IT READS IS OF BULK AT MOST 1048576: true; the input reads as it did. -/
def weaveOrderUptoRow : OpenClaim := { program := "ytjienkojedlfjaa", sum := "d44626c469b80d402db4a60b3a91a3bc41114e5db8a52bb3593c845e35a9ac6b", func := "fourinhand/fourinhandlaw06.WeaveOrder", spec := "weaveOrder", unfollowed := true, recurses := true, apart := false, narrowed := true }
def WeaveOrderUptoSaid : Prop := weaveOrderUptoRow.holds Try.pinned (OpenSpec.upto weaveOrderSpec)

/-- 'fourinhandlaw06.WeaveTells', WHERE WHAT IT READS IS OF BULK AT MOST 1048576: true; the input reads as it did. -/
def weaveTellsUptoRow : OpenClaim := { program := "ytjienkojedlfjaa", sum := "d44626c469b80d402db4a60b3a91a3bc41114e5db8a52bb3593c845e35a9ac6b", func := "fourinhand/fourinhandlaw06.WeaveTells", spec := "weaveTells", unfollowed := true, recurses := true, apart := false, narrowed := true }
def WeaveTellsUptoSaid : Prop := weaveTellsUptoRow.holds Try.pinned (OpenSpec.upto weaveTellsSpec)

/-- 'fourinhandlaw06.WeaveShut', WHERE WHAT IT READS IS OF BULK AT MOST 1048576: true; the input reads as it did. -/
def weaveShutUptoRow : OpenClaim := { program := "ytjienkojedlfjaa", sum := "d44626c469b80d402db4a60b3a91a3bc41114e5db8a52bb3593c845e35a9ac6b", func := "fourinhand/fourinhandlaw06.WeaveShut", spec := "weaveShut", unfollowed := true, recurses := true, apart := false, narrowed := true }
def WeaveShutUptoSaid : Prop := weaveShutUptoRow.holds Try.pinned (OpenSpec.upto weaveShutSpec)

/-- 'fourinhandlaw21.ReceiverTold', WHERE WHAT IT READS IS OF BULK AT MOST 1048576: true; the input reads as it did. -/
def receiverToldUptoRow : OpenClaim := { program := "ytjienkojedlfjaa", sum := "d44626c469b80d402db4a60b3a91a3bc41114e5db8a52bb3593c845e35a9ac6b", func := "fourinhand/fourinhandlaw21.ReceiverTold", spec := "receiverTold", unfollowed := true, recurses := true, apart := false, narrowed := true }
def ReceiverToldUptoSaid : Prop := receiverToldUptoRow.holds Try.pinned (OpenSpec.upto receiverToldSpec)

/-- 'fourinhandlaw21.ReceiverMarks', WHERE WHAT IT READS IS OF BULK AT MOST 1048576: true; the input reads as it did. -/
def receiverMarksUptoRow : OpenClaim := { program := "ytjienkojedlfjaa", sum := "d44626c469b80d402db4a60b3a91a3bc41114e5db8a52bb3593c845e35a9ac6b", func := "fourinhand/fourinhandlaw21.ReceiverMarks", spec := "receiverMarks", unfollowed := true, recurses := true, apart := false, narrowed := true }
def ReceiverMarksUptoSaid : Prop := receiverMarksUptoRow.holds Try.pinned (OpenSpec.upto receiverMarksSpec)

/-- 'fourinhandlaw21.ReceiverFar', WHERE WHAT IT READS IS OF BULK AT MOST 1048576: true; the input reads as it did. -/
def receiverFarUptoRow : OpenClaim := { program := "ytjienkojedlfjaa", sum := "d44626c469b80d402db4a60b3a91a3bc41114e5db8a52bb3593c845e35a9ac6b", func := "fourinhand/fourinhandlaw21.ReceiverFar", spec := "receiverFar", unfollowed := true, recurses := true, apart := false, narrowed := true }
def ReceiverFarUptoSaid : Prop := receiverFarUptoRow.holds Try.pinned (OpenSpec.upto receiverFarSpec)

/-- 'fourinhandlaw21.ReceiverTells', WHERE WHAT IT READS IS OF BULK AT MOST 1048576: true; the input reads as it did. -/
def receiverTellsUptoRow : OpenClaim := { program := "ytjienkojedlfjaa", sum := "d44626c469b80d402db4a60b3a91a3bc41114e5db8a52bb3593c845e35a9ac6b", func := "fourinhand/fourinhandlaw21.ReceiverTells", spec := "receiverTells", unfollowed := true, recurses := true, apart := false, narrowed := true }
def ReceiverTellsUptoSaid : Prop := receiverTellsUptoRow.holds Try.pinned (OpenSpec.upto receiverTellsSpec)

/-- 'fourinhandlaw21.ReceiverPrefix', WHERE WHAT IT READS IS OF BULK AT MOST 1048576: true; the input reads as it did. -/
def receiverPrefixUptoRow : OpenClaim := { program := "ytjienkojedlfjaa", sum := "d44626c469b80d402db4a60b3a91a3bc41114e5db8a52bb3593c845e35a9ac6b", func := "fourinhand/fourinhandlaw21.ReceiverPrefix", spec := "receiverPrefix", unfollowed := true, recurses := true, apart := false, narrowed := true }
def ReceiverPrefixUptoSaid : Prop := receiverPrefixUptoRow.holds Try.pinned (OpenSpec.upto receiverPrefixSpec)

end Rows
end Go.Proofs.Ytjienkojedlfjaa
