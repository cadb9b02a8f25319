/-
  No cell of these rows narrows 'for every input' (looked for: loops, veiled, ifaces, maps, wideKeys, modest, calm, conditions, laid).
  DERIVED. THE GIVEN ROWS OF THIS SEAT. 11 by the template 'for every input the law returns true; each argument reads behind the call as it read before'; 0 by the template 'total and deterministic' (their statements: YtcnjoldhaijbmaaTotals.lean).
  GIVEN WITH THE SEED: the statements are not yours to turn. If you find one false, say at which input.
  Laid BY PROGRAM, IN A SANDBOX (cutbox-rows.mjs): the forced cells as the released guide's own fill.sh prints them over the translation 6ea017a31e3e0479… (all of the seat's roots in one cut). By AI agents, Wed Nov 11 2026. No macro, syntax, notation, axiom, sorry.
-/
import Derived.Test.YtcnjoldhaijbmaaChecked
import GoSem.Claim
import GoSem.ClaimJoined
import GoSem.ClaimMapViews
import Derived.JoinedTies
import Derived.KernelRfl
namespace Go.Proofs.Ytcnjoldhaijbmaa
/- THE CELL 'sum', in the pinned program and in every row, IS THE sha256 OF THE DUMP (.gsa) THAT YtcnjoldhaijbmaaProg.lean LOADS. Nothing in Lean hashes anything: it is a label: what it is worth is what the hold of that sum in a sandbox is worth. -/
noncomputable def Try.pinned : Pinned := { name := "ytcnjoldhaijbmaa", sum := "6ea017a31e3e04791affa2ce104f8239c2c98718bca7abfa3f1c2aa33ebd2ed4", checked := Try.checked }
namespace Rows
def none {H : Type} : Left H := { results := [], args := [] }

/-- 'fourinhandlaw13.RackLate': WHATEVER THE INPUT: true; the input reads as it did. -/
def rackLateSpec : ChangeSpec := { name := "rackLate", fn := fun _ => fun
  | [d1, d2, d3, d4, d5] => { results := [.lit (.bool true)], args := [d1, d2, d3, d4, d5] }
  | _ => none }
def rackLateRow : OpenClaim := { program := "ytcnjoldhaijbmaa", sum := "6ea017a31e3e04791affa2ce104f8239c2c98718bca7abfa3f1c2aa33ebd2ed4", func := "fourinhand/fourinhandlaw13.RackLate", spec := "rackLate", unfollowed := true, recurses := true, apart := false }
def RackLateSaid : Prop := rackLateRow.holds Try.pinned (OpenSpec.ofChange rackLateSpec)

/-- ITS FALSE NEIGHBOUR: 'it returns false'. Refute it at one input. -/
def rackLateWrong : ChangeSpec := { name := "rackLate", fn := fun _ => fun
  | [d1, d2, d3, d4, d5] => { results := [.lit (.bool false)], args := [d1, d2, d3, d4, d5] }
  | _ => none }
def RackLateWrongFalsely : Prop := rackLateRow.holds Try.pinned (OpenSpec.ofChange rackLateWrong)

/-- 'fourinhandlaw12.SentOnce': WHATEVER THE INPUT: true; the input reads as it did. -/
def sentOnceSpec : ChangeSpec := { name := "sentOnce", fn := fun _ => fun
  | [d1, d2, d3] => { results := [.lit (.bool true)], args := [d1, d2, d3] }
  | _ => none }
def sentOnceRow : OpenClaim := { program := "ytcnjoldhaijbmaa", sum := "6ea017a31e3e04791affa2ce104f8239c2c98718bca7abfa3f1c2aa33ebd2ed4", func := "fourinhand/fourinhandlaw12.SentOnce", spec := "sentOnce", unfollowed := true, recurses := true, apart := false }
def SentOnceSaid : Prop := sentOnceRow.holds Try.pinned (OpenSpec.ofChange sentOnceSpec)

/-- ITS FALSE NEIGHBOUR: 'it returns false'. Refute it at one input. -/
def sentOnceWrong : ChangeSpec := { name := "sentOnce", fn := fun _ => fun
  | [d1, d2, d3] => { results := [.lit (.bool false)], args := [d1, d2, d3] }
  | _ => none }
def SentOnceWrongFalsely : Prop := sentOnceRow.holds Try.pinned (OpenSpec.ofChange sentOnceWrong)

/-- 'fourinhandlaw12.SentWrong': WHATEVER THE INPUT: true; the input reads as it did. -/
def sentWrongSpec : ChangeSpec := { name := "sentWrong", fn := fun _ => fun
  | [d1, d2, d3] => { results := [.lit (.bool true)], args := [d1, d2, d3] }
  | _ => none }
def sentWrongRow : OpenClaim := { program := "ytcnjoldhaijbmaa", sum := "6ea017a31e3e04791affa2ce104f8239c2c98718bca7abfa3f1c2aa33ebd2ed4", func := "fourinhand/fourinhandlaw12.SentWrong", spec := "sentWrong", unfollowed := true, recurses := true, apart := false }
def SentWrongSaid : Prop := sentWrongRow.holds Try.pinned (OpenSpec.ofChange sentWrongSpec)

/-- ITS FALSE NEIGHBOUR: 'it returns false'. Refute it at one input. -/
def sentWrongWrong : ChangeSpec := { name := "sentWrong", fn := fun _ => fun
  | [d1, d2, d3] => { results := [.lit (.bool false)], args := [d1, d2, d3] }
  | _ => none }
def SentWrongWrongFalsely : Prop := sentWrongRow.holds Try.pinned (OpenSpec.ofChange sentWrongWrong)

/-- 'fourinhandlaw12.SentAll': WHATEVER THE INPUT: true; the input reads as it did. -/
def sentAllSpec : ChangeSpec := { name := "sentAll", fn := fun _ => fun
  | [d] => { results := [.lit (.bool true)], args := [d] }
  | _ => none }
def sentAllRow : OpenClaim := { program := "ytcnjoldhaijbmaa", sum := "6ea017a31e3e04791affa2ce104f8239c2c98718bca7abfa3f1c2aa33ebd2ed4", func := "fourinhand/fourinhandlaw12.SentAll", spec := "sentAll", unfollowed := true, recurses := true, apart := false }
def SentAllSaid : Prop := sentAllRow.holds Try.pinned (OpenSpec.ofChange sentAllSpec)

/-- ITS FALSE NEIGHBOUR: 'it returns false'. Refute it at one input. -/
def sentAllWrong : ChangeSpec := { name := "sentAll", fn := fun _ => fun
  | [d] => { results := [.lit (.bool false)], args := [d] }
  | _ => none }
def SentAllWrongFalsely : Prop := sentAllRow.holds Try.pinned (OpenSpec.ofChange sentAllWrong)

/-- 'fourinhandlaw13.RackLost': WHATEVER THE INPUT: true; the input reads as it did. -/
def rackLostSpec : ChangeSpec := { name := "rackLost", fn := fun _ => fun
  | [d1, d2, d3, d4] => { results := [.lit (.bool true)], args := [d1, d2, d3, d4] }
  | _ => none }
def rackLostRow : OpenClaim := { program := "ytcnjoldhaijbmaa", sum := "6ea017a31e3e04791affa2ce104f8239c2c98718bca7abfa3f1c2aa33ebd2ed4", func := "fourinhand/fourinhandlaw13.RackLost", spec := "rackLost", unfollowed := true, recurses := true, apart := false }
def RackLostSaid : Prop := rackLostRow.holds Try.pinned (OpenSpec.ofChange rackLostSpec)

/-- ITS FALSE NEIGHBOUR: 'it returns false'. Refute it at one input. -/
def rackLostWrong : ChangeSpec := { name := "rackLost", fn := fun _ => fun
  | [d1, d2, d3, d4] => { results := [.lit (.bool false)], args := [d1, d2, d3, d4] }
  | _ => none }
def RackLostWrongFalsely : Prop := rackLostRow.holds Try.pinned (OpenSpec.ofChange rackLostWrong)

/-- 'fourinhandlaw13.RackTells': WHATEVER THE INPUT: true; the input reads as it did. -/
def rackTellsSpec : ChangeSpec := { name := "rackTells", fn := fun _ => fun
  | [d1, d2, d3, d4, d5, d6] => { results := [.lit (.bool true)], args := [d1, d2, d3, d4, d5, d6] }
  | _ => none }
def rackTellsRow : OpenClaim := { program := "ytcnjoldhaijbmaa", sum := "6ea017a31e3e04791affa2ce104f8239c2c98718bca7abfa3f1c2aa33ebd2ed4", func := "fourinhand/fourinhandlaw13.RackTells", spec := "rackTells", unfollowed := true, recurses := true, apart := false }
def RackTellsSaid : Prop := rackTellsRow.holds Try.pinned (OpenSpec.ofChange rackTellsSpec)

/-- ITS FALSE NEIGHBOUR: 'it returns false'. Refute it at one input. -/
def rackTellsWrong : ChangeSpec := { name := "rackTells", fn := fun _ => fun
  | [d1, d2, d3, d4, d5, d6] => { results := [.lit (.bool false)], args := [d1, d2, d3, d4, d5, d6] }
  | _ => none }
def RackTellsWrongFalsely : Prop := rackTellsRow.holds Try.pinned (OpenSpec.ofChange rackTellsWrong)

/-- 'fourinhandlaw13.RackSlack': WHATEVER THE INPUT: true; the input reads as it did. -/
def rackSlackSpec : ChangeSpec := { name := "rackSlack", fn := fun _ => fun
  | [d1, d2, d3] => { results := [.lit (.bool true)], args := [d1, d2, d3] }
  | _ => none }
def rackSlackRow : OpenClaim := { program := "ytcnjoldhaijbmaa", sum := "6ea017a31e3e04791affa2ce104f8239c2c98718bca7abfa3f1c2aa33ebd2ed4", func := "fourinhand/fourinhandlaw13.RackSlack", spec := "rackSlack", unfollowed := true, recurses := true, apart := false }
def RackSlackSaid : Prop := rackSlackRow.holds Try.pinned (OpenSpec.ofChange rackSlackSpec)

/-- ITS FALSE NEIGHBOUR: 'it returns false'. Refute it at one input. -/
def rackSlackWrong : ChangeSpec := { name := "rackSlack", fn := fun _ => fun
  | [d1, d2, d3] => { results := [.lit (.bool false)], args := [d1, d2, d3] }
  | _ => none }
def RackSlackWrongFalsely : Prop := rackSlackRow.holds Try.pinned (OpenSpec.ofChange rackSlackWrong)

/-- 'fourinhandlaw13.RackTwice': WHATEVER THE INPUT: true; the input reads as it did. -/
def rackTwiceSpec : ChangeSpec := { name := "rackTwice", fn := fun _ => fun
  | [d1, d2, d3] => { results := [.lit (.bool true)], args := [d1, d2, d3] }
  | _ => none }
def rackTwiceRow : OpenClaim := { program := "ytcnjoldhaijbmaa", sum := "6ea017a31e3e04791affa2ce104f8239c2c98718bca7abfa3f1c2aa33ebd2ed4", func := "fourinhand/fourinhandlaw13.RackTwice", spec := "rackTwice", unfollowed := true, recurses := true, apart := false }
def RackTwiceSaid : Prop := rackTwiceRow.holds Try.pinned (OpenSpec.ofChange rackTwiceSpec)

/-- ITS FALSE NEIGHBOUR: 'it returns false'. Refute it at one input. -/
def rackTwiceWrong : ChangeSpec := { name := "rackTwice", fn := fun _ => fun
  | [d1, d2, d3] => { results := [.lit (.bool false)], args := [d1, d2, d3] }
  | _ => none }
def RackTwiceWrongFalsely : Prop := rackTwiceRow.holds Try.pinned (OpenSpec.ofChange rackTwiceWrong)

/-- 'fourinhandlaw12.SentTells': WHATEVER THE INPUT: true; the input reads as it did. -/
def sentTellsSpec : ChangeSpec := { name := "sentTells", fn := fun _ => fun
  | [d1, d2, d3, d4, d5, d6] => { results := [.lit (.bool true)], args := [d1, d2, d3, d4, d5, d6] }
  | _ => none }
def sentTellsRow : OpenClaim := { program := "ytcnjoldhaijbmaa", sum := "6ea017a31e3e04791affa2ce104f8239c2c98718bca7abfa3f1c2aa33ebd2ed4", func := "fourinhand/fourinhandlaw12.SentTells", spec := "sentTells", unfollowed := true, recurses := true, apart := false }
def SentTellsSaid : Prop := sentTellsRow.holds Try.pinned (OpenSpec.ofChange sentTellsSpec)

/-- ITS FALSE NEIGHBOUR: 'it returns false'. Refute it at one input. -/
def sentTellsWrong : ChangeSpec := { name := "sentTells", fn := fun _ => fun
  | [d1, d2, d3, d4, d5, d6] => { results := [.lit (.bool false)], args := [d1, d2, d3, d4, d5, d6] }
  | _ => none }
def SentTellsWrongFalsely : Prop := sentTellsRow.holds Try.pinned (OpenSpec.ofChange sentTellsWrong)

/-- 'fourinhandlaw12.SentSpan': WHATEVER THE INPUT: true; the input reads as it did. -/
def sentSpanSpec : ChangeSpec := { name := "sentSpan", fn := fun _ => fun
  | [d1, d2, d3] => { results := [.lit (.bool true)], args := [d1, d2, d3] }
  | _ => none }
def sentSpanRow : OpenClaim := { program := "ytcnjoldhaijbmaa", sum := "6ea017a31e3e04791affa2ce104f8239c2c98718bca7abfa3f1c2aa33ebd2ed4", func := "fourinhand/fourinhandlaw12.SentSpan", spec := "sentSpan", unfollowed := true, recurses := true, apart := false }
def SentSpanSaid : Prop := sentSpanRow.holds Try.pinned (OpenSpec.ofChange sentSpanSpec)

/-- ITS FALSE NEIGHBOUR: 'it returns false'. Refute it at one input. -/
def sentSpanWrong : ChangeSpec := { name := "sentSpan", fn := fun _ => fun
  | [d1, d2, d3] => { results := [.lit (.bool false)], args := [d1, d2, d3] }
  | _ => none }
def SentSpanWrongFalsely : Prop := sentSpanRow.holds Try.pinned (OpenSpec.ofChange sentSpanWrong)

/-- 'fourinhandlaw12.SentAgain': WHATEVER THE INPUT: true; the input reads as it did. -/
def sentAgainSpec : ChangeSpec := { name := "sentAgain", fn := fun _ => fun
  | [d1, d2, d3] => { results := [.lit (.bool true)], args := [d1, d2, d3] }
  | _ => none }
def sentAgainRow : OpenClaim := { program := "ytcnjoldhaijbmaa", sum := "6ea017a31e3e04791affa2ce104f8239c2c98718bca7abfa3f1c2aa33ebd2ed4", func := "fourinhand/fourinhandlaw12.SentAgain", spec := "sentAgain", unfollowed := true, recurses := true, apart := false }
def SentAgainSaid : Prop := sentAgainRow.holds Try.pinned (OpenSpec.ofChange sentAgainSpec)

/-- ITS FALSE NEIGHBOUR: 'it returns false'. Refute it at one input. -/
def sentAgainWrong : ChangeSpec := { name := "sentAgain", fn := fun _ => fun
  | [d1, d2, d3] => { results := [.lit (.bool false)], args := [d1, d2, d3] }
  | _ => none }
def SentAgainWrongFalsely : Prop := sentAgainRow.holds Try.pinned (OpenSpec.ofChange sentAgainWrong)

/- THE SECOND FORM. 'bulk': how many values and letters a reading holds, each counted each time it is reached (what is shared counts as often as it is met; a slice's spare places count too). A statement '..UptoSaid' is the law's where the arguments, and the package variables that the reading takes, are together of bulk at most 1048576: NARROWER than '..Said'. Prove '..Said' where nothing that the law and all that it calls make is longer than what came in: it says more and counts as full. Else prove '..UptoSaid'. A law counts once. -/
mutual
def uptoBulk {H : Type} : DataW H → Nat
  | .lit (.string bytes) => bytes.length + 1
  | .lit _ => 1
  | .nil => 1
  | .ptr d => uptoBulk d + 1
  | .slice elems spare => uptoBulkAll elems + uptoBulkAll spare + 1
  | .agg parts => uptoBulkAll parts + 1
  | .iface _ d => uptoBulk d + 1
  | .map entries => uptoBulkEntries entries + 1
  | .held _ => 1
def uptoBulkAll {H : Type} : List (DataW H) → Nat
  | [] => 0
  | d :: r => uptoBulk d + uptoBulkAll r
def uptoBulkEntries {H : Type} : List (Lit × DataW H) → Nat
  | [] => 0
  | x :: r => uptoBulkEntry x + uptoBulkEntries r
def uptoBulkEntry {H : Type} : Lit × DataW H → Nat
  | (.string bytes, d) => bytes.length + uptoBulk d + 1
  | (_, d) => uptoBulk d + 1
 end
def uptoSmall : (H : Type) → List (DataW H) → Bool := fun _ ds => decide (uptoBulkAll ds ≤ 1048576)
def OpenSpec.upto (s : _root_.Go.ChangeSpec) : _root_.Go.OpenSpec := { _root_.Go.OpenSpec.ofChange s with cond := some uptoSmall }

/-- 'fourinhandlaw13.RackLate', WHERE WHAT IT READS IS OF BULK AT MOST 1048576: true; the input reads as it did. -/
def rackLateUptoRow : OpenClaim := { program := "ytcnjoldhaijbmaa", sum := "6ea017a31e3e04791affa2ce104f8239c2c98718bca7abfa3f1c2aa33ebd2ed4", func := "fourinhand/fourinhandlaw13.RackLate", spec := "rackLate", unfollowed := true, recurses := true, apart := false, narrowed := true }
def RackLateUptoSaid : Prop := rackLateUptoRow.holds Try.pinned (OpenSpec.upto rackLateSpec)

/-- 'fourinhandlaw12.SentOnce', WHERE WHAT IT READS IS OF BULK AT MOST 1048576: true; the input reads as it did. -/
def sentOnceUptoRow : OpenClaim := { program := "ytcnjoldhaijbmaa", sum := "6ea017a31e3e04791affa2ce104f8239c2c98718bca7abfa3f1c2aa33ebd2ed4", func := "fourinhand/fourinhandlaw12.SentOnce", spec := "sentOnce", unfollowed := true, recurses := true, apart := false, narrowed := true }
def SentOnceUptoSaid : Prop := sentOnceUptoRow.holds Try.pinned (OpenSpec.upto sentOnceSpec)

/-- 'fourinhandlaw12.SentWrong', WHERE WHAT IT READS IS OF BULK AT MOST 1048576: true; the input reads as it did. -/
def sentWrongUptoRow : OpenClaim := { program := "ytcnjoldhaijbmaa", sum := "6ea017a31e3e04791affa2ce104f8239c2c98718bca7abfa3f1c2aa33ebd2ed4", func := "fourinhand/fourinhandlaw12.SentWrong", spec := "sentWrong", unfollowed := true, recurses := true, apart := false, narrowed := true }
def SentWrongUptoSaid : Prop := sentWrongUptoRow.holds Try.pinned (OpenSpec.upto sentWrongSpec)

/-- 'fourinhandlaw12.SentAll', WHERE WHAT IT READS IS OF BULK AT MOST 1048576: true; the input reads as it did. -/
def sentAllUptoRow : OpenClaim := { program := "ytcnjoldhaijbmaa", sum := "6ea017a31e3e04791affa2ce104f8239c2c98718bca7abfa3f1c2aa33ebd2ed4", func := "fourinhand/fourinhandlaw12.SentAll", spec := "sentAll", unfollowed := true, recurses := true, apart := false, narrowed := true }
def SentAllUptoSaid : Prop := sentAllUptoRow.holds Try.pinned (OpenSpec.upto sentAllSpec)

/-- 'fourinhandlaw13.RackLost', WHERE WHAT IT READS IS OF BULK AT MOST 1048576: true; the input reads as it did. -/
def rackLostUptoRow : OpenClaim := { program := "ytcnjoldhaijbmaa", sum := "6ea017a31e3e04791affa2ce104f8239c2c98718bca7abfa3f1c2aa33ebd2ed4", func := "fourinhand/fourinhandlaw13.RackLost", spec := "rackLost", unfollowed := true, recurses := true, apart := false, narrowed := true }
def RackLostUptoSaid : Prop := rackLostUptoRow.holds Try.pinned (OpenSpec.upto rackLostSpec)

/-- 'fourinhandlaw13.RackTells', WHERE WHAT IT READS IS OF BULK AT MOST 1048576: true; the input reads as it did. -/
def rackTellsUptoRow : OpenClaim := { program := "ytcnjoldhaijbmaa", sum := "6ea017a31e3e04791affa2ce104f8239c2c98718bca7abfa3f1c2aa33ebd2ed4", func := "fourinhand/fourinhandlaw13.RackTells", spec := "rackTells", unfollowed := true, recurses := true, apart := false, narrowed := true }
def RackTellsUptoSaid : Prop := rackTellsUptoRow.holds Try.pinned (OpenSpec.upto rackTellsSpec)

/-- 'fourinhandlaw13.RackSlack', WHERE WHAT IT READS IS OF BULK AT MOST 1048576: true; the input reads as it did. -/
def rackSlackUptoRow : OpenClaim := { program := "ytcnjoldhaijbmaa", sum := "6ea017a31e3e04791affa2ce104f8239c2c98718bca7abfa3f1c2aa33ebd2ed4", func := "fourinhand/fourinhandlaw13.RackSlack", spec := "rackSlack", unfollowed := true, recurses := true, apart := false, narrowed := true }
def RackSlackUptoSaid : Prop := rackSlackUptoRow.holds Try.pinned (OpenSpec.upto rackSlackSpec)

/-- 'fourinhandlaw13.RackTwice', WHERE WHAT IT READS IS OF BULK AT MOST 1048576: true; the input reads as it did. -/
def rackTwiceUptoRow : OpenClaim := { program := "ytcnjoldhaijbmaa", sum := "6ea017a31e3e04791affa2ce104f8239c2c98718bca7abfa3f1c2aa33ebd2ed4", func := "fourinhand/fourinhandlaw13.RackTwice", spec := "rackTwice", unfollowed := true, recurses := true, apart := false, narrowed := true }
def RackTwiceUptoSaid : Prop := rackTwiceUptoRow.holds Try.pinned (OpenSpec.upto rackTwiceSpec)

/-- 'fourinhandlaw12.SentTells', WHERE WHAT IT READS IS OF BULK AT MOST 1048576: true; the input reads as it did. -/
def sentTellsUptoRow : OpenClaim := { program := "ytcnjoldhaijbmaa", sum := "6ea017a31e3e04791affa2ce104f8239c2c98718bca7abfa3f1c2aa33ebd2ed4", func := "fourinhand/fourinhandlaw12.SentTells", spec := "sentTells", unfollowed := true, recurses := true, apart := false, narrowed := true }
def SentTellsUptoSaid : Prop := sentTellsUptoRow.holds Try.pinned (OpenSpec.upto sentTellsSpec)

/-- 'fourinhandlaw12.SentSpan', WHERE WHAT IT READS IS OF BULK AT MOST 1048576: true; the input reads as it did. -/
def sentSpanUptoRow : OpenClaim := { program := "ytcnjoldhaijbmaa", sum := "6ea017a31e3e04791affa2ce104f8239c2c98718bca7abfa3f1c2aa33ebd2ed4", func := "fourinhand/fourinhandlaw12.SentSpan", spec := "sentSpan", unfollowed := true, recurses := true, apart := false, narrowed := true }
def SentSpanUptoSaid : Prop := sentSpanUptoRow.holds Try.pinned (OpenSpec.upto sentSpanSpec)

/-- 'fourinhandlaw12.SentAgain', WHERE WHAT IT READS IS OF BULK AT MOST 1048576: true; the input reads as it did. -/
def sentAgainUptoRow : OpenClaim := { program := "ytcnjoldhaijbmaa", sum := "6ea017a31e3e04791affa2ce104f8239c2c98718bca7abfa3f1c2aa33ebd2ed4", func := "fourinhand/fourinhandlaw12.SentAgain", spec := "sentAgain", unfollowed := true, recurses := true, apart := false, narrowed := true }
def SentAgainUptoSaid : Prop := sentAgainUptoRow.holds Try.pinned (OpenSpec.upto sentAgainSpec)

end Rows
end Go.Proofs.Ytcnjoldhaijbmaa
