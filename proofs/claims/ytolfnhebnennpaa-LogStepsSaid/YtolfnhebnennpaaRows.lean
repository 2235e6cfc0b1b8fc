/-
  No cell of these rows narrows 'for every input' (looked for: loops, veiled, ifaces, maps, wideKeys, modest, calm, conditions, laid).
  DERIVED. THE GIVEN ROWS OF THIS SEAT. 7 by the template 'for every input the law returns true; each argument reads behind the call as it read before'; 0 by the template 'total and deterministic' (their statements: YtolfnhebnennpaaTotals.lean).
  GIVEN WITH THE SEED: the statements are not yours to turn. If you find one false, say at which input.
  Laid BY PROGRAM, IN A SANDBOX (cutbox-rows.mjs): the forced cells as the released guide's own fill.sh prints them over the translation 9c936711a5e06f1d… (all of the seat's roots in one cut). By AI agents, Wed Nov 11 2026. No macro, syntax, notation, axiom, sorry.
-/
import Derived.Test.YtolfnhebnennpaaChecked
import GoSem.Claim
import GoSem.ClaimJoined
import GoSem.ClaimMapViews
import Derived.JoinedTies
import Derived.KernelRfl
namespace Go.Proofs.Ytolfnhebnennpaa
/- THE CELL 'sum', in the pinned program and in every row, IS THE sha256 OF THE DUMP (.gsa) THAT YtolfnhebnennpaaProg.lean LOADS. Nothing in Lean hashes anything: it is a label: what it is worth is what the hold of that sum in a sandbox is worth. -/
noncomputable def Try.pinned : Pinned := { name := "ytolfnhebnennpaa", sum := "9c936711a5e06f1dd12e26ea8fe81b2deee275fec16ba40b3fc9adab1379dcba", checked := Try.checked }
namespace Rows
def none {H : Type} : Left H := { results := [], args := [] }

/-- 'stanchionlaw05.LogMemory': WHATEVER THE INPUT: true; the input reads as it did. -/
def logMemorySpec : ChangeSpec := { name := "logMemory", fn := fun _ => fun
  | [d] => { results := [.lit (.bool true)], args := [d] }
  | _ => none }
def logMemoryRow : OpenClaim := { program := "ytolfnhebnennpaa", sum := "9c936711a5e06f1dd12e26ea8fe81b2deee275fec16ba40b3fc9adab1379dcba", func := "stanchion/stanchionlaw05.LogMemory", spec := "logMemory", unfollowed := true, recurses := true, apart := false }
def LogMemorySaid : Prop := logMemoryRow.holds Try.pinned (OpenSpec.ofChange logMemorySpec)

/-- ITS FALSE NEIGHBOUR: 'it returns false'. Refute it at one input. -/
def logMemoryWrong : ChangeSpec := { name := "logMemory", fn := fun _ => fun
  | [d] => { results := [.lit (.bool false)], args := [d] }
  | _ => none }
def LogMemoryWrongFalsely : Prop := logMemoryRow.holds Try.pinned (OpenSpec.ofChange logMemoryWrong)

/-- 'stanchionlaw05.LogOne': WHATEVER THE INPUT: true; the input reads as it did. -/
def logOneSpec : ChangeSpec := { name := "logOne", fn := fun _ => fun
  | [d] => { results := [.lit (.bool true)], args := [d] }
  | _ => none }
def logOneRow : OpenClaim := { program := "ytolfnhebnennpaa", sum := "9c936711a5e06f1dd12e26ea8fe81b2deee275fec16ba40b3fc9adab1379dcba", func := "stanchion/stanchionlaw05.LogOne", spec := "logOne", unfollowed := true, recurses := true, apart := false }
def LogOneSaid : Prop := logOneRow.holds Try.pinned (OpenSpec.ofChange logOneSpec)

/-- ITS FALSE NEIGHBOUR: 'it returns false'. Refute it at one input. -/
def logOneWrong : ChangeSpec := { name := "logOne", fn := fun _ => fun
  | [d] => { results := [.lit (.bool false)], args := [d] }
  | _ => none }
def LogOneWrongFalsely : Prop := logOneRow.holds Try.pinned (OpenSpec.ofChange logOneWrong)

/-- 'stanchionlaw05.LogAgain': WHATEVER THE INPUT: true; the input reads as it did. -/
def logAgainSpec : ChangeSpec := { name := "logAgain", fn := fun _ => fun
  | [d1, d2, d3] => { results := [.lit (.bool true)], args := [d1, d2, d3] }
  | _ => none }
def logAgainRow : OpenClaim := { program := "ytolfnhebnennpaa", sum := "9c936711a5e06f1dd12e26ea8fe81b2deee275fec16ba40b3fc9adab1379dcba", func := "stanchion/stanchionlaw05.LogAgain", spec := "logAgain", unfollowed := true, recurses := true, apart := false }
def LogAgainSaid : Prop := logAgainRow.holds Try.pinned (OpenSpec.ofChange logAgainSpec)

/-- ITS FALSE NEIGHBOUR: 'it returns false'. Refute it at one input. -/
def logAgainWrong : ChangeSpec := { name := "logAgain", fn := fun _ => fun
  | [d1, d2, d3] => { results := [.lit (.bool false)], args := [d1, d2, d3] }
  | _ => none }
def LogAgainWrongFalsely : Prop := logAgainRow.holds Try.pinned (OpenSpec.ofChange logAgainWrong)

/-- 'stanchionlaw05.LogOpens': WHATEVER THE INPUT: true; the input reads as it did. -/
def logOpensSpec : ChangeSpec := { name := "logOpens", fn := fun _ => fun
  | [d1, d2, d3] => { results := [.lit (.bool true)], args := [d1, d2, d3] }
  | _ => none }
def logOpensRow : OpenClaim := { program := "ytolfnhebnennpaa", sum := "9c936711a5e06f1dd12e26ea8fe81b2deee275fec16ba40b3fc9adab1379dcba", func := "stanchion/stanchionlaw05.LogOpens", spec := "logOpens", unfollowed := true, recurses := true, apart := false }
def LogOpensSaid : Prop := logOpensRow.holds Try.pinned (OpenSpec.ofChange logOpensSpec)

/-- ITS FALSE NEIGHBOUR: 'it returns false'. Refute it at one input. -/
def logOpensWrong : ChangeSpec := { name := "logOpens", fn := fun _ => fun
  | [d1, d2, d3] => { results := [.lit (.bool false)], args := [d1, d2, d3] }
  | _ => none }
def LogOpensWrongFalsely : Prop := logOpensRow.holds Try.pinned (OpenSpec.ofChange logOpensWrong)

/-- 'stanchionlaw05.LogSteps': WHATEVER THE INPUT: true; the input reads as it did. -/
def logStepsSpec : ChangeSpec := { name := "logSteps", fn := fun _ => fun
  | [d1, d2] => { results := [.lit (.bool true)], args := [d1, d2] }
  | _ => none }
def logStepsRow : OpenClaim := { program := "ytolfnhebnennpaa", sum := "9c936711a5e06f1dd12e26ea8fe81b2deee275fec16ba40b3fc9adab1379dcba", func := "stanchion/stanchionlaw05.LogSteps", spec := "logSteps", unfollowed := true, recurses := true, apart := false }
def LogStepsSaid : Prop := logStepsRow.holds Try.pinned (OpenSpec.ofChange logStepsSpec)

/-- ITS FALSE NEIGHBOUR: 'it returns false'. Refute it at one input. -/
def logStepsWrong : ChangeSpec := { name := "logSteps", fn := fun _ => fun
  | [d1, d2] => { results := [.lit (.bool false)], args := [d1, d2] }
  | _ => none }
def LogStepsWrongFalsely : Prop := logStepsRow.holds Try.pinned (OpenSpec.ofChange logStepsWrong)

/-- 'stanchionlaw05.LogPrefix': WHATEVER THE INPUT: true; the input reads as it did. -/
def logPrefixSpec : ChangeSpec := { name := "logPrefix", fn := fun _ => fun
  | [d1, d2, d3, d4, d5] => { results := [.lit (.bool true)], args := [d1, d2, d3, d4, d5] }
  | _ => none }
def logPrefixRow : OpenClaim := { program := "ytolfnhebnennpaa", sum := "9c936711a5e06f1dd12e26ea8fe81b2deee275fec16ba40b3fc9adab1379dcba", func := "stanchion/stanchionlaw05.LogPrefix", spec := "logPrefix", unfollowed := true, recurses := true, apart := false }
def LogPrefixSaid : Prop := logPrefixRow.holds Try.pinned (OpenSpec.ofChange logPrefixSpec)

/-- ITS FALSE NEIGHBOUR: 'it returns false'. Refute it at one input. -/
def logPrefixWrong : ChangeSpec := { name := "logPrefix", fn := fun _ => fun
  | [d1, d2, d3, d4, d5] => { results := [.lit (.bool false)], args := [d1, d2, d3, d4, d5] }
  | _ => none }
def LogPrefixWrongFalsely : Prop := logPrefixRow.holds Try.pinned (OpenSpec.ofChange logPrefixWrong)

/-- 'stanchionlaw05.LogLays': WHATEVER THE INPUT: true; the input reads as it did. -/
def logLaysSpec : ChangeSpec := { name := "logLays", fn := fun _ => fun
  | [d1, d2, d3, d4] => { results := [.lit (.bool true)], args := [d1, d2, d3, d4] }
  | _ => none }
def logLaysRow : OpenClaim := { program := "ytolfnhebnennpaa", sum := "9c936711a5e06f1dd12e26ea8fe81b2deee275fec16ba40b3fc9adab1379dcba", func := "stanchion/stanchionlaw05.LogLays", spec := "logLays", unfollowed := true, recurses := true, apart := false }
def LogLaysSaid : Prop := logLaysRow.holds Try.pinned (OpenSpec.ofChange logLaysSpec)

/-- ITS FALSE NEIGHBOUR: 'it returns false'. Refute it at one input. -/
def logLaysWrong : ChangeSpec := { name := "logLays", fn := fun _ => fun
  | [d1, d2, d3, d4] => { results := [.lit (.bool false)], args := [d1, d2, d3, d4] }
  | _ => none }
def LogLaysWrongFalsely : Prop := logLaysRow.holds Try.pinned (OpenSpec.ofChange logLaysWrong)

/- THE SECOND FORM. 'bulk': how many values and letters a reading holds, each counted each time it is reached (what is shared counts as often as it is met; a slice's spare places count too). A statement '..UptoSaid' is the law's where the arguments, and the package variables that the reading takes, are together of bulk at most 1048576: NARROWER than '..Said'. Prove '..Said' where nothing that the law and all that it calls make is longer than what came in: it says more and counts as full. Else prove '..UptoSaid'. A law counts once. -/
mutual
def uptoBulk {H : Type} : DataW H → Nat
  | .lit (.string bytes) => bytes.length + 1
  | .lit _ => 1
  | .nil => 1
  | .ptr d => uptoBulk d + 1
  | .slice elems spare => uptoBulkAll elems + uptoBulkAll spare + 1
  | .agg parts => uptoBulkAll parts + 1
  | .iface _ d => uptoBulk d + 1
  | .map entries => uptoBulkEntries entries + 1
  | .held _ => 1
def uptoBulkAll {H : Type} : List (DataW H) → Nat
  | [] => 0
  | d :: r => uptoBulk d + uptoBulkAll r
def uptoBulkEntries {H : Type} : List (Lit × DataW H) → Nat
  | [] => 0
  | x :: r => uptoBulkEntry x + uptoBulkEntries r
def uptoBulkEntry {H : Type} : Lit × DataW H → Nat
  | (.string bytes, d) => bytes.length + uptoBulk d + 1
  | (_, d) => uptoBulk d + 1
 end
def uptoSmall : (H : Type) → List (DataW H) → Bool := fun _ ds => decide (uptoBulkAll ds ≤ 1048576)
def OpenSpec.upto (s : _root_.Go.ChangeSpec) : _root_.Go.OpenSpec := { _root_.Go.OpenSpec.ofChange s with cond := some uptoSmall }

/-- 'stanchionlaw05.LogMemory', WHERE WHAT IT READS IS OF BULK AT MOST 1048576: true; the input reads as it did. -/
def logMemoryUptoRow : OpenClaim := { program := "ytolfnhebnennpaa", sum := "9c936711a5e06f1dd12e26ea8fe81b2deee275fec16ba40b3fc9adab1379dcba", func := "stanchion/stanchionlaw05.LogMemory", spec := "logMemory", unfollowed := true, recurses := true, apart := false, narrowed := true }
def LogMemoryUptoSaid : Prop := logMemoryUptoRow.holds Try.pinned (OpenSpec.upto logMemorySpec)

/-- 'stanchionlaw05.LogOne', WHERE WHAT IT READS IS OF BULK AT MOST 1048576: true; the input reads as it did. -/
def logOneUptoRow : OpenClaim := { program := "ytolfnhebnennpaa", sum := "9c936711a5e06f1dd12e26ea8fe81b2deee275fec16ba40b3fc9adab1379dcba", func := "stanchion/stanchionlaw05.LogOne", spec := "logOne", unfollowed := true, recurses := true, apart := false, narrowed := true }
def LogOneUptoSaid : Prop := logOneUptoRow.holds Try.pinned (OpenSpec.upto logOneSpec)

/-- 'stanchionlaw05.LogAgain', WHERE WHAT IT READS IS OF BULK AT MOST 1048576: true; the input reads as it did. -/
def logAgainUptoRow : OpenClaim := { program := "ytolfnhebnennpaa", sum := "9c936711a5e06f1dd12e26ea8fe81b2deee275fec16ba40b3fc9adab1379dcba", func := "stanchion/stanchionlaw05.LogAgain", spec := "logAgain", unfollowed := true, recurses := true, apart := false, narrowed := true }
def LogAgainUptoSaid : Prop := logAgainUptoRow.holds Try.pinned (OpenSpec.upto logAgainSpec)

/-- 'stanchionlaw05.LogOpens', WHERE WHAT IT READS IS OF BULK AT MOST 1048576: true; the input reads as it did. -/
def logOpensUptoRow : OpenClaim := { program := "ytolfnhebnennpaa", sum := "9c936711a5e06f1dd12e26ea8fe81b2deee275fec16ba40b3fc9adab1379dcba", func := "stanchion/stanchionlaw05.LogOpens", spec := "logOpens", unfollowed := true, recurses := true, apart := false, narrowed := true }
def LogOpensUptoSaid : Prop := logOpensUptoRow.holds Try.pinned (OpenSpec.upto logOpensSpec)

/-- 'stanchionlaw05.LogSteps', WHERE WHAT IT READS IS OF BULK AT MOST 1048576: true; the input reads as it did. -/
def logStepsUptoRow : OpenClaim := { program := "ytolfnhebnennpaa", sum := "9c936711a5e06f1dd12e26ea8fe81b2deee275fec16ba40b3fc9adab1379dcba", func := "stanchion/stanchionlaw05.LogSteps", spec := "logSteps", unfollowed := true, recurses := true, apart := false, narrowed := true }
def LogStepsUptoSaid : Prop := logStepsUptoRow.holds Try.pinned (OpenSpec.upto logStepsSpec)

/-- 'stanchionlaw05.LogPrefix', WHERE WHAT IT READS IS OF BULK AT MOST 1048576: true; the input reads as it did. -/
def logPrefixUptoRow : OpenClaim := { program := "ytolfnhebnennpaa", sum := "9c936711a5e06f1dd12e26ea8fe81b2deee275fec16ba40b3fc9adab1379dcba", func := "stanchion/stanchionlaw05.LogPrefix", spec := "logPrefix", unfollowed := true, recurses := true, apart := false, narrowed := true }
def LogPrefixUptoSaid : Prop := logPrefixUptoRow.holds Try.pinned (OpenSpec.upto logPrefixSpec)

/-- 'stanchionlaw05.LogLays', WHERE WHAT IT READS IS OF BULK AT MOST 1048576: true; the input reads as it did. -/
def logLaysUptoRow : OpenClaim := { program := "ytolfnhebnennpaa", sum := "9c936711a5e06f1dd12e26ea8fe81b2deee275fec16ba40b3fc9adab1379dcba", func := "stanchion/stanchionlaw05.LogLays", spec := "logLays", unfollowed := true, recurses := true, apart := false, narrowed := true }
def LogLaysUptoSaid : Prop := logLaysUptoRow.holds Try.pinned (OpenSpec.upto logLaysSpec)

end Rows
end Go.Proofs.Ytolfnhebnennpaa
