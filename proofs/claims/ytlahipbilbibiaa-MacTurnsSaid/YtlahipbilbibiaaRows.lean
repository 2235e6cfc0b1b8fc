/-
  No cell of these rows narrows 'for every input' (looked for: loops, veiled, ifaces, maps, wideKeys, modest, calm, conditions, laid).
  DERIVED. THE GIVEN ROWS OF THIS SEAT. 7 by the template 'for every input the law returns true; each argument reads behind the call as it read before'; 0 by the template 'total and deterministic' (their statements: YtlahipbilbibiaaTotals.lean).
  GIVEN WITH THE SEED: the statements are not yours to turn. If you find one false, say at which input.
  Laid BY PROGRAM, IN A SANDBOX (cutbox-rows.mjs): the forced cells as the released guide's own fill.sh prints them over the translation 37edfe6f5bd5f6c3… (all of the seat's roots in one cut). By AI agents, Wed Nov 11 2026. No macro, syntax, notation, axiom, sorry.
-/
import Derived.Test.YtlahipbilbibiaaChecked
import GoSem.Claim
import GoSem.ClaimJoined
import GoSem.ClaimMapViews
import Derived.JoinedTies
import Derived.KernelRfl
namespace Go.Proofs.Ytlahipbilbibiaa
/- THE CELL 'sum', in the pinned program and in every row, IS THE sha256 OF THE DUMP (.gsa) THAT YtlahipbilbibiaaProg.lean LOADS. Nothing in Lean hashes anything: it is a label: what it is worth is what the hold of that sum in a sandbox is worth. -/
noncomputable def Try.pinned : Pinned := { name := "ytlahipbilbibiaa", sum := "37edfe6f5bd5f6c308b5dc17221dec8e699605954bb86cf0f94065ff18b8cb4d", checked := Try.checked }
namespace Rows
def none {H : Type} : Left H := { results := [], args := [] }

/-- 'stanchionlaw03.MacHmacs': WHATEVER THE INPUT: true; the input reads as it did. -/
def macHmacsSpec : ChangeSpec := { name := "macHmacs", fn := fun _ => fun
  | [d1, d2] => { results := [.lit (.bool true)], args := [d1, d2] }
  | _ => none }
def macHmacsRow : OpenClaim := { program := "ytlahipbilbibiaa", sum := "37edfe6f5bd5f6c308b5dc17221dec8e699605954bb86cf0f94065ff18b8cb4d", func := "stanchion/stanchionlaw03.MacHmacs", spec := "macHmacs", unfollowed := true, recurses := true, apart := false }
def MacHmacsSaid : Prop := macHmacsRow.holds Try.pinned (OpenSpec.ofChange macHmacsSpec)

/-- ITS FALSE NEIGHBOUR: 'it returns false'. Refute it at one input. -/
def macHmacsWrong : ChangeSpec := { name := "macHmacs", fn := fun _ => fun
  | [d1, d2] => { results := [.lit (.bool false)], args := [d1, d2] }
  | _ => none }
def MacHmacsWrongFalsely : Prop := macHmacsRow.holds Try.pinned (OpenSpec.ofChange macHmacsWrong)

/-- 'stanchionlaw03.MacKeys': WHATEVER THE INPUT: true; the input reads as it did. -/
def macKeysSpec : ChangeSpec := { name := "macKeys", fn := fun _ => fun
  | [d1, d2, d3, d4] => { results := [.lit (.bool true)], args := [d1, d2, d3, d4] }
  | _ => none }
def macKeysRow : OpenClaim := { program := "ytlahipbilbibiaa", sum := "37edfe6f5bd5f6c308b5dc17221dec8e699605954bb86cf0f94065ff18b8cb4d", func := "stanchion/stanchionlaw03.MacKeys", spec := "macKeys", unfollowed := true, recurses := true, apart := false }
def MacKeysSaid : Prop := macKeysRow.holds Try.pinned (OpenSpec.ofChange macKeysSpec)

/-- ITS FALSE NEIGHBOUR: 'it returns false'. Refute it at one input. -/
def macKeysWrong : ChangeSpec := { name := "macKeys", fn := fun _ => fun
  | [d1, d2, d3, d4] => { results := [.lit (.bool false)], args := [d1, d2, d3, d4] }
  | _ => none }
def MacKeysWrongFalsely : Prop := macKeysRow.holds Try.pinned (OpenSpec.ofChange macKeysWrong)

/-- 'stanchionlaw03.MacSeals': WHATEVER THE INPUT: true; the input reads as it did. -/
def macSealsSpec : ChangeSpec := { name := "macSeals", fn := fun _ => fun
  | [d1, d2, d3, d4, d5, d6] => { results := [.lit (.bool true)], args := [d1, d2, d3, d4, d5, d6] }
  | _ => none }
def macSealsRow : OpenClaim := { program := "ytlahipbilbibiaa", sum := "37edfe6f5bd5f6c308b5dc17221dec8e699605954bb86cf0f94065ff18b8cb4d", func := "stanchion/stanchionlaw03.MacSeals", spec := "macSeals", unfollowed := true, recurses := true, apart := false }
def MacSealsSaid : Prop := macSealsRow.holds Try.pinned (OpenSpec.ofChange macSealsSpec)

/-- ITS FALSE NEIGHBOUR: 'it returns false'. Refute it at one input. -/
def macSealsWrong : ChangeSpec := { name := "macSeals", fn := fun _ => fun
  | [d1, d2, d3, d4, d5, d6] => { results := [.lit (.bool false)], args := [d1, d2, d3, d4, d5, d6] }
  | _ => none }
def MacSealsWrongFalsely : Prop := macSealsRow.holds Try.pinned (OpenSpec.ofChange macSealsWrong)

/-- 'stanchionlaw03.MacOpens': WHATEVER THE INPUT: true; the input reads as it did. -/
def macOpensSpec : ChangeSpec := { name := "macOpens", fn := fun _ => fun
  | [d1, d2, d3] => { results := [.lit (.bool true)], args := [d1, d2, d3] }
  | _ => none }
def macOpensRow : OpenClaim := { program := "ytlahipbilbibiaa", sum := "37edfe6f5bd5f6c308b5dc17221dec8e699605954bb86cf0f94065ff18b8cb4d", func := "stanchion/stanchionlaw03.MacOpens", spec := "macOpens", unfollowed := true, recurses := true, apart := false }
def MacOpensSaid : Prop := macOpensRow.holds Try.pinned (OpenSpec.ofChange macOpensSpec)

/-- ITS FALSE NEIGHBOUR: 'it returns false'. Refute it at one input. -/
def macOpensWrong : ChangeSpec := { name := "macOpens", fn := fun _ => fun
  | [d1, d2, d3] => { results := [.lit (.bool false)], args := [d1, d2, d3] }
  | _ => none }
def MacOpensWrongFalsely : Prop := macOpensRow.holds Try.pinned (OpenSpec.ofChange macOpensWrong)

/-- 'stanchionlaw03.MacReads': WHATEVER THE INPUT: true; the input reads as it did. -/
def macReadsSpec : ChangeSpec := { name := "macReads", fn := fun _ => fun
  | [d1, d2, d3, d4, d5, d6] => { results := [.lit (.bool true)], args := [d1, d2, d3, d4, d5, d6] }
  | _ => none }
def macReadsRow : OpenClaim := { program := "ytlahipbilbibiaa", sum := "37edfe6f5bd5f6c308b5dc17221dec8e699605954bb86cf0f94065ff18b8cb4d", func := "stanchion/stanchionlaw03.MacReads", spec := "macReads", unfollowed := true, recurses := true, apart := false }
def MacReadsSaid : Prop := macReadsRow.holds Try.pinned (OpenSpec.ofChange macReadsSpec)

/-- ITS FALSE NEIGHBOUR: 'it returns false'. Refute it at one input. -/
def macReadsWrong : ChangeSpec := { name := "macReads", fn := fun _ => fun
  | [d1, d2, d3, d4, d5, d6] => { results := [.lit (.bool false)], args := [d1, d2, d3, d4, d5, d6] }
  | _ => none }
def MacReadsWrongFalsely : Prop := macReadsRow.holds Try.pinned (OpenSpec.ofChange macReadsWrong)

/-- 'stanchionlaw03.MacZeros': WHATEVER THE INPUT: true; the input reads as it did. -/
def macZerosSpec : ChangeSpec := { name := "macZeros", fn := fun _ => fun
  | [d1, d2, d3] => { results := [.lit (.bool true)], args := [d1, d2, d3] }
  | _ => none }
def macZerosRow : OpenClaim := { program := "ytlahipbilbibiaa", sum := "37edfe6f5bd5f6c308b5dc17221dec8e699605954bb86cf0f94065ff18b8cb4d", func := "stanchion/stanchionlaw03.MacZeros", spec := "macZeros", unfollowed := true, recurses := true, apart := false }
def MacZerosSaid : Prop := macZerosRow.holds Try.pinned (OpenSpec.ofChange macZerosSpec)

/-- ITS FALSE NEIGHBOUR: 'it returns false'. Refute it at one input. -/
def macZerosWrong : ChangeSpec := { name := "macZeros", fn := fun _ => fun
  | [d1, d2, d3] => { results := [.lit (.bool false)], args := [d1, d2, d3] }
  | _ => none }
def MacZerosWrongFalsely : Prop := macZerosRow.holds Try.pinned (OpenSpec.ofChange macZerosWrong)

/-- 'stanchionlaw03.MacTurns': WHATEVER THE INPUT: true; the input reads as it did. -/
def macTurnsSpec : ChangeSpec := { name := "macTurns", fn := fun _ => fun
  | [d1, d2, d3, d4, d5, d6] => { results := [.lit (.bool true)], args := [d1, d2, d3, d4, d5, d6] }
  | _ => none }
def macTurnsRow : OpenClaim := { program := "ytlahipbilbibiaa", sum := "37edfe6f5bd5f6c308b5dc17221dec8e699605954bb86cf0f94065ff18b8cb4d", func := "stanchion/stanchionlaw03.MacTurns", spec := "macTurns", unfollowed := true, recurses := true, apart := false }
def MacTurnsSaid : Prop := macTurnsRow.holds Try.pinned (OpenSpec.ofChange macTurnsSpec)

/-- ITS FALSE NEIGHBOUR: 'it returns false'. Refute it at one input. -/
def macTurnsWrong : ChangeSpec := { name := "macTurns", fn := fun _ => fun
  | [d1, d2, d3, d4, d5, d6] => { results := [.lit (.bool false)], args := [d1, d2, d3, d4, d5, d6] }
  | _ => none }
def MacTurnsWrongFalsely : Prop := macTurnsRow.holds Try.pinned (OpenSpec.ofChange macTurnsWrong)

/- THE SECOND FORM. 'bulk': how many values and letters a reading holds, each counted each time it is reached (what is shared counts as often as it is met; a slice's spare places count too). A statement '..UptoSaid' is the law's where the arguments, and the package variables that the reading takes, are together of bulk at most 1048576: NARROWER than '..Said'. Prove '..Said' where nothing that the law and all that it calls make is longer than what came in: it says more and counts as full. Else prove '..UptoSaid'. A law counts once. -/
mutual
def uptoBulk {H : Type} : DataW H → Nat
  | .lit (.string bytes) => bytes.length + 1
  | .lit _ => 1
  | .nil => 1
  | .ptr d => uptoBulk d + 1
  | .slice elems spare => uptoBulkAll elems + uptoBulkAll spare + 1
  | .agg parts => uptoBulkAll parts + 1
  | .iface _ d => uptoBulk d + 1
  | .map entries => uptoBulkEntries entries + 1
  | .held _ => 1
def uptoBulkAll {H : Type} : List (DataW H) → Nat
  | [] => 0
  | d :: r => uptoBulk d + uptoBulkAll r
def uptoBulkEntries {H : Type} : List (Lit × DataW H) → Nat
  | [] => 0
  | x :: r => uptoBulkEntry x + uptoBulkEntries r
def uptoBulkEntry {H : Type} : Lit × DataW H → Nat
  | (.string bytes, d) => bytes.length + uptoBulk d + 1
  | (_, d) => uptoBulk d + 1
 end
def uptoSmall : (H : Type) → List (DataW H) → Bool := fun _ ds => decide (uptoBulkAll ds ≤ 1048576)
def OpenSpec.upto (s : _root_.Go.ChangeSpec) : _root_.Go.OpenSpec := { _root_.Go.OpenSpec.ofChange s with cond := some uptoSmall }

/-- 'stanchionlaw03.MacHmacs', WHERE WHAT IT READS IS OF BULK AT MOST 1048576: true; the input reads as it did. -/
def macHmacsUptoRow : OpenClaim := { program := "ytlahipbilbibiaa", sum := "37edfe6f5bd5f6c308b5dc17221dec8e699605954bb86cf0f94065ff18b8cb4d", func := "stanchion/stanchionlaw03.MacHmacs", spec := "macHmacs", unfollowed := true, recurses := true, apart := false, narrowed := true }
def MacHmacsUptoSaid : Prop := macHmacsUptoRow.holds Try.pinned (OpenSpec.upto macHmacsSpec)

/-- 'stanchionlaw03.MacKeys', WHERE WHAT IT READS IS OF BULK AT MOST 1048576: true; the input reads as it did. -/
def macKeysUptoRow : OpenClaim := { program := "ytlahipbilbibiaa", sum := "37edfe6f5bd5f6c308b5dc17221dec8e699605954bb86cf0f94065ff18b8cb4d", func := "stanchion/stanchionlaw03.MacKeys", spec := "macKeys", unfollowed := true, recurses := true, apart := false, narrowed := true }
def MacKeysUptoSaid : Prop := macKeysUptoRow.holds Try.pinned (OpenSpec.upto macKeysSpec)

/-- 'stanchionlaw03.MacSeals', WHERE WHAT IT READS IS OF BULK AT MOST 1048576: true; the input reads as it did. -/
def macSealsUptoRow : OpenClaim := { program := "ytlahipbilbibiaa", sum := "37edfe6f5bd5f6c308b5dc17221dec8e699605954bb86cf0f94065ff18b8cb4d", func := "stanchion/stanchionlaw03.MacSeals", spec := "macSeals", unfollowed := true, recurses := true, apart := false, narrowed := true }
def MacSealsUptoSaid : Prop := macSealsUptoRow.holds Try.pinned (OpenSpec.upto macSealsSpec)

/-- 'stanchionlaw03.MacOpens', WHERE WHAT IT READS IS OF BULK AT MOST 1048576: true; the input reads as it did. -/
def macOpensUptoRow : OpenClaim := { program := "ytlahipbilbibiaa", sum := "37edfe6f5bd5f6c308b5dc17221dec8e699605954bb86cf0f94065ff18b8cb4d", func := "stanchion/stanchionlaw03.MacOpens", spec := "macOpens", unfollowed := true, recurses := true, apart := false, narrowed := true }
def MacOpensUptoSaid : Prop := macOpensUptoRow.holds Try.pinned (OpenSpec.upto macOpensSpec)

/-- 'stanchionlaw03.MacReads', WHERE WHAT IT READS IS OF BULK AT MOST 1048576: true; the input reads as it did. -/
def macReadsUptoRow : OpenClaim := { program := "ytlahipbilbibiaa", sum := "37edfe6f5bd5f6c308b5dc17221dec8e699605954bb86cf0f94065ff18b8cb4d", func := "stanchion/stanchionlaw03.MacReads", spec := "macReads", unfollowed := true, recurses := true, apart := false, narrowed := true }
def MacReadsUptoSaid : Prop := macReadsUptoRow.holds Try.pinned (OpenSpec.upto macReadsSpec)

/-- 'stanchionlaw03.MacZeros', WHERE WHAT IT READS IS OF BULK AT MOST 1048576: true; the input reads as it did. -/
def macZerosUptoRow : OpenClaim := { program := "ytlahipbilbibiaa", sum := "37edfe6f5bd5f6c308b5dc17221dec8e699605954bb86cf0f94065ff18b8cb4d", func := "stanchion/stanchionlaw03.MacZeros", spec := "macZeros", unfollowed := true, recurses := true, apart := false, narrowed := true }
def MacZerosUptoSaid : Prop := macZerosUptoRow.holds Try.pinned (OpenSpec.upto macZerosSpec)

/-- 'stanchionlaw03.MacTurns', WHERE WHAT IT READS IS OF BULK AT MOST 1048576: true; the input reads as it did. -/
def macTurnsUptoRow : OpenClaim := { program := "ytlahipbilbibiaa", sum := "37edfe6f5bd5f6c308b5dc17221dec8e699605954bb86cf0f94065ff18b8cb4d", func := "stanchion/stanchionlaw03.MacTurns", spec := "macTurns", unfollowed := true, recurses := true, apart := false, narrowed := true }
def MacTurnsUptoSaid : Prop := macTurnsUptoRow.holds Try.pinned (OpenSpec.upto macTurnsSpec)

end Rows
end Go.Proofs.Ytlahipbilbibiaa
