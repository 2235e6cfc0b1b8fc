/-
  No cell of these rows narrows 'for every input' (looked for: loops, veiled, ifaces, maps, wideKeys, modest, calm, conditions, laid).
  DERIVED. THE GIVEN ROWS OF THIS SEAT. 5 by the template 'for every input the law returns true; each argument reads behind the call as it read before'; 0 by the template 'total and deterministic' (their statements: YtejlgalnkblndaaTotals.lean).
  GIVEN WITH THE SEED: the statements are not yours to turn. If you find one false, say at which input.
  Laid BY PROGRAM, IN A SANDBOX (cutbox-rows.mjs): the forced cells as the released guide's own fill.sh prints them over the translation 0cade1157cb80ad3… (all of the seat's roots in one cut). By AI agents, Wed Nov 11 2026. No macro, syntax, notation, axiom, sorry.
-/
import Derived.Test.YtejlgalnkblndaaChecked
import GoSem.Claim
import GoSem.ClaimJoined
import GoSem.ClaimMapViews
import Derived.JoinedTies
import Derived.KernelRfl
namespace Go.Proofs.Ytejlgalnkblndaa
/- THE CELL 'sum', in the pinned program and in every row, IS THE sha256 OF THE DUMP (.gsa) THAT YtejlgalnkblndaaProg.lean LOADS. Nothing in Lean hashes anything: it is a label: what it is worth is what the hold of that sum in a sandbox is worth. -/
noncomputable def Try.pinned : Pinned := { name := "ytejlgalnkblndaa", sum := "0cade1157cb80ad37be5df7aa46e414b0a5db5f0c00501697f4bb881cfa145e6", checked := Try.checked }
namespace Rows
def none {H : Type} : Left H := { results := [], args := [] }

/-- 'stanchionlaw06.ConfAnswers': WHATEVER THE INPUT: true; the input reads as it did. -/
def confAnswersSpec : ChangeSpec := { name := "confAnswers", fn := fun _ => fun
  | [d1, d2, d3, d4] => { results := [.lit (.bool true)], args := [d1, d2, d3, d4] }
  | _ => none }
def confAnswersRow : OpenClaim := { program := "ytejlgalnkblndaa", sum := "0cade1157cb80ad37be5df7aa46e414b0a5db5f0c00501697f4bb881cfa145e6", func := "stanchion/stanchionlaw06.ConfAnswers", spec := "confAnswers", apart := false }
def ConfAnswersSaid : Prop := confAnswersRow.holds Try.pinned (OpenSpec.ofChange confAnswersSpec)

/-- ITS FALSE NEIGHBOUR: 'it returns false'. Refute it at one input. -/
def confAnswersWrong : ChangeSpec := { name := "confAnswers", fn := fun _ => fun
  | [d1, d2, d3, d4] => { results := [.lit (.bool false)], args := [d1, d2, d3, d4] }
  | _ => none }
def ConfAnswersWrongFalsely : Prop := confAnswersRow.holds Try.pinned (OpenSpec.ofChange confAnswersWrong)

/-- 'stanchionlaw06.ConfIds': WHATEVER THE INPUT: true; the input reads as it did. -/
def confIdsSpec : ChangeSpec := { name := "confIds", fn := fun _ => fun
  | [d1, d2] => { results := [.lit (.bool true)], args := [d1, d2] }
  | _ => none }
def confIdsRow : OpenClaim := { program := "ytejlgalnkblndaa", sum := "0cade1157cb80ad37be5df7aa46e414b0a5db5f0c00501697f4bb881cfa145e6", func := "stanchion/stanchionlaw06.ConfIds", spec := "confIds", apart := false }
def ConfIdsSaid : Prop := confIdsRow.holds Try.pinned (OpenSpec.ofChange confIdsSpec)

/-- ITS FALSE NEIGHBOUR: 'it returns false'. Refute it at one input. -/
def confIdsWrong : ChangeSpec := { name := "confIds", fn := fun _ => fun
  | [d1, d2] => { results := [.lit (.bool false)], args := [d1, d2] }
  | _ => none }
def ConfIdsWrongFalsely : Prop := confIdsRow.holds Try.pinned (OpenSpec.ofChange confIdsWrong)

/-- 'stanchionlaw06.ConfMeets': WHATEVER THE INPUT: true; the input reads as it did. -/
def confMeetsSpec : ChangeSpec := { name := "confMeets", fn := fun _ => fun
  | [d] => { results := [.lit (.bool true)], args := [d] }
  | _ => none }
def confMeetsRow : OpenClaim := { program := "ytejlgalnkblndaa", sum := "0cade1157cb80ad37be5df7aa46e414b0a5db5f0c00501697f4bb881cfa145e6", func := "stanchion/stanchionlaw06.ConfMeets", spec := "confMeets", apart := false }
def ConfMeetsSaid : Prop := confMeetsRow.holds Try.pinned (OpenSpec.ofChange confMeetsSpec)

/-- ITS FALSE NEIGHBOUR: 'it returns false'. Refute it at one input. -/
def confMeetsWrong : ChangeSpec := { name := "confMeets", fn := fun _ => fun
  | [d] => { results := [.lit (.bool false)], args := [d] }
  | _ => none }
def ConfMeetsWrongFalsely : Prop := confMeetsRow.holds Try.pinned (OpenSpec.ofChange confMeetsWrong)

/-- 'stanchionlaw06.ConfTurns': WHATEVER THE INPUT: true; the input reads as it did. -/
def confTurnsSpec : ChangeSpec := { name := "confTurns", fn := fun _ => fun
  | [d1, d2] => { results := [.lit (.bool true)], args := [d1, d2] }
  | _ => none }
def confTurnsRow : OpenClaim := { program := "ytejlgalnkblndaa", sum := "0cade1157cb80ad37be5df7aa46e414b0a5db5f0c00501697f4bb881cfa145e6", func := "stanchion/stanchionlaw06.ConfTurns", spec := "confTurns", apart := false }
def ConfTurnsSaid : Prop := confTurnsRow.holds Try.pinned (OpenSpec.ofChange confTurnsSpec)

/-- ITS FALSE NEIGHBOUR: 'it returns false'. Refute it at one input. -/
def confTurnsWrong : ChangeSpec := { name := "confTurns", fn := fun _ => fun
  | [d1, d2] => { results := [.lit (.bool false)], args := [d1, d2] }
  | _ => none }
def ConfTurnsWrongFalsely : Prop := confTurnsRow.holds Try.pinned (OpenSpec.ofChange confTurnsWrong)

/-- 'stanchionlaw06.ConfSums': WHATEVER THE INPUT: true; the input reads as it did. -/
def confSumsSpec : ChangeSpec := { name := "confSums", fn := fun _ => fun
  | [d] => { results := [.lit (.bool true)], args := [d] }
  | _ => none }
def confSumsRow : OpenClaim := { program := "ytejlgalnkblndaa", sum := "0cade1157cb80ad37be5df7aa46e414b0a5db5f0c00501697f4bb881cfa145e6", func := "stanchion/stanchionlaw06.ConfSums", spec := "confSums", apart := false }
def ConfSumsSaid : Prop := confSumsRow.holds Try.pinned (OpenSpec.ofChange confSumsSpec)

/-- ITS FALSE NEIGHBOUR: 'it returns false'. Refute it at one input. -/
def confSumsWrong : ChangeSpec := { name := "confSums", fn := fun _ => fun
  | [d] => { results := [.lit (.bool false)], args := [d] }
  | _ => none }
def ConfSumsWrongFalsely : Prop := confSumsRow.holds Try.pinned (OpenSpec.ofChange confSumsWrong)

/- THE SECOND FORM. 'bulk': how many values and letters a reading holds, each counted each time it is reached (what is shared counts as often as it is met; a slice's spare places count too). A statement '..UptoSaid' is the law's where the arguments, and the package variables that the reading takes, are together of bulk at most 1048576: NARROWER than '..Said'. Prove '..Said' where nothing that the law and all that it calls make is longer than what came in: it says more and counts as full. Else prove '..UptoSaid'. A law counts once. -/
mutual
def uptoBulk {H : Type} : DataW H → Nat
  | .lit (.string bytes) => bytes.length + 1
  | .lit _ => 1
  | .nil => 1
  | .ptr d => uptoBulk d + 1
  | .slice elems spare => uptoBulkAll elems + uptoBulkAll spare + 1
  | .agg parts => uptoBulkAll parts + 1
  | .iface _ d => uptoBulk d + 1
  | .map entries => uptoBulkEntries entries + 1
  | .held _ => 1
def uptoBulkAll {H : Type} : List (DataW H) → Nat
  | [] => 0
  | d :: r => uptoBulk d + uptoBulkAll r
def uptoBulkEntries {H : Type} : List (Lit × DataW H) → Nat
  | [] => 0
  | x :: r => uptoBulkEntry x + uptoBulkEntries r
def uptoBulkEntry {H : Type} : Lit × DataW H → Nat
  | (.string bytes, d) => bytes.length + uptoBulk d + 1
  | (_, d) => uptoBulk d + 1
 end
def uptoSmall : (H : Type) → List (DataW H) → Bool := fun _ ds => decide (uptoBulkAll ds ≤ 1048576)
def OpenSpec.upto (s : _root_.Go.ChangeSpec) : _root_.Go.OpenSpec := { _root_.Go.OpenSpec.ofChange s with cond := some uptoSmall }

/-- 'stanchionlaw06.ConfAnswers', WHERE WHAT IT READS IS OF BULK AT MOST 1048576: true; the input reads as it did. -/
def confAnswersUptoRow : OpenClaim := { program := "ytejlgalnkblndaa", sum := "0cade1157cb80ad37be5df7aa46e414b0a5db5f0c00501697f4bb881cfa145e6", func := "stanchion/stanchionlaw06.ConfAnswers", spec := "confAnswers", apart := false, narrowed := true }
def ConfAnswersUptoSaid : Prop := confAnswersUptoRow.holds Try.pinned (OpenSpec.upto confAnswersSpec)

/-- 'stanchionlaw06.ConfIds', WHERE WHAT IT READS IS OF BULK AT MOST 1048576: true; the input reads as it did. -/
def confIdsUptoRow : OpenClaim := { program := "ytejlgalnkblndaa", sum := "0cade1157cb80ad37be5df7aa46e414b0a5db5f0c00501697f4bb881cfa145e6", func := "stanchion/stanchionlaw06.ConfIds", spec := "confIds", apart := false, narrowed := true }
def ConfIdsUptoSaid : Prop := confIdsUptoRow.holds Try.pinned (OpenSpec.upto confIdsSpec)

/-- 'stanchionlaw06.ConfMeets', WHERE WHAT IT READS IS OF BULK AT MOST 1048576: true; the input reads as it did. -/
def confMeetsUptoRow : OpenClaim := { program := "ytejlgalnkblndaa", sum := "0cade1157cb80ad37be5df7aa46e414b0a5db5f0c00501697f4bb881cfa145e6", func := "stanchion/stanchionlaw06.ConfMeets", spec := "confMeets", apart := false, narrowed := true }
def ConfMeetsUptoSaid : Prop := confMeetsUptoRow.holds Try.pinned (OpenSpec.upto confMeetsSpec)

/-- 'stanchionlaw06.ConfTurns', WHERE WHAT IT READS IS OF BULK AT MOST 1048576: true; the input reads as it did. -/
def confTurnsUptoRow : OpenClaim := { program := "ytejlgalnkblndaa", sum := "0cade1157cb80ad37be5df7aa46e414b0a5db5f0c00501697f4bb881cfa145e6", func := "stanchion/stanchionlaw06.ConfTurns", spec := "confTurns", apart := false, narrowed := true }
def ConfTurnsUptoSaid : Prop := confTurnsUptoRow.holds Try.pinned (OpenSpec.upto confTurnsSpec)

/-- 'stanchionlaw06.ConfSums', WHERE WHAT IT READS IS OF BULK AT MOST 1048576: true; the input reads as it did. -/
def confSumsUptoRow : OpenClaim := { program := "ytejlgalnkblndaa", sum := "0cade1157cb80ad37be5df7aa46e414b0a5db5f0c00501697f4bb881cfa145e6", func := "stanchion/stanchionlaw06.ConfSums", spec := "confSums", apart := false, narrowed := true }
def ConfSumsUptoSaid : Prop := confSumsUptoRow.holds Try.pinned (OpenSpec.upto confSumsSpec)

end Rows
end Go.Proofs.Ytejlgalnkblndaa
