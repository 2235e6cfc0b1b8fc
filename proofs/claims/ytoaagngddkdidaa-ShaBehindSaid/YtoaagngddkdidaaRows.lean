/-
  No cell of these rows narrows 'for every input' (looked for: loops, veiled, ifaces, maps, wideKeys, modest, calm, conditions, laid).
  DERIVED. THE GIVEN ROWS OF THIS SEAT. 4 by the template 'for every input the law returns true; each argument reads behind the call as it read before'; 0 by the template 'total and deterministic' (their statements: YtoaagngddkdidaaTotals.lean).
  GIVEN WITH THE SEED: the statements are not yours to turn. If you find one false, say at which input.
  Laid BY PROGRAM, IN A SANDBOX (cutbox-rows.mjs): the forced cells as the released guide's own fill.sh prints them over the translation b6780146f415b50f… (all of the seat's roots in one cut). By AI agents, Wed Nov 11 2026. No macro, syntax, notation, axiom, sorry.
-/
import Derived.Test.YtoaagngddkdidaaChecked
import GoSem.Claim
import GoSem.ClaimJoined
import GoSem.ClaimMapViews
import Derived.JoinedTies
import Derived.KernelRfl
namespace Go.Proofs.Ytoaagngddkdidaa
/- THE CELL 'sum', in the pinned program and in every row, IS THE sha256 OF THE DUMP (.gsa) THAT YtoaagngddkdidaaProg.lean LOADS. Nothing in Lean hashes anything: it is a label: what it is worth is what the hold of that sum in a sandbox is worth. -/
noncomputable def Try.pinned : Pinned := { name := "ytoaagngddkdidaa", sum := "b6780146f415b50f4624cd2f22237b8ac9ba5ed81eceed92dd1809910f063f4e", checked := Try.checked }
namespace Rows
def none {H : Type} : Left H := { results := [], args := [] }

/-- 'stanchionlaw02.ShaSums': WHATEVER THE INPUT: true; the input reads as it did. -/
def shaSumsSpec : ChangeSpec := { name := "shaSums", fn := fun _ => fun
  | [d] => { results := [.lit (.bool true)], args := [d] }
  | _ => none }
def shaSumsRow : OpenClaim := { program := "ytoaagngddkdidaa", sum := "b6780146f415b50f4624cd2f22237b8ac9ba5ed81eceed92dd1809910f063f4e", func := "stanchion/stanchionlaw02.ShaSums", spec := "shaSums", unfollowed := true, recurses := true, apart := false }
def ShaSumsSaid : Prop := shaSumsRow.holds Try.pinned (OpenSpec.ofChange shaSumsSpec)

/-- ITS FALSE NEIGHBOUR: 'it returns false'. Refute it at one input. -/
def shaSumsWrong : ChangeSpec := { name := "shaSums", fn := fun _ => fun
  | [d] => { results := [.lit (.bool false)], args := [d] }
  | _ => none }
def ShaSumsWrongFalsely : Prop := shaSumsRow.holds Try.pinned (OpenSpec.ofChange shaSumsWrong)

/-- 'stanchionlaw02.ShaHexes': WHATEVER THE INPUT: true; the input reads as it did. -/
def shaHexesSpec : ChangeSpec := { name := "shaHexes", fn := fun _ => fun
  | [d] => { results := [.lit (.bool true)], args := [d] }
  | _ => none }
def shaHexesRow : OpenClaim := { program := "ytoaagngddkdidaa", sum := "b6780146f415b50f4624cd2f22237b8ac9ba5ed81eceed92dd1809910f063f4e", func := "stanchion/stanchionlaw02.ShaHexes", spec := "shaHexes", unfollowed := true, recurses := true, apart := false }
def ShaHexesSaid : Prop := shaHexesRow.holds Try.pinned (OpenSpec.ofChange shaHexesSpec)

/-- ITS FALSE NEIGHBOUR: 'it returns false'. Refute it at one input. -/
def shaHexesWrong : ChangeSpec := { name := "shaHexes", fn := fun _ => fun
  | [d] => { results := [.lit (.bool false)], args := [d] }
  | _ => none }
def ShaHexesWrongFalsely : Prop := shaHexesRow.holds Try.pinned (OpenSpec.ofChange shaHexesWrong)

/-- 'stanchionlaw02.ShaParts': WHATEVER THE INPUT: true; the input reads as it did. -/
def shaPartsSpec : ChangeSpec := { name := "shaParts", fn := fun _ => fun
  | [d1, d2] => { results := [.lit (.bool true)], args := [d1, d2] }
  | _ => none }
def shaPartsRow : OpenClaim := { program := "ytoaagngddkdidaa", sum := "b6780146f415b50f4624cd2f22237b8ac9ba5ed81eceed92dd1809910f063f4e", func := "stanchion/stanchionlaw02.ShaParts", spec := "shaParts", unfollowed := true, recurses := true, apart := false }
def ShaPartsSaid : Prop := shaPartsRow.holds Try.pinned (OpenSpec.ofChange shaPartsSpec)

/-- ITS FALSE NEIGHBOUR: 'it returns false'. Refute it at one input. -/
def shaPartsWrong : ChangeSpec := { name := "shaParts", fn := fun _ => fun
  | [d1, d2] => { results := [.lit (.bool false)], args := [d1, d2] }
  | _ => none }
def ShaPartsWrongFalsely : Prop := shaPartsRow.holds Try.pinned (OpenSpec.ofChange shaPartsWrong)

/-- 'stanchionlaw02.ShaBehind': WHATEVER THE INPUT: true; the input reads as it did. -/
def shaBehindSpec : ChangeSpec := { name := "shaBehind", fn := fun _ => fun
  | [d1, d2] => { results := [.lit (.bool true)], args := [d1, d2] }
  | _ => none }
def shaBehindRow : OpenClaim := { program := "ytoaagngddkdidaa", sum := "b6780146f415b50f4624cd2f22237b8ac9ba5ed81eceed92dd1809910f063f4e", func := "stanchion/stanchionlaw02.ShaBehind", spec := "shaBehind", unfollowed := true, recurses := true, apart := false }
def ShaBehindSaid : Prop := shaBehindRow.holds Try.pinned (OpenSpec.ofChange shaBehindSpec)

/-- ITS FALSE NEIGHBOUR: 'it returns false'. Refute it at one input. -/
def shaBehindWrong : ChangeSpec := { name := "shaBehind", fn := fun _ => fun
  | [d1, d2] => { results := [.lit (.bool false)], args := [d1, d2] }
  | _ => none }
def ShaBehindWrongFalsely : Prop := shaBehindRow.holds Try.pinned (OpenSpec.ofChange shaBehindWrong)

/- THE SECOND FORM. 'bulk': how many values and letters a reading holds, each counted each time it is reached (what is shared counts as often as it is met; a slice's spare places count too). A statement '..UptoSaid' is the law's where the arguments, and the package variables that the reading takes, are together of bulk at most 1048576: NARROWER than '..Said'. Prove '..Said' where nothing that the law and all that it calls make is longer than what came in: it says more and counts as full. Else prove '..UptoSaid'. A law counts once. -/
mutual
def uptoBulk {H : Type} : DataW H → Nat
  | .lit (.string bytes) => bytes.length + 1
  | .lit _ => 1
  | .nil => 1
  | .ptr d => uptoBulk d + 1
  | .slice elems spare => uptoBulkAll elems + uptoBulkAll spare + 1
  | .agg parts => uptoBulkAll parts + 1
  | .iface _ d => uptoBulk d + 1
  | .map entries => uptoBulkEntries entries + 1
  | .held _ => 1
def uptoBulkAll {H : Type} : List (DataW H) → Nat
  | [] => 0
  | d :: r => uptoBulk d + uptoBulkAll r
def uptoBulkEntries {H : Type} : List (Lit × DataW H) → Nat
  | [] => 0
  | x :: r => uptoBulkEntry x + uptoBulkEntries r
def uptoBulkEntry {H : Type} : Lit × DataW H → Nat
  | (.string bytes, d) => bytes.length + uptoBulk d + 1
  | (_, d) => uptoBulk d + 1
 end
def uptoSmall : (H : Type) → List (DataW H) → Bool := fun _ ds => decide (uptoBulkAll ds ≤ 1048576)
def OpenSpec.upto (s : _root_.Go.ChangeSpec) : _root_.Go.OpenSpec := { _root_.Go.OpenSpec.ofChange s with cond := some uptoSmall }

/-- 'stanchionlaw02.ShaSums', WHERE WHAT IT READS IS OF BULK AT MOST 1048576: true; the input reads as it did. -/
def shaSumsUptoRow : OpenClaim := { program := "ytoaagngddkdidaa", sum := "b6780146f415b50f4624cd2f22237b8ac9ba5ed81eceed92dd1809910f063f4e", func := "stanchion/stanchionlaw02.ShaSums", spec := "shaSums", unfollowed := true, recurses := true, apart := false, narrowed := true }
def ShaSumsUptoSaid : Prop := shaSumsUptoRow.holds Try.pinned (OpenSpec.upto shaSumsSpec)

/-- 'stanchionlaw02.ShaHexes', WHERE WHAT IT READS IS OF BULK AT MOST 1048576: true; the input reads as it did. -/
def shaHexesUptoRow : OpenClaim := { program := "ytoaagngddkdidaa", sum := "b6780146f415b50f4624cd2f22237b8ac9ba5ed81eceed92dd1809910f063f4e", func := "stanchion/stanchionlaw02.ShaHexes", spec := "shaHexes", unfollowed := true, recurses := true, apart := false, narrowed := true }
def ShaHexesUptoSaid : Prop := shaHexesUptoRow.holds Try.pinned (OpenSpec.upto shaHexesSpec)

/-- 'stanchionlaw02.ShaParts', WHERE WHAT IT READS IS OF BULK AT MOST 1048576: true; the input reads as it did. -/
def shaPartsUptoRow : OpenClaim := { program := "ytoaagngddkdidaa", sum := "b6780146f415b50f4624cd2f22237b8ac9ba5ed81eceed92dd1809910f063f4e", func := "stanchion/stanchionlaw02.ShaParts", spec := "shaParts", unfollowed := true, recurses := true, apart := false, narrowed := true }
def ShaPartsUptoSaid : Prop := shaPartsUptoRow.holds Try.pinned (OpenSpec.upto shaPartsSpec)

/-- 'stanchionlaw02.ShaBehind', WHERE WHAT IT READS IS OF BULK AT MOST 1048576: true; the input reads as it did. -/
def shaBehindUptoRow : OpenClaim := { program := "ytoaagngddkdidaa", sum := "b6780146f415b50f4624cd2f22237b8ac9ba5ed81eceed92dd1809910f063f4e", func := "stanchion/stanchionlaw02.ShaBehind", spec := "shaBehind", unfollowed := true, recurses := true, apart := false, narrowed := true }
def ShaBehindUptoSaid : Prop := shaBehindUptoRow.holds Try.pinned (OpenSpec.upto shaBehindSpec)

end Rows
end Go.Proofs.Ytoaagngddkdidaa
