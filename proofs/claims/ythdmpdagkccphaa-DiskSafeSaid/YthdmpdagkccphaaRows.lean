/-
  No cell of these rows narrows 'for every input' (looked for: loops, veiled, ifaces, maps, wideKeys, modest, calm, conditions, laid).
  DERIVED. THE GIVEN ROWS OF THIS SEAT. 6 by the template 'for every input the law returns true; each argument reads behind the call as it read before'; 0 by the template 'total and deterministic' (their statements: YthdmpdagkccphaaTotals.lean).
  GIVEN WITH THE SEED: the statements are not yours to turn. If you find one false, say at which input.
  Laid BY PROGRAM, IN A SANDBOX (cutbox-rows.mjs): the forced cells as the released guide's own fill.sh prints them over the translation 992a579e3b7337a6… (all of the seat's roots in one cut). By AI agents, Wed Nov 11 2026. No macro, syntax, notation, axiom, sorry.
-/
import Derived.Test.YthdmpdagkccphaaChecked
import GoSem.Claim
import GoSem.ClaimJoined
import GoSem.ClaimMapViews
import Derived.JoinedTies
import Derived.KernelRfl
namespace Go.Proofs.Ythdmpdagkccphaa
/- THE CELL 'sum', in the pinned program and in every row, IS THE sha256 OF THE DUMP (.gsa) THAT YthdmpdagkccphaaProg.lean LOADS. Nothing in Lean hashes anything: it is a label: what it is worth is what the hold of that sum in a sandbox is worth. -/
noncomputable def Try.pinned : Pinned := { name := "ythdmpdagkccphaa", sum := "992a579e3b7337a6b39bf933568c271a9842d307af0fff277b4065268c7d8d0e", checked := Try.checked }
namespace Rows
def none {H : Type} : Left H := { results := [], args := [] }

/-- 'stanchionlaw04.DiskMemory': WHATEVER THE INPUT: true; the input reads as it did. -/
def diskMemorySpec : ChangeSpec := { name := "diskMemory", fn := fun _ => fun
  | [d1, d2] => { results := [.lit (.bool true)], args := [d1, d2] }
  | _ => none }
def diskMemoryRow : OpenClaim := { program := "ythdmpdagkccphaa", sum := "992a579e3b7337a6b39bf933568c271a9842d307af0fff277b4065268c7d8d0e", func := "stanchion/stanchionlaw04.DiskMemory", spec := "diskMemory", unfollowed := true, recurses := true, apart := false }
def DiskMemorySaid : Prop := diskMemoryRow.holds Try.pinned (OpenSpec.ofChange diskMemorySpec)

/-- ITS FALSE NEIGHBOUR: 'it returns false'. Refute it at one input. -/
def diskMemoryWrong : ChangeSpec := { name := "diskMemory", fn := fun _ => fun
  | [d1, d2] => { results := [.lit (.bool false)], args := [d1, d2] }
  | _ => none }
def DiskMemoryWrongFalsely : Prop := diskMemoryRow.holds Try.pinned (OpenSpec.ofChange diskMemoryWrong)

/-- 'stanchionlaw04.DiskSteps': WHATEVER THE INPUT: true; the input reads as it did. -/
def diskStepsSpec : ChangeSpec := { name := "diskSteps", fn := fun _ => fun
  | [d1, d2] => { results := [.lit (.bool true)], args := [d1, d2] }
  | _ => none }
def diskStepsRow : OpenClaim := { program := "ythdmpdagkccphaa", sum := "992a579e3b7337a6b39bf933568c271a9842d307af0fff277b4065268c7d8d0e", func := "stanchion/stanchionlaw04.DiskSteps", spec := "diskSteps", unfollowed := true, recurses := true, apart := false }
def DiskStepsSaid : Prop := diskStepsRow.holds Try.pinned (OpenSpec.ofChange diskStepsSpec)

/-- ITS FALSE NEIGHBOUR: 'it returns false'. Refute it at one input. -/
def diskStepsWrong : ChangeSpec := { name := "diskSteps", fn := fun _ => fun
  | [d1, d2] => { results := [.lit (.bool false)], args := [d1, d2] }
  | _ => none }
def DiskStepsWrongFalsely : Prop := diskStepsRow.holds Try.pinned (OpenSpec.ofChange diskStepsWrong)

/-- 'stanchionlaw04.DiskSafe': WHATEVER THE INPUT: true; the input reads as it did. -/
def diskSafeSpec : ChangeSpec := { name := "diskSafe", fn := fun _ => fun
  | [d1, d2, d3, d4] => { results := [.lit (.bool true)], args := [d1, d2, d3, d4] }
  | _ => none }
def diskSafeRow : OpenClaim := { program := "ythdmpdagkccphaa", sum := "992a579e3b7337a6b39bf933568c271a9842d307af0fff277b4065268c7d8d0e", func := "stanchion/stanchionlaw04.DiskSafe", spec := "diskSafe", unfollowed := true, recurses := true, apart := false }
def DiskSafeSaid : Prop := diskSafeRow.holds Try.pinned (OpenSpec.ofChange diskSafeSpec)

/-- ITS FALSE NEIGHBOUR: 'it returns false'. Refute it at one input. -/
def diskSafeWrong : ChangeSpec := { name := "diskSafe", fn := fun _ => fun
  | [d1, d2, d3, d4] => { results := [.lit (.bool false)], args := [d1, d2, d3, d4] }
  | _ => none }
def DiskSafeWrongFalsely : Prop := diskSafeRow.holds Try.pinned (OpenSpec.ofChange diskSafeWrong)

/-- 'stanchionlaw04.DiskPower': WHATEVER THE INPUT: true; the input reads as it did. -/
def diskPowerSpec : ChangeSpec := { name := "diskPower", fn := fun _ => fun
  | [d1, d2] => { results := [.lit (.bool true)], args := [d1, d2] }
  | _ => none }
def diskPowerRow : OpenClaim := { program := "ythdmpdagkccphaa", sum := "992a579e3b7337a6b39bf933568c271a9842d307af0fff277b4065268c7d8d0e", func := "stanchion/stanchionlaw04.DiskPower", spec := "diskPower", unfollowed := true, recurses := true, apart := false }
def DiskPowerSaid : Prop := diskPowerRow.holds Try.pinned (OpenSpec.ofChange diskPowerSpec)

/-- ITS FALSE NEIGHBOUR: 'it returns false'. Refute it at one input. -/
def diskPowerWrong : ChangeSpec := { name := "diskPower", fn := fun _ => fun
  | [d1, d2] => { results := [.lit (.bool false)], args := [d1, d2] }
  | _ => none }
def DiskPowerWrongFalsely : Prop := diskPowerRow.holds Try.pinned (OpenSpec.ofChange diskPowerWrong)

/-- 'stanchionlaw04.DiskAreas': WHATEVER THE INPUT: true; the input reads as it did. -/
def diskAreasSpec : ChangeSpec := { name := "diskAreas", fn := fun _ => fun
  | [d1, d2, d3] => { results := [.lit (.bool true)], args := [d1, d2, d3] }
  | _ => none }
def diskAreasRow : OpenClaim := { program := "ythdmpdagkccphaa", sum := "992a579e3b7337a6b39bf933568c271a9842d307af0fff277b4065268c7d8d0e", func := "stanchion/stanchionlaw04.DiskAreas", spec := "diskAreas", unfollowed := true, recurses := true, apart := false }
def DiskAreasSaid : Prop := diskAreasRow.holds Try.pinned (OpenSpec.ofChange diskAreasSpec)

/-- ITS FALSE NEIGHBOUR: 'it returns false'. Refute it at one input. -/
def diskAreasWrong : ChangeSpec := { name := "diskAreas", fn := fun _ => fun
  | [d1, d2, d3] => { results := [.lit (.bool false)], args := [d1, d2, d3] }
  | _ => none }
def DiskAreasWrongFalsely : Prop := diskAreasRow.holds Try.pinned (OpenSpec.ofChange diskAreasWrong)

/-- 'stanchionlaw04.DiskTrims': WHATEVER THE INPUT: true; the input reads as it did. -/
def diskTrimsSpec : ChangeSpec := { name := "diskTrims", fn := fun _ => fun
  | [d1, d2, d3] => { results := [.lit (.bool true)], args := [d1, d2, d3] }
  | _ => none }
def diskTrimsRow : OpenClaim := { program := "ythdmpdagkccphaa", sum := "992a579e3b7337a6b39bf933568c271a9842d307af0fff277b4065268c7d8d0e", func := "stanchion/stanchionlaw04.DiskTrims", spec := "diskTrims", unfollowed := true, recurses := true, apart := false }
def DiskTrimsSaid : Prop := diskTrimsRow.holds Try.pinned (OpenSpec.ofChange diskTrimsSpec)

/-- ITS FALSE NEIGHBOUR: 'it returns false'. Refute it at one input. -/
def diskTrimsWrong : ChangeSpec := { name := "diskTrims", fn := fun _ => fun
  | [d1, d2, d3] => { results := [.lit (.bool false)], args := [d1, d2, d3] }
  | _ => none }
def DiskTrimsWrongFalsely : Prop := diskTrimsRow.holds Try.pinned (OpenSpec.ofChange diskTrimsWrong)

/- THE SECOND FORM. 'bulk': how many values and letters a reading holds, each counted each time it is reached (what is shared counts as often as it is met; a slice's spare places count too). A statement '..UptoSaid' is the law's where the arguments, and the package variables that the reading takes, are together of bulk at most 1048576: NARROWER than '..Said'. Prove '..Said' where nothing that the law and all that it calls make is longer than what came in: it says more and counts as full. Else prove '..UptoSaid'. A law counts once. -/
mutual
def uptoBulk {H : Type} : DataW H → Nat
  | .lit (.string bytes) => bytes.length + 1
  | .lit _ => 1
  | .nil => 1
  | .ptr d => uptoBulk d + 1
  | .slice elems spare => uptoBulkAll elems + uptoBulkAll spare + 1
  | .agg parts => uptoBulkAll parts + 1
  | .iface _ d => uptoBulk d + 1
  | .map entries => uptoBulkEntries entries + 1
  | .held _ => 1
def uptoBulkAll {H : Type} : List (DataW H) → Nat
  | [] => 0
  | d :: r => uptoBulk d + uptoBulkAll r
def uptoBulkEntries {H : Type} : List (Lit × DataW H) → Nat
  | [] => 0
  | x :: r => uptoBulkEntry x + uptoBulkEntries r
def uptoBulkEntry {H : Type} : Lit × DataW H → Nat
  | (.string bytes, d) => bytes.length + uptoBulk d + 1
  | (_, d) => uptoBulk d + 1
 end
def uptoSmall : (H : Type) → List (DataW H) → Bool := fun _ ds => decide (uptoBulkAll ds ≤ 1048576)
def OpenSpec.upto (s : _root_.Go.ChangeSpec) : _root_.Go.OpenSpec := { _root_.Go.OpenSpec.ofChange s with cond := some uptoSmall }

/-- 'stanchionlaw04.DiskMemory', WHERE WHAT IT READS IS OF BULK AT MOST 1048576: true; the input reads as it did. -/
def diskMemoryUptoRow : OpenClaim := { program := "ythdmpdagkccphaa", sum := "992a579e3b7337a6b39bf933568c271a9842d307af0fff277b4065268c7d8d0e", func := "stanchion/stanchionlaw04.DiskMemory", spec := "diskMemory", unfollowed := true, recurses := true, apart := false, narrowed := true }
def DiskMemoryUptoSaid : Prop := diskMemoryUptoRow.holds Try.pinned (OpenSpec.upto diskMemorySpec)

/-- 'stanchionlaw04.DiskSteps', WHERE WHAT IT READS IS OF BULK AT MOST 1048576: true; the input reads as it did. -/
def diskStepsUptoRow : OpenClaim := { program := "ythdmpdagkccphaa", sum := "992a579e3b7337a6b39bf933568c271a9842d307af0fff277b4065268c7d8d0e", func := "stanchion/stanchionlaw04.DiskSteps", spec := "diskSteps", unfollowed := true, recurses := true, apart := false, narrowed := true }
def DiskStepsUptoSaid : Prop := diskStepsUptoRow.holds Try.pinned (OpenSpec.upto diskStepsSpec)

/-- 'stanchionlaw04.DiskSafe', WHERE WHAT IT READS IS OF BULK AT MOST 1048576: true; the input reads as it did. -/
def diskSafeUptoRow : OpenClaim := { program := "ythdmpdagkccphaa", sum := "992a579e3b7337a6b39bf933568c271a9842d307af0fff277b4065268c7d8d0e", func := "stanchion/stanchionlaw04.DiskSafe", spec := "diskSafe", unfollowed := true, recurses := true, apart := false, narrowed := true }
def DiskSafeUptoSaid : Prop := diskSafeUptoRow.holds Try.pinned (OpenSpec.upto diskSafeSpec)

/-- 'stanchionlaw04.DiskPower', WHERE WHAT IT READS IS OF BULK AT MOST 1048576: true; the input reads as it did. -/
def diskPowerUptoRow : OpenClaim := { program := "ythdmpdagkccphaa", sum := "992a579e3b7337a6b39bf933568c271a9842d307af0fff277b4065268c7d8d0e", func := "stanchion/stanchionlaw04.DiskPower", spec := "diskPower", unfollowed := true, recurses := true, apart := false, narrowed := true }
def DiskPowerUptoSaid : Prop := diskPowerUptoRow.holds Try.pinned (OpenSpec.upto diskPowerSpec)

/-- 'stanchionlaw04.DiskAreas', WHERE WHAT IT READS IS OF BULK AT MOST 1048576: true; the input reads as it did. -/
def diskAreasUptoRow : OpenClaim := { program := "ythdmpdagkccphaa", sum := "992a579e3b7337a6b39bf933568c271a9842d307af0fff277b4065268c7d8d0e", func := "stanchion/stanchionlaw04.DiskAreas", spec := "diskAreas", unfollowed := true, recurses := true, apart := false, narrowed := true }
def DiskAreasUptoSaid : Prop := diskAreasUptoRow.holds Try.pinned (OpenSpec.upto diskAreasSpec)

/-- 'stanchionlaw04.DiskTrims', WHERE WHAT IT READS IS OF BULK AT MOST 1048576: true; the input reads as it did. -/
def diskTrimsUptoRow : OpenClaim := { program := "ythdmpdagkccphaa", sum := "992a579e3b7337a6b39bf933568c271a9842d307af0fff277b4065268c7d8d0e", func := "stanchion/stanchionlaw04.DiskTrims", spec := "diskTrims", unfollowed := true, recurses := true, apart := false, narrowed := true }
def DiskTrimsUptoSaid : Prop := diskTrimsUptoRow.holds Try.pinned (OpenSpec.upto diskTrimsSpec)

end Rows
end Go.Proofs.Ythdmpdagkccphaa
