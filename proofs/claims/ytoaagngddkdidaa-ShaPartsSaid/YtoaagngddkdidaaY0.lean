/- What is handed in, read as types say. Printed by a program of this work. -/
import Derived.Test.YtoaagngddkdidaaTa
import Derived.Test.YtoaagngddkdidaaAmA
import Derived.Test.YtoaagngddkdidaaAlV
set_option linter.unusedVariables false
set_option linter.unusedSimpArgs false
set_option maxRecDepth 100000
namespace Go.Proofs.Ytoaagngddkdidaa
open Go Go.Al
theorem cells5 : Try.prog.cellsOf 5 = 1 := by kernel_rfl
theorem bytes5 : Try.prog.bytesOf 5 = 1 := by kernel_rfl
def ok25 (l : ((.list (.int .u8)) : Ty).den) : Prop := (∀ x ∈ l, (Lit.int .u8 x).wf = true) ∧ l.length * 1 ≤ reachBytes
theorem opens25 : LOpens Try.prog 25 ((.list (.int .u8)) : Ty).lay ok25 := by
  have := lopens_S Try.underlying25 (L := ((.int .u8) : Ty).lay) cells5 (lopens_I Try.underlying5)
  rw [bytes5] at this; exact this
theorem cells25 : Try.prog.cellsOf 25 = 1 := by kernel_rfl
theorem bytes25 : Try.prog.bytesOf 25 = 24 := by kernel_rfl
def ok22 (l : ((.list (.list (.int .u8))) : Ty).den) : Prop := (∀ x ∈ l, ok25 x) ∧ l.length * 24 ≤ reachBytes
theorem opens22 : LOpens Try.prog 22 ((.list (.list (.int .u8))) : Ty).lay ok22 := by
  have := lopens_S Try.underlying22 (L := ((.list (.int .u8)) : Ty).lay) cells25 opens25
  rw [bytes25] at this; exact this
theorem cells3 : Try.prog.cellsOf 3 = 1 := by kernel_rfl
theorem bytes3 : Try.prog.bytesOf 3 = 8 := by kernel_rfl
def ok34 (l : ((.list (.int .i64)) : Ty).den) : Prop := (∀ x ∈ l, (Lit.int .i64 x).wf = true) ∧ l.length * 8 ≤ reachBytes
theorem opens34 : LOpens Try.prog 34 ((.list (.int .i64)) : Ty).lay ok34 := by
  have := lopens_S Try.underlying34 (L := ((.int .i64) : Ty).lay) cells3 (lopens_I Try.underlying3)
  rw [bytes3] at this; exact this
end Go.Proofs.Ytoaagngddkdidaa
