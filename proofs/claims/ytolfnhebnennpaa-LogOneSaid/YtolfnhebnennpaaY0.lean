import Derived.Test.YtolfnhebnennpaaTa
import Derived.Test.YtolfnhebnennpaaAmA
import Derived.Test.YtolfnhebnennpaaAlV
set_option linter.unusedVariables false
set_option linter.unusedSimpArgs false
set_option maxRecDepth 100000
namespace Go.Proofs.Ytolfnhebnennpaa
open Go Go.Al
theorem cells5 : Try.prog.cellsOf 5 = 1 := by kernel_rfl
theorem bytes5 : Try.prog.bytesOf 5 = 1 := by kernel_rfl
def ok37 (l : ((.list (.int .u8)) : Ty).den) : Prop := (∀ x ∈ l, (Lit.int .u8 x).wf = true) ∧ l.length * 1 ≤ reachBytes
theorem opens37 : LOpens Try.prog 37 ((.list (.int .u8)) : Ty).lay ok37 := by
 have := lopens_S Try.underlying37 (L := ((.int .u8) : Ty).lay) cells5 (lopens_I Try.underlying5)
 rw [bytes5] at this; exact this
theorem cells37 : Try.prog.cellsOf 37 = 1 := by kernel_rfl
theorem bytes37 : Try.prog.bytesOf 37 = 24 := by kernel_rfl
def ok22 (l : ((.list (.list (.int .u8))) : Ty).den) : Prop := (∀ x ∈ l, ok37 x) ∧ l.length * 24 ≤ reachBytes
theorem cells3 : Try.prog.cellsOf 3 = 1 := by kernel_rfl
theorem bytes3 : Try.prog.bytesOf 3 = 8 := by kernel_rfl
def ok25 (l : ((.list (.int .i64)) : Ty).den) : Prop := (∀ x ∈ l, (Lit.int .i64 x).wf = true) ∧ l.length * 8 ≤ reachBytes
end Go.Proofs.Ytolfnhebnennpaa
