/- What is handed in, read as types say. Printed by a program of this work. -/
import Derived.Test.YtlahipbilbibiaaTa
import Derived.Test.YtlahipbilbibiaaAmA
import Derived.Test.YtlahipbilbibiaaAlV
set_option linter.unusedVariables false
set_option linter.unusedSimpArgs false
set_option maxRecDepth 100000
namespace Go.Proofs.Ytlahipbilbibiaa
open Go Go.Al
theorem cells5 : Try.prog.cellsOf 5 = 1 := by kernel_rfl
theorem bytes5 : Try.prog.bytesOf 5 = 1 := by kernel_rfl
def ok22 (l : ((.list (.int .u8)) : Ty).den) : Prop := (∀ x ∈ l, (Lit.int .u8 x).wf = true) ∧ l.length * 1 ≤ reachBytes
end Go.Proofs.Ytlahipbilbibiaa
