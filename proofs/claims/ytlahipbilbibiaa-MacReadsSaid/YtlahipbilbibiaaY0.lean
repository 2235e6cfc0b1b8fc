/- What is handed in, read as types say. Printed by a program of this work. -/
import Derived.Test.YtlahipbilbibiaaTa
import Derived.Test.YtlahipbilbibiaaAmA
import Derived.Test.YtlahipbilbibiaaAlV
set_option linter.unusedVariables false
set_option linter.unusedSimpArgs false
set_option maxRecDepth 100000
namespace Go.Proofs.Ytlahipbilbibiaa
open Go Go.Al
theorem cells5 : Try.prog.cellsOf 5 = 1 := by kernel_rfl
theorem bytes5 : Try.prog.bytesOf 5 = 1 := by kernel_rfl
def ok22 (l : ((.list (.int .u8)) : Ty).den) : Prop := (∀ x ∈ l, (Lit.int .u8 x).wf = true) ∧ l.length * 1 ≤ reachBytes
theorem cells3 : Try.prog.cellsOf 3 = 1 := by kernel_rfl
theorem cells28 : Try.prog.cellsOf 28 = 2 := by kernel_rfl
def ok28 (x : ((.pair (.int .i64) (.int .i64)) : Ty).den) : Prop := ((Lit.int .i64 x.1).wf = true) ∧ ((Lit.int .i64 x.2).wf = true) ∧ True
theorem opens28 : LOpens Try.prog 28 ((.pair (.int .i64) (.int .i64)) : Ty).lay ok28 := by
  have h := opens_struct Try.underlying28 (RS := [_, _]) (by
    rw [cells28]
    refine ⟨rfl, (lopens_I Try.underlying3), ?_⟩
    rw [cells3]
    refine ⟨rfl, (lopens_I Try.underlying3), ?_⟩
    rw [cells3]
    rfl)
  refine h.mono ?_
  rintro xs ⟨_, _, ⟨x0, rfl, k0⟩, ⟨_, _, ⟨x1, rfl, k1⟩, rfl, rfl⟩, rfl⟩
  refine ⟨(x0, x1), ?_, ⟨k0, k1, trivial⟩⟩
  rw [List.append_nil]; rfl
theorem bytes3 : Try.prog.bytesOf 3 = 8 := by kernel_rfl
def ok32 (l : ((.list (.int .i64)) : Ty).den) : Prop := (∀ x ∈ l, (Lit.int .i64 x).wf = true) ∧ l.length * 8 ≤ reachBytes
end Go.Proofs.Ytlahipbilbibiaa
