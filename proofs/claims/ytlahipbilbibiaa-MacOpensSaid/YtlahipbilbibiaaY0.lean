/- What is handed in, read as types say. Printed by a program of this work. -/
import Derived.Test.YtlahipbilbibiaaTa
import Derived.Test.YtlahipbilbibiaaAmA
import Derived.Test.YtlahipbilbibiaaAlV
set_option linter.unusedVariables false
set_option linter.unusedSimpArgs false
set_option maxRecDepth 100000
namespace Go.Proofs.Ytlahipbilbibiaa
open Go Go.Al
theorem cells5 : Try.prog.cellsOf 5 = 1 := by kernel_rfl
theorem bytes5 : Try.prog.bytesOf 5 = 1 := by kernel_rfl
def ok22 (l : ((.list (.int .u8)) : Ty).den) : Prop := (∀ x ∈ l, (Lit.int .u8 x).wf = true) ∧ l.length * 1 ≤ reachBytes
theorem opens22 : LOpens Try.prog 22 ((.list (.int .u8)) : Ty).lay ok22 := by
  have := lopens_S Try.underlying22 (L := ((.int .u8) : Ty).lay) cells5 (lopens_I Try.underlying5)
  rw [bytes5] at this; exact this
theorem cells3 : Try.prog.cellsOf 3 = 1 := by kernel_rfl
theorem cells28 : Try.prog.cellsOf 28 = 2 := by kernel_rfl
def ok28 (x : ((.pair (.int .i64) (.int .i64)) : Ty).den) : Prop := ((Lit.int .i64 x.1).wf = true) ∧ ((Lit.int .i64 x.2).wf = true) ∧ True
theorem opens28 : LOpens Try.prog 28 ((.pair (.int .i64) (.int .i64)) : Ty).lay ok28 := by
  have h := opens_struct Try.underlying28 (RS := [_, _]) (by
    rw [cells28]
    refine ⟨rfl, (lopens_I Try.underlying3), ?_⟩
    rw [cells3]
    refine ⟨rfl, (lopens_I Try.underlying3), ?_⟩
    rw [cells3]
    rfl)
  refine h.mono ?_
  rintro xs ⟨_, _, ⟨x0, rfl, k0⟩, ⟨_, _, ⟨x1, rfl, k1⟩, rfl, rfl⟩, rfl⟩
  refine ⟨(x0, x1), ?_, ⟨k0, k1, trivial⟩⟩
  rw [List.append_nil]; rfl
theorem cells22 : Try.prog.cellsOf 22 = 1 := by kernel_rfl
theorem bytes22 : Try.prog.bytesOf 22 = 24 := by kernel_rfl
def ok35 (l : ((.list (.list (.int .u8))) : Ty).den) : Prop := (∀ x ∈ l, ok22 x) ∧ l.length * 24 ≤ reachBytes
theorem opens35 : LOpens Try.prog 35 ((.list (.list (.int .u8))) : Ty).lay ok35 := by
  have := lopens_S Try.underlying35 (L := ((.list (.int .u8)) : Ty).lay) cells22 opens22
  rw [bytes22] at this; exact this
theorem cells35 : Try.prog.cellsOf 35 = 1 := by kernel_rfl
theorem cells37 : Try.prog.cellsOf 37 = 5 := by kernel_rfl
def ok37 (x : ((.pair (.pair (.int .i64) (.int .i64)) (.pair (.int .i64) (.pair (.list (.int .u8)) (.list (.list (.int .u8)))))) : Ty).den) : Prop := (ok28 x.1) ∧ ((Lit.int .i64 x.2.1).wf = true) ∧ (ok22 x.2.2.1) ∧ (ok35 x.2.2.2) ∧ True
theorem opens37 : LOpens Try.prog 37 ((.pair (.pair (.int .i64) (.int .i64)) (.pair (.int .i64) (.pair (.list (.int .u8)) (.list (.list (.int .u8)))))) : Ty).lay ok37 := by
  have h := opens_struct Try.underlying37 (RS := [_, _, _, _]) (by
    rw [cells37]
    refine ⟨rfl, opens28, ?_⟩
    rw [cells28]
    refine ⟨rfl, (lopens_I Try.underlying3), ?_⟩
    rw [cells3]
    refine ⟨rfl, opens22, ?_⟩
    rw [cells22]
    refine ⟨rfl, opens35, ?_⟩
    rw [cells35]
    rfl)
  refine h.mono ?_
  rintro xs ⟨_, _, ⟨x0, rfl, k0⟩, ⟨_, _, ⟨x1, rfl, k1⟩, ⟨_, _, ⟨x2, rfl, k2⟩, ⟨_, _, ⟨x3, rfl, k3⟩, rfl, rfl⟩, rfl⟩, rfl⟩, rfl⟩
  refine ⟨(x0, x1, x2, x3), ?_, ⟨k0, k1, k2, k3, trivial⟩⟩
  rw [List.append_nil]; rfl
end Go.Proofs.Ytlahipbilbibiaa
