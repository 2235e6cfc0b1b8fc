import Derived.Test.YtolfnhebnennpaaTa
import Derived.Test.YtolfnhebnennpaaAmA
import Derived.Test.YtolfnhebnennpaaAlV
set_option linter.unusedVariables false
set_option linter.unusedSimpArgs false
set_option maxRecDepth 100000
namespace Go.Proofs.Ytolfnhebnennpaa
open Go Go.Al
theorem cells5 : Try.prog.cellsOf 5 = 1 := by kernel_rfl
theorem bytes5 : Try.prog.bytesOf 5 = 1 := by kernel_rfl
def ok37 (l : ((.list (.int .u8)) : Ty).den) : Prop := (∀ x ∈ l, (Lit.int .u8 x).wf = true) ∧ l.length * 1 ≤ reachBytes
theorem opens37 : LOpens Try.prog 37 ((.list (.int .u8)) : Ty).lay ok37 := by
 have := lopens_S Try.underlying37 (L := ((.int .u8) : Ty).lay) cells5 (lopens_I Try.underlying5)
 rw [bytes5] at this; exact this
theorem cells37 : Try.prog.cellsOf 37 = 1 := by kernel_rfl
theorem bytes37 : Try.prog.bytesOf 37 = 24 := by kernel_rfl
def ok22 (l : ((.list (.list (.int .u8))) : Ty).den) : Prop := (∀ x ∈ l, ok37 x) ∧ l.length * 24 ≤ reachBytes
theorem opens22 : LOpens Try.prog 22 ((.list (.list (.int .u8))) : Ty).lay ok22 := by
 have := lopens_S Try.underlying22 (L := ((.list (.int .u8)) : Ty).lay) cells37 opens37
 rw [bytes37] at this; exact this
theorem cells3 : Try.prog.cellsOf 3 = 1 := by kernel_rfl
theorem bytes3 : Try.prog.bytesOf 3 = 8 := by kernel_rfl
def ok25 (l : ((.list (.int .i64)) : Ty).den) : Prop := (∀ x ∈ l, (Lit.int .i64 x).wf = true) ∧ l.length * 8 ≤ reachBytes
theorem opens25 : LOpens Try.prog 25 ((.list (.int .i64)) : Ty).lay ok25 := by
 have := lopens_S Try.underlying25 (L := ((.int .i64) : Ty).lay) cells3 (lopens_I Try.underlying3)
 rw [bytes3] at this; exact this
theorem cells22 : Try.prog.cellsOf 22 = 1 := by kernel_rfl
theorem cells25 : Try.prog.cellsOf 25 = 1 := by kernel_rfl
theorem cells27 : Try.prog.cellsOf 27 = 4 := by kernel_rfl
def ok27 (x : ((.pair (.int .i64) (.pair (.int .i64) (.pair (.list (.list (.int .u8))) (.list (.int .i64))))) : Ty).den) : Prop := ((Lit.int .i64 x.1).wf = true) ∧ ((Lit.int .i64 x.2.1).wf = true) ∧ (ok22 x.2.2.1) ∧ (ok25 x.2.2.2) ∧ True
theorem opens27 : LOpens Try.prog 27 ((.pair (.int .i64) (.pair (.int .i64) (.pair (.list (.list (.int .u8))) (.list (.int .i64))))) : Ty).lay ok27 := by
 have h := opens_struct Try.underlying27 (RS := [_, _, _, _]) (by
  rw [cells27]
  refine ⟨rfl, (lopens_I Try.underlying3), ?_⟩
  rw [cells3]
  refine ⟨rfl, (lopens_I Try.underlying3), ?_⟩
  rw [cells3]
  refine ⟨rfl, opens22, ?_⟩
  rw [cells22]
  refine ⟨rfl, opens25, ?_⟩
  rw [cells25]
  rfl)
 refine h.mono ?_
 rintro xs ⟨_, _, ⟨x0, rfl, k0⟩, ⟨_, _, ⟨x1, rfl, k1⟩, ⟨_, _, ⟨x2, rfl, k2⟩, ⟨_, _, ⟨x3, rfl, k3⟩, rfl, rfl⟩, rfl⟩, rfl⟩, rfl⟩
 refine ⟨(x0, x1, x2, x3), ?_, ⟨k0, k1, k2, k3, trivial⟩⟩
 rw [List.append_nil]; rfl
theorem bytes27 : Try.prog.bytesOf 27 = 64 := by kernel_rfl
def ok28 (l : ((.list (.pair (.int .i64) (.pair (.int .i64) (.pair (.list (.list (.int .u8))) (.list (.int .i64)))))) : Ty).den) : Prop := (∀ x ∈ l, ok27 x) ∧ l.length * 64 ≤ reachBytes
end Go.Proofs.Ytolfnhebnennpaa
