/- What is handed in, read as layouts say. Printed by a program of this work. -/
import Derived.Test.YthdmpdagkccphaaW
import Derived.Test.YthdmpdagkccphaaAlV
set_option linter.unusedVariables false
set_option linter.unusedSimpArgs false
set_option maxRecDepth 100000
namespace Go.Proofs.Ythdmpdagkccphaa
open Go Go.Al
theorem cells5 : Try.prog.cellsOf 5 = 1 := by kernel_rfl
theorem bytes5 : Try.prog.bytesOf 5 = 1 := by kernel_rfl
theorem opens22 : LOpens Try.prog 22 (lS (lI .u8)) fun x => (∀ z ∈ x, (Lit.int .u8 z).wf = true) ∧ x.length * 1 ≤ reachBytes := by
  have := lopens_S Try.underlying22 (L := (lI .u8)) cells5 (lopens_I Try.underlying5)
  rw [bytes5] at this; exact this
theorem cells22 : Try.prog.cellsOf 22 = 1 := by kernel_rfl
theorem bytes22 : Try.prog.bytesOf 22 = 24 := by kernel_rfl
theorem opens41 : LOpens Try.prog 41 (lS (lS (lI .u8))) fun x => (∀ z ∈ x, (∀ zz ∈ z, (Lit.int .u8 zz).wf = true) ∧ z.length * 1 ≤ reachBytes) ∧ x.length * 24 ≤ reachBytes := by
  have := lopens_S Try.underlying41 (L := (lS (lI .u8))) cells22 opens22
  rw [bytes22] at this; exact this
theorem cells3 : Try.prog.cellsOf 3 = 1 := by kernel_rfl
theorem bytes3 : Try.prog.bytesOf 3 = 8 := by kernel_rfl
theorem opens30 : LOpens Try.prog 30 (lS (lI .i64)) fun x => (∀ z ∈ x, (Lit.int .i64 z).wf = true) ∧ x.length * 8 ≤ reachBytes := by
  have := lopens_S Try.underlying30 (L := (lI .i64)) cells3 (lopens_I Try.underlying3)
  rw [bytes3] at this; exact this
def okGlaw04Op (x : Glaw04Op) : Prop := ((Lit.int .i64 x.What).wf = true) ∧ ((Lit.int .i64 x.Area).wf = true) ∧ ((Lit.int .i64 x.N).wf = true) ∧ ((∀ z ∈ x.Parts, (∀ zz ∈ z, (Lit.int .u8 zz).wf = true) ∧ z.length * 1 ≤ reachBytes) ∧ x.Parts.length * 24 ≤ reachBytes) ∧ ((∀ z ∈ x.Areas, (Lit.int .i64 z).wf = true) ∧ x.Areas.length * 8 ≤ reachBytes) ∧ True
theorem cells41 : Try.prog.cellsOf 41 = 1 := by kernel_rfl
theorem cells30 : Try.prog.cellsOf 30 = 1 := by kernel_rfl
theorem cells43 : Try.prog.cellsOf 43 = 5 := by kernel_rfl
theorem opens_43 : LOpens Try.prog 43 yGlaw04Op okGlaw04Op := by
  have h := opens_struct Try.underlying43 (RS := [_, _, _, _, _]) (by
    rw [cells43]
    refine ⟨rfl, (lopens_I Try.underlying3), ?_⟩
    rw [cells3]
    refine ⟨rfl, (lopens_I Try.underlying3), ?_⟩
    rw [cells3]
    refine ⟨rfl, (lopens_I Try.underlying3), ?_⟩
    rw [cells3]
    refine ⟨rfl, opens41, ?_⟩
    rw [cells41]
    refine ⟨rfl, opens30, ?_⟩
    rw [cells30]
    rfl)
  refine h.mono ?_
  rintro xs ⟨_, _, ⟨x0, rfl, k0⟩, ⟨_, _, ⟨x1, rfl, k1⟩, ⟨_, _, ⟨x2, rfl, k2⟩, ⟨_, _, ⟨x3, rfl, k3⟩, ⟨_, _, ⟨x4, rfl, k4⟩, rfl, rfl⟩, rfl⟩, rfl⟩, rfl⟩, rfl⟩
  exact ⟨⟨x0, x1, x2, x3, x4⟩, rfl, ⟨k0, k1, k2, k3, k4, trivial⟩⟩
theorem bytes43 : Try.prog.bytesOf 43 = 72 := by kernel_rfl
theorem opens34 : LOpens Try.prog 34 (lS yGlaw04Op) fun x => (∀ z ∈ x, okGlaw04Op z) ∧ x.length * 72 ≤ reachBytes := by
  have := lopens_S Try.underlying34 (L := yGlaw04Op) cells43 opens_43
  rw [bytes43] at this; exact this
end Go.Proofs.Ythdmpdagkccphaa
