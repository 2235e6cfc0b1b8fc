/- What is handed in, read as layouts say. Printed by a program of this work. -/
import Derived.Test.YtejlgalnkblndaaX
import Derived.Test.YtejlgalnkblndaaAlV
set_option linter.unusedVariables false
set_option linter.unusedSimpArgs false
set_option maxRecDepth 100000
namespace Go.Proofs.Ytejlgalnkblndaa
open Go Go.Al
theorem cells5 : Try.prog.cellsOf 5 = 1 := by kernel_rfl
theorem bytes5 : Try.prog.bytesOf 5 = 1 := by kernel_rfl
theorem opens22 : LOpens Try.prog 22 (lS (lI .u8)) fun x => (∀ z ∈ x, (Lit.int .u8 z).wf = true) ∧ x.length * 1 ≤ reachBytes := by
  have := lopens_S Try.underlying22 (L := (lI .u8)) cells5 (lopens_I Try.underlying5)
  rw [bytes5] at this; exact this
def okGapiConf (x : GapiConf) : Prop := ((Lit.int .i64 x.U).wf = true) ∧ ((Lit.int .i64 x.R).wf = true) ∧ ((Lit.int .i64 x.Peers).wf = true) ∧ ((Lit.int .i64 x.Window).wf = true) ∧ ((Lit.int .i64 x.Every).wf = true) ∧ ((Lit.int .i64 x.Patience).wf = true) ∧ ((∀ z ∈ x.Secret, (Lit.int .u8 z).wf = true) ∧ x.Secret.length * 1 ≤ reachBytes) ∧ True
theorem cells3 : Try.prog.cellsOf 3 = 1 := by kernel_rfl
theorem cells22 : Try.prog.cellsOf 22 = 1 := by kernel_rfl
theorem cells24 : Try.prog.cellsOf 24 = 7 := by kernel_rfl
theorem opens_24 : LOpens Try.prog 24 yGapiConf okGapiConf := by
  have h := opens_struct Try.underlying24 (RS := [_, _, _, _, _, _, _]) (by
    rw [cells24]
    refine ⟨rfl, (lopens_I Try.underlying3), ?_⟩
    rw [cells3]
    refine ⟨rfl, (lopens_I Try.underlying3), ?_⟩
    rw [cells3]
    refine ⟨rfl, (lopens_I Try.underlying3), ?_⟩
    rw [cells3]
    refine ⟨rfl, (lopens_I Try.underlying3), ?_⟩
    rw [cells3]
    refine ⟨rfl, (lopens_I Try.underlying3), ?_⟩
    rw [cells3]
    refine ⟨rfl, (lopens_I Try.underlying3), ?_⟩
    rw [cells3]
    refine ⟨rfl, opens22, ?_⟩
    rw [cells22]
    rfl)
  refine h.mono ?_
  rintro xs ⟨_, _, ⟨x0, rfl, k0⟩, ⟨_, _, ⟨x1, rfl, k1⟩, ⟨_, _, ⟨x2, rfl, k2⟩, ⟨_, _, ⟨x3, rfl, k3⟩, ⟨_, _, ⟨x4, rfl, k4⟩, ⟨_, _, ⟨x5, rfl, k5⟩, ⟨_, _, ⟨x6, rfl, k6⟩, rfl, rfl⟩, rfl⟩, rfl⟩, rfl⟩, rfl⟩, rfl⟩, rfl⟩
  exact ⟨⟨x0, x1, x2, x3, x4, x5, x6⟩, rfl, ⟨k0, k1, k2, k3, k4, k5, k6, trivial⟩⟩
def okGapiId (x : GapiId) : Prop := ((Lit.int .i64 x.Role).wf = true) ∧ ((Lit.int .i64 x.N).wf = true) ∧ True
theorem cells26 : Try.prog.cellsOf 26 = 2 := by kernel_rfl
theorem opens_26 : LOpens Try.prog 26 yGapiId okGapiId := by
  have h := opens_struct Try.underlying26 (RS := [_, _]) (by
    rw [cells26]
    refine ⟨rfl, (lopens_I Try.underlying3), ?_⟩
    rw [cells3]
    refine ⟨rfl, (lopens_I Try.underlying3), ?_⟩
    rw [cells3]
    rfl)
  refine h.mono ?_
  rintro xs ⟨_, _, ⟨x0, rfl, k0⟩, ⟨_, _, ⟨x1, rfl, k1⟩, rfl, rfl⟩, rfl⟩
  exact ⟨⟨x0, x1⟩, rfl, ⟨k0, k1, trivial⟩⟩
theorem bytes3 : Try.prog.bytesOf 3 = 8 := by kernel_rfl
theorem opens35 : LOpens Try.prog 35 (lS (lI .i64)) fun x => (∀ z ∈ x, (Lit.int .i64 z).wf = true) ∧ x.length * 8 ≤ reachBytes := by
  have := lopens_S Try.underlying35 (L := (lI .i64)) cells3 (lopens_I Try.underlying3)
  rw [bytes3] at this; exact this
end Go.Proofs.Ytejlgalnkblndaa
