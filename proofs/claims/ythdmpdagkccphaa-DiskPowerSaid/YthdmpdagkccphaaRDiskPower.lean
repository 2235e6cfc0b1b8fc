/- DiskPowerSaid, as the statement says; conditions: none. -/
import Derived.Test.YthdmpdagkccphaaPu0
import Derived.Test.YthdmpdagkccphaaY0
import Derived.Test.YthdmpdagkccphaaRows
namespace Go.Proofs.Ythdmpdagkccphaa
set_option linter.unusedVariables false
set_option linter.unusedSimpArgs false
open Go Go.Al Go.ChangeShapes Go.WideShapes Go.ChangeAt Go.RowKit
set_option maxRecDepth 100000
theorem diskPower_own : ownKnob Try.prog.godebug = none := by kernel_rfl
theorem diskPower_laid : laidOutB Try.prog = true := by kernel_rfl
theorem diskPower_lifted (os : Os) (started : os.Started) (H : Type) (enc : TypeId × Value → H) :
    ReturnsInHanded {} Try.checked os 6 .any (Rows.diskPowerSpec.pre6 enc Try.prog Try.f6 Rows.diskPowerRow.domain false) (Rows.diskPowerSpec.post enc Try.prog Try.f6 false true false false) := by
  refine returnsInHanded_of_change_sized (C := Try.checked) diskPower_own started (by kernel_rfl) Try.func6
    (ChangeSpec.witness6 (enc := enc) (C := Try.checked) false ⟨#[], #[(.int .i64 0), (.slice none 0 0)], []⟩ 8 (by kernel_rfl) (by kernel_rfl) (by kernel_rfl) (by kernel_rfl)) ?_
  intro W base args ds gs before hval hW _ hw _
  refine law_contract (P := Try.prog) diskPower_laid (AS := [fun x => ∃ n, x = .lit (.int .i64 n) ∧ (Lit.int .i64 n).wf = true, fun x => ∃ l : List Glaw04Op, x = eS yGlaw04Op l ∧ (∀ z ∈ l, okGlaw04Op z) ∧ l.length * 72 ≤ reachBytes]) (tb := 4) (by kernel_rfl) (by kernel_rfl) rfl (by kernel_rfl) ?_ ?_ ?_ hval hW hw
  · intro ds hd
    rw [Try.params6] at hd
    match ds, hd with
    | [d0, d1], _ => rfl
  · rw [Try.params6]
    exact ⟨(larg_I Try.underlying3), (by have := larg_S Try.underlying34 (L := yGlaw04Op) cells43 opens_43; rw [bytes43] at this; exact this), trivial⟩
  · intro xs hx0
    obtain ⟨_, _, rfl, ⟨a0, rfl, k0⟩, hx1⟩ := argsAre_cons hx0
    obtain ⟨_, _, rfl, ⟨a1, rfl, k1⟩, hx2⟩ := argsAre_cons hx1
    obtain rfl := argsAre_nil hx2
    refine (s_stanchionlaw04_DiskPower_ok (fun _ => none) a0 a1 (DiskPower_true a0 a1 k0 k1)).mono ?_
    rintro r S ⟨rfl, rfl⟩; rfl
theorem diskPower_holds : Rows.DiskPowerSaid :=
  OpenClaim.holds_of_wide 6 Try.f6 rfl rfl rfl rfl rfl rfl rfl ⟨rfl, rfl, rfl, rfl, rfl⟩ rfl rfl rfl rfl rfl (by kernel_rfl) Try.func6 (by kernel_rfl)
    (of_decide_eq_true (by kernel_rfl)) (by unfold Func.isWrapper; first | (rw [if_pos (by decide +kernel)]; kernel_rfl) | (rw [if_neg (by decide +kernel)]; exact ⟨rfl, rfl⟩))
    (fun os started H enc _ => diskPower_lifted os started H enc)
#print axioms diskPower_holds
end Go.Proofs.Ythdmpdagkccphaa
