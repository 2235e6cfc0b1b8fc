/- ConfSumsSaid, as the statement says; conditions: none. -/
import Derived.Test.YtejlgalnkblndaaPu0
import Derived.Test.YtejlgalnkblndaaY0
import Derived.Test.YtejlgalnkblndaaRows
namespace Go.Proofs.Ytejlgalnkblndaa
set_option linter.unusedVariables false
set_option linter.unusedSimpArgs false
open Go Go.Al Go.ChangeShapes Go.WideShapes Go.ChangeAt Go.RowKit
set_option maxRecDepth 100000
theorem confSums_own : ownKnob Try.prog.godebug = none := by kernel_rfl
theorem confSums_laid : laidOutB Try.prog = true := by kernel_rfl
theorem confSums_lifted (os : Os) (started : os.Started) (H : Type) (enc : TypeId × Value → H) :
    ReturnsInHanded {} Try.checked os 7 .any (Rows.confSumsSpec.pre6 enc Try.prog Try.f7 Rows.confSumsRow.domain false) (Rows.confSumsSpec.post enc Try.prog Try.f7 false true false false) := by
  refine returnsInHanded_of_change_sized (C := Try.checked) confSums_own started (by kernel_rfl) Try.func7
    (ChangeSpec.witness6 (enc := enc) (C := Try.checked) false ⟨#[], #[.agg #[(.int .i64 0), (.int .i64 0), (.int .i64 0), (.int .i64 0), (.int .i64 0), (.int .i64 0), (.slice none 0 0)]], []⟩ 8 (by kernel_rfl) (by kernel_rfl) (by kernel_rfl) (by kernel_rfl)) ?_
  intro W base args ds gs before hval hW _ hw _
  refine law_contract (P := Try.prog) confSums_laid (AS := [fun x => ∃ s : GapiConf, x = .agg (yGapiConf.cells s) ∧ okGapiConf s]) (tb := 4) (by kernel_rfl) (by kernel_rfl) rfl (by kernel_rfl) ?_ ?_ ?_ hval hW hw
  · intro ds hd
    rw [Try.params7] at hd
    match ds, hd with
    | [d0], _ => rfl
  · rw [Try.params7]
    exact ⟨(larg_R Try.underlying24 opens_24), trivial⟩
  · intro xs hx0
    obtain ⟨_, _, rfl, ⟨a0, rfl, k0⟩, hx1⟩ := argsAre_cons hx0
    obtain rfl := argsAre_nil hx1
    refine (s_stanchionlaw06_ConfSums_ok (fun _ => none) a0 (ConfSums_true a0 k0)).mono ?_
    rintro r S ⟨rfl, rfl⟩; rfl
theorem confSums_holds : Rows.ConfSumsSaid :=
  OpenClaim.holds_of_wide 7 Try.f7 rfl rfl rfl rfl rfl rfl rfl ⟨rfl, rfl, rfl, rfl, rfl⟩ rfl rfl rfl rfl rfl (by kernel_rfl) Try.func7 (by kernel_rfl)
    (of_decide_eq_true (by kernel_rfl)) (by unfold Func.isWrapper; first | (rw [if_pos (by decide +kernel)]; kernel_rfl) | (rw [if_neg (by decide +kernel)]; exact ⟨rfl, rfl⟩))
    (fun os started H enc _ => confSums_lifted os started H enc)
#print axioms confSums_holds
end Go.Proofs.Ytejlgalnkblndaa
