/- ConfAnswersSaid, as the statement says; conditions: none. -/
import Derived.Test.YtejlgalnkblndaaPu0
import Derived.Test.YtejlgalnkblndaaY0
import Derived.Test.YtejlgalnkblndaaRows
namespace Go.Proofs.Ytejlgalnkblndaa
set_option linter.unusedVariables false
set_option linter.unusedSimpArgs false
open Go Go.Al Go.ChangeShapes Go.WideShapes Go.ChangeAt Go.RowKit
set_option maxRecDepth 100000
theorem confAnswers_own : ownKnob Try.prog.godebug = none := by kernel_rfl
theorem confAnswers_laid : laidOutB Try.prog = true := by kernel_rfl
theorem confAnswers_lifted (os : Os) (started : os.Started) (H : Type) (enc : TypeId × Value → H) :
    ReturnsInHanded {} Try.checked os 3 .any (Rows.confAnswersSpec.pre6 enc Try.prog Try.f3 Rows.confAnswersRow.domain false) (Rows.confAnswersSpec.post enc Try.prog Try.f3 false true false false) := by
  refine returnsInHanded_of_change_sized (C := Try.checked) confAnswers_own started (by kernel_rfl) Try.func3
    (ChangeSpec.witness6 (enc := enc) (C := Try.checked) false ⟨#[], #[.agg #[(.int .i64 0), (.int .i64 0), (.int .i64 0), (.int .i64 0), (.int .i64 0), (.int .i64 0), (.slice none 0 0)], (.int .i64 0), (.int .i64 0), .agg #[(.int .i64 0), (.int .i64 0)]], []⟩ 8 (by kernel_rfl) (by kernel_rfl) (by kernel_rfl) (by kernel_rfl)) ?_
  intro W base args ds gs before hval hW _ hw _
  refine law_contract (P := Try.prog) confAnswers_laid (AS := [fun x => ∃ s : GapiConf, x = .agg (yGapiConf.cells s) ∧ okGapiConf s, fun x => ∃ n, x = .lit (.int .i64 n) ∧ (Lit.int .i64 n).wf = true, fun x => ∃ n, x = .lit (.int .i64 n) ∧ (Lit.int .i64 n).wf = true, fun x => ∃ s : GapiId, x = .agg (yGapiId.cells s) ∧ okGapiId s]) (tb := 4) (by kernel_rfl) (by kernel_rfl) rfl (by kernel_rfl) ?_ ?_ ?_ hval hW hw
  · intro ds hd
    rw [Try.params3] at hd
    match ds, hd with
    | [d0, d1, d2, d3], _ => rfl
  · rw [Try.params3]
    exact ⟨(larg_R Try.underlying24 opens_24), (larg_I Try.underlying3), (larg_I Try.underlying3), (larg_R Try.underlying26 opens_26), trivial⟩
  · intro xs hx0
    obtain ⟨_, _, rfl, ⟨a0, rfl, k0⟩, hx1⟩ := argsAre_cons hx0
    obtain ⟨_, _, rfl, ⟨a1, rfl, k1⟩, hx2⟩ := argsAre_cons hx1
    obtain ⟨_, _, rfl, ⟨a2, rfl, k2⟩, hx3⟩ := argsAre_cons hx2
    obtain ⟨_, _, rfl, ⟨a3, rfl, k3⟩, hx4⟩ := argsAre_cons hx3
    obtain rfl := argsAre_nil hx4
    refine (s_stanchionlaw06_ConfAnswers_ok (fun _ => none) a0 a1 a2 a3 (ConfAnswers_true a0 a1 a2 a3 k0 k1 k2 k3)).mono ?_
    rintro r S ⟨rfl, rfl⟩; rfl
theorem confAnswers_holds : Rows.ConfAnswersSaid :=
  OpenClaim.holds_of_wide 3 Try.f3 rfl rfl rfl rfl rfl rfl rfl ⟨rfl, rfl, rfl, rfl, rfl⟩ rfl rfl rfl rfl rfl (by kernel_rfl) Try.func3 (by kernel_rfl)
    (of_decide_eq_true (by kernel_rfl)) (by unfold Func.isWrapper; first | (rw [if_pos (by decide +kernel)]; kernel_rfl) | (rw [if_neg (by decide +kernel)]; exact ⟨rfl, rfl⟩))
    (fun os started H enc _ => confAnswers_lifted os started H enc)
#print axioms confAnswers_holds
end Go.Proofs.Ytejlgalnkblndaa
