/- ConfTurnsSaid, as the statement says; conditions: none. -/
import Derived.Test.YtejlgalnkblndaaPu0
import Derived.Test.YtejlgalnkblndaaY0
import Derived.Test.YtejlgalnkblndaaRows
namespace Go.Proofs.Ytejlgalnkblndaa
set_option linter.unusedVariables false
set_option linter.unusedSimpArgs false
open Go Go.Al Go.ChangeShapes Go.WideShapes Go.ChangeAt Go.RowKit
set_option maxRecDepth 100000
theorem confTurns_own : ownKnob Try.prog.godebug = none := by kernel_rfl
theorem confTurns_laid : laidOutB Try.prog = true := by kernel_rfl
theorem confTurns_lifted (os : Os) (started : os.Started) (H : Type) (enc : TypeId × Value → H) :
    ReturnsInHanded {} Try.checked os 6 .any (Rows.confTurnsSpec.pre6 enc Try.prog Try.f6 Rows.confTurnsRow.domain false) (Rows.confTurnsSpec.post enc Try.prog Try.f6 false true false false) := by
  refine returnsInHanded_of_change_sized (C := Try.checked) confTurns_own started (by kernel_rfl) Try.func6
    (ChangeSpec.witness6 (enc := enc) (C := Try.checked) false ⟨#[], #[.agg #[(.int .i64 0), (.int .i64 0), (.int .i64 0), (.int .i64 0), (.int .i64 0), (.int .i64 0), (.slice none 0 0)], (.int .i64 0)], []⟩ 8 (by kernel_rfl) (by kernel_rfl) (by kernel_rfl) (by kernel_rfl)) ?_
  intro W base args ds gs before hval hW _ hw _
  refine law_contract (P := Try.prog) confTurns_laid (AS := [fun x => ∃ s : GapiConf, x = .agg (yGapiConf.cells s) ∧ okGapiConf s, fun x => ∃ n, x = .lit (.int .i64 n) ∧ (Lit.int .i64 n).wf = true]) (tb := 4) (by kernel_rfl) (by kernel_rfl) rfl (by kernel_rfl) ?_ ?_ ?_ hval hW hw
  · intro ds hd
    rw [Try.params6] at hd
    match ds, hd with
    | [d0, d1], _ => rfl
  · rw [Try.params6]
    exact ⟨(larg_R Try.underlying24 opens_24), (larg_I Try.underlying3), trivial⟩
  · intro xs hx0
    obtain ⟨_, _, rfl, ⟨a0, rfl, k0⟩, hx1⟩ := argsAre_cons hx0
    obtain ⟨_, _, rfl, ⟨a1, rfl, k1⟩, hx2⟩ := argsAre_cons hx1
    obtain rfl := argsAre_nil hx2
    refine (s_stanchionlaw06_ConfTurns_ok (fun _ => none) a0 a1 (ConfTurns_true a0 a1 k0 k1)).mono ?_
    rintro r S ⟨rfl, rfl⟩; rfl
theorem confTurns_holds : Rows.ConfTurnsSaid :=
  OpenClaim.holds_of_wide 6 Try.f6 rfl rfl rfl rfl rfl rfl rfl ⟨rfl, rfl, rfl, rfl, rfl⟩ rfl rfl rfl rfl rfl (by kernel_rfl) Try.func6 (by kernel_rfl)
    (of_decide_eq_true (by kernel_rfl)) (by unfold Func.isWrapper; first | (rw [if_pos (by decide +kernel)]; kernel_rfl) | (rw [if_neg (by decide +kernel)]; exact ⟨rfl, rfl⟩))
    (fun os started H enc _ => confTurns_lifted os started H enc)
#print axioms confTurns_holds
end Go.Proofs.Ytejlgalnkblndaa
