/- LogStepsSaid, as the statement says; conditions: none. -/
import Derived.Test.YtolfnhebnennpaaPu0
import Derived.Test.YtolfnhebnennpaaW
import Derived.Test.YtolfnhebnennpaaRows
namespace Go.Proofs.Ytolfnhebnennpaa
set_option linter.unusedVariables false
set_option linter.unusedSimpArgs false
open Go Go.Al Go.ChangeShapes Go.WideShapes Go.ChangeAt Go.RowKit
set_option maxRecDepth 100000
theorem logSteps_own : ownKnob Try.prog.godebug = none := by kernel_rfl
theorem logSteps_laid : laidOutB Try.prog = true := by kernel_rfl
def logSteps_fn : Nat → FuncId × List AV × List AV := fun _ => (0, [], [])
theorem logSteps_ac (a0 : ((.int .i64) : Ty).den) (a1 : ((.list (.pair (.int .i64) (.pair (.int .i64) (.pair (.list (.list (.int .u8))) (.list (.int .i64)))))) : Ty).den) (h : s_7 (a0, a1, ()) = some (true, ())) : AC Try.prog 7 [.lit (.int .i64 a0), eS ((.pair (.int .i64) (.pair (.int .i64) (.pair (.list (.list (.int .u8))) (.list (.int .i64))))) : Ty).lay a1] (fun _ => none) fun r _ => r = .ret (B true) := by
  have h1 := plain_ac (E := e_7 logSteps_fn) (noY_ok (envC_ok tok chok) [70, 71, 72, 73, 79]) mixed (k_7 logSteps_fn) (x := (a0, a1, ())) (r := (true, ())) h (fun _ => none) ⟨fun m => m, logSteps_fn⟩ rfl []
  have e1 : ((Pat.enc pi_7 (a0, a1, ())).sl.map fun q => q.2.av (⟨fun m => m, logSteps_fn⟩ : Nm) []) = [.lit (.int .i64 a0), eS ((.pair (.int .i64) (.pair (.int .i64) (.pair (.list (.list (.int .u8))) (.list (.int .i64))))) : Ty).lay a1] := by kernel_rfl
  have e2 : (r_7 (true, ())).av (⟨fun m => m, logSteps_fn⟩ : Nm) [] = B true := by kernel_rfl
  rw [e1, e2] at h1
  exact h1.mono fun r S h => h.1
theorem logSteps_lifted (os : Os) (started : os.Started) (H : Type) (enc : TypeId × Value → H) :
    ReturnsInHanded {} Try.checked os 7 .any (Rows.logStepsSpec.pre6 enc Try.prog Try.f7 Rows.logStepsRow.domain false) (Rows.logStepsSpec.post enc Try.prog Try.f7 false true false false) := by
  refine returnsInHanded_of_change_sized (C := Try.checked) logSteps_own started (by kernel_rfl) Try.func7
    (ChangeSpec.witness6 (enc := enc) (C := Try.checked) false ⟨#[], #[(.int .i64 0), (.slice none 0 0)], []⟩ 8 (by kernel_rfl) (by kernel_rfl) (by kernel_rfl) (by kernel_rfl)) ?_
  intro W base args ds gs before hval hW _ hw _
  refine law_contract (P := Try.prog) logSteps_laid (AS := [fun x => ∃ n, x = .lit (.int .i64 n) ∧ (Lit.int .i64 n).wf = true, fun x => ∃ l : ((.list (.pair (.int .i64) (.pair (.int .i64) (.pair (.list (.list (.int .u8))) (.list (.int .i64)))))) : Ty).den, x = eS ((.pair (.int .i64) (.pair (.int .i64) (.pair (.list (.list (.int .u8))) (.list (.int .i64))))) : Ty).lay l ∧ ok28 l]) (tb := 4) (by kernel_rfl) (by kernel_rfl) rfl (by kernel_rfl) ?_ ?_ ?_ hval hW hw
  · intro ds hd
    rw [Try.params7] at hd
    match ds, hd with
    | [d0, d1], _ => rfl
  · rw [Try.params7]
    exact ⟨(larg_I Try.underlying3), (by have := larg_S Try.underlying28 (L := ((.pair (.int .i64) (.pair (.int .i64) (.pair (.list (.list (.int .u8))) (.list (.int .i64))))) : Ty).lay) cells27 opens27; rw [bytes27] at this; exact this), trivial⟩
  · intro xs hx0
    obtain ⟨_, _, rfl, ⟨a0, rfl, k0⟩, hx1⟩ := argsAre_cons hx0
    obtain ⟨_, _, rfl, ⟨a1, rfl, k1⟩, hx2⟩ := argsAre_cons hx1
    obtain rfl := argsAre_nil hx2
    exact logSteps_ac a0 a1 (LogSteps_true a0 a1 k0 k1)
theorem logSteps_holds : Rows.LogStepsSaid :=
  OpenClaim.holds_of_wide 7 Try.f7 rfl rfl rfl rfl rfl rfl rfl ⟨rfl, rfl, rfl, rfl, rfl⟩ rfl rfl rfl rfl rfl (by kernel_rfl) Try.func7 (by kernel_rfl)
    (of_decide_eq_true (by kernel_rfl)) (by unfold Func.isWrapper; first | (rw [if_pos (by decide +kernel)]; kernel_rfl) | (rw [if_neg (by decide +kernel)]; exact ⟨rfl, rfl⟩))
    (fun os started H enc _ => logSteps_lifted os started H enc)
#print axioms logSteps_holds
end Go.Proofs.Ytolfnhebnennpaa
