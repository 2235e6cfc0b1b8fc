/- LogOneSaid, as the statement says; conditions: none. -/
import Derived.Test.YtolfnhebnennpaaPu0
import Derived.Test.YtolfnhebnennpaaW
import Derived.Test.YtolfnhebnennpaaRows
namespace Go.Proofs.Ytolfnhebnennpaa
set_option linter.unusedVariables false
set_option linter.unusedSimpArgs false
open Go Go.Al Go.ChangeShapes Go.WideShapes Go.ChangeAt Go.RowKit
set_option maxRecDepth 100000
theorem logOne_own : ownKnob Try.prog.godebug = none := by kernel_rfl
theorem logOne_laid : laidOutB Try.prog = true := by kernel_rfl
def logOne_fn : Nat → FuncId × List AV × List AV := fun _ => (0, [], [])
theorem logOne_ac (a0 : ((.list (.list (.int .u8))) : Ty).den) (h : s_4 (a0, ()) = some (true, ())) : AC Try.prog 4 [eS ((.list (.int .u8)) : Ty).lay a0] (fun _ => none) fun r _ => r = .ret (B true) := by
  have h1 := plain_ac (E := e_4 logOne_fn) (noY_ok (envC_ok tok chok) [70, 71, 72, 73, 79]) mixed (k_4 logOne_fn) (x := (a0, ())) (r := (true, ())) h (fun _ => none) ⟨fun m => m, logOne_fn⟩ rfl []
  have e1 : ((Pat.enc pi_4 (a0, ())).sl.map fun q => q.2.av (⟨fun m => m, logOne_fn⟩ : Nm) []) = [eS ((.list (.int .u8)) : Ty).lay a0] := by kernel_rfl
  have e2 : (r_4 (true, ())).av (⟨fun m => m, logOne_fn⟩ : Nm) [] = B true := by kernel_rfl
  rw [e1, e2] at h1
  exact h1.mono fun r S h => h.1
theorem logOne_lifted (os : Os) (started : os.Started) (H : Type) (enc : TypeId × Value → H) :
    ReturnsInHanded {} Try.checked os 4 .any (Rows.logOneSpec.pre6 enc Try.prog Try.f4 Rows.logOneRow.domain false) (Rows.logOneSpec.post enc Try.prog Try.f4 false true false false) := by
  refine returnsInHanded_of_change_sized (C := Try.checked) logOne_own started (by kernel_rfl) Try.func4
    (ChangeSpec.witness6 (enc := enc) (C := Try.checked) false ⟨#[], #[(.slice none 0 0)], []⟩ 8 (by kernel_rfl) (by kernel_rfl) (by kernel_rfl) (by kernel_rfl)) ?_
  intro W base args ds gs before hval hW _ hw _
  refine law_contract (P := Try.prog) logOne_laid (AS := [fun x => ∃ l : ((.list (.list (.int .u8))) : Ty).den, x = eS ((.list (.int .u8)) : Ty).lay l ∧ ok22 l]) (tb := 4) (by kernel_rfl) (by kernel_rfl) rfl (by kernel_rfl) ?_ ?_ ?_ hval hW hw
  · intro ds hd
    rw [Try.params4] at hd
    match ds, hd with
    | [d0], _ => rfl
  · rw [Try.params4]
    exact ⟨(by have := larg_S Try.underlying22 (L := ((.list (.int .u8)) : Ty).lay) cells37 opens37; rw [bytes37] at this; exact this), trivial⟩
  · intro xs hx0
    obtain ⟨_, _, rfl, ⟨a0, rfl, k0⟩, hx1⟩ := argsAre_cons hx0
    obtain rfl := argsAre_nil hx1
    exact logOne_ac a0 (LogOne_true a0 k0)
theorem logOne_holds : Rows.LogOneSaid :=
  OpenClaim.holds_of_wide 4 Try.f4 rfl rfl rfl rfl rfl rfl rfl ⟨rfl, rfl, rfl, rfl, rfl⟩ rfl rfl rfl rfl rfl (by kernel_rfl) Try.func4 (by kernel_rfl)
    (of_decide_eq_true (by kernel_rfl)) (by unfold Func.isWrapper; first | (rw [if_pos (by decide +kernel)]; kernel_rfl) | (rw [if_neg (by decide +kernel)]; exact ⟨rfl, rfl⟩))
    (fun os started H enc _ => logOne_lifted os started H enc)
#print axioms logOne_holds
end Go.Proofs.Ytolfnhebnennpaa
