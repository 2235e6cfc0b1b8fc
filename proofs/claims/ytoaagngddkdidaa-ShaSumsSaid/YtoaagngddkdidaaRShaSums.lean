/- ShaSumsSaid, as the statement says; conditions: none. -/
import Derived.Test.YtoaagngddkdidaaPu0
import Derived.Test.YtoaagngddkdidaaW
import Derived.Test.YtoaagngddkdidaaRows
namespace Go.Proofs.Ytoaagngddkdidaa
set_option linter.unusedVariables false
set_option linter.unusedSimpArgs false
open Go Go.Al Go.ChangeShapes Go.WideShapes Go.ChangeAt Go.RowKit
set_option maxRecDepth 100000
theorem shaSums_own : ownKnob Try.prog.godebug = none := by kernel_rfl
theorem shaSums_laid : laidOutB Try.prog = true := by kernel_rfl
def shaSums_fn : Nat → FuncId × List AV × List AV := fun _ => (0, [], [])
theorem shaSums_ac (a0 : ((.list (.list (.int .u8))) : Ty).den) (h : s_3 (a0, ()) = some (true, ())) : AC Try.prog 3 [eS ((.list (.int .u8)) : Ty).lay a0] (fun _ => none) fun r _ => r = .ret (B true) := by
  have h1 := plain_ac (E := e_3 shaSums_fn) (envC_ok tok chok) mixed (k_3 shaSums_fn) (x := (a0, ())) (r := (true, ())) h (fun _ => none) ⟨fun m => m, shaSums_fn⟩ rfl []
  have e1 : ((Pat.enc pi_3 (a0, ())).sl.map fun q => q.2.av (⟨fun m => m, shaSums_fn⟩ : Nm) []) = [eS ((.list (.int .u8)) : Ty).lay a0] := by kernel_rfl
  have e2 : (r_3 (true, ())).av (⟨fun m => m, shaSums_fn⟩ : Nm) [] = B true := by kernel_rfl
  rw [e1, e2] at h1
  exact h1.mono fun r S h => h.1
theorem shaSums_lifted (os : Os) (started : os.Started) (H : Type) (enc : TypeId × Value → H) :
    ReturnsInHanded {} Try.checked os 3 .any (Rows.shaSumsSpec.pre6 enc Try.prog Try.f3 Rows.shaSumsRow.domain false) (Rows.shaSumsSpec.post enc Try.prog Try.f3 false true false false) := by
  refine returnsInHanded_of_change_sized (C := Try.checked) shaSums_own started (by kernel_rfl) Try.func3
    (ChangeSpec.witness6 (enc := enc) (C := Try.checked) false ⟨#[], #[(.slice none 0 0)], []⟩ 8 (by kernel_rfl) (by kernel_rfl) (by kernel_rfl) (by kernel_rfl)) ?_
  intro W base args ds gs before hval hW _ hw _
  refine law_contract (P := Try.prog) shaSums_laid (AS := [fun x => ∃ l : ((.list (.list (.int .u8))) : Ty).den, x = eS ((.list (.int .u8)) : Ty).lay l ∧ ok22 l]) (tb := 4) (by kernel_rfl) (by kernel_rfl) rfl (by kernel_rfl) ?_ ?_ ?_ hval hW hw
  · intro ds hd
    rw [Try.params3] at hd
    match ds, hd with
    | [d0], _ => rfl
  · rw [Try.params3]
    exact ⟨(by have := larg_S Try.underlying22 (L := ((.list (.int .u8)) : Ty).lay) cells25 opens25; rw [bytes25] at this; exact this), trivial⟩
  · intro xs hx0
    obtain ⟨_, _, rfl, ⟨a0, rfl, k0⟩, hx1⟩ := argsAre_cons hx0
    obtain rfl := argsAre_nil hx1
    exact shaSums_ac a0 (ShaSums_true a0 k0)
theorem shaSums_holds : Rows.ShaSumsSaid :=
  OpenClaim.holds_of_wide 3 Try.f3 rfl rfl rfl rfl rfl rfl rfl ⟨rfl, rfl, rfl, rfl, rfl⟩ rfl rfl rfl rfl rfl (by kernel_rfl) Try.func3 (by kernel_rfl)
    (of_decide_eq_true (by kernel_rfl)) (by unfold Func.isWrapper; first | (rw [if_pos (by decide +kernel)]; kernel_rfl) | (rw [if_neg (by decide +kernel)]; exact ⟨rfl, rfl⟩))
    (fun os started H enc _ => shaSums_lifted os started H enc)
#print axioms shaSums_holds
end Go.Proofs.Ytoaagngddkdidaa
