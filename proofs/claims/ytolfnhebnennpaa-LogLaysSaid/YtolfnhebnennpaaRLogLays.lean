/- LogLaysSaid, as the statement says; conditions: none. -/
import Derived.Test.YtolfnhebnennpaaPu0
import Derived.Test.YtolfnhebnennpaaW
import Derived.Test.YtolfnhebnennpaaRows
namespace Go.Proofs.Ytolfnhebnennpaa
set_option linter.unusedVariables false
set_option linter.unusedSimpArgs false
open Go Go.Al Go.ChangeShapes Go.WideShapes Go.ChangeAt Go.RowKit
set_option maxRecDepth 100000
theorem logLays_own : ownKnob Try.prog.godebug = none := by kernel_rfl
theorem logLays_laid : laidOutB Try.prog = true := by kernel_rfl
def logLays_fn : Nat → FuncId × List AV × List AV := fun _ => (0, [], [])
theorem logLays_ac (a0 : ((.list (.list (.int .u8))) : Ty).den) (a1 : ((.list (.list (.int .u8))) : Ty).den) (a2 : ((.int .i64) : Ty).den) (a3 : ((.list (.int .i64)) : Ty).den) (h : s_9 (a0, a1, a2, a3, ()) = some (true, ())) : AC Try.prog 9 [eS ((.list (.int .u8)) : Ty).lay a0, eS ((.list (.int .u8)) : Ty).lay a1, .lit (.int .i64 a2), eS ((.int .i64) : Ty).lay a3] (fun _ => none) fun r _ => r = .ret (B true) := by
  have h1 := plain_ac (E := e_9 logLays_fn) (noY_ok (envC_ok tok chok) [70, 71, 72, 73, 79]) mixed (k_9 logLays_fn) (x := (a0, a1, a2, a3, ())) (r := (true, ())) h (fun _ => none) ⟨fun m => m, logLays_fn⟩ rfl []
  have e1 : ((Pat.enc pi_9 (a0, a1, a2, a3, ())).sl.map fun q => q.2.av (⟨fun m => m, logLays_fn⟩ : Nm) []) = [eS ((.list (.int .u8)) : Ty).lay a0, eS ((.list (.int .u8)) : Ty).lay a1, .lit (.int .i64 a2), eS ((.int .i64) : Ty).lay a3] := by kernel_rfl
  have e2 : (r_9 (true, ())).av (⟨fun m => m, logLays_fn⟩ : Nm) [] = B true := by kernel_rfl
  rw [e1, e2] at h1
  exact h1.mono fun r S h => h.1
theorem logLays_lifted (os : Os) (started : os.Started) (H : Type) (enc : TypeId × Value → H) :
    ReturnsInHanded {} Try.checked os 9 .any (Rows.logLaysSpec.pre6 enc Try.prog Try.f9 Rows.logLaysRow.domain false) (Rows.logLaysSpec.post enc Try.prog Try.f9 false true false false) := by
  refine returnsInHanded_of_change_sized (C := Try.checked) logLays_own started (by kernel_rfl) Try.func9
    (ChangeSpec.witness6 (enc := enc) (C := Try.checked) false ⟨#[], #[(.slice none 0 0), (.slice none 0 0), (.int .i64 0), (.slice none 0 0)], []⟩ 8 (by kernel_rfl) (by kernel_rfl) (by kernel_rfl) (by kernel_rfl)) ?_
  intro W base args ds gs before hval hW _ hw _
  refine law_contract (P := Try.prog) logLays_laid (AS := [fun x => ∃ l : ((.list (.list (.int .u8))) : Ty).den, x = eS ((.list (.int .u8)) : Ty).lay l ∧ ok22 l, fun x => ∃ l : ((.list (.list (.int .u8))) : Ty).den, x = eS ((.list (.int .u8)) : Ty).lay l ∧ ok22 l, fun x => ∃ n, x = .lit (.int .i64 n) ∧ (Lit.int .i64 n).wf = true, fun x => ∃ l : ((.list (.int .i64)) : Ty).den, x = eS ((.int .i64) : Ty).lay l ∧ ok25 l]) (tb := 4) (by kernel_rfl) (by kernel_rfl) rfl (by kernel_rfl) ?_ ?_ ?_ hval hW hw
  · intro ds hd
    rw [Try.params9] at hd
    match ds, hd with
    | [d0, d1, d2, d3], _ => rfl
  · rw [Try.params9]
    exact ⟨(by have := larg_S Try.underlying22 (L := ((.list (.int .u8)) : Ty).lay) cells37 opens37; rw [bytes37] at this; exact this), (by have := larg_S Try.underlying22 (L := ((.list (.int .u8)) : Ty).lay) cells37 opens37; rw [bytes37] at this; exact this), (larg_I Try.underlying3), (by have := larg_S Try.underlying25 (L := ((.int .i64) : Ty).lay) cells3 (lopens_I Try.underlying3); rw [bytes3] at this; exact this), trivial⟩
  · intro xs hx0
    obtain ⟨_, _, rfl, ⟨a0, rfl, k0⟩, hx1⟩ := argsAre_cons hx0
    obtain ⟨_, _, rfl, ⟨a1, rfl, k1⟩, hx2⟩ := argsAre_cons hx1
    obtain ⟨_, _, rfl, ⟨a2, rfl, k2⟩, hx3⟩ := argsAre_cons hx2
    obtain ⟨_, _, rfl, ⟨a3, rfl, k3⟩, hx4⟩ := argsAre_cons hx3
    obtain rfl := argsAre_nil hx4
    exact logLays_ac a0 a1 a2 a3 (LogLays_true a0 a1 a2 a3 k0 k1 k2 k3)
theorem logLays_holds : Rows.LogLaysSaid :=
  OpenClaim.holds_of_wide 9 Try.f9 rfl rfl rfl rfl rfl rfl rfl ⟨rfl, rfl, rfl, rfl, rfl⟩ rfl rfl rfl rfl rfl (by kernel_rfl) Try.func9 (by kernel_rfl)
    (of_decide_eq_true (by kernel_rfl)) (by unfold Func.isWrapper; first | (rw [if_pos (by decide +kernel)]; kernel_rfl) | (rw [if_neg (by decide +kernel)]; exact ⟨rfl, rfl⟩))
    (fun os started H enc _ => logLays_lifted os started H enc)
#print axioms logLays_holds
end Go.Proofs.Ytolfnhebnennpaa
