/- LogOpensSaid, as the statement says; conditions: none. -/
import Derived.Test.YtolfnhebnennpaaPu0
import Derived.Test.YtolfnhebnennpaaW
import Derived.Test.YtolfnhebnennpaaRows
namespace Go.Proofs.Ytolfnhebnennpaa
set_option linter.unusedVariables false
set_option linter.unusedSimpArgs false
open Go Go.Al Go.ChangeShapes Go.WideShapes Go.ChangeAt Go.RowKit
set_option maxRecDepth 100000
theorem logOpens_own : ownKnob Try.prog.godebug = none := by kernel_rfl
theorem logOpens_laid : laidOutB Try.prog = true := by kernel_rfl
def logOpens_fn : Nat → FuncId × List AV × List AV := fun _ => (0, [], [])
theorem logOpens_ac (a0 : ((.list (.int .u8)) : Ty).den) (a1 : ((.list (.int .u8)) : Ty).den) (a2 : ((.int .i64) : Ty).den) (h : s_6 (a0, a1, a2, ()) = some (true, ())) : AC Try.prog 6 [eS ((.int .u8) : Ty).lay a0, eS ((.int .u8) : Ty).lay a1, .lit (.int .i64 a2)] (fun _ => none) fun r _ => r = .ret (B true) := by
  have h1 := plain_ac (E := e_6 logOpens_fn) (noY_ok (envC_ok tok chok) [70, 71, 72, 73, 79]) mixed (k_6 logOpens_fn) (x := (a0, a1, a2, ())) (r := (true, ())) h (fun _ => none) ⟨fun m => m, logOpens_fn⟩ rfl []
  have e1 : ((Pat.enc pi_6 (a0, a1, a2, ())).sl.map fun q => q.2.av (⟨fun m => m, logOpens_fn⟩ : Nm) []) = [eS ((.int .u8) : Ty).lay a0, eS ((.int .u8) : Ty).lay a1, .lit (.int .i64 a2)] := by kernel_rfl
  have e2 : (r_6 (true, ())).av (⟨fun m => m, logOpens_fn⟩ : Nm) [] = B true := by kernel_rfl
  rw [e1, e2] at h1
  exact h1.mono fun r S h => h.1
theorem logOpens_lifted (os : Os) (started : os.Started) (H : Type) (enc : TypeId × Value → H) :
    ReturnsInHanded {} Try.checked os 6 .any (Rows.logOpensSpec.pre6 enc Try.prog Try.f6 Rows.logOpensRow.domain false) (Rows.logOpensSpec.post enc Try.prog Try.f6 false true false false) := by
  refine returnsInHanded_of_change_sized (C := Try.checked) logOpens_own started (by kernel_rfl) Try.func6
    (ChangeSpec.witness6 (enc := enc) (C := Try.checked) false ⟨#[], #[(.slice none 0 0), (.slice none 0 0), (.int .i64 0)], []⟩ 8 (by kernel_rfl) (by kernel_rfl) (by kernel_rfl) (by kernel_rfl)) ?_
  intro W base args ds gs before hval hW _ hw _
  refine law_contract (P := Try.prog) logOpens_laid (AS := [fun x => ∃ l : ((.list (.int .u8)) : Ty).den, x = eS ((.int .u8) : Ty).lay l ∧ ok37 l, fun x => ∃ l : ((.list (.int .u8)) : Ty).den, x = eS ((.int .u8) : Ty).lay l ∧ ok37 l, fun x => ∃ n, x = .lit (.int .i64 n) ∧ (Lit.int .i64 n).wf = true]) (tb := 4) (by kernel_rfl) (by kernel_rfl) rfl (by kernel_rfl) ?_ ?_ ?_ hval hW hw
  · intro ds hd
    rw [Try.params6] at hd
    match ds, hd with
    | [d0, d1, d2], _ => rfl
  · rw [Try.params6]
    exact ⟨(by have := larg_S Try.underlying37 (L := ((.int .u8) : Ty).lay) cells5 (lopens_I Try.underlying5); rw [bytes5] at this; exact this), (by have := larg_S Try.underlying37 (L := ((.int .u8) : Ty).lay) cells5 (lopens_I Try.underlying5); rw [bytes5] at this; exact this), (larg_I Try.underlying3), trivial⟩
  · intro xs hx0
    obtain ⟨_, _, rfl, ⟨a0, rfl, k0⟩, hx1⟩ := argsAre_cons hx0
    obtain ⟨_, _, rfl, ⟨a1, rfl, k1⟩, hx2⟩ := argsAre_cons hx1
    obtain ⟨_, _, rfl, ⟨a2, rfl, k2⟩, hx3⟩ := argsAre_cons hx2
    obtain rfl := argsAre_nil hx3
    exact logOpens_ac a0 a1 a2 (LogOpens_true a0 a1 a2 k0 k1 k2)
theorem logOpens_holds : Rows.LogOpensSaid :=
  OpenClaim.holds_of_wide 6 Try.f6 rfl rfl rfl rfl rfl rfl rfl ⟨rfl, rfl, rfl, rfl, rfl⟩ rfl rfl rfl rfl rfl (by kernel_rfl) Try.func6 (by kernel_rfl)
    (of_decide_eq_true (by kernel_rfl)) (by unfold Func.isWrapper; first | (rw [if_pos (by decide +kernel)]; kernel_rfl) | (rw [if_neg (by decide +kernel)]; exact ⟨rfl, rfl⟩))
    (fun os started H enc _ => logOpens_lifted os started H enc)
#print axioms logOpens_holds
end Go.Proofs.Ytolfnhebnennpaa
