/- LogPrefixSaid, as the statement says; conditions: none. -/
import Derived.Test.YtolfnhebnennpaaPu0
import Derived.Test.YtolfnhebnennpaaW
import Derived.Test.YtolfnhebnennpaaRows
namespace Go.Proofs.Ytolfnhebnennpaa
set_option linter.unusedVariables false
set_option linter.unusedSimpArgs false
open Go Go.Al Go.ChangeShapes Go.WideShapes Go.ChangeAt Go.RowKit
set_option maxRecDepth 100000
theorem logPrefix_own : ownKnob Try.prog.godebug = none := by kernel_rfl
theorem logPrefix_laid : laidOutB Try.prog = true := by kernel_rfl
def logPrefix_fn : Nat → FuncId × List AV × List AV := fun _ => (0, [], [])
theorem logPrefix_ac (a0 : ((.list (.list (.int .u8))) : Ty).den) (a1 : ((.list (.list (.int .u8))) : Ty).den) (a2 : (.bool : Ty).den) (a3 : ((.list (.int .i64)) : Ty).den) (a4 : ((.int .i64) : Ty).den) (h : s_8 (a0, a1, a2, a3, a4, ()) = some (true, ())) : AC Try.prog 8 [eS ((.list (.int .u8)) : Ty).lay a0, eS ((.list (.int .u8)) : Ty).lay a1, .lit (.bool a2), eS ((.int .i64) : Ty).lay a3, .lit (.int .i64 a4)] (fun _ => none) fun r _ => r = .ret (B true) := by
  have h1 := plain_ac (E := e_8 logPrefix_fn) (noY_ok (envC_ok tok chok) [70, 71, 72, 73, 79]) mixed (k_8 logPrefix_fn) (x := (a0, a1, a2, a3, a4, ())) (r := (true, ())) h (fun _ => none) ⟨fun m => m, logPrefix_fn⟩ rfl []
  have e1 : ((Pat.enc pi_8 (a0, a1, a2, a3, a4, ())).sl.map fun q => q.2.av (⟨fun m => m, logPrefix_fn⟩ : Nm) []) = [eS ((.list (.int .u8)) : Ty).lay a0, eS ((.list (.int .u8)) : Ty).lay a1, .lit (.bool a2), eS ((.int .i64) : Ty).lay a3, .lit (.int .i64 a4)] := by kernel_rfl
  have e2 : (r_8 (true, ())).av (⟨fun m => m, logPrefix_fn⟩ : Nm) [] = B true := by kernel_rfl
  rw [e1, e2] at h1
  exact h1.mono fun r S h => h.1
theorem logPrefix_lifted (os : Os) (started : os.Started) (H : Type) (enc : TypeId × Value → H) :
    ReturnsInHanded {} Try.checked os 8 .any (Rows.logPrefixSpec.pre6 enc Try.prog Try.f8 Rows.logPrefixRow.domain false) (Rows.logPrefixSpec.post enc Try.prog Try.f8 false true false false) := by
  refine returnsInHanded_of_change_sized (C := Try.checked) logPrefix_own started (by kernel_rfl) Try.func8
    (ChangeSpec.witness6 (enc := enc) (C := Try.checked) false ⟨#[], #[(.slice none 0 0), (.slice none 0 0), (.bool false), (.slice none 0 0), (.int .i64 0)], []⟩ 8 (by kernel_rfl) (by kernel_rfl) (by kernel_rfl) (by kernel_rfl)) ?_
  intro W base args ds gs before hval hW _ hw _
  refine law_contract (P := Try.prog) logPrefix_laid (AS := [fun x => ∃ l : ((.list (.list (.int .u8))) : Ty).den, x = eS ((.list (.int .u8)) : Ty).lay l ∧ ok22 l, fun x => ∃ l : ((.list (.list (.int .u8))) : Ty).den, x = eS ((.list (.int .u8)) : Ty).lay l ∧ ok22 l, fun x => ∃ b, x = .lit (.bool b), fun x => ∃ l : ((.list (.int .i64)) : Ty).den, x = eS ((.int .i64) : Ty).lay l ∧ ok25 l, fun x => ∃ n, x = .lit (.int .i64 n) ∧ (Lit.int .i64 n).wf = true]) (tb := 4) (by kernel_rfl) (by kernel_rfl) rfl (by kernel_rfl) ?_ ?_ ?_ hval hW hw
  · intro ds hd
    rw [Try.params8] at hd
    match ds, hd with
    | [d0, d1, d2, d3, d4], _ => rfl
  · rw [Try.params8]
    exact ⟨(by have := larg_S Try.underlying22 (L := ((.list (.int .u8)) : Ty).lay) cells37 opens37; rw [bytes37] at this; exact this), (by have := larg_S Try.underlying22 (L := ((.list (.int .u8)) : Ty).lay) cells37 opens37; rw [bytes37] at this; exact this), (larg_B Try.underlying4), (by have := larg_S Try.underlying25 (L := ((.int .i64) : Ty).lay) cells3 (lopens_I Try.underlying3); rw [bytes3] at this; exact this), (larg_I Try.underlying3), trivial⟩
  · intro xs hx0
    obtain ⟨_, _, rfl, ⟨a0, rfl, k0⟩, hx1⟩ := argsAre_cons hx0
    obtain ⟨_, _, rfl, ⟨a1, rfl, k1⟩, hx2⟩ := argsAre_cons hx1
    obtain ⟨_, _, rfl, ⟨a2, rfl⟩, hx3⟩ := argsAre_cons hx2
    obtain ⟨_, _, rfl, ⟨a3, rfl, k3⟩, hx4⟩ := argsAre_cons hx3
    obtain ⟨_, _, rfl, ⟨a4, rfl, k4⟩, hx5⟩ := argsAre_cons hx4
    obtain rfl := argsAre_nil hx5
    exact logPrefix_ac a0 a1 a2 a3 a4 (LogPrefix_true a0 a1 a2 a3 a4 k0 k1 k3 k4)
theorem logPrefix_holds : Rows.LogPrefixSaid :=
  OpenClaim.holds_of_wide 8 Try.f8 rfl rfl rfl rfl rfl rfl rfl ⟨rfl, rfl, rfl, rfl, rfl⟩ rfl rfl rfl rfl rfl (by kernel_rfl) Try.func8 (by kernel_rfl)
    (of_decide_eq_true (by kernel_rfl)) (by unfold Func.isWrapper; first | (rw [if_pos (by decide +kernel)]; kernel_rfl) | (rw [if_neg (by decide +kernel)]; exact ⟨rfl, rfl⟩))
    (fun os started H enc _ => logPrefix_lifted os started H enc)
#print axioms logPrefix_holds
end Go.Proofs.Ytolfnhebnennpaa
