/- MacTurnsSaid, as the statement says; conditions: none. -/
import Derived.Test.YtlahipbilbibiaaPu0
import Derived.Test.YtlahipbilbibiaaW
import Derived.Test.YtlahipbilbibiaaRows
namespace Go.Proofs.Ytlahipbilbibiaa
set_option linter.unusedVariables false
set_option linter.unusedSimpArgs false
open Go Go.Al Go.ChangeShapes Go.WideShapes Go.ChangeAt Go.RowKit
set_option maxRecDepth 100000
theorem macTurns_own : ownKnob Try.prog.godebug = none := by kernel_rfl
theorem macTurns_laid : laidOutB Try.prog = true := by kernel_rfl
def macTurns_fn : Nat → FuncId × List AV × List AV := fun _ => (0, [], [])
theorem macTurns_ac (a0 : ((.list (.int .u8)) : Ty).den) (a1 : ((.pair (.int .i64) (.int .i64)) : Ty).den) (a2 : ((.int .i64) : Ty).den) (a3 : ((.int .i64) : Ty).den) (a4 : ((.list (.int .u8)) : Ty).den) (a5 : ((.list (.int .i64)) : Ty).den) (h : s_9 (a0, a1, a2, a3, a4, a5, ()) = some (true, ())) : AC Try.prog 9 [eS ((.int .u8) : Ty).lay a0, .agg (((.pair (.int .i64) (.int .i64)) : Ty).lay.cells a1), .lit (.int .i64 a2), .lit (.int .i64 a3), eS ((.int .u8) : Ty).lay a4, eS ((.int .i64) : Ty).lay a5] (fun _ => none) fun r _ => r = .ret (B true) := by
  have h1 := plain_ac (E := e_9 macTurns_fn) (envC_ok tok chok) mixed (k_9 macTurns_fn) (x := (a0, a1, a2, a3, a4, a5, ())) (r := (true, ())) h (fun _ => none) ⟨fun m => m, macTurns_fn⟩ rfl []
  have e1 : ((Pat.enc pi_9 (a0, a1, a2, a3, a4, a5, ())).sl.map fun q => q.2.av (⟨fun m => m, macTurns_fn⟩ : Nm) []) = [eS ((.int .u8) : Ty).lay a0, .agg (((.pair (.int .i64) (.int .i64)) : Ty).lay.cells a1), .lit (.int .i64 a2), .lit (.int .i64 a3), eS ((.int .u8) : Ty).lay a4, eS ((.int .i64) : Ty).lay a5] := by kernel_rfl
  have e2 : (r_9 (true, ())).av (⟨fun m => m, macTurns_fn⟩ : Nm) [] = B true := by kernel_rfl
  rw [e1, e2] at h1
  exact h1.mono fun r S h => h.1
theorem macTurns_lifted (os : Os) (started : os.Started) (H : Type) (enc : TypeId × Value → H) :
    ReturnsInHanded {} Try.checked os 9 .any (Rows.macTurnsSpec.pre6 enc Try.prog Try.f9 Rows.macTurnsRow.domain false) (Rows.macTurnsSpec.post enc Try.prog Try.f9 false true false false) := by
  refine returnsInHanded_of_change_sized (C := Try.checked) macTurns_own started (by kernel_rfl) Try.func9
    (ChangeSpec.witness6 (enc := enc) (C := Try.checked) false ⟨#[], #[(.slice none 0 0), .agg #[(.int .i64 0), (.int .i64 0)], (.int .i64 0), (.int .i64 0), (.slice none 0 0), (.slice none 0 0)], []⟩ 8 (by kernel_rfl) (by kernel_rfl) (by kernel_rfl) (by kernel_rfl)) ?_
  intro W base args ds gs before hval hW _ hw _
  refine law_contract (P := Try.prog) macTurns_laid (AS := [fun x => ∃ l : ((.list (.int .u8)) : Ty).den, x = eS ((.int .u8) : Ty).lay l ∧ ok22 l, fun x => ∃ s : ((.pair (.int .i64) (.int .i64)) : Ty).den, x = .agg (((.pair (.int .i64) (.int .i64)) : Ty).lay.cells s) ∧ ok28 s, fun x => ∃ n, x = .lit (.int .i64 n) ∧ (Lit.int .i64 n).wf = true, fun x => ∃ n, x = .lit (.int .i64 n) ∧ (Lit.int .i64 n).wf = true, fun x => ∃ l : ((.list (.int .u8)) : Ty).den, x = eS ((.int .u8) : Ty).lay l ∧ ok22 l, fun x => ∃ l : ((.list (.int .i64)) : Ty).den, x = eS ((.int .i64) : Ty).lay l ∧ ok32 l]) (tb := 4) (by kernel_rfl) (by kernel_rfl) rfl (by kernel_rfl) ?_ ?_ ?_ hval hW hw
  · intro ds hd
    rw [Try.params9] at hd
    match ds, hd with
    | [d0, d1, d2, d3, d4, d5], _ => rfl
  · rw [Try.params9]
    exact ⟨(by have := larg_S Try.underlying22 (L := ((.int .u8) : Ty).lay) cells5 (lopens_I Try.underlying5); rw [bytes5] at this; exact this), (larg_R Try.underlying28 opens28), (larg_I Try.underlying3), (larg_I Try.underlying3), (by have := larg_S Try.underlying22 (L := ((.int .u8) : Ty).lay) cells5 (lopens_I Try.underlying5); rw [bytes5] at this; exact this), (by have := larg_S Try.underlying32 (L := ((.int .i64) : Ty).lay) cells3 (lopens_I Try.underlying3); rw [bytes3] at this; exact this), trivial⟩
  · intro xs hx0
    obtain ⟨_, _, rfl, ⟨a0, rfl, k0⟩, hx1⟩ := argsAre_cons hx0
    obtain ⟨_, _, rfl, ⟨a1, rfl, k1⟩, hx2⟩ := argsAre_cons hx1
    obtain ⟨_, _, rfl, ⟨a2, rfl, k2⟩, hx3⟩ := argsAre_cons hx2
    obtain ⟨_, _, rfl, ⟨a3, rfl, k3⟩, hx4⟩ := argsAre_cons hx3
    obtain ⟨_, _, rfl, ⟨a4, rfl, k4⟩, hx5⟩ := argsAre_cons hx4
    obtain ⟨_, _, rfl, ⟨a5, rfl, k5⟩, hx6⟩ := argsAre_cons hx5
    obtain rfl := argsAre_nil hx6
    exact macTurns_ac a0 a1 a2 a3 a4 a5 (MacTurns_true a0 a1 a2 a3 a4 a5 k0 k1 k2 k3 k4 k5)
theorem macTurns_holds : Rows.MacTurnsSaid :=
  OpenClaim.holds_of_wide 9 Try.f9 rfl rfl rfl rfl rfl rfl rfl ⟨rfl, rfl, rfl, rfl, rfl⟩ rfl rfl rfl rfl rfl (by kernel_rfl) Try.func9 (by kernel_rfl)
    (of_decide_eq_true (by kernel_rfl)) (by unfold Func.isWrapper; first | (rw [if_pos (by decide +kernel)]; kernel_rfl) | (rw [if_neg (by decide +kernel)]; exact ⟨rfl, rfl⟩))
    (fun os started H enc _ => macTurns_lifted os started H enc)
#print axioms macTurns_holds
end Go.Proofs.Ytlahipbilbibiaa
