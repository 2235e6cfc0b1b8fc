/- MacHmacsSaid, as the statement says; conditions: none. -/
import Derived.Test.YtlahipbilbibiaaPu0
import Derived.Test.YtlahipbilbibiaaW
import Derived.Test.YtlahipbilbibiaaRows
namespace Go.Proofs.Ytlahipbilbibiaa
set_option linter.unusedVariables false
set_option linter.unusedSimpArgs false
open Go Go.Al Go.ChangeShapes Go.WideShapes Go.ChangeAt Go.RowKit
set_option maxRecDepth 100000
theorem macHmacs_own : ownKnob Try.prog.godebug = none := by kernel_rfl
theorem macHmacs_laid : laidOutB Try.prog = true := by kernel_rfl
def macHmacs_fn : Nat → FuncId × List AV × List AV := fun _ => (0, [], [])
theorem macHmacs_ac (a0 : ((.list (.int .u8)) : Ty).den) (a1 : ((.list (.int .u8)) : Ty).den) (h : s_3 (a0, a1, ()) = some (true, ())) : AC Try.prog 3 [eS ((.int .u8) : Ty).lay a0, eS ((.int .u8) : Ty).lay a1] (fun _ => none) fun r _ => r = .ret (B true) := by
  have h1 := plain_ac (E := e_3 macHmacs_fn) (envC_ok tok chok) mixed (k_3 macHmacs_fn) (x := (a0, a1, ())) (r := (true, ())) h (fun _ => none) ⟨fun m => m, macHmacs_fn⟩ rfl []
  have e1 : ((Pat.enc pi_3 (a0, a1, ())).sl.map fun q => q.2.av (⟨fun m => m, macHmacs_fn⟩ : Nm) []) = [eS ((.int .u8) : Ty).lay a0, eS ((.int .u8) : Ty).lay a1] := by kernel_rfl
  have e2 : (r_3 (true, ())).av (⟨fun m => m, macHmacs_fn⟩ : Nm) [] = B true := by kernel_rfl
  rw [e1, e2] at h1
  exact h1.mono fun r S h => h.1
theorem macHmacs_lifted (os : Os) (started : os.Started) (H : Type) (enc : TypeId × Value → H) :
    ReturnsInHanded {} Try.checked os 3 .any (Rows.macHmacsSpec.pre6 enc Try.prog Try.f3 Rows.macHmacsRow.domain false) (Rows.macHmacsSpec.post enc Try.prog Try.f3 false true false false) := by
  refine returnsInHanded_of_change_sized (C := Try.checked) macHmacs_own started (by kernel_rfl) Try.func3
    (ChangeSpec.witness6 (enc := enc) (C := Try.checked) false ⟨#[], #[(.slice none 0 0), (.slice none 0 0)], []⟩ 8 (by kernel_rfl) (by kernel_rfl) (by kernel_rfl) (by kernel_rfl)) ?_
  intro W base args ds gs before hval hW _ hw _
  refine law_contract (P := Try.prog) macHmacs_laid (AS := [fun x => ∃ l : ((.list (.int .u8)) : Ty).den, x = eS ((.int .u8) : Ty).lay l ∧ ok22 l, fun x => ∃ l : ((.list (.int .u8)) : Ty).den, x = eS ((.int .u8) : Ty).lay l ∧ ok22 l]) (tb := 4) (by kernel_rfl) (by kernel_rfl) rfl (by kernel_rfl) ?_ ?_ ?_ hval hW hw
  · intro ds hd
    rw [Try.params3] at hd
    match ds, hd with
    | [d0, d1], _ => rfl
  · rw [Try.params3]
    exact ⟨(by have := larg_S Try.underlying22 (L := ((.int .u8) : Ty).lay) cells5 (lopens_I Try.underlying5); rw [bytes5] at this; exact this), (by have := larg_S Try.underlying22 (L := ((.int .u8) : Ty).lay) cells5 (lopens_I Try.underlying5); rw [bytes5] at this; exact this), trivial⟩
  · intro xs hx0
    obtain ⟨_, _, rfl, ⟨a0, rfl, k0⟩, hx1⟩ := argsAre_cons hx0
    obtain ⟨_, _, rfl, ⟨a1, rfl, k1⟩, hx2⟩ := argsAre_cons hx1
    obtain rfl := argsAre_nil hx2
    exact macHmacs_ac a0 a1 (MacHmacs_true a0 a1 k0 k1)
theorem macHmacs_holds : Rows.MacHmacsSaid :=
  OpenClaim.holds_of_wide 3 Try.f3 rfl rfl rfl rfl rfl rfl rfl ⟨rfl, rfl, rfl, rfl, rfl⟩ rfl rfl rfl rfl rfl (by kernel_rfl) Try.func3 (by kernel_rfl)
    (of_decide_eq_true (by kernel_rfl)) (by unfold Func.isWrapper; first | (rw [if_pos (by decide +kernel)]; kernel_rfl) | (rw [if_neg (by decide +kernel)]; exact ⟨rfl, rfl⟩))
    (fun os started H enc _ => macHmacs_lifted os started H enc)
#print axioms macHmacs_holds
end Go.Proofs.Ytlahipbilbibiaa
