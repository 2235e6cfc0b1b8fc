/- ShaPartsSaid, as the statement says; conditions: none. -/
import Derived.Test.YtoaagngddkdidaaPu0
import Derived.Test.YtoaagngddkdidaaW
import Derived.Test.YtoaagngddkdidaaRows
namespace Go.Proofs.Ytoaagngddkdidaa
set_option linter.unusedVariables false
set_option linter.unusedSimpArgs false
open Go Go.Al Go.ChangeShapes Go.WideShapes Go.ChangeAt Go.RowKit
set_option maxRecDepth 100000
theorem shaParts_own : ownKnob Try.prog.godebug = none := by kernel_rfl
theorem shaParts_laid : laidOutB Try.prog = true := by kernel_rfl
def shaParts_fn : Nat → FuncId × List AV × List AV := fun _ => (0, [], [])
theorem shaParts_ac (a0 : ((.list (.int .u8)) : Ty).den) (a1 : ((.list (.int .i64)) : Ty).den) (h : s_5 (a0, a1, ()) = some (true, ())) : AC Try.prog 5 [eS ((.int .u8) : Ty).lay a0, eS ((.int .i64) : Ty).lay a1] (fun _ => none) fun r _ => r = .ret (B true) := by
  have h1 := plain_ac (E := e_5 shaParts_fn) (envC_ok tok chok) mixed (k_5 shaParts_fn) (x := (a0, a1, ())) (r := (true, ())) h (fun _ => none) ⟨fun m => m, shaParts_fn⟩ rfl []
  have e1 : ((Pat.enc pi_5 (a0, a1, ())).sl.map fun q => q.2.av (⟨fun m => m, shaParts_fn⟩ : Nm) []) = [eS ((.int .u8) : Ty).lay a0, eS ((.int .i64) : Ty).lay a1] := by kernel_rfl
  have e2 : (r_5 (true, ())).av (⟨fun m => m, shaParts_fn⟩ : Nm) [] = B true := by kernel_rfl
  rw [e1, e2] at h1
  exact h1.mono fun r S h => h.1
theorem shaParts_lifted (os : Os) (started : os.Started) (H : Type) (enc : TypeId × Value → H) :
    ReturnsInHanded {} Try.checked os 5 .any (Rows.shaPartsSpec.pre6 enc Try.prog Try.f5 Rows.shaPartsRow.domain false) (Rows.shaPartsSpec.post enc Try.prog Try.f5 false true false false) := by
  refine returnsInHanded_of_change_sized (C := Try.checked) shaParts_own started (by kernel_rfl) Try.func5
    (ChangeSpec.witness6 (enc := enc) (C := Try.checked) false ⟨#[], #[(.slice none 0 0), (.slice none 0 0)], []⟩ 8 (by kernel_rfl) (by kernel_rfl) (by kernel_rfl) (by kernel_rfl)) ?_
  intro W base args ds gs before hval hW _ hw _
  refine law_contract (P := Try.prog) shaParts_laid (AS := [fun x => ∃ l : ((.list (.int .u8)) : Ty).den, x = eS ((.int .u8) : Ty).lay l ∧ ok25 l, fun x => ∃ l : ((.list (.int .i64)) : Ty).den, x = eS ((.int .i64) : Ty).lay l ∧ ok34 l]) (tb := 4) (by kernel_rfl) (by kernel_rfl) rfl (by kernel_rfl) ?_ ?_ ?_ hval hW hw
  · intro ds hd
    rw [Try.params5] at hd
    match ds, hd with
    | [d0, d1], _ => rfl
  · rw [Try.params5]
    exact ⟨(by have := larg_S Try.underlying25 (L := ((.int .u8) : Ty).lay) cells5 (lopens_I Try.underlying5); rw [bytes5] at this; exact this), (by have := larg_S Try.underlying34 (L := ((.int .i64) : Ty).lay) cells3 (lopens_I Try.underlying3); rw [bytes3] at this; exact this), trivial⟩
  · intro xs hx0
    obtain ⟨_, _, rfl, ⟨a0, rfl, k0⟩, hx1⟩ := argsAre_cons hx0
    obtain ⟨_, _, rfl, ⟨a1, rfl, k1⟩, hx2⟩ := argsAre_cons hx1
    obtain rfl := argsAre_nil hx2
    exact shaParts_ac a0 a1 (ShaParts_true a0 a1 k0 k1)
theorem shaParts_holds : Rows.ShaPartsSaid :=
  OpenClaim.holds_of_wide 5 Try.f5 rfl rfl rfl rfl rfl rfl rfl ⟨rfl, rfl, rfl, rfl, rfl⟩ rfl rfl rfl rfl rfl (by kernel_rfl) Try.func5 (by kernel_rfl)
    (of_decide_eq_true (by kernel_rfl)) (by unfold Func.isWrapper; first | (rw [if_pos (by decide +kernel)]; kernel_rfl) | (rw [if_neg (by decide +kernel)]; exact ⟨rfl, rfl⟩))
    (fun os started H enc _ => shaParts_lifted os started H enc)
#print axioms shaParts_holds
end Go.Proofs.Ytoaagngddkdidaa
