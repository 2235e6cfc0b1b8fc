/- DiskTrimsSaid, as the statement says; conditions: none. -/
import Derived.Test.YthdmpdagkccphaaPu0
import Derived.Test.YthdmpdagkccphaaY0
import Derived.Test.YthdmpdagkccphaaRows
namespace Go.Proofs.Ythdmpdagkccphaa
set_option linter.unusedVariables false
set_option linter.unusedSimpArgs false
open Go Go.Al Go.ChangeShapes Go.WideShapes Go.ChangeAt Go.RowKit
set_option maxRecDepth 100000
theorem diskTrims_own : ownKnob Try.prog.godebug = none := by kernel_rfl
theorem diskTrims_laid : laidOutB Try.prog = true := by kernel_rfl
theorem diskTrims_lifted (os : Os) (started : os.Started) (H : Type) (enc : TypeId × Value → H) :
    ReturnsInHanded {} Try.checked os 8 .any (Rows.diskTrimsSpec.pre6 enc Try.prog Try.f8 Rows.diskTrimsRow.domain false) (Rows.diskTrimsSpec.post enc Try.prog Try.f8 false true false false) := by
  refine returnsInHanded_of_change_sized (C := Try.checked) diskTrims_own started (by kernel_rfl) Try.func8
    (ChangeSpec.witness6 (enc := enc) (C := Try.checked) false ⟨#[], #[(.slice none 0 0), (.int .i64 0), (.slice none 0 0)], []⟩ 8 (by kernel_rfl) (by kernel_rfl) (by kernel_rfl) (by kernel_rfl)) ?_
  intro W base args ds gs before hval hW _ hw _
  refine law_contract (P := Try.prog) diskTrims_laid (AS := [fun x => ∃ l : List Int, x = eS (lI .u8) l ∧ (∀ z ∈ l, (Lit.int .u8 z).wf = true) ∧ l.length * 1 ≤ reachBytes, fun x => ∃ n, x = .lit (.int .i64 n) ∧ (Lit.int .i64 n).wf = true, fun x => ∃ l : List Int, x = eS (lI .u8) l ∧ (∀ z ∈ l, (Lit.int .u8 z).wf = true) ∧ l.length * 1 ≤ reachBytes]) (tb := 4) (by kernel_rfl) (by kernel_rfl) rfl (by kernel_rfl) ?_ ?_ ?_ hval hW hw
  · intro ds hd
    rw [Try.params8] at hd
    match ds, hd with
    | [d0, d1, d2], _ => rfl
  · rw [Try.params8]
    exact ⟨(by have := larg_S Try.underlying22 (L := (lI .u8)) cells5 (lopens_I Try.underlying5); rw [bytes5] at this; exact this), (larg_I Try.underlying3), (by have := larg_S Try.underlying22 (L := (lI .u8)) cells5 (lopens_I Try.underlying5); rw [bytes5] at this; exact this), trivial⟩
  · intro xs hx0
    obtain ⟨_, _, rfl, ⟨a0, rfl, k0⟩, hx1⟩ := argsAre_cons hx0
    obtain ⟨_, _, rfl, ⟨a1, rfl, k1⟩, hx2⟩ := argsAre_cons hx1
    obtain ⟨_, _, rfl, ⟨a2, rfl, k2⟩, hx3⟩ := argsAre_cons hx2
    obtain rfl := argsAre_nil hx3
    refine (s_stanchionlaw04_DiskTrims_ok (fun _ => none) a0 a1 a2 (DiskTrims_true a0 a1 a2 k0 k1 k2)).mono ?_
    rintro r S ⟨rfl, rfl⟩; rfl
theorem diskTrims_holds : Rows.DiskTrimsSaid :=
  OpenClaim.holds_of_wide 8 Try.f8 rfl rfl rfl rfl rfl rfl rfl ⟨rfl, rfl, rfl, rfl, rfl⟩ rfl rfl rfl rfl rfl (by kernel_rfl) Try.func8 (by kernel_rfl)
    (of_decide_eq_true (by kernel_rfl)) (by unfold Func.isWrapper; first | (rw [if_pos (by decide +kernel)]; kernel_rfl) | (rw [if_neg (by decide +kernel)]; exact ⟨rfl, rfl⟩))
    (fun os started H enc _ => diskTrims_lifted os started H enc)
#print axioms diskTrims_holds
end Go.Proofs.Ythdmpdagkccphaa
