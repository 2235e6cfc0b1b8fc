/- DiskSafeSaid, as the statement says; conditions: none. -/
import Derived.Test.YthdmpdagkccphaaPu0
import Derived.Test.YthdmpdagkccphaaY0
import Derived.Test.YthdmpdagkccphaaRows
namespace Go.Proofs.Ythdmpdagkccphaa
set_option linter.unusedVariables false
set_option linter.unusedSimpArgs false
open Go Go.Al Go.ChangeShapes Go.WideShapes Go.ChangeAt Go.RowKit
set_option maxRecDepth 100000
theorem diskSafe_own : ownKnob Try.prog.godebug = none := by kernel_rfl
theorem diskSafe_laid : laidOutB Try.prog = true := by kernel_rfl
theorem diskSafe_lifted (os : Os) (started : os.Started) (H : Type) (enc : TypeId × Value → H) :
    ReturnsInHanded {} Try.checked os 5 .any (Rows.diskSafeSpec.pre6 enc Try.prog Try.f5 Rows.diskSafeRow.domain false) (Rows.diskSafeSpec.post enc Try.prog Try.f5 false true false false) := by
  refine returnsInHanded_of_change_sized (C := Try.checked) diskSafe_own started (by kernel_rfl) Try.func5
    (ChangeSpec.witness6 (enc := enc) (C := Try.checked) false ⟨#[], #[(.slice none 0 0), (.int .i64 0), (.slice none 0 0), (.slice none 0 0)], []⟩ 8 (by kernel_rfl) (by kernel_rfl) (by kernel_rfl) (by kernel_rfl)) ?_
  intro W base args ds gs before hval hW _ hw _
  refine law_contract (P := Try.prog) diskSafe_laid (AS := [fun x => ∃ l : List Glaw04Op, x = eS yGlaw04Op l ∧ (∀ z ∈ l, okGlaw04Op z) ∧ l.length * 72 ≤ reachBytes, fun x => ∃ n, x = .lit (.int .i64 n) ∧ (Lit.int .i64 n).wf = true, fun x => ∃ l : List Int, x = eS (lI .u8) l ∧ (∀ z ∈ l, (Lit.int .u8 z).wf = true) ∧ l.length * 1 ≤ reachBytes, fun x => ∃ l : List Int, x = eS (lI .i64) l ∧ (∀ z ∈ l, (Lit.int .i64 z).wf = true) ∧ l.length * 8 ≤ reachBytes]) (tb := 4) (by kernel_rfl) (by kernel_rfl) rfl (by kernel_rfl) ?_ ?_ ?_ hval hW hw
  · intro ds hd
    rw [Try.params5] at hd
    match ds, hd with
    | [d0, d1, d2, d3], _ => rfl
  · rw [Try.params5]
    exact ⟨(by have := larg_S Try.underlying34 (L := yGlaw04Op) cells43 opens_43; rw [bytes43] at this; exact this), (larg_I Try.underlying3), (by have := larg_S Try.underlying22 (L := (lI .u8)) cells5 (lopens_I Try.underlying5); rw [bytes5] at this; exact this), (by have := larg_S Try.underlying30 (L := (lI .i64)) cells3 (lopens_I Try.underlying3); rw [bytes3] at this; exact this), trivial⟩
  · intro xs hx0
    obtain ⟨_, _, rfl, ⟨a0, rfl, k0⟩, hx1⟩ := argsAre_cons hx0
    obtain ⟨_, _, rfl, ⟨a1, rfl, k1⟩, hx2⟩ := argsAre_cons hx1
    obtain ⟨_, _, rfl, ⟨a2, rfl, k2⟩, hx3⟩ := argsAre_cons hx2
    obtain ⟨_, _, rfl, ⟨a3, rfl, k3⟩, hx4⟩ := argsAre_cons hx3
    obtain rfl := argsAre_nil hx4
    refine (s_stanchionlaw04_DiskSafe_ok (fun _ => none) a0 a1 a2 a3 (DiskSafe_true a0 a1 a2 a3 k0 k1 k2 k3)).mono ?_
    rintro r S ⟨rfl, rfl⟩; rfl
theorem diskSafe_holds : Rows.DiskSafeSaid :=
  OpenClaim.holds_of_wide 5 Try.f5 rfl rfl rfl rfl rfl rfl rfl ⟨rfl, rfl, rfl, rfl, rfl⟩ rfl rfl rfl rfl rfl (by kernel_rfl) Try.func5 (by kernel_rfl)
    (of_decide_eq_true (by kernel_rfl)) (by unfold Func.isWrapper; first | (rw [if_pos (by decide +kernel)]; kernel_rfl) | (rw [if_neg (by decide +kernel)]; exact ⟨rfl, rfl⟩))
    (fun os started H enc _ => diskSafe_lifted os started H enc)
#print axioms diskSafe_holds
end Go.Proofs.Ythdmpdagkccphaa
