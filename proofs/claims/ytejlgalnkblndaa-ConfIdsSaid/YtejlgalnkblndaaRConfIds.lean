/- ConfIdsSaid, as the statement says; conditions: none. -/
import Derived.Test.YtejlgalnkblndaaPu0
import Derived.Test.YtejlgalnkblndaaY0
import Derived.Test.YtejlgalnkblndaaRows
namespace Go.Proofs.Ytejlgalnkblndaa
set_option linter.unusedVariables false
set_option linter.unusedSimpArgs false
open Go Go.Al Go.ChangeShapes Go.WideShapes Go.ChangeAt Go.RowKit
set_option maxRecDepth 100000
theorem confIds_own : ownKnob Try.prog.godebug = none := by kernel_rfl
theorem confIds_laid : laidOutB Try.prog = true := by kernel_rfl
theorem confIds_lifted (os : Os) (started : os.Started) (H : Type) (enc : TypeId × Value → H) :
    ReturnsInHanded {} Try.checked os 4 .any (Rows.confIdsSpec.pre6 enc Try.prog Try.f4 Rows.confIdsRow.domain false) (Rows.confIdsSpec.post enc Try.prog Try.f4 false true false false) := by
  refine returnsInHanded_of_change_sized (C := Try.checked) confIds_own started (by kernel_rfl) Try.func4
    (ChangeSpec.witness6 (enc := enc) (C := Try.checked) false ⟨#[], #[.agg #[(.int .i64 0), (.int .i64 0), (.int .i64 0), (.int .i64 0), (.int .i64 0), (.int .i64 0), (.slice none 0 0)], (.slice none 0 0)], []⟩ 8 (by kernel_rfl) (by kernel_rfl) (by kernel_rfl) (by kernel_rfl)) ?_
  intro W base args ds gs before hval hW _ hw _
  refine law_contract (P := Try.prog) confIds_laid (AS := [fun x => ∃ s : GapiConf, x = .agg (yGapiConf.cells s) ∧ okGapiConf s, fun x => ∃ l : List Int, x = eS (lI .i64) l ∧ (∀ z ∈ l, (Lit.int .i64 z).wf = true) ∧ l.length * 8 ≤ reachBytes]) (tb := 4) (by kernel_rfl) (by kernel_rfl) rfl (by kernel_rfl) ?_ ?_ ?_ hval hW hw
  · intro ds hd
    rw [Try.params4] at hd
    match ds, hd with
    | [d0, d1], _ => rfl
  · rw [Try.params4]
    exact ⟨(larg_R Try.underlying24 opens_24), (by have := larg_S Try.underlying35 (L := (lI .i64)) cells3 (lopens_I Try.underlying3); rw [bytes3] at this; exact this), trivial⟩
  · intro xs hx0
    obtain ⟨_, _, rfl, ⟨a0, rfl, k0⟩, hx1⟩ := argsAre_cons hx0
    obtain ⟨_, _, rfl, ⟨a1, rfl, k1⟩, hx2⟩ := argsAre_cons hx1
    obtain rfl := argsAre_nil hx2
    refine (s_stanchionlaw06_ConfIds_ok (fun _ => none) a0 a1 (ConfIds_true a0 a1 k0 k1)).mono ?_
    rintro r S ⟨rfl, rfl⟩; rfl
theorem confIds_holds : Rows.ConfIdsSaid :=
  OpenClaim.holds_of_wide 4 Try.f4 rfl rfl rfl rfl rfl rfl rfl ⟨rfl, rfl, rfl, rfl, rfl⟩ rfl rfl rfl rfl rfl (by kernel_rfl) Try.func4 (by kernel_rfl)
    (of_decide_eq_true (by kernel_rfl)) (by unfold Func.isWrapper; first | (rw [if_pos (by decide +kernel)]; kernel_rfl) | (rw [if_neg (by decide +kernel)]; exact ⟨rfl, rfl⟩))
    (fun os started H enc _ => confIds_lifted os started H enc)
#print axioms confIds_holds
end Go.Proofs.Ytejlgalnkblndaa
