/- ConfMeetsSaid: any two quorums have a proof in common, for every configuration; conditions: none. -/
import Derived.Test.YtejlgalnkblndaaPrA
import Derived.Test.YtejlgalnkblndaaAlQ
import Derived.Test.YtejlgalnkblndaaRows
namespace Go.Proofs.Ytejlgalnkblndaa
open Go Go.Al Go.ChangeShapes Go.WideShapes Go.ChangeAt Go.RowKit
set_option maxRecDepth 100000
theorem own : ownKnob Try.prog.godebug = none := by kernel_rfl
theorem laidOut : laidOutB Try.prog = true := by kernel_rfl
theorem u3 : Try.prog.underlying 3 = some (.int .i64) := by kernel_rfl
theorem u4 : Try.prog.underlying 4 = some .bool := by kernel_rfl
theorem u5 : Try.prog.underlying 5 = some (.int .u8) := by kernel_rfl
theorem cells3 : Try.prog.cellsOf 3 = 1 := by kernel_rfl
theorem cells5 : Try.prog.cellsOf 5 = 1 := by kernel_rfl
theorem cells22 : Try.prog.cellsOf 22 = 1 := by kernel_rfl
theorem cells24 : Try.prog.cellsOf 24 = 7 := by kernel_rfl
theorem flat_bytes : ∀ (ys : List (List AV)), (∀ y ∈ ys, (∃ n, y = [.lit (.int .u8 n)] ∧ (Lit.int .u8 n).wf = true) ∧ y.length = 1) → ∃ s : List Int, ys.flatten = s.map fun b => .lit (.int .u8 b)
  | [], _ => ⟨[], rfl⟩
  | y :: ys, h => by
    obtain ⟨s, hs⟩ := flat_bytes ys fun z hz => h z (by simp [hz])
    obtain ⟨⟨n, rfl, _⟩, _⟩ := h y (by simp)
    exact ⟨n :: s, by simp [hs]⟩
theorem arg_conf : OpensArg Try.prog 24 fun x => ∃ c : Cf, x = c.av .perm := by
  have h := arg_struct Try.underlying24 (opens_struct Try.underlying24 (RS := [_, _, _, _, _, _, _]) (by
    rw [cells24]
    refine ⟨rfl, opens_int u3, ?_⟩
    rw [cells3]
    refine ⟨rfl, opens_int u3, ?_⟩
    rw [cells3]
    refine ⟨rfl, opens_int u3, ?_⟩
    rw [cells3]
    refine ⟨rfl, opens_int u3, ?_⟩
    rw [cells3]
    refine ⟨rfl, opens_int u3, ?_⟩
    rw [cells3]
    refine ⟨rfl, opens_int u3, ?_⟩
    rw [cells3]
    refine ⟨rfl, opens_slice Try.underlying22 cells5 (by omega) (opens_int u5), ?_⟩
    rw [cells22]
    rfl))
  intro H enc W K base v d ps hK ht hw hok
  obtain ⟨x, h1, xs, rfl, hp⟩ := h H enc W K base v d ps hK ht hw hok
  refine ⟨_, h1, ?_⟩
  obtain ⟨_, _, ⟨n1, rfl, _⟩, ⟨_, _, ⟨n2, rfl, _⟩, ⟨_, _, ⟨n3, rfl, _⟩, ⟨_, _, ⟨n4, rfl, _⟩, ⟨_, _, ⟨n5, rfl, _⟩, ⟨_, _, ⟨n6, rfl, _⟩, ⟨_, _, ⟨ys, hy, rfl, _⟩, rfl, rfl⟩, rfl⟩, rfl⟩, rfl⟩, rfl⟩, rfl⟩, rfl⟩ := hp
  obtain ⟨s, hs⟩ := flat_bytes ys hy
  exact ⟨⟨n1, n2, n3, n4, n5, n6, s⟩, by simp [Cf.av, hs]⟩
theorem confMeets_lifted (os : Os) (started : os.Started) (H : Type) (enc : TypeId × Value → H) :
    ReturnsInHanded {} Try.checked os 5 .any (Rows.confMeetsSpec.pre6 enc Try.prog Try.f5 Rows.confMeetsRow.domain false) (Rows.confMeetsSpec.post enc Try.prog Try.f5 false true false false) := by
  refine returnsInHanded_of_change_sized (C := Try.checked) own started (by kernel_rfl) Try.func5
    (ChangeSpec.witness6 (enc := enc) (C := Try.checked) false ⟨#[], #[.agg #[.int .i64 0, .int .i64 0, .int .i64 0, .int .i64 0, .int .i64 0, .int .i64 0, .slice none 0 0]], []⟩ 8 (by kernel_rfl) (by kernel_rfl) (by kernel_rfl) (by kernel_rfl)) ?_
  intro W base args ds gs before hval hW _ hw _
  refine law_contract (P := Try.prog) laidOut (AS := [fun x => ∃ c : Cf, x = c.av .perm]) (tb := 4) (by kernel_rfl) u4 rfl (by kernel_rfl) ?_ ?_ ?_ hval hW hw
  · intro ds hd
    rw [Try.params5] at hd
    match ds, hd with
    | [d], _ => rfl
  · rw [Try.params5]
    exact ⟨arg_conf, trivial⟩
  · intro xs hx
    match xs, hx with
    | [x], ⟨⟨c, hc⟩, _⟩ => subst hc; exact meets_ac c
theorem confMeets_holds : Rows.ConfMeetsSaid :=
  OpenClaim.holds_of_wide 5 Try.f5 rfl rfl rfl rfl rfl rfl rfl ⟨rfl, rfl, rfl, rfl, rfl⟩ rfl rfl rfl rfl rfl (by kernel_rfl) Try.func5 (by kernel_rfl)
    (of_decide_eq_true (by kernel_rfl)) (by unfold Func.isWrapper; first | (rw [if_pos (by decide +kernel)]; kernel_rfl) | (rw [if_neg (by decide +kernel)]; exact ⟨rfl, rfl⟩))
    (fun os started H enc _ => confMeets_lifted os started H enc)
#print axioms confMeets_holds
end Go.Proofs.Ytejlgalnkblndaa
