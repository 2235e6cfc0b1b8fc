import Derived.Test.YtolfnhebnennpaaAlU
import Derived.Test.YtolfnhebnennpaaAlQ
set_option linter.unusedSimpArgs false
set_option linter.unusedVariables false
namespace Go.Al
open Go Go.RowKit Go.ChangeShapes Go.WideShapes Go.ChangeAt
def LOpens {α : Type} (P : Program) (t : TypeId) (L : Lay α) (ok : α → Prop) : Prop := Opens P t fun xs => ∃ x, xs = L.cells x ∧ ok x
section
variable {P : Program} {t e : TypeId}
theorem lopens_I {k : IntKind} (ht : P.underlying t = some (.int k)) : LOpens P t (lI k) fun n => (Lit.int k n).wf = true := opens_int ht
theorem flat_of {α : Type} {L : Lay α} {ok : α → Prop} {sz : Nat} : ∀ (ys : List (List AV)), (∀ y ∈ ys, (∃ x, y = L.cells x ∧ ok x) ∧ y.length = sz) → ∃ l : List α, ys.flatten = flat L l ∧ (∀ x ∈ l, ok x) ∧ l.length = ys.length
 | [], _ => ⟨[], rfl, by simp, rfl⟩
 | y :: ys, h => by
  obtain ⟨l, hl, hok, hlen⟩ := flat_of ys fun z hz => h z (by simp [hz])
  obtain ⟨⟨x, rfl, hx⟩, _⟩ := h y (by simp)
  exact ⟨x :: l, by simp [hl, flat], by simp; exact ⟨hx, hok⟩, by simp [hlen]⟩
theorem lopens_S {α : Type} {L : Lay α} {ok : α → Prop} (ht : P.underlying t = some (.slice e)) (hc : P.cellsOf e = L.sz) (he : LOpens P e L ok) : LOpens P t (lS L) fun l => (∀ x ∈ l, ok x) ∧ l.length * P.bytesOf e ≤ reachBytes := by
 refine (opens_slice ht hc L.pos he).mono ?_
 rintro xs ⟨ys, hy, rfl, hb⟩
 obtain ⟨l, h1, h2, h3⟩ := flat_of ys hy
 exact ⟨l, by show _ = [eS L l]; rw [eS, h1], h2, by rw [h3]; exact hb⟩
theorem larg_I {k : IntKind} (ht : P.underlying t = some (.int k)) : OpensArg P t fun x => ∃ n, x = .lit (.int k n) ∧ (Lit.int k n).wf = true := arg_int ht
theorem OpensArg.mono {A B : AV → Prop} (h : OpensArg P t A) (k : ∀ x, A x → B x) : OpensArg P t B := by
 intro H enc W K base v d ps hK ht hw hok
 obtain ⟨x, h1, h2⟩ := h H enc W K base v d ps hK ht hw hok
 exact ⟨x, h1, k x h2⟩
theorem larg_S {α : Type} {L : Lay α} {ok : α → Prop} (ht : P.underlying t = some (.slice e)) (hc : P.cellsOf e = L.sz) (he : LOpens P e L ok) : OpensArg P t fun x => ∃ l, x = eS L l ∧ (∀ x ∈ l, ok x) ∧ l.length * P.bytesOf e ≤ reachBytes := by
 refine OpensArg.mono (arg_slice ht hc L.pos he) ?_
 rintro x ⟨ys, hy, rfl, hb⟩
 obtain ⟨l, h1, h2, h3⟩ := flat_of ys hy
 exact ⟨l, by rw [eS, h1], h2, by rw [h3]; exact hb⟩
theorem argsAre_cons {A : AV → Prop} {AS : List (AV → Prop)} {xs : List AV} (h : ArgsAre (A :: AS) xs) : ∃ x ys, xs = x :: ys ∧ A x ∧ ArgsAre AS ys := by
 cases xs with
 | nil => exact h.elim
 | cons x ys => exact ⟨x, ys, rfl, h.1, h.2⟩
theorem argsAre_nil {xs : List AV} (h : ArgsAre [] xs) : xs = [] := by
 cases xs with
 | nil => rfl
 | cons x ys => exact h.elim
end
end Go.Al
