import Derived.Test.YtolfnhebnennpaaAlX
set_option linter.unusedSimpArgs false
set_option linter.unusedVariables false
namespace Go.Al
open Go
theorem wrap64 {n : Int} (h : -2^63 ≤ n) (h' : n < 2^63) : IntKind.i64.wrap n = n := by
 rw [IntKind.wrap_i64]; omega
theorem gd_eq {α : Type} {p : Prop} {_ : Decidable p} {m : Option α} (h : p) : gd p m = m := if_pos h
theorem loop_cont {σ A : Type} {body : σ → Option (σ ⊕ A)} {s s' : σ} (h : body s = some (.inl s')) : loop body s = loop body s' := by rw [loop_eq, h]
theorem loop_done {σ A : Type} {body : σ → Option (σ ⊕ A)} {s : σ} {a : A} (h : body s = some (.inr a)) : loop body s = some a := by rw [loop_eq, h]
theorem loop_upto {σ A : Type} {body : σ → Option (σ ⊕ A)} (f : Nat → σ) (n : Nat) {a : A} (hs : ∀ i, i < n → body (f i) = some (.inl (f (i + 1)))) (he : body (f n) = some (.inr a)) : ∀ i, i ≤ n → loop body (f i) = some a := by
 intro i hi
 obtain ⟨k, hk⟩ : ∃ k, n = i + k := ⟨n - i, by omega⟩
 induction k generalizing i with
 | zero =>
  have : i = n := by omega
  subst this
  exact loop_done he
 | succ k ih => rw [loop_cont (hs i (by omega))]; exact ih (i + 1) (by omega) (by omega)
end Go.Al
