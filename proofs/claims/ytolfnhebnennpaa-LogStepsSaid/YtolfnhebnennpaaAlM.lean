import Derived.Test.YtolfnhebnennpaaAlL
set_option linter.unusedSimpArgs false
set_option linter.unusedVariables false
namespace Go.Al
open Go.RowKit
inductive AX where
 | normal
 | exit (id : Nat)
 | goto (l : Nat)
 | ret
 | pan (v : AV)
abbrev Post := AX → Slots → AHeap → Nat → Prop
def CPost (P : Program) (N d : Nat) (K0 : Kn) (S0 : AHeap) (w0 : World) (Q : Post) : Exit → Act → World → Prop
 | .normal, a, w => OpPost P N d K0 S0 w0 (Q .normal) a w
 | .exit i, a, w => OpPost P N d K0 S0 w0 (Q (.exit i)) a w
 | .goto l, a, w => OpPost P N d K0 S0 w0 (Q (.goto l)) a w
 | .ret, a, w => OpPost P N d K0 S0 w0 (Q .ret) a w
 | .panic ch, a, w => PanPost d K0 S0 w0 (fun x S => Q (.pan x) [] S 0) (.panic ch) a w
 | .outgrown, _, _ => False
def LOp.of (ops : Array Oper) (o : Oper) : LOp :=
 ⟨o.dst, o.op, match o.guard with
  | none => none
  | some (j, b) => some ((((ops[j]?).bind (·.dst)).getD 0), b)⟩
def guardsOk (ops : Array Oper) : Bool := ops.all fun o => match o.guard with
 | none => true
 | some (j, _) => ((ops[j]?).bind (·.dst)).isSome
def lops (P : Program) (T : Tab) (d : Nat) : List LOp → Slots → AHeap → Nat → (Slots → AHeap → Nat → Prop) → (AV → AHeap → Prop) → Prop
 | [], sl, S, c, k, _ => k sl S c
 | o :: r, sl, S, c, k, kp => match o.guard with
  | none => lop P T d o sl S c (fun sl S c => lops P T d r sl S c k kp) kp
  | some (t, b) => match sget sl t with
   | .lit (.bool g) => (g = b → lop P T d o (sset sl t (.lit (.bool b))) S c (fun sl S c => lops P T d r sl S c k kp) kp) ∧ (g ≠ b → lops P T d r (put (sset sl t (.lit (.bool (!b)))) o.dst (.lit undef)) S c k kp)
   | .lit (.tuple _) => lops P T d r (put sl o.dst (.lit undef)) S c k kp
   | _ => False
theorem SimT.same {K : Kn} {sl : Slots} {ts : Array Value} (h : SimT K sl ts) {t : Nat} {x : AV} (hx : sget sl t = x) : SimT K (sset sl t x) ts := by
 intro i
 rw [sget_sset]
 split
 ·rename_i e; subst e; rw [← hx]; exact h i
 ·exact h i
theorem yielded_of {ops : Array Oper} {K : Kn} {sl : Slots} {tmps : Array Value} (hs : SimT K sl tmps) {j t : Nat} {g : Bool} (ht : (ops[j]?).bind (·.dst) = some t) (hg : sget sl t = .lit (.bool g)) : yielded ops tmps j = some g := by
 have h := hs t
 rw [hg] at h
 simp only [SimV] at h
 have : tmps[t]? = some (.bool g) := by
  by_cases hlt : t < tmps.size
  ·simp only [Array.getD, hlt, dite_true] at h
   rw [Array.getElem?_eq_getElem hlt]; exact congrArg some h
  ·simp only [Array.getD, hlt, dite_false] at h
   cases h
 simp only [yielded, ht, Option.bind_some, this]
theorem yielded_none {ops : Array Oper} {K : Kn} {sl : Slots} {tmps : Array Value} (hs : SimT K sl tmps) {j t : Nat} {vs : Array Value} (ht : (ops[j]?).bind (·.dst) = some t) (hg : sget sl t = .lit (.tuple vs)) : yielded ops tmps j = none := by
 have h := hs t
 rw [hg] at h
 simp only [SimV] at h
 simp only [yielded, ht, Option.bind_some]
 by_cases hlt : t < tmps.size
 ·simp only [Array.getD, hlt, dite_true] at h
  have : tmps[t]? = some (.tuple vs) := by rw [Array.getElem?_eq_getElem hlt]; exact congrArg some h
  rw [this]
 ·rw [Array.getElem?_eq_none (by omega)]
theorem lops_sound {P : Program} {T : Tab} (hT : TOk P T) {N d : Nat} {K0 : Kn} {S0 : AHeap} {w0 : World} {ops : Array Oper} (hd : ∀ o ∈ ops, ∀ i, o.dst = some i → i < N) (hg : guardsOk ops = true) {Q : Post} :
  ∀ (l : List Nat) (los : List LOp), (∀ i ∈ l, i < ops.size) → los = l.filterMap (fun i => (ops[i]?).map (LOp.of ops)) → ∀ {sl : Slots} {S : AHeap} {c : Nat} {a : Act} {w : World} {K : Kn}, Stt P N d K0 S0 w0 sl S c a w K →
   lops P T d los sl S c (Q .normal) (fun x S => Q (.pan x) [] S 0) → wpOps P ops (CPost P N d K0 S0 w0 Q) l a w
 | [], los, _, he, sl, S, c, a, w, K, h, hl => by
  subst he
  exact ⟨sl, S, c, K, hl, h⟩
 | i :: l, los, hi, he, sl, S, c, a, w, K, h, hl => by
  have hilt := hi i (by simp)
  have hio : ops[i]? = some ops[i] := Array.getElem?_eq_getElem hilt
  have hmem : ops[i] ∈ ops := Array.getElem_mem hilt
  generalize ops[i] = o at hio hmem
  have he' : los = LOp.of ops o :: l.filterMap (fun i => (ops[i]?).map (LOp.of ops)) := by
   rw [he, List.filterMap_cons]; simp [hio]
  subst he'
  have ih := fun {sl S c a w K} => @lops_sound P T hT N d K0 S0 w0 ops hd hg Q l _ (fun j hj => hi j (by simp [hj])) rfl sl S c a w K
  simp only [lops] at hl
  simp only [wpOps, hio]
  have hop : ∀ {o' : Oper} {sl : Slots}, o' = o → Stt P N d K0 S0 w0 sl S c a w K → lop P T d (LOp.of ops o) sl S c (fun sl S c => lops P T d (l.filterMap (fun i => (ops[i]?).map (LOp.of ops))) sl S c (Q .normal) (fun x S => Q (.pan x) [] S 0)) (fun x S => Q (.pan x) [] S 0) →
    o.wp P a w (wpOps P ops (CPost P N d K0 S0 w0 Q) l) (CPost P N d K0 S0 w0 Q) := by
   rintro o' sl rfl h hl
   have h1 := lop_sound hT h (o := o') (lo := LOp.of ops o') rfl rfl (hd o' hmem) hl
   have h2 := Oper.wp_mono (K' := wpOps P ops (CPost P N d K0 S0 w0 Q) l) (fun a' w' ⟨sl', S', c', K', hk, hst⟩ => ih hst hk) h1
   unfold Oper.wp at h2 ⊢
   revert h2
   generalize (execOp a.eval o').run P w = r
   intro h2
   cases r with
   | ok n w' =>
    cases n <;> simp only [Oper.upon] at h2 ⊢ <;> try exact h2
    refine Calls.mono h2 fun e w'' he => ?_
    cases e with
    | returned v => exact he
    | panicked ch => exact he
    | outgrown => obtain ⟨_, _, x, S', K', v, he', _⟩ := he; cases he'
   | halt x w' => cases x <;> simp only [Oper.upon] at h2 ⊢ <;> exact h2
  cases hgd : o.guard with
  | none =>
   have : Region.wanted o (yielded ops a.tmps) = true := by simp [Region.wanted, hgd]
   rw [if_pos this]
   simp only [LOp.of, hgd] at hl
   exact .inl (hop rfl h (by simpa [LOp.of, hgd] using hl))
  | some jb =>
   obtain ⟨j, b⟩ := jb
   have hgj : ((ops[j]?).bind (·.dst)).isSome = true := by
    have := Array.all_eq_true_iff_forall_mem.1 hg o hmem
    simpa [hgd] using this
   obtain ⟨t, ht⟩ := Option.isSome_iff_exists.1 hgj
   simp only [LOp.of, hgd, ht, Option.getD_some] at hl
   split at hl <;> try exact hl.elim
   rotate_left
   ·rename_i vs hsg
    have hy := yielded_none h.sim ht hsg
    have hw : ¬ (Region.wanted o (yielded ops a.tmps) = true) := by simp [Region.wanted, hgd, hy]
    rw [if_neg hw]
    exact ih (h.put (Step.refl d h.step.sat) h.fresh (hd o hmem) (by simp only [SimV])) hl
   rename_i g hsg
   have hy := yielded_of h.sim ht hsg
   by_cases hgb : g = b
   ·have hw : Region.wanted o (yielded ops a.tmps) = true := by simp [Region.wanted, hgd, hy, hgb]
    rw [if_pos hw]
    subst hgb
    exact .inl (hop rfl ⟨h.step, h.sim.same hsg, h.size, h.defers, h.fresh⟩ (by simpa [LOp.of, hgd, ht] using hl.1 rfl))
   ·have hw : ¬ (Region.wanted o (yielded ops a.tmps) = true) := by simp [Region.wanted, hgd, hy, hgb]
    rw [if_neg hw]
    have hsg' : sget sl t = .lit (.bool (!b)) := by rw [hsg]; congr 2; cases g <;> cases b <;> first | rfl | exact absurd rfl hgb
    have h' : Stt P N d K0 S0 w0 (sset sl t (.lit (.bool (!b)))) S c a w K := ⟨h.step, h.sim.same hsg', h.size, h.defers, h.fresh⟩
    exact ih (h'.put (Step.refl d h.step.sat) h.fresh (hd o hmem) (by simp only [SimV])) (hl.2 hgb)
end Go.Al
