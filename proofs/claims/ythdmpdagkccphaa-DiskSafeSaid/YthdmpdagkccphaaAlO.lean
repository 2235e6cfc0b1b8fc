/- Functions. -/
import Derived.Test.YthdmpdagkccphaaAlN
set_option linter.unusedSimpArgs false
set_option linter.unusedVariables false
namespace Go.Al
open Go.RowKit

def argSlots : Nat → List AV → Slots
  | _, [] => []
  | i, a :: as => (i, a) :: argSlots (i + 1) as

/-- What the result variables hold. -/
def ares (T : Tab) (S : AHeap) (sl : Slots) : List ResultVar → (List AV → Prop) → Prop
  | [], k => k []
  | .tmp t :: r, k => ares T S sl r fun vs => k (sget sl t :: vs)
  | .cell a t :: r, k => match aload T S t (sget sl a) with
    | some (p, v) => p ∧ ares T S sl r fun vs => k (v :: vs)
    | none => False

def one1 : List AV → AV
  | [v] => v
  | vs => .tup vs

structure Fits (P : Program) (f : FuncId) (n : Nat) (lc : LC) (rs : List ResultVar) : Prop where
  ex : ∃ fn body hs, P.funcs[f]? = some fn ∧ enters P f = true ∧ fn.body = some body ∧ LC.of body hs = some (lc, []) ∧ codeOk fn.ntmps body = true ∧ n ≤ fn.ntmps ∧ fn.results.toList = rs

/-- What is asked of a function's code. -/
def FPost (T : Tab) (rs : List ResultVar) (R : AEnd → AHeap → Prop) : Post := fun e sl S _ => match e with
  | .normal => ares T S sl rs fun vs => ∃ S', Less S' S ∧ R (.ret (one1 vs)) S'
  | .ret => ares T S sl rs fun vs => ∃ S', Less S' S ∧ R (.ret (one1 vs)) S'
  | .pan v => ∃ S', Less S' S ∧ R (.pan v) S'
  | _ => False

theorem sget_argSlots : ∀ (as : List AV) (i j : Nat), sget (argSlots i as) j = if i ≤ j then (as[j - i]?).getD .any else .any
  | [], i, j => by simp [argSlots, sget]
  | a :: as, i, j => by
    simp only [argSlots, sget]
    by_cases e : j = i
    · subst e; simp
    · rw [if_neg e, sget_argSlots as (i + 1) j]
      by_cases h : i + 1 ≤ j
      · rw [if_pos h, if_pos (by omega), show j - i = (j - (i + 1)) + 1 from by omega, List.getElem?_cons_succ]
      · rw [if_neg h, if_neg (by omega)]

theorem ares_sound {P : Program} {T : Tab} (hT : TOk P T) {K : Kn} {S : AHeap} {w : World} (hs : Sat K S w) {sl : Slots} {ts : Array Value} (h : SimT K sl ts) : ∀ {rs : List ResultVar} {k : List AV → Prop}, ares T S sl rs k →
    ∃ xs vs, (rs.mapM (fun | .tmp t => pure (ts.getD t undef) | .cell a t => do loadVar t (← asAddr (ts.getD a undef)) : ResultVar → Sem Value)).run P w = .ok vs w ∧ SimL K xs vs ∧ k xs
  | [], k, hk => ⟨[], [], by simp, by simp [SimL], hk⟩
  | .tmp t :: r, k, hk => by
    simp only [ares] at hk
    obtain ⟨xs, vs, h1, h2, h3⟩ := ares_sound hT hs h hk
    refine ⟨_ :: xs, ts.getD t undef :: vs, ?_, by simp only [SimL]; exact ⟨h t, h2⟩, h3⟩
    simp only [List.mapM_cons, Sem.run_bind, Sem.run_pure, Result.andThen_ok, h1]
  | .cell a t :: r, k, hk => by
    simp only [ares] at hk
    split at hk <;> try exact hk.elim
    rename_i p v hl
    obtain ⟨hp, hk⟩ := hk
    obtain ⟨xs, vs, h1, h2, h3⟩ := ares_sound hT hs h hk
    obtain ⟨u, h4, h5⟩ := aload_sound hT hs hl hp (h a)
    refine ⟨v :: xs, u :: vs, ?_, by simp only [SimL]; exact ⟨h5, h2⟩, h3⟩
    have h6 : (do loadVar t (← asAddr (ts.getD a undef)) : Sem Value).run P w = .ok u w := by
      unfold Instr.loadAt at h4
      simp only [Sem.run_bind] at h4 ⊢
      generalize ts.getD a undef = x at h4 ⊢
      cases x <;> first
        | (simp [Instr.sureAddr, asAddr] at h4 ⊢; done)
        | (rename_i ad; cases ad <;> simp [Instr.sureAddr, asAddr] at h4 ⊢; exact h4)
    simp only [List.mapM_cons, Sem.run_bind] at h6 ⊢
    simp only [h6, Result.andThen_ok, h1, Sem.run_pure]

theorem Sat.leave {K K' : Kn} {S S' : AHeap} {w w' : World} (hs : Sat K S w) (h : Step K.dmax K.enter S w K' S' w') : ∃ K'', Step K.dmax K S w K'' S' w' ∧ Kle 0 K' K'' := by
  let K'' : Kn := { K' with pend := K.pend }
  have hlt : ∀ n, K.pend n → n.1 < K.dmax := fun n hn => by
    rcases Nat.lt_or_ge n.1 K.dmax with h | h
    · exact h
    · exact absurd hn (hs.fresh n h).2.2.2
  have hkeep : ∀ n, K.pend n → K'.pend n := fun n hn => h.le.keep n (hlt n hn) (.inl hn)
  have hk : Kle 0 K' K'' := ⟨rfl, Nat.le_refl _, fun _ _ h => h, fun _ t h => ⟨t, h, .inl rfl⟩, fun _ _ _ _ h => h, fun n _ hn => hkeep n hn, fun n hn => by omega⟩
  have hd : K.dmax + 1 ≤ K'.dmax := h.le.dmax
  have hsat : Sat K'' S' w' := h.sat.congr hk rfl rfl (fun _ _ _ _ h => h)
    (fun n hn => by
      obtain ⟨h1, h2, h3, h4⟩ := h.sat.fresh n hn
      have hn' : K'.dmax ≤ n.1 := hn
      exact ⟨h1, h2, h3, fun hp => by have := hlt n hp; omega⟩)
    (fun n hn => h.sat.pend n (hkeep n hn))
  refine ⟨K'', ⟨⟨h.le.low, by show K.dmax ≤ K'.dmax; omega, h.le.base, h.le.tip, h.le.known, fun n _ hp => hp, fun n _ hp => hp⟩, hsat, h.below, h.names⟩, hk⟩

theorem SimE.mono {D : Nat} {K K' : Kn} (h : Kle D K K') : ∀ {r : AEnd} {e : Ending}, SimE K r e → SimE K' r e
  | .ret a, .returned v, s => SimV.mono h s
  | .pan a, .panicked ch, ⟨v, h1, h2⟩ => ⟨v, h1, h2.mono h⟩
  | .ret _, .panicked _, s => s.elim
  | .ret _, .outgrown, s => s.elim
  | .pan _, .returned _, s => s.elim
  | .pan _, .outgrown, s => s.elim

/-- **A function's contract, out of its code.** -/
theorem AC_of {P : Program} {T : Tab} (hT : TOk P T) (hP : P.follows .mixedOrders = true) {f : FuncId} {lc : LC} {rs : List ResultVar} {as : List AV} {S : AHeap} {R : AEnd → AHeap → Prop} (hf : Fits P f as.length lc rs)
    (h : ∀ d, (∀ n : Name, d ≤ n.1 → S n = none) → LW P T lc d (argSlots 0 as) S 0 (FPost T rs R)) : AC P f as S R := by
  obtain ⟨fn, body, hs, hfn, hent, hb, hlc, hok, hn, hrs⟩ := hf.ex
  refine ⟨hent, fun K w vs hsat hv => ?_⟩
  have hlen := SimL_length hv
  refine calls_of_wp hfn hb ?_
  have hst : Stt P fn.ntmps K.dmax K.enter S w (argSlots 0 as) S 0 { tmps := vs ++ Array.replicate (fn.ntmps - vs.size) undef, defers := [] } w K.enter := by
    refine ⟨Step.refl _ hsat.enter, ?_, ?_, rfl, Kn.enter_fresh hsat⟩
    · intro i
      rw [sget_argSlots]
      simp only [Nat.zero_le, if_true, Nat.sub_zero]
      by_cases hi : i < as.length
      · have hi' : i < vs.size := by rw [hlen] at hi; simpa using hi
        obtain ⟨v, h1, h2⟩ := SimL_get hv i as[i] (by simp)
        have : (vs ++ Array.replicate (fn.ntmps - vs.size) undef).getD i undef = v := by
          simp only [Array.getElem?_toList] at h1
          have h3 : vs[i] = v := by rw [Array.getElem?_eq_getElem hi'] at h1; exact Option.some.inj h1
          simp [Array.getD, show i < vs.size + (fn.ntmps - vs.size) by omega, Array.getElem_append_left hi', h3]
        rw [this]
        simp only [List.getElem?_eq_getElem hi, Option.getD_some]
        exact h2.mono (K.enter_le 0)
      · rw [List.getElem?_eq_none (by omega)]
        simp only [Option.getD_none, SimV]
    · have : vs.size = as.length := by rw [hlen]; simp
      simp; omega
  have hw := LW_sound hT hP body lc hs [] hlc hok hst (h K.dmax (fun m hm => (hsat.fresh m hm).1))
  have fin : ∀ {a' w' sl S' c' K'}, Stt P fn.ntmps K.dmax K.enter S w sl S' c' a' w' K' → (ares T S' sl rs fun vs => ∃ S'', Less S'' S' ∧ R (.ret (one1 vs)) S'') →
      ∃ v, (results fn a'.tmps).run P w' = .ok v w' ∧ ∃ r S' K', SimE K' r (.returned v) ∧ R r S' ∧ Step K.dmax K S w K' S' w' := by
    intro a' w' sl S' c' K' hq hr
    obtain ⟨xs, us, h1, h2, S'', hsub, h3⟩ := ares_sound hT hq.step.sat hq.sim hr
    have hlen2 := SimL_length h2
    obtain ⟨K'', g1, g2⟩ := hsat.leave hq.step
    have g1 := g1.sub hsub
    have hm : (fn.results.mapM (fun | .tmp t => pure (a'.tmps.getD t undef) | .cell a t => do loadVar t (← asAddr (a'.tmps.getD a undef)) : ResultVar → Sem Value)).run P w' = .ok us.toArray w' := by
      rw [Array.mapM_eq_mapM_toList, Sem.run_map, hrs, h1]; rfl
    have hres : (results fn a'.tmps).run P w' = .ok (if h : us.toArray.size = 1 then us.toArray[0] else .tuple us.toArray) w' := by
      have h0 : (results fn a'.tmps).run P w' = ((fn.results.mapM (fun | .tmp t => pure (a'.tmps.getD t undef) | .cell a t => do loadVar t (← asAddr (a'.tmps.getD a undef)) : ResultVar → Sem Value)).run P w').andThen fun vs w => .ok (if h : vs.size = 1 then vs[0] else .tuple vs) w := by
        unfold results
        rw [Sem.run_bind]
        rfl
      rw [h0, hm]; rfl
    by_cases h1' : us.length = 1
    · obtain ⟨u, rfl⟩ := List.length_eq_one_iff.1 h1'
      obtain ⟨x, rfl⟩ := List.length_eq_one_iff.1 (hlen2.trans h1')
      simp only [SimL, and_true] at h2
      exact ⟨u, hres, .ret x, S'', K'', h2.mono g2, h3, g1⟩
    · have hx1 : one1 xs = .tup xs := by
        match xs, hlen2 with
        | [], _ => rfl
        | [x], hl => simp at hl; omega
        | _ :: _ :: _, _ => rfl
      rw [hx1] at h3
      refine ⟨.tuple us.toArray, ?_, .ret (.tup xs), S'', K'', ?_, h3, g1⟩
      · rw [dif_neg (by simpa using h1')] at hres
        exact hres
      · simp only [SimE, SimV]
        exact ⟨_, rfl, by simpa using h2.mono g2⟩
  refine wp_mono hw fun e a' w' hq => ?_
  cases e with
  | normal =>
    obtain ⟨sl, S', c', K', h1, h2⟩ := hq
    exact ⟨h2.defers, fin h2 h1⟩
  | ret =>
    obtain ⟨sl, S', c', K', h1, h2⟩ := hq
    exact ⟨h2.defers, fin h2 h1⟩
  | exit i => obtain ⟨sl, S', c', K', h1, h2⟩ := hq; exact h1.elim
  | goto l => obtain ⟨sl, S', c', K', h1, h2⟩ := hq; exact h1.elim
  | panic ch =>
    obtain ⟨x, S', K', v, h1, h2, h3, h4, h5⟩ := hq
    obtain ⟨K'', g1, g2⟩ := hsat.leave h4
    cases h1
    obtain ⟨S'', hsub, h3⟩ := h3
    exact ⟨h5, .pan x, S'', K'', ⟨v, rfl, h2.mono g2⟩, h3, g1.sub hsub⟩
  | outgrown => exact hq.elim
end Go.Al
namespace Go.Al
theorem info_of {P : Program} {t : TypeId} {size bytes : Nat} {z : Value} {zs : List Value} {b : Bool} (h : (P.info? t).map (fun x => (x.size, x.bytes, x.zero)) = some (size, bytes, some z)) (hz : z.cells.toList = zs)
    (h1 : b = true → ∃ vs, z = .agg vs) (h2 : b = false → z.oneCell' = true) :
    ∃ x, P.info? t = some x ∧ x.size = size ∧ x.bytes = bytes ∧ ∃ z, x.zero = some z ∧ z.cells.toList = zs ∧ (b = true → ∃ vs, z = .agg vs) ∧ (b = false → z.oneCell' = true) := by
  cases hx : P.info? t with
  | none => rw [hx] at h; cases h
  | some x =>
    rw [hx] at h
    simp only [Option.map_some, Option.some.injEq, Prod.mk.injEq] at h
    exact ⟨x, rfl, h.1, h.2.1, z, h.2.2, hz, h1, h2⟩
end Go.Al
