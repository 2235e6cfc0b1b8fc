import Derived.Test.YtolfnhebnennpaaAlN
import Derived.RangeFuncLeaves
import Derived.RangeFuncRecord
import Derived.RangeFuncFrom
set_option linter.unusedSimpArgs false
set_option linter.unusedVariables false
namespace Go.Al
open Go.RowKit
def argSlots : Nat → List AV → Slots
 | _, [] => []
 | i, a :: as => (i, a) :: argSlots (i + 1) as
def ares (T : Tab) (S : AHeap) (sl : Slots) : List ResultVar → (List AV → Prop) → Prop
 | [], k => k []
 | .tmp t :: r, k => ares T S sl r fun vs => k (sget sl t :: vs)
 | .cell a t :: r, k => match aload T S t (sget sl a) with
  | some (p, v) => p ∧ ares T S sl r fun vs => k (v :: vs)
  | none => False
def one1 : List AV → AV
 | [v] => v
 | vs => .tup vs
structure Fits (P : Program) (f : FuncId) (n : Nat) (lc : LC) (rs : List ResultVar) : Prop where
 ex : ∃ fn body hs, P.funcs[f]? = some fn ∧ enters P f = true ∧ fn.body = some body ∧ LC.of body hs = some (lc, []) ∧ codeOk fn.ntmps body = true ∧ n ≤ fn.ntmps ∧ fn.results.toList = rs
def FPost (T : Tab) (rs : List ResultVar) (R : AEnd → AHeap → Prop) : Post := fun e sl S _ => match e with
 | .normal => ares T S sl rs fun vs => ∃ S', Less S' S ∧ R (.ret (one1 vs)) S'
 | .ret => ares T S sl rs fun vs => ∃ S', Less S' S ∧ R (.ret (one1 vs)) S'
 | .pan v => ∃ S', Less S' S ∧ R (.pan v) S'
 | _ => False
theorem sget_argSlots : ∀ (as : List AV) (i j : Nat), sget (argSlots i as) j = if i ≤ j then (as[j - i]?).getD .any else .any
 | [], i, j => by simp [argSlots, sget]
 | a :: as, i, j => by
  simp only [argSlots, sget]
  by_cases e : j = i
  ·subst e; simp
  ·rw [if_neg e, sget_argSlots as (i + 1) j]
   by_cases h : i + 1 ≤ j
   ·rw [if_pos h, if_pos (by omega), show j - i = (j - (i + 1)) + 1 from by omega, List.getElem?_cons_succ]
   ·rw [if_neg h, if_neg (by omega)]
theorem ares_sound {P : Program} {T : Tab} (hT : TOk P T) {K : Kn} {S : AHeap} {w : World} (hs : Sat K S w) {sl : Slots} {ts : Array Value} (h : SimT K sl ts) : ∀ {rs : List ResultVar} {k : List AV → Prop}, ares T S sl rs k →
  ∃ xs vs, (rs.mapM (fun | .tmp t => pure (ts.getD t undef) | .cell a t => do loadVar t (← asAddr (ts.getD a undef)) : ResultVar → Sem Value)).run P w = .ok vs w ∧ SimL K xs vs ∧ k xs
 | [], k, hk => ⟨[], [], by simp, by simp [SimL], hk⟩
 | .tmp t :: r, k, hk => by
  simp only [ares] at hk
  obtain ⟨xs, vs, h1, h2, h3⟩ := ares_sound hT hs h hk
  refine ⟨_ :: xs, ts.getD t undef :: vs, ?_, by simp only [SimL]; exact ⟨h t, h2⟩, h3⟩
  simp only [List.mapM_cons, Sem.run_bind, Sem.run_pure, Result.andThen_ok, h1]
 | .cell a t :: r, k, hk => by
  simp only [ares] at hk
  split at hk <;> try exact hk.elim
  rename_i p v hl
  obtain ⟨hp, hk⟩ := hk
  obtain ⟨xs, vs, h1, h2, h3⟩ := ares_sound hT hs h hk
  obtain ⟨u, h4, h5⟩ := aload_sound hT hs hl hp (h a)
  refine ⟨v :: xs, u :: vs, ?_, by simp only [SimL]; exact ⟨h5, h2⟩, h3⟩
  have h6 : (do loadVar t (← asAddr (ts.getD a undef)) : Sem Value).run P w = .ok u w := by
   unfold Instr.loadAt at h4
   simp only [Sem.run_bind] at h4 ⊢
   generalize ts.getD a undef = x at h4 ⊢
   cases x <;> first
    | (simp [Instr.sureAddr, asAddr] at h4 ⊢; done)
    | (rename_i ad; cases ad <;> simp [Instr.sureAddr, asAddr] at h4 ⊢; exact h4)
  simp only [List.mapM_cons, Sem.run_bind] at h6 ⊢
  simp only [h6, Result.andThen_ok, h1, Sem.run_pure]
theorem Sat.putN {K : Kn} {S : AHeap} {w : World} (hs : Sat K S w) {D : Nat} {o x : Obj} (hD : w.heap[D]? = some o) (ho : o.isCells = false) (hm : ∀ es c, o ≠ .map es c) (hf : ∀ o', ¬ K.fixed D o') : Sat K S (w.putObj D x) := by
 have hg := grownBy_putObj' w D x
 have hrow : ∀ r, some D = some r → ∃ o : Obj, w.heap[r]? = some o ∧ o.isCells = false := by
  intro r e; cases e; exact ⟨o, hD, ho⟩
 have hc : ∀ {a : Addr} {v : Value}, w.cell? a = some v → (w.putObj D x).cell? a = some v := fun h => cell_kept h hg hrow
 have hfz : ∀ {a : Addr} {v : Value}, w.cell? a = some v → (w.putObj D x).frozen? a = w.frozen? a := fun h => frozen_kept h hg hrow
 have hsz : w.heap.size ≤ (w.putObj D x).heap.size := hg.size
 have hoth : ∀ b, b ≠ D → (w.putObj D x).heap[b]? = w.heap[b]? := fun b e => World.putObj_heap_other e
 obtain ⟨owner, o1, o2, o3, o4, o5⟩ := hs.objs
 refine ⟨fun b o v h => hc (hs.perm b o v h), ⟨owner, fun b o p h => ⟨(o1 b o p h).1, Nat.lt_of_lt_of_le (o1 b o p h).2 hsz⟩, o2, fun b o n v h hb => ?_, fun n obj hn => ?_, fun b o v h => ⟨(o5 b o v h).1, Nat.lt_of_lt_of_le (o5 b o v h).2.1 hsz, (o5 b o v h).2.2⟩⟩, hs.fresh, hs.pend, hs.tk, Nat.le_trans hs.low hsz, hs.based, fun b o' h => ?_⟩
 ·obtain ⟨h1, h2, h3⟩ := o3 b o n v h hb
  exact ⟨h1, hc h2, by rw [hfz h2]; exact h3⟩
 ·have h := o4 n obj hn
  cases obj with
  | box cs =>
   simp only [ObjOk] at h ⊢
   intro b f hb i c hcc
   obtain ⟨h1, u, h2, h3, h4, h5⟩ := h b f hb i c hcc
   refine ⟨h1, u, hc h2, by rw [hfz h2]; exact h3, h4, ?_⟩
   cases c <;> try trivial
   rename_i sz cs'
   obtain ⟨a, len, cap, rfl, q1, q2, q3, q4⟩ := h5
   refine ⟨a, len, cap, rfl, q1, q2, q3, q4.imp id ?_⟩
   rintro ⟨b', o'', rfl, h6, h7⟩
   refine ⟨b', o'', rfl, fun j hj => ?_, fun j c hc' => ?_⟩
   ·obtain ⟨g1, ⟨x', g2⟩, g3⟩ := h6 j hj
    exact ⟨g1, ⟨x', hc g2⟩, by rw [hfz g2]; exact g3⟩
   ·obtain ⟨x', g1, g2⟩ := h7 j c hc'
    exact ⟨x', hc g1, g2⟩
  | buf len =>
   simp only [ObjOk] at h ⊢
   intro t ht
   obtain ⟨h1, h2, h3⟩ := h t ht
   refine ⟨h1, h2, fun i hi1 hi2 => ?_⟩
   obtain ⟨g1, ⟨u, g2⟩, g3, g4⟩ := h3 i hi1 hi2
   exact ⟨g1, ⟨u, hc g2⟩, by rw [hfz g2]; exact g3, g4⟩
  | map es =>
   simp only [ObjOk] at h ⊢
   obtain ⟨b, f, hb, h1, ents, clock, h2, h3⟩ := h
   refine ⟨b, f, hb, h1, ents, clock, ?_, h3⟩
   rw [hoth b ?_]; · exact h2
   rintro rfl
   rw [hD] at h2
   exact hm _ _ (Option.some.inj h2)
 ·obtain ⟨h1, h2⟩ := hs.fixd b o' h
  refine ⟨?_, h2⟩
  rw [hoth b ?_]; · exact h1
  rintro rfl
  exact hf _ h
def Kn.enterF (K : Kn) (w : World) : Kn := { K.enter with ent := w.heap.size }
theorem Kn.enterF_le0 (K : Kn) (w : World) (D : Nat) : Kle0 D K (K.enterF w) := ⟨(K.enter_le D).low, (K.enter_le D).dmax, (K.enter_le D).base, (K.enter_le D).tip, (K.enter_le D).known, (K.enter_le D).shrink, (K.enter_le D).keep⟩
theorem Sat.enterF {K : Kn} {S : AHeap} {w : World} (hs : Sat K S w) (w1 : World) : Sat (K.enterF w1) S w :=
 hs.enter.congr ⟨rfl, Nat.le_refl _, fun _ _ h => h, fun _ t h => ⟨t, h, .inl rfl⟩, fun _ _ _ _ h => h, fun _ _ h => h, fun _ _ h => h⟩ (fun _ _ h => h) rfl rfl (fun _ _ _ _ h => h) hs.enter.fresh hs.enter.pend
def shut : List Nat → World → World
 | [], w => w
 | D :: r, w => shut r (w.putObj D (.deferred none))
theorem shut_sat {K : Kn} {S : AHeap} : ∀ {Ds : List Nat} {w : World}, Sat K S w → Ds.Nodup → (∀ D ∈ Ds, w.heap[D]? = some (.deferred (some [])) ∧ K.low ≤ D ∧ ∀ o', ¬ K.fixed D o') → Sat K S (shut Ds w) ∧ Below K.low w (shut Ds w)
 | [], w, hs, _, _ => ⟨hs, Below.refl _ _⟩
 | D :: r, w, hs, hn, h => by
  obtain ⟨h1, h2, h3⟩ := h D (by simp)
  rw [List.nodup_cons] at hn
  have hs1 := hs.putN (x := .deferred none) h1 rfl (fun _ _ e => by cases e) h3
  have hlt := (Array.getElem?_eq_some_iff.1 h1).1
  have hb : Below K.low w (w.putObj D (.deferred none)) := (Below.refl K.low w).grown (grownBy_putObj' w D _) (by omega) (fun k e => by cases e; omega)
  obtain ⟨a, b⟩ := shut_sat (Ds := r) hs1 hn.2 fun D' hD' => by
   obtain ⟨q1, q2, q3⟩ := h D' (by simp [hD'])
   refine ⟨?_, q2, q3⟩
   rw [World.putObj_heap_other]; · exact q1
   rintro rfl; exact hn.1 hD'
  exact ⟨a, hb.trans b⟩
theorem Sat.leave {K K' : Kn} {S S' : AHeap} {w w' : World} (hs : Sat K S w) (h : Step K.dmax (K.enterF w) S w K' S' w') {ds : List Deferred} (hds : DefOk K' ds) :
  ∃ Ds, ds = Ds.map dmark ∧ Ds.Nodup ∧ (∀ D ∈ Ds, w'.heap[D]? = some (.deferred (some []))) ∧ ∃ K'', Step K.dmax K S w K'' S' (shut Ds w') ∧ Kle0 0 K' K'' := by
 let K'' : Kn := { K' with pend := K.pend, fixed := K.fixed, ent := K.ent }
 have hlt : ∀ n, K.pend n → n.1 < K.dmax := fun n hn => by
  rcases Nat.lt_or_ge n.1 K.dmax with h | h
  ·exact h
  ·exact absurd hn (hs.fresh n h).2.2.2
 have hkeep : ∀ n, K.pend n → K'.pend n := fun n hn => h.le.keep n (hlt n hn) (.inl hn)
 have hk : Kle0 0 K' K'' := ⟨rfl, Nat.le_refl _, fun _ _ h => h, fun _ t h => ⟨t, h, .inl rfl⟩, fun _ _ _ _ h => h, fun n _ hn => hkeep n hn, fun n hn => by omega⟩
 have hd : K.dmax + 1 ≤ K'.dmax := h.le.dmax
 have hsat : Sat K'' S' w' := h.sat.congr hk (fun b o q => h.le.fixed b o q) rfl rfl (fun _ _ _ _ h => h)
  (fun n hn => by
   obtain ⟨h1, h2, h3, h4⟩ := h.sat.fresh n hn
   have hn' : K'.dmax ≤ n.1 := hn
   exact ⟨h1, h2, h3, fun hp => by have := hlt n hp; omega⟩)
  (fun n hn => h.sat.pend n (hkeep n hn))
 obtain ⟨Ds, e1, e2, e3⟩ := hds
 have hent : K'.ent = w.heap.size := h.le.ent
 have hD : ∀ D ∈ Ds, w'.heap[D]? = some (.deferred (some [])) := fun D hD => (h.sat.fixd D _ (e3 D hD).1).1
 obtain ⟨s1, s2⟩ := shut_sat (Ds := Ds) hsat e2 fun D hDm => by
  have hge := (e3 D hDm).2
  rw [hent] at hge
  refine ⟨hD D hDm, ?_, fun o' ho => ?_⟩
  ·have h1 : K''.low = K.low := h.le.low
   have := hs.low
   omega
  ·have h1 := (hs.fixd D o' ho).1
   have := (Array.getElem?_eq_some_iff.1 h1).1
   omega
 have hl : K''.low = K.low := h.le.low
 refine ⟨Ds, e1, e2, hD, K'', ⟨⟨⟨h.le.low, by show K.dmax ≤ K'.dmax; omega, h.le.base, h.le.tip, h.le.known, fun n _ hp => hp, fun n _ hp => hp⟩, fun _ _ h => h, rfl⟩, s1, ?_, h.names⟩, hk⟩
 rw [hl] at s2
 exact h.below.trans s2
theorem run_take {P : Program} {w : World} {D : Nat} (h : w.heap[D]? = some (.deferred (some []))) : (Instr.takeDeferred D).run P w = .ok [] (w.putObj D (.deferred none)) := by
 exact run_takeDeferred h
theorem leavesM {P : Program} {n : Nat} {fn : Func} {tmps : Array Value} {R : Ending → World → Prop} {u : FrameMode} (hu : u ≠ .run) : ∀ {Ds : List Nat} {w : World}, Ds.Nodup → (∀ D ∈ Ds, w.heap[D]? = some (.deferred (some []))) → LeavesIn Fence.wide n P fn tmps R [] u (shut Ds w) →
  LeavesInM Fence.wide n P fn tmps R (Ds.map dmark) u w
 | [], w, _, _, h => h
 | D :: r, w, hn, hD, h => by
  rw [List.nodup_cons] at hn
  refine ⟨hu, .inl ⟨D, _, rfl, run_take (hD D (by simp)), leavesM hu hn.2 (fun D' hD' => ?_) h⟩⟩
  rw [World.putObj_heap_other]
  ·exact hD D' (by simp [hD'])
  ·rintro rfl; exact hn.1 hD'
def bodyPostS (P : Program) (fn : Func) (R : Ending → World → Prop) : Exit → Act → World → Prop
 | .normal, a, w | .ret, a, w => ∃ Ds, a.defers = Ds.map dmark ∧ Ds.Nodup ∧ (∀ D ∈ Ds, w.heap[D]? = some (.deferred (some []))) ∧ ∃ v, (results fn a.tmps).run P (shut Ds w) = .ok v (shut Ds w) ∧ R (.returned v) (shut Ds w)
 | .panic chain, a, w => ∃ Ds, a.defers = Ds.map dmark ∧ Ds.Nodup ∧ (∀ D ∈ Ds, w.heap[D]? = some (.deferred (some []))) ∧ R (.panicked chain) (shut Ds w)
 | _, _, _ => False
theorem calls_of_wpS {P : Program} {f : FuncId} {fn : Func} {c : Code} {args : Array Value} {w : World} {R : Ending → World → Prop} (hf : P.funcs[f]? = some fn) (hb : fn.body = some c)
  (h : c.wp P (bodyPostS P fn R) { tmps := args ++ Array.replicate (fn.ntmps - args.size) undef, defers := [] } w) : Calls P f args w R := by
 refine (callsIn_wide (n := 0)).1 (callsIn_of_wp_marks hf hb trivial (wpIn_wide.2 (wp_mono h fun e a w' hq => ?_)))
 cases e with
 | normal =>
  obtain ⟨Ds, h1, h2, h3, h4⟩ := hq
  simp only [bodyPostM]; rw [h1]
  exact leavesM (by simp) h2 h3 h4
 | ret =>
  obtain ⟨Ds, h1, h2, h3, h4⟩ := hq
  simp only [bodyPostM]; rw [h1]
  exact leavesM (by simp) h2 h3 h4
 | panic ch =>
  obtain ⟨Ds, h1, h2, h3, h4⟩ := hq
  simp only [bodyPostM]; rw [h1]
  exact leavesM (by simp) h2 h3 h4
 | exit i => exact hq.elim
 | goto l => exact hq.elim
 | outgrown => exact hq.elim
theorem AC_of {P : Program} {T : Tab} (hT : TOk P T) (hP : P.follows .mixedOrders = true) {f : FuncId} {lc : LC} {rs : List ResultVar} {as : List AV} {S : AHeap} {R : AEnd → AHeap → Prop} (hf : Fits P f as.length lc rs)
  (h : ∀ d, (∀ n : Name, d ≤ n.1 → S n = none) → LW P T lc d (argSlots 0 as) S 0 (FPost T rs R)) : AC P f as S R := by
 obtain ⟨fn, body, hs, hfn, hent, hb, hlc, hok, hn, hrs⟩ := hf.ex
 refine ⟨hent, fun K w vs hsat hv => ?_⟩
 have hlen := SimL_length hv
 refine calls_of_wpS hfn hb ?_
 have hst : Stt P fn.ntmps K.dmax (K.enterF w) S w (argSlots 0 as) S 0 { tmps := vs ++ Array.replicate (fn.ntmps - vs.size) undef, defers := [] } w (K.enterF w) := by
  refine ⟨Step.refl _ (hsat.enterF w), ?_, ?_, DefOk.nil, Kn.enter_fresh hsat⟩
  ·intro i
   rw [sget_argSlots]
   simp only [Nat.zero_le, if_true, Nat.sub_zero]
   by_cases hi : i < as.length
   ·have hi' : i < vs.size := by rw [hlen] at hi; simpa using hi
    obtain ⟨v, h1, h2⟩ := SimL_get hv i as[i] (by simp)
    have : (vs ++ Array.replicate (fn.ntmps - vs.size) undef).getD i undef = v := by
     simp only [Array.getElem?_toList] at h1
     have h3 : vs[i] = v := by rw [Array.getElem?_eq_getElem hi'] at h1; exact Option.some.inj h1
     simp [Array.getD, show i < vs.size + (fn.ntmps - vs.size) by omega, Array.getElem_append_left hi', h3]
    rw [this]
    simp only [List.getElem?_eq_getElem hi, Option.getD_some]
    exact h2.mono0 (K.enterF_le0 w 0)
   ·rw [List.getElem?_eq_none (by omega)]
    simp only [Option.getD_none, SimV]
  ·have : vs.size = as.length := by rw [hlen]; simp
   simp; omega
 have hw := LW_sound hT hP body lc hs [] hlc hok hst (h K.dmax (fun m hm => (hsat.fresh m hm).1))
 have fin : ∀ {a' w' sl S' c' K'}, Stt P fn.ntmps K.dmax (K.enterF w) S w sl S' c' a' w' K' → (ares T S' sl rs fun vs => ∃ S'', Less S'' S' ∧ R (.ret (one1 vs)) S'') →
   ∃ Ds, a'.defers = Ds.map dmark ∧ Ds.Nodup ∧ (∀ D ∈ Ds, w'.heap[D]? = some (.deferred (some []))) ∧ ∃ v, (results fn a'.tmps).run P (shut Ds w') = .ok v (shut Ds w') ∧ ∃ r S' K', SimE K' r (.returned v) ∧ R r S' ∧ Step K.dmax K S w K' S' (shut Ds w') := by
  intro a' w0' sl S' c' K' hq hr
  obtain ⟨Ds, d1, d2, d3, K'', g1, g2⟩ := hsat.leave hq.step hq.defers
  obtain ⟨w', hw'⟩ : ∃ w', shut Ds w0' = w' := ⟨_, rfl⟩
  rw [hw'] at g1
  obtain ⟨xs, us, h1, h2, S'', hsub, h3⟩ := ares_sound hT g1.sat (fun i => (hq.sim i).mono0 g2) hr
  have hlen2 := SimL_length h2
  refine ⟨Ds, d1, d2, d3, ?_⟩
  rw [hw']
  have g1 := g1.sub hsub
  have hm : (fn.results.mapM (fun | .tmp t => pure (a'.tmps.getD t undef) | .cell a t => do loadVar t (← asAddr (a'.tmps.getD a undef)) : ResultVar → Sem Value)).run P w' = .ok us.toArray w' := by
   rw [Array.mapM_eq_mapM_toList, Sem.run_map, hrs, h1]; rfl
  have hres : (results fn a'.tmps).run P w' = .ok (if h : us.toArray.size = 1 then us.toArray[0] else .tuple us.toArray) w' := by
   have h0 : (results fn a'.tmps).run P w' = ((fn.results.mapM (fun | .tmp t => pure (a'.tmps.getD t undef) | .cell a t => do loadVar t (← asAddr (a'.tmps.getD a undef)) : ResultVar → Sem Value)).run P w').andThen fun vs w => .ok (if h : vs.size = 1 then vs[0] else .tuple vs) w := by
    unfold results
    rw [Sem.run_bind]
    rfl
   rw [h0, hm]; rfl
  by_cases h1' : us.length = 1
  ·obtain ⟨u, rfl⟩ := List.length_eq_one_iff.1 h1'
   obtain ⟨x, rfl⟩ := List.length_eq_one_iff.1 (hlen2.trans h1')
   simp only [SimL, and_true] at h2
   exact ⟨u, hres, .ret x, S'', K'', h2, h3, g1⟩
  ·have hx1 : one1 xs = .tup xs := by
    match xs, hlen2 with
    | [], _ => rfl
    | [x], hl => simp at hl; omega
    | _ :: _ :: _, _ => rfl
   rw [hx1] at h3
   refine ⟨.tuple us.toArray, ?_, .ret (.tup xs), S'', K'', ?_, h3, g1⟩
   ·rw [dif_neg (by simpa using h1')] at hres
    exact hres
   ·simp only [SimE, SimV]
    exact ⟨_, rfl, by simpa using h2⟩
 refine wp_mono hw fun e a' w' hq => ?_
 cases e with
 | normal =>
  obtain ⟨sl, S', c', K', h1, h2⟩ := hq
  exact fin h2 h1
 | ret =>
  obtain ⟨sl, S', c', K', h1, h2⟩ := hq
  exact fin h2 h1
 | exit i => obtain ⟨sl, S', c', K', h1, h2⟩ := hq; exact h1.elim
 | goto l => obtain ⟨sl, S', c', K', h1, h2⟩ := hq; exact h1.elim
 | panic ch =>
  obtain ⟨x, S', K', v, h1, h2, h3, h4, h5⟩ := hq
  obtain ⟨Ds, d1, d2, d3, K'', g1, g2⟩ := hsat.leave h4 h5
  cases h1
  obtain ⟨S'', hsub, h3⟩ := h3
  exact ⟨Ds, d1, d2, d3, .pan x, S'', K'', ⟨v, rfl, h2.mono0 g2⟩, h3, g1.sub hsub⟩
 | outgrown => exact hq.elim
end Go.Al
namespace Go.Al
theorem info_of {P : Program} {t : TypeId} {size bytes : Nat} {z : Value} {zs : List Value} {b : Bool} (h : (P.info? t).map (fun x => (x.size, x.bytes, x.zero)) = some (size, bytes, some z)) (hz : z.cells.toList = zs)
  (h1 : b = true → ∃ vs, z = .agg vs) (h2 : b = false → z.oneCell' = true) :
  ∃ x, P.info? t = some x ∧ x.size = size ∧ x.bytes = bytes ∧ ∃ z, x.zero = some z ∧ z.cells.toList = zs ∧ (b = true → ∃ vs, z = .agg vs) ∧ (b = false → z.oneCell' = true) := by
 cases hx : P.info? t with
 | none => rw [hx] at h; cases h
 | some x =>
  rw [hx] at h
  simp only [Option.map_some, Option.some.injEq, Prod.mk.injEq] at h
  exact ⟨x, rfl, h.1, h.2.1, z, h.2.2, hz, h1, h2⟩
end Go.Al
