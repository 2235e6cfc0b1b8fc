import Derived.Test.YtolfnhebnennpaaAmM
set_option linter.unusedSimpArgs false
set_option linter.unusedVariables false
namespace Go.Al
open Go Go.RowKit
def codeOf (fn : Func) (hs : List (Nat × XH)) : Option XC := match fn.body with
 | some b => match XC.of hs b 0 with
  | some (x, _) => some x
  | none => none
 | none => none
def xcOf (fn : Func) (hs : List (Nat × XH)) : XC := match codeOf fn hs with
 | some x => x
 | none => .skip
def fitsB (P : Program) (f : FuncId) (fn : Func) (n : Nat) (hs : List (Nat × XH)) : Bool :=
 enters P f && (codeOf fn hs).isSome && (match fn.body with | some b => codeOk fn.ntmps b | none => false) && decide (n ≤ fn.ntmps)
structure FitsX (P : Program) (f : FuncId) (n : Nat) (hs : List (Nat × XH)) (x : XC) (rs : List ResultVar) : Prop where
 ex : ∃ fn body m, P.funcs[f]? = some fn ∧ enters P f = true ∧ fn.body = some body ∧ XC.of hs body 0 = some (x, m) ∧ codeOk fn.ntmps body = true ∧ n ≤ fn.ntmps ∧ fn.results.toList = rs
theorem fits_of {P : Program} {f : FuncId} {fn : Func} {n : Nat} {hs : List (Nat × XH)} (h1 : P.funcs[f]? = some fn) (h : fitsB P f fn n hs = true) : FitsX P f n hs (xcOf fn hs) fn.results.toList := by
 simp only [fitsB, Bool.and_eq_true, decide_eq_true_eq] at h
 obtain ⟨⟨⟨a1, a2⟩, a3⟩, a4⟩ := h
 obtain ⟨x, hx⟩ := Option.isSome_iff_exists.1 a2
 have hx' := hx
 unfold codeOf at hx
 split at hx <;> try (cases hx; done)
 rename_i b hb
 split at hx <;> try (cases hx; done)
 rename_i y m hy
 cases hx
 rw [hb] at a3
 refine ⟨fn, b, m, h1, a1, hb, ?_, a3, a4, rfl⟩
 rw [hy]; unfold xcOf; rw [hx']
def FPostG (T : Tab) (rs : List ResultVar) (d : Nat) (R : AEnd → AHeap → Prop) : Post := fun e sl S c => match e with
 | .normal => ∃ sl' S' c', Ghost d sl S c sl' S' c' ∧ ares T S' sl' rs fun vs => R (.ret (one1 vs)) S'
 | .ret => ∃ sl' S' c', Ghost d sl S c sl' S' c' ∧ ares T S' sl' rs fun vs => R (.ret (one1 vs)) S'
 | _ => False
theorem AC_ofX {P : Program} {T : Tab} (hT : TOk P T) (hP : P.follows .mixedOrders = true) {f : FuncId} {hs : List (Nat × XH)} {x : XC} {rs : List ResultVar} {as : List AV} {S : AHeap} {R : AEnd → AHeap → Prop} (hf : FitsX P f as.length hs x rs)
  (h : ∀ d, (∀ n : Name, d ≤ n.1 → S n = none) → LX P T x d (argSlots 0 as) S 0 (FPostG T rs d R)) : AC P f as S R := by
 obtain ⟨fn, body, m0, hfn, hent, hb, hlc, hok, hn, hrs⟩ := hf.ex
 refine ⟨hent, fun K w vs hsat hv => ?_⟩
 have hlen := SimL_length hv
 refine calls_of_wpS hfn hb ?_
 have hst : Stt P fn.ntmps K.dmax (K.enterF w) S w (argSlots 0 as) S 0 { tmps := vs ++ Array.replicate (fn.ntmps - vs.size) undef, defers := [] } w (K.enterF w) := by
  refine ⟨Step.refl _ (hsat.enterF w), ?_, ?_, DefOk.nil, Kn.enter_fresh hsat⟩
  ·intro i
   rw [sget_argSlots]
   simp only [Nat.zero_le, if_true, Nat.sub_zero]
   by_cases hi : i < as.length
   ·have hi' : i < vs.size := by rw [hlen] at hi; simpa using hi
    obtain ⟨v, h1, h2⟩ := SimL_get hv i as[i] (by simp)
    have : (vs ++ Array.replicate (fn.ntmps - vs.size) undef).getD i undef = v := by
     simp only [Array.getElem?_toList] at h1
     have h3 : vs[i] = v := by rw [Array.getElem?_eq_getElem hi'] at h1; exact Option.some.inj h1
     simp [Array.getD, show i < vs.size + (fn.ntmps - vs.size) by omega, Array.getElem_append_left hi', h3]
    rw [this]
    simp only [List.getElem?_eq_getElem hi, Option.getD_some]
    exact h2.mono0 (K.enterF_le0 w 0)
   ·rw [List.getElem?_eq_none (by omega)]
    simp only [Option.getD_none, SimV]
  ·have : vs.size = as.length := by rw [hlen]; simp
   simp; omega
 have hw := LX_sound hT hP body x 0 m0 hlc hok (Nat.le_refl _) hst (h K.dmax (fun m hm => (hsat.fresh m hm).1))
 have fin : ∀ {a' w' sl S' c' K'}, Stt P fn.ntmps K.dmax (K.enterF w) S w sl S' c' a' w' K' → (∃ sl1 S1 c1, Ghost K.dmax sl S' c' sl1 S1 c1 ∧ ares T S1 sl1 rs fun vs => R (.ret (one1 vs)) S1) →
   ∃ Ds, a'.defers = Ds.map dmark ∧ Ds.Nodup ∧ (∀ D ∈ Ds, w'.heap[D]? = some (.deferred (some []))) ∧ ∃ v, (results fn a'.tmps).run P (shut Ds w') = .ok v (shut Ds w') ∧ ∃ r S' K', SimE K' r (.returned v) ∧ R r S' ∧ Step K.dmax K S w K' S' (shut Ds w') := by
  intro a' w0' sl0 S0' c0' K0' hq0 ⟨sl, S', c', hgh, hr⟩
  obtain ⟨K', hq⟩ := hq0.ghost hgh
  obtain ⟨Ds, d1, d2, d3, K'', g1, g2⟩ := hsat.leave hq.step hq.defers
  obtain ⟨w', hw'⟩ : ∃ w', shut Ds w0' = w' := ⟨_, rfl⟩
  rw [hw'] at g1
  obtain ⟨xs, us, h1, h2, h3⟩ := ares_sound hT g1.sat (fun i => (hq.sim i).mono0 g2) hr
  refine ⟨Ds, d1, d2, d3, ?_⟩
  rw [hw']
  have hlen2 := SimL_length h2
  have hm : (fn.results.mapM (fun | .tmp t => pure (a'.tmps.getD t undef) | .cell a t => do loadVar t (← asAddr (a'.tmps.getD a undef)) : ResultVar → Sem Value)).run P w' = .ok us.toArray w' := by
   have h1' : (rs.mapM (fun | .tmp t => pure (a'.tmps.getD t undef) | .cell a t => do loadVar t (← asAddr (a'.tmps.getD a undef)) : ResultVar → Sem Value)).run P w' = .ok us w' := h1
   rw [Array.mapM_eq_mapM_toList, Sem.run_map, hrs, h1']; rfl
  have hres : (results fn a'.tmps).run P w' = .ok (if h : us.toArray.size = 1 then us.toArray[0] else .tuple us.toArray) w' := by
   have h0 : (results fn a'.tmps).run P w' = ((fn.results.mapM (fun | .tmp t => pure (a'.tmps.getD t undef) | .cell a t => do loadVar t (← asAddr (a'.tmps.getD a undef)) : ResultVar → Sem Value)).run P w').andThen fun vs w => .ok (if h : vs.size = 1 then vs[0] else .tuple vs) w := by
    unfold results
    rw [Sem.run_bind]
    rfl
   rw [h0, hm]; rfl
  by_cases h1' : us.length = 1
  ·obtain ⟨u, rfl⟩ := List.length_eq_one_iff.1 h1'
   obtain ⟨x, rfl⟩ := List.length_eq_one_iff.1 (hlen2.trans h1')
   simp only [SimL, and_true] at h2
   exact ⟨u, hres, .ret x, S', K'', h2, h3, g1⟩
  ·have hx1 : one1 xs = .tup xs := by
    match xs, hlen2 with
    | [], _ => rfl
    | [x], hl => simp at hl; omega
    | _ :: _ :: _, _ => rfl
   rw [hx1] at h3
   refine ⟨.tuple us.toArray, ?_, .ret (.tup xs), S', K'', ?_, h3, g1⟩
   ·rw [dif_neg (by simpa using h1')] at hres
    exact hres
   ·simp only [SimE, SimV]
    exact ⟨_, rfl, by simpa using h2⟩
 refine wp_mono hw fun e a' w' hq => ?_
 cases e with
 | normal =>
  obtain ⟨sl, S', c', K', h1, h2⟩ := hq
  exact fin h2 h1
 | ret =>
  obtain ⟨sl, S', c', K', h1, h2⟩ := hq
  exact fin h2 h1
 | exit i => obtain ⟨sl, S', c', K', h1, h2⟩ := hq; exact h1.elim
 | goto l => obtain ⟨sl, S', c', K', h1, h2⟩ := hq; exact h1.elim
 | panic ch => obtain ⟨x, S', K', v, h1, h2, h3, h4, h5⟩ := hq; exact h3.elim
 | outgrown => exact hq.elim
def sres (T : Tab) (H : SHp) (at_ : Nat → SV) : List ResultVar → Option (List SV)
 | [] => some []
 | .tmp t :: r => match sres T H at_ r with
  | some vs => some (at_ t :: vs)
  | none => none
 | .cell a t :: r => match sload T H t (at_ a) with
  | some (.t v) => match sres T H at_ r with
   | some vs => some (v :: vs)
   | none => none
  | _ => none
def sone1 : List SV → SV
 | [v] => v
 | vs => .tup vs
theorem sone1_av {ν : Nm} {H : SHp} {l : List SV} : (sone1 l).av ν H = one1 (avl ν H l) := by
 match l with
 | [] => simp [sone1, one1, avl, SV.av]
 | [v] => simp [sone1, one1, avl]
 | a :: b :: r => simp [sone1, one1, avl, SV.av]
def funF (pi : Pat) (ro : List Id) (x : pi.D) : Fr := ⟨[], (pi.enc x).hp.filter fun q => inIds ro q.1, 1, pi.hp.map (·.1)⟩
def funS (pi : Pat) (ro : List Id) (x : pi.D) : SS := ⟨(pi.enc x).sl, (pi.enc x).hp.filter fun q => !inIds ro q.1, 0⟩
noncomputable def sfun {P : Program} (E : Env P) (c : XC) (pi : Pat) (ro : List Id) (po : Pat) (x : pi.D) : Option po.D :=
 sx E c (funF pi ro x) (funS pi ro x) { normal := fun st => pdec (funF pi ro x) po st, exit := fun _ _ => none, ret := fun st => pdec (funF pi ro x) po st }
def keysOk : Nat → List (Nat × PS) → Bool
 | _, [] => true
 | i, (t, _) :: r => t == i && keysOk (i + 1) r
theorem argSlots_keys {ν : Nm} {H : SHp} : ∀ {l : List (Nat × PS)} {R : Type} {x : slD l R} {i : Nat}, keysOk i l = true → argSlots i ((slE l R x).1.map fun q => q.2.av ν H) = (slE l R x).1.map fun q => (q.1, q.2.av ν H)
 | [], _, _, _, _ => rfl
 | (t, q) :: r, R, x, i, h => by
  simp only [keysOk, Bool.and_eq_true, beq_iff_eq] at h
  simp only [slE, List.map_cons, argSlots]
  rw [argSlots_keys h.2, h.1]
theorem ares_of {T : Tab} {ν : Nm} {F : Fr} {st : SS} {S : AHeap} (hS : HOk ν (st.H F) S) : ∀ {rs : List ResultVar} {vs : List SV} {k : List AV → Prop}, sres T (st.H F) (st.at F) rs = some vs → k (avl ν (st.H F) vs) → ares T S (slotsOf ν F st) rs k
 | [], vs, k, h, hk => by simp only [sres, Option.some.injEq] at h; subst h; simpa [ares, avl] using hk
 | .tmp t :: r, vs, k, h, hk => by
  simp only [sres] at h
  split at h <;> try (cases h; done)
  rename_i us hu
  cases h
  simp only [ares]
  refine ares_of hS hu ?_
  rw [sget_slotsOf]
  simpa [avl] using hk
 | .cell a t :: r, vs, k, h, hk => by
  simp only [sres] at h
  split at h <;> try (cases h; done)
  rename_i v hv
  split at h <;> try (cases h; done)
  rename_i us hu
  cases h
  obtain ⟨p, h1, h2⟩ := sload_sound hS hv
  simp only [ares, sget_slotsOf, h1]
  refine ⟨h2, ares_of hS hu ?_⟩
  simpa [avl] using hk
theorem fun_ok {P : Program} {E : Env P} (hE : EnvOk E) (hP : P.follows .mixedOrders = true) {c : XC} {f : FuncId} {hs : List (Nat × XH)} {rs : List ResultVar} {pi po : Pat} {ro : List Id} (hf : FitsX P f pi.sl.length hs c rs) {x : pi.D} {r : po.D}
  (h : sfun E c pi ro po x = some r) (hk : keysOk 0 pi.sl = true) (hn : nolv 1 (funF pi ro x) (funS pi ro x) = true) {ν : Nm} (hΦ : ν.fn = E.Φ) {S : AHeap}
  (hinj : ∀ a ∈ pi.hp.map (·.1), ∀ b ∈ pi.hp.map (·.1), ν a = ν b → a = b) (hS : ∀ m o, hget (pi.enc x).hp m = some o → S (ν m) = some (o.ob ν (pi.enc x).hp))
  {vs : List SV} (hr : sres E.T ((po.enc r).H (funF pi ro x)) ((po.enc r).at (funF pi ro x)) rs = some vs) :
  AC P f ((pi.enc x).sl.map fun q => q.2.av ν (pi.enc x).hp) S fun r' S' => ∃ ν' : Nm, ν'.fn = ν.fn ∧ (∀ m ∈ pi.hp.map (·.1), ν' m = ν m) ∧ (∀ a ∈ SHp.ids ((po.enc r).H (funF pi ro x)), ∀ b ∈ SHp.ids ((po.enc r).H (funF pi ro x)), ν' a = ν' b → a = b) ∧
   (∀ a ∈ po.hp.map (·.1), a ∉ pi.hp.map (·.1) → S (ν' a) = none) ∧ r' = .ret ((sone1 vs).av ν' ((po.enc r).H (funF pi ro x))) ∧ S' = heapOf ν' (funF pi ro x) (po.enc r) S := by
 have hlen : ((pi.enc x).sl.map fun q => q.2.av ν (pi.enc x).hp).length = pi.sl.length := by
  have : ∀ (l : List (Nat × PS)) (R : Type) (y : slD l R), (slE l R y).1.length = l.length := by
   intro l
   induction l with
   | nil => intro R y; rfl
   | cons q l ih => intro R y; obtain ⟨t, q⟩ := q; simp only [slE, List.length_cons, ih]
  rw [List.length_map]; exact this _ _ _
 refine AC_ofX hE.T hP (hlen ▸ hf) fun d hd => ?_
 have hg : ∀ m, hget ((funS pi ro x).H (funF pi ro x)) m = hget (pi.enc x).hp m := by
  intro m
  simp only [SS.H, funS, funF]
  rw [hget_append, hget_filter (q := fun m => !inIds ro m), hget_filter (q := fun m => inIds ro m)]
  cases inIds ro m <;> simp <;> cases hget (pi.enc x).hp m <;> rfl
 have hm : ∀ a, a ∈ SHp.ids ((funS pi ro x).H (funF pi ro x)) → a ∈ pi.hp.map (·.1) := by
  intro a ha
  obtain ⟨o, ho⟩ := ids_get ha
  rw [hg] at ho
  rw [← enc_ids (p := pi) (x := x)]; exact hget_mem ho
 let ν0 : Nm := ⟨fun m => if (m.1 == 1) = true then (d, m.2) else ν m, ν.fn⟩
 simp only [nolv, Bool.and_eq_true] at hn
 obtain ⟨⟨c1, c2⟩, c3⟩ := hn
 have hp : ∀ m, (fun m : Id => !(m.1 == 1)) m = true → ν m = ν0 m := by
  intro m hm
  simp only [Bool.not_eq_true'] at hm
  show ν m = if _ then _ else _
  rw [if_neg (by rw [hm]; decide)]
 obtain ⟨r1, r2, r3⟩ := rename_ok (S0 := S) (F := funF pi ro x) (st := funS pi ro x) (ν := ν) (ν' := ν0) hp rfl c1 c2
 have hob : ∀ o : SObj, o.ob ν ((funS pi ro x).H (funF pi ro x)) = o.ob ν (pi.enc x).hp := fun o => ob_get hg o
 have hinj0 : ∀ a ∈ SHp.ids ((funS pi ro x).H (funF pi ro x)), ∀ b ∈ SHp.ids ((funS pi ro x).H (funF pi ro x)), ν a = ν b → a = b := fun a ha b hb => hinj a (hm a ha) b (hm b hb)
 have hheap : heapOf ν (funF pi ro x) (funS pi ro x) S = S := by
  funext n
  by_cases hex : ∃ a ∈ SHp.ids ((funS pi ro x).H (funF pi ro x)), ν a = n
  ·obtain ⟨a, ha, rfl⟩ := hex
   obtain ⟨o, ho⟩ := ids_get ha
   have h1 := hp_get (S0 := S) (f := fun o => o.ob ν ((funS pi ro x).H (funF pi ro x))) hinj0 ho
   have h2 := hS a o (by rw [← hg]; exact ho)
   unfold heapOf
   rw [h1, h2, hob]
  ·exact hp_miss (f := fun o => o.ob ν ((funS pi ro x).H (funF pi ro x))) fun a ha e => hex ⟨a, ha, e⟩
 have hsome : ∀ a ∈ SHp.ids ((funS pi ro x).H (funF pi ro x)), (ν a).1 < d := by
  intro a ha
  obtain ⟨o, ho⟩ := ids_get ha
  have h2 := hS a o (by rw [← hg]; exact ho)
  refine Nat.lt_of_not_le fun hle => ?_
  rw [hd _ hle] at h2; cases h2
 have hok : Okk ((pi.hp.map (·.1)).map fun m => (m, ν m)) d S (funF pi ro x) (funS pi ro x) ν0 d := by
  refine ⟨?_, ?_, ?_, ?_, Nat.le_refl _, hd, ?_, ?_⟩
  ·intro a ha b hb hab
   rw [r3 a ha, r3 b hb] at hab
   exact hinj0 a ha b hb hab
  ·intro a ha k _ e
   rw [r3 a ha] at e
   have := hsome a ha
   rw [e] at this
   exact absurd this (Nat.lt_irrefl _)
  ·intro k _
   show (if (((1, k) : Id).1 == 1) = true then (d, k) else ν (1, k)) = (d, k)
   rfl
  ·intro a ha hq
   exact absurd (hm a ha) hq
  ·intro q hq
   obtain ⟨m, hm1, rfl⟩ := List.mem_map.1 hq
   have := List.all_eq_true.1 c3 m hm1
   exact (hp m this).symm
  ·show pi.hp.map (·.1) = _
   simp [List.map_map, Function.comp_def]
 have hsl : argSlots 0 ((pi.enc x).sl.map fun q => q.2.av ν (pi.enc x).hp) = slotsOf ν0 (funF pi ro x) (funS pi ro x) := by
  rw [r1]
  have h1 := argSlots_keys (ν := ν) (H := (pi.enc x).hp) (l := pi.sl) (x := x) hk
  simp only [Pat.enc] at h1 ⊢
  rw [h1]
  simp only [slotsOf, funS, funF, List.append_nil]
  refine List.map_congr_left fun q _ => ?_
  have := av_get (ν := ν) hg q.2
  simp only [SS.H, funS, funF, Pat.enc] at this
  rw [← this]; rfl
 rw [hsl]
 have hmain := sx_sound (pr := (pi.hp.map (·.1)).map fun m => (m, ν m)) (df := d) (S0 := S) hE c (Q := FPostG E.T rs d fun r' S' => ∃ ν' : Nm, ν'.fn = ν.fn ∧ (∀ m ∈ pi.hp.map (·.1), ν' m = ν m) ∧ (∀ a ∈ SHp.ids ((po.enc r).H (funF pi ro x)), ∀ b ∈ SHp.ids ((po.enc r).H (funF pi ro x)), ν' a = ν' b → a = b) ∧
   (∀ a ∈ po.hp.map (·.1), a ∉ pi.hp.map (·.1) → S (ν' a) = none) ∧ r' = .ret ((sone1 vs).av ν' ((po.enc r).H (funF pi ro x))) ∧ S' = heapOf ν' (funF pi ro x) (po.enc r) S) (show ν0.fn = E.Φ from hΦ) hok SlEq.of h ?_
 ·rw [r2, hheap] at hmain
  exact hmain
 ·have key : ∀ (st : SS) (ν1 : Nm), ν1.fn = E.Φ → Okk ((pi.hp.map (·.1)).map fun m => (m, ν m)) d S (funF pi ro x) st ν1 d → pdec (funF pi ro x) po st = some r →
    ∃ sl' S' c', Ghost d (slotsOf ν1 (funF pi ro x) st) (heapOf ν1 (funF pi ro x) st S) st.nx sl' S' c' ∧ ares E.T S' sl' rs fun us => ∃ ν' : Nm, ν'.fn = ν.fn ∧ (∀ m ∈ pi.hp.map (·.1), ν' m = ν m) ∧ (∀ a ∈ SHp.ids ((po.enc r).H (funF pi ro x)), ∀ b ∈ SHp.ids ((po.enc r).H (funF pi ro x)), ν' a = ν' b → a = b) ∧
     (∀ a ∈ po.hp.map (·.1), a ∉ pi.hp.map (·.1) → S (ν' a) = none) ∧ AEnd.ret (one1 us) = .ret ((sone1 vs).av ν' ((po.enc r).H (funF pi ro x))) ∧ S' = heapOf ν' (funF pi ro x) (po.enc r) S := by
   intro st ν1 h1 h2 h3
   obtain ⟨ν2, g1, _, g2, g3⟩ := pdec_ok h2 SlEq.of h3
   refine ⟨_, _, _, g3, ares_of g2.hok hr ?_⟩
   refine ⟨ν2, (g1.trans h1).trans hΦ.symm, fun m hm => g2.par (m, ν m) (List.mem_map.2 ⟨m, hm, rfl⟩), g2.inj, fun a ha hq => ?_, by rw [sone1_av], rfl⟩
   refine hd _ (g2.base a ?_ hq)
   rw [SS.H, ids_append, enc_ids]
   exact List.mem_append_left _ ha
  exact ⟨fun st ν1 h1 h2 h3 => key st ν1 h1 h2 h3, fun i st ν1 h1 h2 h3 => (by cases h3), fun st ν1 h1 h2 h3 => key st ν1 h1 h2 h3⟩
end Go.Al
