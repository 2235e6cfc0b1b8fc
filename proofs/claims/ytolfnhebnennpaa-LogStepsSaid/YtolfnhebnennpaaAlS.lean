import Derived.Test.YtolfnhebnennpaaAlR
set_option linter.unusedSimpArgs false
set_option linter.unusedVariables false
namespace Go.Al
open Go.RowKit
def dsts (ops : Array Oper) (U : List Nat) : List Nat := U.filterMap fun i => (ops[i]?).bind (·.dst)
theorem mem_dsts {ops : Array Oper} {U : List Nat} {t : Nat} : t ∈ dsts ops U ↔ ∃ i ∈ U, ∃ o, ops[i]? = some o ∧ o.dst = some t := by
 simp only [dsts, List.mem_filterMap, Option.bind_eq_some_iff]
theorem reads_congr {ρ ρ' : Operand → AV} {op : Op} (h : ∀ x ∈ op.operands, ρ x = ρ' x) : reads ρ op = reads ρ' op := by
 cases op <;> try rfl
 case load t a => simp [Op.operands] at h; simp only [reads, h]
section
variable {P : Program} {T : Tab} {N d : Nat} {K0 : Kn} {S0 : AHeap} {w0 : World} {ops : Array Oper} {b : Nat → Nat} {Q : Post}
structure Inv (P : Program) (T : Tab) (N d : Nat) (K0 : Kn) (S0 : AHeap) (w0 : World) (ops : Array Oper) (b : Nat → Nat) (Q : Post) (r : Plan) (done effs strict cur : Nat → Prop) (U : List Nat) (opn : List Keep) (listed : Array Bool)
  (sl : Slots) (S : AHeap) (c : Nat) (a : Act) (w : World) (K : Kn) : Prop where
 pg : PG ops b r done effs strict cur
 hl : ldrw P T d (planOps ops r) opn sl S c (Q .normal) (fun x S => Q (.pan x) [] S 0)
 stt : Stt P N d K0 S0 w0 (forget (dsts ops U) sl) S c a w K
 lsz : listed.size = ops.size
 lst : ∀ i, i < ops.size → (listed.getD i false = true ↔ done i ∧ i ∉ U)
 dn : ∀ i, done i → i < ops.size
 ud : ∀ i ∈ U, done i ∧ ¬ effs i
 ed : ∀ i, effs i → done i
 good : ∀ i ∈ U, Good T ops sl S i
 opk : ∀ i ∈ U, strict i ∨ ∀ o, ops[i]? = some o → want sl (LOp.of ops o).guard = some false ∨ ∀ q ∈ reads (ev sl) o.op, q ∈ opn
 down : Down ops listed
 look : ∀ i ∈ U, ∀ o, ops[i]? = some o → ∀ t ∈ o.looksAt ops, ∀ j oj, ops[j]? = some oj → oj.dst = some t → done j → (b i).testBit j = true
 uc : ∀ i ∈ U, cur i
 nd : U.Nodup
theorem Inv.step (hf : PF ops b) (hg : guardsOk ops = true) {r : Plan} {done effs strict cur : Nat → Prop} {U : List Nat} {opn opn' : List Keep} {listed : Array Bool} {sl sl1 : Slots} {S : AHeap} {c : Nat} {a : Act} {w : World} {K : Kn} {i : Nat} {l : Bool}
  (h : Inv P T N d K0 S0 w0 ops b Q (some (i, l) :: r) done effs strict cur U opn listed sl S c a w K) {o : Oper} (ho : ops[i]? = some o) (he : effect o.op = false)
  (h1 : ∀ t, sget sl1 t = sget sl t) {v : AV} (hl : ldrw P T d (planOps ops r) opn' (put sl1 o.dst v) S c (Q .normal) (fun x S => Q (.pan x) [] S 0))
  (hgood : (want sl (LOp.of ops o).guard = some true ∧ ∃ p, qop T S (ev sl) o.op = some (p, v) ∧ p) ∨ (want sl (LOp.of ops o).guard = some false ∧ v = .lit undef))
  (ho1 : ∀ q ∈ opn, q ∈ opn') (ho2 : l = false ∨ want sl (LOp.of ops o).guard = some false ∨ ∀ q ∈ reads (ev sl) o.op, q ∈ opn') :
  Inv P T N d K0 S0 w0 ops b Q r (fun j => j = i ∨ done j) effs (fun j => (l = false ∧ j = i) ∨ strict j) (fun j => j = i ∨ cur j) (i :: U) opn' listed (put sl1 o.dst v) S c a w K := by
 obtain ⟨o', ho', hnd, heff, hlook, hwr, _, hpg⟩ := h.pg
 obtain rfl : o' = o := by rw [ho] at ho'; exact (Option.some.inj ho').symm
 have hi : i < ops.size := (Array.getElem?_eq_some_iff.1 ho).1
 have hsg : ∀ t, sget (put sl1 o'.dst v) t = if o'.dst = some t then v else sget sl t := fun t => by rw [sget_put, h1]
 have hself : ∀ t ∈ o'.looksAt ops, sget sl t = sget (put sl1 o'.dst v) t := fun t ht => by
  rw [hsg, if_neg]; intro hd
  exact (hwr t hd).1 ht
 have hoth : ∀ j ∈ U, ∀ oj, ops[j]? = some oj → ∀ t ∈ oj.looksAt ops, sget sl t = sget (put sl1 o'.dst v) t := fun j hj oj hoj t ht => by
  rw [hsg, if_neg]; intro hd
  exact (hwr t hd).2 j (h.uc j hj) oj hoj ht
 have hdst : ∀ j, done j → ∀ oj, ops[j]? = some oj → ∀ t, oj.dst = some t → sget sl t = sget (put sl1 o'.dst v) t := fun j hj oj hoj t ht => by
  rw [hsg, if_neg]; intro hd
  have := hf.nodup j i oj o' t hoj ho ht hd
  subst this; exact hnd hj
 refine ⟨hpg he, hl, ⟨h.stt.step, h.stt.sim.of_sget fun t => ?_, h.stt.size, h.stt.defers, h.stt.fresh⟩, h.lsz, fun j hj => ?_, fun j hj => ?_, fun j hj => ?_, fun j hj => .inr (h.ed j hj), fun j hj => ?_, fun j hj => ?_, h.down, fun j hj oj hoj t ht k ok hk hkd hdk => ?_, fun j hj => ?_, List.nodup_cons.2 ⟨fun hu => hnd (h.ud i hu).1, h.nd⟩⟩
 ·rw [sget_forget', sget_forget']
  by_cases hc : (dsts ops (i :: U)).contains t = true
  ·rw [if_pos hc]; exact .inr rfl
  ·rw [if_neg hc]
   have hc1 : t ∉ dsts ops (i :: U) := by simpa using hc
   have hcu : ¬ (dsts ops U).contains t = true := by
    intro hx
    obtain ⟨j, hj, q⟩ := mem_dsts.1 (by simpa using hx)
    exact hc1 (mem_dsts.2 ⟨j, by simp [hj], q⟩)
   rw [if_neg hcu, hsg, if_neg fun hd => hc1 (mem_dsts.2 ⟨i, by simp, o', ho, hd⟩)]
   exact .inl rfl
 ·rw [h.lst j hj]
  by_cases e : j = i
  ·subst e; simp [hnd]
  ·simp [e]
 ·rcases hj with rfl | hj
  ·exact hi
  ·exact h.dn j hj
 ·rcases List.mem_cons.1 hj with rfl | hj
  ·exact ⟨.inl rfl, fun q => hnd (h.ed _ q)⟩
  ·exact ⟨.inr (h.ud j hj).1, (h.ud j hj).2⟩
 ·rcases List.mem_cons.1 hj with rfl | hj
  ·refine ⟨o', ho, he, ?_⟩
   rw [← want_agree (guards_isSome hg ho) hself]
   rcases hgood with ⟨hw, p, ha, hp⟩ | ⟨hw, rfl⟩
   ·exact .inl ⟨hw, p, v, by rw [← qop_congr (ev_agree hself)]; exact ha, hp, fun t ht => by rw [hsg, if_pos ht]⟩
   ·exact .inr ⟨hw, fun t ht => by rw [hsg, if_pos ht]⟩
  ·refine (h.good j hj).congr hg fun oj hoj => ⟨hoth j hj oj hoj, hdst j (h.ud j hj).1 oj hoj, Or.inl rfl⟩
 ·rcases List.mem_cons.1 hj with rfl | hj
  ·rcases ho2 with h2 | h2
   ·exact .inl (.inl ⟨h2, rfl⟩)
   ·refine .inr fun oj hoj => ?_
    obtain rfl : o' = oj := by rw [ho] at hoj; exact Option.some.inj hoj
    rw [← reads_congr (ev_agree hself), ← want_agree (guards_isSome hg ho) hself]
    exact h2
  ·rcases h.opk j hj with h2 | h2
   ·exact .inl (.inr h2)
   ·refine .inr fun oj hoj => ?_
    rw [← reads_congr (ev_agree (hoth j hj oj hoj)), ← want_agree (guards_isSome hg hoj) (hoth j hj oj hoj)]
    exact (h2 oj hoj).imp id fun h3 q hq => ho1 q (h3 q hq)
 ·rcases List.mem_cons.1 hj with rfl | hj
  ·obtain rfl : o' = oj := by rw [ho] at hoj; exact Option.some.inj hoj
   rcases hdk with rfl | hdk
   ·obtain rfl : o' = ok := by rw [ho] at hk; exact Option.some.inj hk
    exact absurd ht (hwr t hkd).1
   ·exact hlook t ht k ok hk hkd hdk
  ·rename_i hjU
   rcases hdk with rfl | hdk
   ·obtain rfl : o' = ok := by rw [ho] at hk; exact Option.some.inj hk
    exact absurd ht ((hwr t hkd).2 j (h.uc j (by assumption)) oj hoj)
   ·exact h.look j (by assumption) oj hoj t ht k ok hk hkd hdk
 ·rcases List.mem_cons.1 hj with rfl | hj
  ·exact .inl rfl
  ·exact .inr (h.uc j hj)
theorem planOps_cons {i : Nat} {l : Bool} {r : Plan} {o : Oper} (ho : ops[i]? = some o) : planOps ops (some (i, l) :: r) = (LOp.of ops o, l) :: planOps ops r := by
 simp [planOps, List.filterMap_cons, ho]
theorem Inv.pure (hf : PF ops b) (hg : guardsOk ops = true) {r : Plan} {done effs strict cur : Nat → Prop} {U : List Nat} {opn : List Keep} {listed : Array Bool} {sl : Slots} {S : AHeap} {c : Nat} {a : Act} {w : World} {K : Kn} {i : Nat} {l : Bool}
  (h : Inv P T N d K0 S0 w0 ops b Q (some (i, l) :: r) done effs strict cur U opn listed sl S c a w K) {o : Oper} (ho : ops[i]? = some o) (he : effect o.op = false) :
  ∃ done' strict' cur' opn' sl', Inv P T N d K0 S0 w0 ops b Q r done' effs strict' cur' (i :: U) opn' listed sl' S c a w K := by
 have hl := h.hl
 rw [planOps_cons ho] at hl
 simp only [ldrw] at hl
 have heo : effect (LOp.of ops o).op = false := he
 have hdst : (LOp.of ops o).dst = o.dst := rfl
 have hop : (LOp.of ops o).op = o.op := rfl
 have run : ∀ sl1 : Slots, (∀ t, sget sl1 t = sget sl t) → want sl (LOp.of ops o).guard = some true → lopv P T d o.op (ev sl1) S c (fun v S' c' => ldrw P T d (planOps ops r) (if l then reads (ev sl1) o.op ++ opn else opn) (put sl1 o.dst v) S' c' (Q .normal) (fun x S => Q (.pan x) [] S 0)) (fun x S => Q (.pan x) [] S 0) →
   ∃ done' strict' cur' opn' sl', Inv P T N d K0 S0 w0 ops b Q r done' effs strict' cur' (i :: U) opn' listed sl' S c a w K := by
  intro sl1 h1 hw hl
  have hev : ev sl1 = ev sl := by funext x; cases x <;> first | rfl | exact h1 _
  obtain ⟨p, v, ha, hp, hk⟩ := lopv_pure he hl
  rw [hev] at ha hk
  refine ⟨_, _, _, _, _, h.step hf hg ho he h1 hk (.inl ⟨hw, p, ha, hp⟩) (fun q hq => ?_) ?_⟩
  ·cases l <;> simp [hq]
  ·cases l
   ·exact .inl rfl
   ·exact .inr (.inr fun q hq => by simp [hq])
 cases hgd : (LOp.of ops o).guard with
 | none =>
  rw [hgd] at hl
  simp only [heo, Bool.false_eq_true, if_false] at hl
  exact run sl (fun _ => rfl) (by simp [hgd, want]) hl
 | some tb =>
  obtain ⟨t, bb⟩ := tb
  rw [hgd] at hl
  simp only [heo, Bool.false_eq_true, if_false] at hl
  split at hl <;> try exact hl.elim
  rotate_left
  ·rename_i vs hsg
   exact ⟨_, _, _, opn, _, h.step hf hg ho he (fun _ => rfl) hl (.inr ⟨by simp [hgd, want, hsg], rfl⟩) (fun q hq => hq) (.inr (.inl (by simp [hgd, want, hsg])))⟩
  rename_i g hsg
  have hsame : ∀ x : AV, x = sget sl t → ∀ t', sget (sset sl t x) t' = sget sl t' := fun x hx t' => by
   rw [sget_sset]; split
   ·rename_i e; subst e; exact hx
   ·rfl
  by_cases hgb : g = bb
  ·exact run _ (hsame _ (by rw [hsg, hgb])) (by simp [hgd, want, hsg, hgb]) (hl.1 hgb)
  ·exact ⟨_, _, _, opn, _, h.step hf hg ho he (hsame _ (by rw [hsg]; congr 2; cases g <;> cases bb <;> first | rfl | exact absurd rfl hgb)) (hl.2 hgb) (.inr ⟨by simp [hgd, want, hsg, hgb], rfl⟩) (fun q hq => hq) (.inr (.inl (by simp [hgd, want, hsg, hgb])))⟩
theorem Inv.norm (hf : PF ops b) (hg : guardsOk ops = true) {effs : Nat → Prop} {listed : Array Bool} {S : AHeap} {c : Nat} {a : Act} {w : World} {K : Kn} : ∀ {r : Plan} {done strict cur : Nat → Prop} {U : List Nat} {opn : List Keep} {sl : Slots},
  Inv P T N d K0 S0 w0 ops b Q r done effs strict cur U opn listed sl S c a w K → ∃ r' done' strict' cur' U' opn' sl', Inv P T N d K0 S0 w0 ops b Q r' done' effs strict' cur' U' opn' listed sl' S c a w K ∧ U'.length + plen r' = U.length + plen r ∧
   (r' = [] ∨ (∃ i l r'' o, r' = some (i, l) :: r'' ∧ ops[i]? = some o ∧ effect o.op = true) ∨ (∃ r'', r' = none :: r'' ∧ U' ≠ []))
 | [], _, _, _, _, _, _, h => ⟨_, _, _, _, _, _, _, h, rfl, .inl rfl⟩
 | none :: r, done, strict, cur, U, opn, sl, h => by
  by_cases hU : U = []
  ·subst hU
   have h' : Inv P T N d K0 S0 w0 ops b Q r done effs strict (fun _ => False) [] opn listed sl S c a w K :=
    ⟨h.pg.2, h.hl, h.stt, h.lsz, h.lst, h.dn, h.ud, h.ed, h.good, h.opk, h.down, h.look, fun i hi => (by cases hi), h.nd⟩
   obtain ⟨r', done', strict', cur', U', opn', sl', h1, h2, h3⟩ := Inv.norm hf hg h'
   exact ⟨r', done', strict', cur', U', opn', sl', h1, by simpa [plen] using h2, h3⟩
  ·exact ⟨_, _, _, _, _, _, _, h, rfl, .inr (.inr ⟨r, rfl, hU⟩)⟩
 | some (i, l) :: r, _, _, _, _, _, _, h => by
  obtain ⟨o, ho, _⟩ := h.pg
  cases he : effect o.op with
  | true => exact ⟨_, _, _, _, _, _, _, h, rfl, .inr (.inl ⟨i, l, r, o, rfl, ho, he⟩)⟩
  | false =>
   obtain ⟨_, _, _, _, _, h'⟩ := h.pure hf hg ho he
   obtain ⟨r', done', strict', cur', U', opn', sl', h1, h2, h3⟩ := Inv.norm hf hg h'
   exact ⟨r', done', strict', cur', U', opn', sl', h1, by simp only [List.length_cons, plen, List.filterMap_cons, id] at h2 ⊢; omega, h3⟩
theorem PG.later {i : Nat} (hi : i < ops.size) : ∀ {r : Plan} {done effs strict cur : Nat → Prop}, PG ops b r done effs strict cur → ¬ done i → ∀ e, effs e → (b i).testBit e = true
 | [], _, _, _, _, h, hn, _, _ => absurd (h i hi) hn
 | none :: r, done, effs, strict, cur, h, hn, e, he => PG.later hi h.2 hn e he
 | some (j, l) :: r, done, effs, strict, cur, h, hn, e, he => by
  obtain ⟨o, ho, _, h1, _, _, h2, h3⟩ := h
  by_cases hij : i = j
  ·subst hij; exact h1 e he
  ·cases hef : effect o.op with
   | true => exact PG.later hi (h2 hef).2 (fun q => q.elim hij hn) e (.inr he)
   | false => exact PG.later hi (h3 hef) (fun q => q.elim hij hn) e he
theorem getD_set {listed : Array Bool} {i j : Nat} (hi : i < listed.size) : (listed.setIfInBounds i true).getD j false = true ↔ j = i ∨ listed.getD j false = true := by
 by_cases e : j = i
 ·subst e; simp [hi]
 ·rw [getD_set_ne false (Ne.symm e)]; simp [e]
theorem Down.set {listed : Array Bool} (h : Down ops listed) {i : Nat} {o : Oper} (hi : i < listed.size) (ho : ops[i]? = some o) (hall : ∀ e ∈ o.after, Region.binds .any e = true → listed.getD e.on false = true) : Down ops (listed.setIfInBounds i true) := by
 intro j oj hoj hl e he hb
 rw [getD_set hi] at hl ⊢
 rcases hl with rfl | hl
 ·obtain rfl : o = oj := by rw [ho] at hoj; exact Option.some.inj hoj
  exact .inr (hall e he hb)
 ·exact .inr (h j oj hoj hl e he hb)
section
variable {r : Plan} {done effs strict cur : Nat → Prop} {U : List Nat} {opn : List Keep} {listed : Array Bool} {sl : Slots} {S : AHeap} {c : Nat} {a : Act} {w : World} {K : Kn}
theorem Inv.clear (hf : PF ops b) (h : Inv P T N d K0 S0 w0 ops b Q r done effs strict cur U opn listed sl S c a w K) {i : Nat} {o : Oper} (ho : ops[i]? = some o) (hall : ∀ e ∈ o.after, Region.binds .any e = true → listed.getD e.on false = true)
  (hlook : ∀ t ∈ o.looksAt ops, ∀ j oj, ops[j]? = some oj → oj.dst = some t → done j → (b i).testBit j = true) : ∀ t ∈ o.looksAt ops, sget (forget (dsts ops U) sl) t = sget sl t := by
 intro t ht
 rw [sget_forget', if_neg]
 intro hc
 obtain ⟨j, hj, oj, hoj, hd⟩ := mem_dsts.1 (by simpa using hc)
 have := anc_listed hf h.lsz h.down i o ho hall j (hlook t ht j oj hoj hd (h.ud j hj).1)
 exact ((h.lst j (Array.getElem?_eq_some_iff.1 hoj).1).1 this).2 hj
theorem Inv.wanted (hg : guardsOk ops = true) (h : Inv P T N d K0 S0 w0 ops b Q r done effs strict cur U opn listed sl S c a w K) {i : Nat} {o : Oper} (ho : ops[i]? = some o) (hc : ∀ t ∈ o.looksAt ops, sget (forget (dsts ops U) sl) t = sget sl t)
  {g : Bool} (hw : want sl (LOp.of ops o).guard = some g) : Region.wanted o (yielded ops a.tmps) = g := by
 cases hgd : o.guard with
 | none =>
  simp only [LOp.of, hgd, want, Option.some.injEq] at hw
  simp [Region.wanted, hgd, hw]
 | some jb =>
  obtain ⟨j, bb⟩ := jb
  obtain ⟨t, ht⟩ := Option.isSome_iff_exists.1 (guards_isSome hg ho j bb hgd)
  simp only [LOp.of, hgd, ht, Option.getD_some, want] at hw
  split at hw <;> try (cases hw; done)
  rotate_left
  ·rename_i vs hsg
   simp only [Option.some.injEq] at hw
   have hy := yielded_none h.stt.sim ht ((hc t (guard_look hgd ht)).trans hsg)
   simp only [Region.wanted, hgd, hy]
   rw [← hw]; rfl
  rename_i g' hsg
  simp only [Option.some.injEq] at hw
  have hy := yielded_of h.stt.sim ht ((hc t (guard_look hgd ht)).trans hsg)
  simp only [Region.wanted, hgd, hy]
  rw [← hw]; rfl
theorem Inv.did (hf : PF ops b) (h : Inv P T N d K0 S0 w0 ops b Q r done effs strict cur U opn listed sl S c a w K) (hd : ∀ t : Nat, ∀ (i : Nat) (o : Oper), ops[i]? = some o → o.dst = some t → t < N) {i : Nat} {o : Oper} (ho : ops[i]? = some o) (hi : i ∈ U)
  (hall : ∀ e ∈ o.after, Region.binds .any e = true → listed.getD e.on false = true) {v : AV} {u : Value} {w' : World} {K' : Kn} (hst : Step d K S w K' S w') (hfr : Fresh K' S d c) (hv : SimV K' v u) (hsd : ∀ t, o.dst = some t → sget sl t = v) :
  Inv P T N d K0 S0 w0 ops b Q r done effs strict cur (U.erase i) opn (listed.setIfInBounds i true) sl S c (a.put o.dst u) w' K' := by
 have hlt : i < ops.size := (Array.getElem?_eq_some_iff.1 ho).1
 have hlt' : i < listed.size := by rw [h.lsz]; exact hlt
 have hme : ∀ j, j ∈ U.erase i ↔ j ≠ i ∧ j ∈ U := fun j => h.nd.mem_erase_iff
 have hp := h.stt.put hst hfr (fun t ht => hd t i o ho ht) hv
 refine ⟨h.pg, h.hl, ⟨hp.step, hp.sim.of_sget fun t => ?_, hp.size, hp.defers, hp.fresh⟩, by simpa using h.lsz, fun j hj => ?_, h.dn, fun j hj => h.ud j ((hme j).1 hj).2, h.ed, fun j hj => h.good j ((hme j).1 hj).2, fun j hj => h.opk j ((hme j).1 hj).2, h.down.set hlt' ho hall, fun j hj => h.look j ((hme j).1 hj).2, fun j hj => h.uc j ((hme j).1 hj).2, h.nd.erase i⟩
 ·rw [sget_forget', sget_put, sget_forget']
  by_cases hc : (dsts ops (U.erase i)).contains t = true
  ·rw [if_pos hc]; exact .inr rfl
  ·rw [if_neg hc]
   by_cases hdt : o.dst = some t
   ·rw [if_pos hdt]; exact .inl (hsd t hdt)
   ·rw [if_neg hdt, if_neg]
    ·exact .inl rfl
    ·intro hx
     obtain ⟨j, hj, oj, hoj, hjd⟩ := mem_dsts.1 (by simpa using hx)
     have hji : j ≠ i := by
      rintro rfl
      obtain rfl : o = oj := by rw [ho] at hoj; exact Option.some.inj hoj
      exact hdt hjd
     exact hc (by simpa using mem_dsts.2 ⟨j, (hme j).2 ⟨hji, hj⟩, oj, hoj, hjd⟩)
 ·rw [getD_set hlt', h.lst j hj, hme]
  by_cases e : j = i
  ·subst e; simp [(h.ud j hi).1]
  ·simp [e]
theorem Inv.turned (hf : PF ops b) (hg : guardsOk ops = true) {i : Nat} {l : Bool} (h : Inv P T N d K0 S0 w0 ops b Q (some (i, l) :: r) done effs strict cur U opn listed sl S c a w K) (hd : ∀ t : Nat, ∀ (i : Nat) (o : Oper), ops[i]? = some o → o.dst = some t → t < N)
  {o : Oper} (ho : ops[i]? = some o) (he : effect o.op = true) (hall : ∀ e ∈ o.after, Region.binds .any e = true → listed.getD e.on false = true)
  {sl1 : Slots} (h1 : ∀ t, sget sl1 t = sget sl t) {v : AV} {u : Value} {S' : AHeap} {c' : Nat} {w' : World} {K' : Kn} (hv : SimV K' v u) (hst : Step d K S w K' S' w') (hfr : Fresh K' S' d c')
  {opn' : List Keep} (hkeep : S' = S ∨ l = true ∨ ∀ q ∈ opn, q.ok S S') (hopn : l = true ∨ opn' = opn) (hl : ldrw P T d (planOps ops r) opn' (put sl1 o.dst v) S' c' (Q .normal) (fun x S => Q (.pan x) [] S 0)) :
  Inv P T N d K0 S0 w0 ops b Q r (fun j => j = i ∨ done j) (fun j => j = i ∨ effs j) strict (fun j => j = i ∨ cur j) U opn' (listed.setIfInBounds i true) (put sl1 o.dst v) S' c' (a.put o.dst u) w' K' := by
 obtain ⟨o', ho', hnd, heff, hlook, hwr, hpg, _⟩ := h.pg
 obtain rfl : o' = o := by rw [ho] at ho'; exact (Option.some.inj ho').symm
 have hlt : i < ops.size := (Array.getElem?_eq_some_iff.1 ho).1
 have hlt' : i < listed.size := by rw [h.lsz]; exact hlt
 have hiU : i ∉ U := fun hu => hnd (h.ud i hu).1
 have hsg : ∀ t, sget (put sl1 o'.dst v) t = if o'.dst = some t then v else sget sl t := fun t => by rw [sget_put, h1]
 have hoth : ∀ j ∈ U, ∀ oj, ops[j]? = some oj → ∀ t ∈ oj.looksAt ops, sget sl t = sget (put sl1 o'.dst v) t := fun j hj oj hoj t ht => by
  rw [hsg, if_neg]; intro hd
  exact (hwr t hd).2 j (h.uc j hj) oj hoj ht
 have hdst : ∀ j, done j → ∀ oj, ops[j]? = some oj → ∀ t, oj.dst = some t → sget sl t = sget (put sl1 o'.dst v) t := fun j hj oj hoj t ht => by
  rw [hsg, if_neg]; intro hd
  have := hf.nodup j i oj o' t hoj ho ht hd
  subst this; exact hnd hj
 have hp := h.stt.put hst hfr (fun t ht => hd t i o' ho ht) hv
 have hnl : ∀ j, (b i).testBit j = true → j ∉ U := fun j hj hu => ((h.lst j (h.dn j (h.ud j hu).1)).1 (anc_listed hf h.lsz h.down i o' ho hall j hj)).2 hu
 refine ⟨(hpg he).2, hl, ⟨hp.step, hp.sim.of_sget fun t => ?_, hp.size, hp.defers, hp.fresh⟩, by simpa using h.lsz, fun j hj => ?_, fun j hj => ?_, fun j hj => ?_, fun j hj => ?_, fun j hj => ?_, fun j hj => ?_, h.down.set hlt' ho hall, fun j hj oj hoj t ht k ok hk hkd hdk => ?_, fun j hj => .inr (h.uc j hj), h.nd⟩
 ·rw [sget_forget', hsg, sget_put, sget_forget']
  by_cases hc : (dsts ops U).contains t = true
  ·rw [if_pos hc]; exact .inr rfl
  ·rw [if_neg hc, if_neg hc]; exact .inl rfl
 ·rw [getD_set hlt', h.lst j hj]
  by_cases e : j = i
  ·subst e; simp [hiU]
  ·simp [e]
 ·rcases hj with rfl | hj
  ·exact hlt
  ·exact h.dn j hj
 ·refine ⟨.inr (h.ud j hj).1, fun q => ?_⟩
  rcases q with rfl | q
  ·exact hiU hj
  ·exact (h.ud j hj).2 q
 ·rcases hj with rfl | hj
  ·exact .inl rfl
  ·exact .inr (h.ed j hj)
 ·refine (h.good j hj).congr hg fun oj hoj => ⟨hoth j hj oj hoj, hdst j (h.ud j hj).1 oj hoj, ?_⟩
  rcases hkeep with hk | hk | hk
  ·exact .inl hk
  ·exact absurd hj (hnl j ((hpg he).1.2 hk j (h.ud j hj).1))
  rcases h.opk j hj with h2 | h2
  ·exact absurd hj (hnl j ((hpg he).1.1 j h2))
  ·rcases h2 oj hoj with h3 | h3
   ·exact .inr (.inl h3)
   ·exact .inr (.inr fun q hq => hk q (h3 q hq))
 ·rcases hopn with hl1 | rfl
  ·exact absurd hj (hnl j ((hpg he).1.2 hl1 j (h.ud j hj).1))
  rcases h.opk j hj with h2 | h2
  ·exact .inl h2
  ·refine .inr fun oj hoj => ?_
   rw [← reads_congr (ev_agree (hoth j hj oj hoj)), ← want_agree (guards_isSome hg hoj) (hoth j hj oj hoj)]
   exact h2 oj hoj
 ·rcases hdk with rfl | hdk
  ·obtain rfl : o' = ok := by rw [ho] at hk; exact Option.some.inj hk
   exact absurd ht ((hwr t hkd).2 j (h.uc j hj) oj hoj)
  ·exact h.look j hj oj hoj t ht k ok hk hkd hdk
end
theorem all_listed (hf : PF ops b) {listed : Array Bool} (hsz : listed.size = ops.size) (hr : Region.ready .any ops listed = []) : ∀ i, i < ops.size → listed.getD i false = true := by
 intro i
 induction i using Nat.strongRecOn with
 | _ i ih =>
  intro hi
  by_cases h : listed.getD i false = true
  ·exact h
  ·have hm : i ∈ Region.ready .any ops listed := by
    refine mem_ready.2 ⟨?_, ops[i], Array.getElem?_eq_getElem hi, fun e he hb => ?_⟩
    ·have : i < listed.size := by omega
     simp only [Array.getD, this, dite_true] at h ⊢
     simpa using h
    ·have := (hf.cert i _ (Array.getElem?_eq_getElem hi)).1 e he hb
     exact ih e.on this (by omega)
   rw [hr] at hm; cases hm
theorem drw_main (hT : TOk P T) (hf : PF ops b) (hg : guardsOk ops = true) (hd : ∀ t : Nat, ∀ (i : Nat) (o : Oper), ops[i]? = some o → o.dst = some t → t < N) : ∀ (n : Nat) {r : Plan} {done effs strict cur : Nat → Prop} {U : List Nat} {opn : List Keep} {listed : Array Bool} {sl : Slots} {S : AHeap} {c : Nat} {a : Act} {w : World} {K : Kn},
  Inv P T N d K0 S0 w0 ops b Q r done effs strict cur U opn listed sl S c a w K → U.length + plen r ≤ n → wpAny P .any ops (CPost P N d K0 S0 w0 Q) n listed a w := by
 intro n
 induction n with
 | zero =>
  intro r done effs strict cur U opn listed sl S c a w K h hn
  obtain ⟨r', done', strict', cur', U', opn', sl', h', hlen, hhead⟩ := h.norm hf hg
  have hU0 : U' = [] := List.length_eq_zero_iff.1 (by omega)
  subst hU0
  obtain rfl : r' = [] := by
   rcases hhead with h | ⟨i, l, r'', o, rfl, _⟩ | ⟨_, _, h⟩
   ·exact h
   ·simp only [plen, List.filterMap_cons, id, List.length_cons, List.length_nil] at hlen hn; omega
   ·exact absurd rfl h
  clear h
  have h := h'
  refine ⟨?_, sl', S, c, K, h.hl, h.stt.step, h.stt.sim.of_sget fun t => .inl (by rw [sget_forget']; simp [dsts]), h.stt.size, h.stt.defers, h.stt.fresh⟩
  cases hr : Region.ready .any ops listed with
  | nil => rfl
  | cons i l =>
   have hm : i ∈ Region.ready .any ops listed := by rw [hr]; simp
   obtain ⟨h0, o, ho, _⟩ := mem_ready.1 hm
   have hi := (Array.getElem?_eq_some_iff.1 ho).1
   have := (h.lst i hi).2 ⟨h.pg i hi, by simp⟩
   have hi' : i < listed.size := by rw [h.lsz]; exact hi
   simp only [Array.getD, hi', dite_true] at h0 this
   rw [h0] at this; cases this
 | succ n ih =>
  intro r done effs strict cur U opn listed sl S c a w K h hn
  obtain ⟨r', done', strict', cur', U', opn', sl', h', hlen, hhead⟩ := h.norm hf hg
  clear h
  refine ⟨fun hr => ?_, fun i hi => ?_⟩
  ·have hall := all_listed hf h'.lsz hr
   have hU : U' = [] := by
    cases U' with
    | nil => rfl
    | cons j U'' => exact absurd (by simp) ((h'.lst j (h'.dn j (h'.ud j (by simp)).1)).1 (hall j (h'.dn j (h'.ud j (by simp)).1))).2
   subst hU
   have hr' : r' = [] := by
    rcases hhead with hh | ⟨j, l, r'', o, rfl, _⟩ | ⟨_, _, hh⟩
    ·exact hh
    ·obtain ⟨o, ho, hnd, _⟩ := h'.pg
     have hj := (Array.getElem?_eq_some_iff.1 ho).1
     exact absurd ((h'.lst j hj).1 (hall j hj)).1 hnd
    ·exact absurd rfl hh
   subst hr'
   exact ⟨sl', S, c, K, h'.hl, h'.stt.step, h'.stt.sim.of_sget fun t => .inl (by rw [sget_forget']; simp [dsts]), h'.stt.size, h'.stt.defers, h'.stt.fresh⟩
  ·obtain ⟨h0, o, ho, hall⟩ := mem_ready.1 hi
   have hlt := (Array.getElem?_eq_some_iff.1 ho).1
   have hlt' : i < listed.size := by rw [h'.lsz]; exact hlt
   have hunl : ¬ listed.getD i false = true := by
    simp only [Array.getD, hlt', dite_true] at h0 ⊢
    rw [h0]; simp
   rw [h'.lst i hlt] at hunl
   unfold wpOp
   simp only [ho]
   by_cases hiU : i ∈ U'
   ·have hclear := h'.clear hf ho hall fun t ht j oj hoj hjd hdj => h'.look i hiU o ho t ht j oj hoj hjd hdj
    have hlen' : (U'.erase i).length + plen r' ≤ n := by
     have := List.length_erase_of_mem hiU
     have hpos : 0 < U'.length := List.length_pos_of_mem hiU
     omega
    obtain ⟨o', ho', he, hgood⟩ := h'.good i hiU
    obtain rfl : o' = o := by rw [ho] at ho'; exact (Option.some.inj ho').symm
    rcases hgood with ⟨hw, p, v, ha, hp, hv⟩ | ⟨hw, hv⟩
    ·rw [if_pos (h'.wanted hg ho hclear hw)]
     have ha' : qop T S (ev (forget (dsts ops U') sl')) o'.op = some (p, v) := by rw [qop_congr (ev_agree hclear)]; exact ha
     obtain ⟨u, w', K', h1, h2, h3, h4⟩ := qop_sound hT h'.stt.step.sat h'.stt.fresh (fun x => h'.stt.sim.ev x) ha' hp
     exact .inl (wp_value h1 (ih (h'.did hf hd ho hiU hall h3 h4 h2 hv) hlen'))
    ·rw [if_neg (by rw [h'.wanted hg ho hclear hw]; simp)]
     exact ih (h'.did hf hd ho hiU hall (v := .lit undef) (Step.refl d h'.stt.step.sat) h'.stt.fresh (by simp only [SimV]) hv) hlen'
   ·have hnd : ¬ done' i := fun q => hunl ⟨q, hiU⟩
    rcases hhead with rfl | ⟨m, l, r'', om, rfl, hom, hem⟩ | ⟨r'', rfl, hne⟩
    ·exact absurd (h'.pg i hlt) hnd
    rotate_left
    ·cases hUc : U' with
     | nil => exact absurd hUc hne
     | cons j U'' =>
      have hjU : j ∈ U' := by rw [hUc]; simp
      have hjd := (h'.ud j hjU).1
      have := anc_listed hf h'.lsz h'.down i o ho hall j (h'.pg.1 i hlt hnd j hjd)
      exact absurd hjU ((h'.lst j (h'.dn j hjd)).1 this).2
    have him : i = m := by
     by_cases e : i = m
     ·exact e
     ·obtain ⟨om', hom', hmnd, _, _, _, hpg, _⟩ := h'.pg
      obtain rfl : om' = om := by rw [hom] at hom'; exact (Option.some.inj hom').symm
      have hbit := PG.later hlt (hpg hem).2 (fun q => q.elim e hnd) m (.inl rfl)
      have := anc_listed hf h'.lsz h'.down i o ho hall m hbit
      exact absurd ((h'.lst m (Array.getElem?_eq_some_iff.1 hom).1).1 this).1 hmnd
    subst him
    obtain rfl : o = om := by rw [ho] at hom; exact Option.some.inj hom
    have hclear := h'.clear hf ho hall fun t ht j oj hoj hjd hdj => by
     obtain ⟨o', ho', _, _, hlook, _⟩ := h'.pg
     obtain rfl : o' = o := by rw [ho] at ho'; exact (Option.some.inj ho').symm
     exact hlook t ht j oj hoj hjd hdj
    have hlen' : U'.length + plen r'' ≤ n := by simp only [plen, List.filterMap_cons, id, List.length_cons] at hlen hn ⊢; omega
    have hl := h'.hl
    rw [planOps_cons ho] at hl
    simp only [ldrw] at hl
    have heo : effect (LOp.of ops o).op = true := hem
    have run : ∀ sl1 : Slots, (∀ t, sget sl1 t = sget sl' t) → want sl' (LOp.of ops o).guard = some true → lopv P T d o.op (ev sl1) S c (fun v S' c' => (∀ q ∈ (if l then [] else opn'), q.ok S S') ∧ ldrw P T d (planOps ops r'') (if l then [] else opn') (put sl1 o.dst v) S' c' (Q .normal) (fun x S => Q (.pan x) [] S 0)) (fun x S => Q (.pan x) [] S 0) →
      if Region.wanted o (yielded ops a.tmps) = true then o.wp P a w (wpAny P .any ops (CPost P N d K0 S0 w0 Q) n (listed.setIfInBounds i true)) (CPost P N d K0 S0 w0 Q) ∨ (o.asks P a w ∧ LetsOut (CPost P N d K0 S0 w0 Q)) else wpAny P .any ops (CPost P N d K0 S0 w0 Q) n (listed.setIfInBounds i true) (a.put o.dst undef) w := by
     intro sl1 h1 hw hl
     rw [if_pos (h'.wanted hg ho hclear hw)]
     have hl' := lopv_congr (ρ' := ev (forget (dsts ops U') sl')) (ev_agree fun t ht => by rw [h1, hclear t ht]) hl
     refine .inl (lopv_sound hT h'.stt.step.sat h'.stt.fresh (fun x => h'.stt.sim.ev x) hl' ?_ ?_)
     ·intro u w' v S' c' K' ⟨hk1, hk2⟩ hv hst hfr
      exact ih (h'.turned hf hg hd ho hem hall h1 hv hst hfr (by cases l with | true => exact .inr (.inl rfl) | false => exact .inr (.inr hk1)) (by cases l with | true => exact .inl rfl | false => exact .inr rfl) hk2) hlen'
     ·intro x S' K' v w' hx hk hst
      exact ⟨x, S', K', v, rfl, hx, hk, h'.stt.step.trans hst, h'.stt.defers.mono hst.le⟩
    cases hgd : (LOp.of ops o).guard with
    | none =>
     rw [hgd] at hl
     simp only [heo, if_true] at hl
     exact run sl' (fun _ => rfl) (by simp [hgd, want]) hl
    | some tb =>
     obtain ⟨t, bb⟩ := tb
     rw [hgd] at hl
     simp only [heo, if_true] at hl
     split at hl <;> try exact hl.elim
     rotate_left
     ·rename_i vs hsg
      rw [if_neg (by rw [h'.wanted hg ho hclear (g := false) (by simp [hgd, want, hsg])]; simp)]
      exact ih (h'.turned hf hg hd ho hem hall (fun _ => rfl) (v := .lit undef) (by simp only [SimV]) (Step.refl d h'.stt.step.sat) h'.stt.fresh (.inl rfl) (.inr rfl) hl) hlen'
     rename_i g hsg
     have hsame : ∀ x : AV, x = sget sl' t → ∀ t', sget (sset sl' t x) t' = sget sl' t' := fun x hx t' => by
      rw [sget_sset]; split
      ·rename_i e; subst e; exact hx
      ·rfl
     by_cases hgb : g = bb
     ·exact run _ (hsame _ (by rw [hsg, hgb])) (by simp [hgd, want, hsg, hgb]) (hl.1 hgb)
     ·rw [if_neg (by rw [h'.wanted hg ho hclear (g := false) (by simp [hgd, want, hsg, hgb])]; simp)]
      exact ih (h'.turned hf hg hd ho hem hall (hsame _ (by rw [hsg]; congr 2; cases g <;> cases bb <;> first | rfl | exact absurd rfl hgb)) (v := .lit undef) (by simp only [SimV]) (Step.refl d h'.stt.step.sat) h'.stt.fresh (.inl rfl) (.inr rfl) (hl.2 hgb)) hlen'
theorem Step.drew {K : Kn} {S : AHeap} {w : World} (hs : Sat K S w) : Step d K S w K S { w with drawn := w.drawn + 1 } :=
 ⟨Kle.refl _ _, ⟨hs.perm, hs.objs, hs.fresh, hs.pend, hs.tk, hs.low, hs.based, hs.fixd⟩, (Below.refl K.low w).drew, fun _ _ h => h⟩
theorem drw_sound (hT : TOk P T) (hP : P.follows .mixedOrders = true) {id : Nat} (hd : ∀ o ∈ ops, ∀ i, o.dst = some i → i < N) (hg : guardsOk ops = true) {plan : Plan} {sk : List Sk} {bs : List Nat} (hpl : planOk ops plan sk bs = true)
  {sl : Slots} {S : AHeap} {c : Nat} {a : Act} {w : World} {K : Kn} (h : Stt P N d K0 S0 w0 sl S c a w K) (hl : ldrw P T d (planOps ops plan) [] sl S c (Q .normal) (fun x S => Q (.pan x) [] S 0)) :
  (Code.region id ops true).wp P (CPost P N d K0 S0 w0 Q) a w := by
 simp only [planOk, Bool.and_eq_true, decide_eq_true_eq] at hpl
 obtain ⟨⟨⟨⟨h1, h2⟩, h3⟩, h4⟩, h5⟩ := hpl
 have hsz : sk.length = ops.size := by rw [← h1]; simp
 have hst := Step.drew (d := d) h.step.sat
 refine wp_region_any hP (drw_main (b := (bs.getD · 0)) hT (certOk_sound h1 h4 h5) hg (fun t i o ho hdt => hd o (Array.mem_of_getElem? ho) t hdt) ops.size (r := plan) (done := fun _ => False) (effs := fun _ => False) (strict := fun _ => False) (cur := fun _ => False) (U := []) (opn := []) (sl := sl) (S := S) (c := c) (K := K) ?_ (by simp; omega))
 refine ⟨(planGo_sound h1 h3).iff (fun j => by simp) (fun j => by simp) (fun j => by simp) (fun j => by simp), hl, ⟨h.step.trans hst, h.sim.of_sget fun t => .inl (by rw [sget_forget']; simp [dsts]), h.size, h.defers, h.fresh⟩, by simp, fun i hi => ?_, fun i hi => hi.elim, fun i hi => (by cases hi), fun i hi => hi.elim, fun i hi => (by cases hi), fun i hi => (by cases hi), fun i o ho hl => ?_, fun i hi => (by cases hi), fun i hi => (by cases hi), List.nodup_nil⟩
 ·simp [Array.getD, hi]
 ·have := (Array.getElem?_eq_some_iff.1 ho).1
  simp [Array.getD, this] at hl
end
end Go.Al
