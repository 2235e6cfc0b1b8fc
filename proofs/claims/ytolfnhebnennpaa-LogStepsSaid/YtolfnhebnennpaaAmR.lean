import Derived.Test.YtolfnhebnennpaaAlZ
set_option linter.unusedSimpArgs false
set_option linter.unusedVariables false
namespace Go.Al.Qt
open Go Go.Al Go.RowKit
def quietOp (qf : List FuncId) : Op → Bool
 | .call ⟨.value (.func g), _, _⟩ => qf.contains g
 | _ => false
def effq (qf : List FuncId) (op : Op) : Bool := effect op && !quietOp qf op
def PureC (P : Program) (ρ : Operand → AV) (op : Op) (v : AV) : Prop :=
 match op with
 | .call ⟨.value f, args, _⟩ => ∃ g first cap, ρ f = .fn (.func g) first cap ∧ ∀ S, AC P g (first ++ args.toList.map ρ ++ cap) S fun r' S' => r' = .ret v ∧ S' = S
 | _ => False
def QV (P : Program) (T : Tab) (qf : List FuncId) (S : AHeap) (ρ : Operand → AV) (op : Op) (v : AV) : Prop :=
 (quietOp qf op = true ∧ PureC P ρ op v) ∨ (quietOp qf op = false ∧ effect op = false ∧ ∃ p, qop T S ρ op = some (p, v) ∧ p)
def allocT (o : LOp) : Option TypeId :=
 match o.op, o.guard with
 | .alloc t, none => some t
 | _, _ => none
def runA (T : Tab) (d : Nat) : List (Option Nat × TypeId) → Slots → AHeap → Nat → (Slots → AHeap → Nat → Prop) → Prop
 | [], sl, S, c, k => k sl S c
 | (dst, t) :: r, sl, S, c, k => match T t with
  | some z => runA T d r (put sl dst (.ptr (d, c) 0)) (S.set (d, c) (.box (z.zero.map .lit))) (c + 1) k
  | none => False
def ldrwA (T : Tab) (d : Nat) (l : List (Option Nat × TypeId)) (sl : Slots) (S : AHeap) (c : Nat) (k : Slots → AHeap → Nat → Prop) : Prop := ∀ l' : List (Option Nat × TypeId), l'.Perm l → runA T d l' sl S c k
theorem ldrwA_nil {T : Tab} {d : Nat} {k : Slots → AHeap → Nat → Prop} {sl : Slots} {S : AHeap} {c : Nat} : ldrwA T d [] sl S c k ↔ k sl S c :=
 ⟨fun h => h [] (.refl _), fun h l' hl => by rw [hl.eq_nil]; exact h⟩
theorem ldrwA_pick {T : Tab} {d : Nat} {k : Slots → AHeap → Nat → Prop} {l r : List (Option Nat × TypeId)} {dst : Option Nat} {t : TypeId} {sl : Slots} {S : AHeap} {c : Nat} (h : ldrwA T d l sl S c k) (hp : ((dst, t) :: r).Perm l) :
  ∃ z, T t = some z ∧ ldrwA T d r (put sl dst (.ptr (d, c) 0)) (S.set (d, c) (.box (z.zero.map .lit))) (c + 1) k := by
 cases hT : T t with
 | none =>
  have := h _ hp
  simp only [runA, hT] at this
 | some z =>
  refine ⟨z, rfl, fun l' hl => ?_⟩
  have := h ((dst, t) :: l') ((hl.cons _).trans hp)
  simp only [runA, hT] at this
  exact this
def ldrw (P : Program) (T : Tab) (d : Nat) (qf : List FuncId) : List (LOp × Bool) → List (Option Nat × TypeId) → List Keep → Slots → AHeap → Nat → (Slots → AHeap → Nat → Prop) → (AV → AHeap → Prop) → Prop
 | [], held, _, sl, S, c, k, _ => ldrwA T d held sl S c k
 | (o, loose) :: r, held, open_, sl, S, c, k, kp =>
  match allocT o with
  | some t => ldrw P T d qf r (held ++ [(o.dst, t)]) open_ sl S c k kp
  | none => ldrwA T d held sl S c fun sl S c =>
   let run (sl : Slots) : Prop :=
    if effq qf o.op then lopv P T d o.op (ev sl) S c (fun v S' c' => (∀ q ∈ (if loose then [] else open_), q.ok S S') ∧ ldrw P T d qf r [] (if loose then [] else open_) (put sl o.dst v) S' c' k kp) kp
    else ∃ v, QV P T qf S (ev sl) o.op v ∧ ldrw P T d qf r [] (if loose then reads (ev sl) o.op ++ open_ else open_) (put sl o.dst v) S c k kp
   match o.guard with
   | none => run sl
   | some (t, b) => match sget sl t with
    | .lit (.bool g) => (g = b → run (sset sl t (.lit (.bool b)))) ∧ (g ≠ b → ldrw P T d qf r [] open_ (put (sset sl t (.lit (.bool (!b)))) o.dst (.lit undef)) S c k kp)
    | .lit (.tuple _) => ldrw P T d qf r [] open_ (put sl o.dst (.lit undef)) S c k kp
    | _ => False
def isAl (ops : Array Oper) (i : Nat) : Bool := match ops[i]? with
 | some o => (allocT (LOp.of ops o)).isSome
 | none => false
def planGo (sk : List Sk) (b : List Nat) (al : Nat → Bool) : Plan → (done effs grp strict cur : Nat) → Bool
 | [], done, _, _, _, _ => allIdx (fun i _ => done.testBit i) 0 sk
 | none :: r, done, effs, grp, strict, _ =>
  allIdx (fun i _ => done.testBit i || ((done ||| b.getD i 0) == b.getD i 0)) 0 sk && planGo sk b al r done effs grp strict 0
 | some (i, loose) :: r, done, effs, grp, strict, cur =>
  match sk[i]? with
  | none => false
  | some s =>
   !done.testBit i && (((if al i then effs else effs ||| grp) ||| b.getD i 0) == b.getD i 0) &&
   s.looks.all (fun t => allIdx (fun j s' => s'.dst != some t || !done.testBit j || (b.getD i 0).testBit j) 0 sk) &&
   (match s.dst with
    | none => true
    | some t => !s.looks.contains t && allIdx (fun j s' => !cur.testBit j || !s'.looks.contains t) 0 sk) &&
   (if al i then planGo sk b al r (done ||| 2 ^ i) effs (grp ||| 2 ^ i) strict (cur ||| 2 ^ i)
    else if s.eff then ((strict ||| b.getD i 0) == b.getD i 0) && (!loose || ((done ||| b.getD i 0) == b.getD i 0)) && planGo sk b al r (done ||| 2 ^ i) (effs ||| grp ||| 2 ^ i) 0 strict (cur ||| 2 ^ i)
    else planGo sk b al r (done ||| 2 ^ i) (effs ||| grp) 0 (if loose then strict else strict ||| 2 ^ i) (cur ||| 2 ^ i))
def skOf (qf : List FuncId) (ops : Array Oper) (o : Oper) : Sk := ⟨o.dst, o.looksAt ops, (o.after.toList.filter (Region.binds .any ·)).map (·.on), effq qf o.op⟩
def planOk (qf : List FuncId) (ops : Array Oper) (plan : Plan) (sk : List Sk) (b : List Nat) : Bool :=
 decide (ops.toList.map (skOf qf ops) = sk) && decide (plen plan ≤ sk.length) && planGo sk b (isAl ops) plan 0 0 0 0 0 && certOk sk b && decide ((sk.filterMap (·.dst)).Nodup)
def PG (qf : List FuncId) (ops : Array Oper) (b : Nat → Nat) : Plan → (done effs grp strict cur : Nat → Prop) → Prop
 | [], done, _, _, _, _ => ∀ i, i < ops.size → done i
 | none :: r, done, effs, grp, strict, _ => (∀ i, i < ops.size → ¬ done i → ∀ j, done j → (b i).testBit j = true) ∧ PG qf ops b r done effs grp strict (fun _ => False)
 | some (i, l) :: r, done, effs, grp, strict, cur => ∃ o, ops[i]? = some o ∧ ¬ done i ∧ (∀ e, effs e → (b i).testBit e = true) ∧
   (∀ t ∈ o.looksAt ops, ∀ j oj, ops[j]? = some oj → oj.dst = some t → done j → (b i).testBit j = true) ∧
   (∀ t, o.dst = some t → t ∉ o.looksAt ops ∧ ∀ j, cur j → ∀ oj, ops[j]? = some oj → t ∉ oj.looksAt ops) ∧
   (isAl ops i = true → PG qf ops b r (fun j => j = i ∨ done j) effs (fun j => j = i ∨ grp j) strict (fun j => j = i ∨ cur j)) ∧
   (isAl ops i = false → (∀ e, grp e → (b i).testBit e = true) ∧
    (effq qf o.op = true → ((∀ j, strict j → (b i).testBit j = true) ∧ (l = true → ∀ j, done j → (b i).testBit j = true)) ∧ PG qf ops b r (fun j => j = i ∨ done j) (fun j => j = i ∨ effs j ∨ grp j) (fun _ => False) strict (fun j => j = i ∨ cur j)) ∧
    (effq qf o.op = false → PG qf ops b r (fun j => j = i ∨ done j) (fun j => effs j ∨ grp j) (fun _ => False) (fun j => (l = false ∧ j = i) ∨ strict j) (fun j => j = i ∨ cur j)))
theorem PG.iff {qf : List FuncId} {ops : Array Oper} {b : Nat → Nat} : ∀ {r : Plan} {done effs grp strict cur done' effs' grp' strict' cur' : Nat → Prop}, (∀ j, done j ↔ done' j) → (∀ j, effs j ↔ effs' j) → (∀ j, grp j ↔ grp' j) → (∀ j, strict j ↔ strict' j) → (∀ j, cur j ↔ cur' j) → PG qf ops b r done effs grp strict cur → PG qf ops b r done' effs' grp' strict' cur' := by
 intro r done effs grp strict cur done' effs' grp' strict' cur' h1 h2 h3 h4 h5 h
 rwa [← funext fun j => propext (h1 j), ← funext fun j => propext (h2 j), ← funext fun j => propext (h3 j), ← funext fun j => propext (h4 j), ← funext fun j => propext (h5 j)]
theorem sk_get {qf : List FuncId} {ops : Array Oper} {i : Nat} {o : Oper} (h : ops[i]? = some o) : (ops.toList.map (skOf qf ops))[i]? = some (skOf qf ops o) := by
 rw [List.getElem?_map]; simp [h]
theorem planGo_sound {qf : List FuncId} {ops : Array Oper} {sk : List Sk} (hs : ops.toList.map (skOf qf ops) = sk) {b : List Nat} : ∀ {r : Plan} {done effs grp strict cur : Nat}, planGo sk b (isAl ops) r done effs grp strict cur = true →
  PG qf ops (b.getD · 0) r (done.testBit · = true) (effs.testBit · = true) (grp.testBit · = true) (strict.testBit · = true) (cur.testBit · = true)
 | [], done, effs, grp, strict, cur, h => by
  intro i hi
  simp only [planGo] at h
  have := allIdx_spec h i (skOf qf ops ops[i]) (by rw [← hs]; exact sk_get (by simp [hi]))
  simpa using this
 | none :: r, done, effs, grp, strict, cur, h => by
  simp only [planGo, Bool.and_eq_true] at h
  refine ⟨fun i hi hnd j hj => ?_, (planGo_sound hs h.2).iff (fun _ => Iff.rfl) (fun _ => Iff.rfl) (fun _ => Iff.rfl) (fun _ => Iff.rfl) (fun j => by simp)⟩
  have := allIdx_spec h.1 i (skOf qf ops ops[i]) (by rw [← hs]; exact sk_get (by simp [hi]))
  simp only [Nat.zero_add, Bool.or_eq_true, beq_iff_eq] at this
  rcases this with this | this
  ·exact absurd this hnd
  ·exact bit_sub this hj
 | some (i, l) :: r, done, effs, grp, strict, cur, h => by
  simp only [planGo] at h
  split at h <;> try (cases h; done)
  rename_i s hsi
  rw [← hs, List.getElem?_map] at hsi
  simp only [Array.getElem?_toList, Option.map_eq_some_iff] at hsi
  obtain ⟨o, ho, rfl⟩ := hsi
  simp only [Bool.and_eq_true, Bool.not_eq_true', beq_iff_eq, List.all_eq_true] at h
  obtain ⟨⟨⟨⟨h1, h2⟩, h3⟩, h5⟩, h4⟩ := h
  have hdone : ∀ (m j : Nat), (m ||| 2 ^ i).testBit j = true ↔ (j = i ∨ m.testBit j = true) := fun m j => by rw [Nat.testBit_or, Bool.or_eq_true, bit_pow, or_comm]
  have hor : ∀ (m n j : Nat), (m ||| n).testBit j = true ↔ (m.testBit j = true ∨ n.testBit j = true) := fun m n j => by rw [Nat.testBit_or, Bool.or_eq_true]
  have heffs : ∀ e, effs.testBit e = true → (b.getD i 0).testBit e = true := by
   intro e he
   refine bit_sub h2 ?_
   split
   ·exact he
   ·exact (hor _ _ _).2 (.inl he)
  refine ⟨o, ho, by simp [h1], heffs, fun t ht j oj hj hdst hdn => ?_, fun t hdt => ?_, fun ha => ?_, fun ha => ⟨fun e he => ?_, fun he => ?_, fun he => ?_⟩⟩
  ·have := allIdx_spec (h3 t ht) j (skOf qf ops oj) (by rw [← hs]; exact sk_get hj)
   simp only [skOf, hdst, bne_self_eq_false, Bool.false_or, Nat.zero_add, Bool.or_eq_true, Bool.not_eq_true'] at this
   rcases this with this | this
   ·rw [hdn] at this; cases this
   ·exact this
  ·have hdt' : (skOf qf ops o).dst = some t := hdt
   rw [hdt'] at h5
   simp only [Bool.and_eq_true, Bool.not_eq_true'] at h5
   refine ⟨fun hm => ?_, fun j hj oj hoj hm => ?_⟩
   ·have : (skOf qf ops o).looks.contains t = true := by simpa [skOf] using hm
    rw [h5.1] at this; cases this
   ·have := allIdx_spec h5.2 j (skOf qf ops oj) (by rw [← hs]; exact sk_get hoj)
    simp only [Nat.zero_add, Bool.or_eq_true, Bool.not_eq_true'] at this
    rcases this with this | this
    ·rw [hj] at this; cases this
    ·have h6 : (skOf qf ops oj).looks.contains t = true := by simpa [skOf] using hm
     rw [this] at h6; cases h6
  ·rw [ha] at h4
   simp only [if_true] at h4
   exact (planGo_sound hs h4).iff (hdone _) (fun _ => Iff.rfl) (hdone _) (fun _ => Iff.rfl) (hdone _)
  ·rw [ha] at h2
   simp only [Bool.false_eq_true, if_false] at h2
   exact bit_sub h2 ((hor _ _ _).2 (.inr he))
  ·have he' : (skOf qf ops o).eff = true := he
   rw [ha, he'] at h4
   simp only [Bool.false_eq_true, if_false, if_true, Bool.and_eq_true, beq_iff_eq] at h4
   exact ⟨⟨fun j hj => bit_sub h4.1.1 hj, fun hl j hj => by
    have := h4.1.2
    simp only [hl, Bool.not_true, Bool.false_or, beq_iff_eq] at this
    exact bit_sub this hj⟩, (planGo_sound hs h4.2).iff (hdone _) (fun j => by rw [hdone, hor]) (fun j => by simp) (fun _ => Iff.rfl) (hdone _)⟩
  ·have he' : (skOf qf ops o).eff = false := he
   rw [ha, he'] at h4
   simp only [Bool.false_eq_true, if_false] at h4
   refine (planGo_sound hs h4).iff (hdone _) (fun j => hor _ _ _) (fun j => by simp) (fun j => ?_) (hdone _)
   cases l
   ·simp only [Bool.false_eq_true, if_false]; rw [Nat.testBit_or, Bool.or_eq_true, bit_pow, or_comm]; simp
   ·simp
theorem certOk_sound {qf : List FuncId} {ops : Array Oper} {sk : List Sk} (hs : ops.toList.map (skOf qf ops) = sk) {b : List Nat} (h : certOk sk b = true) (hn : (sk.filterMap (·.dst)).Nodup) : PF ops (b.getD · 0) := by
 refine ⟨fun i o ho => ?_, fun i j o o' t hi hj h1 h2 => ?_⟩
 ·have := allIdx_spec h i (skOf qf ops o) (by rw [← hs]; exact sk_get ho)
  simp only [Nat.zero_add, Bool.and_eq_true, beq_iff_eq, List.all_eq_true, decide_eq_true_eq] at this
  obtain ⟨g1, g2⟩ := this
  refine ⟨fun e he hb => g1 e.on (by simp only [skOf, List.mem_map, List.mem_filter]; exact ⟨e, ⟨by simpa using he, hb⟩, rfl⟩), fun j hj => ?_⟩
  rcases ancs_bit (bit_sub g2 hj) with h | ⟨e, h1, h2⟩
  ·simp at h
  ·simp only [skOf, List.mem_map, List.mem_filter] at h1
   obtain ⟨e', ⟨h3, h4⟩, rfl⟩ := h1
   exact ⟨e', by simpa using h3, h4, h2⟩
 ·subst hs
  rw [List.filterMap_map] at hn
  have key : ∀ (l : List Oper) (i j : Nat), (l.filterMap ((fun s : Sk => s.dst) ∘ skOf qf ops)).Nodup → l[i]? = some o → l[j]? = some o' → i = j := by
   intro l
   induction l with
   | nil => intro i j _ hi; simp at hi
   | cons x l ih =>
    intro i j hn hi hj
    have sub : ∀ {k : Nat} {q : Oper}, l[k]? = some q → q.dst = some t → t ∈ l.filterMap ((fun s : Sk => s.dst) ∘ skOf qf ops) := fun hk hq => List.mem_filterMap.2 ⟨_, List.mem_of_getElem? hk, hq⟩
    have tail : (l.filterMap ((fun s : Sk => s.dst) ∘ skOf qf ops)).Nodup := by
     rw [List.filterMap_cons] at hn
     split at hn
     ·exact hn
     ·exact (List.nodup_cons.1 hn).2
    cases i with
    | zero =>
     simp only [List.getElem?_cons_zero, Option.some.injEq] at hi
     subst hi
     cases j with
     | zero => rfl
     | succ j =>
      simp only [List.getElem?_cons_succ] at hj
      rw [List.filterMap_cons] at hn
      simp only [Function.comp, skOf, h1] at hn
      exact absurd (sub hj h2) (List.nodup_cons.1 hn).1
    | succ i =>
     cases j with
     | zero =>
      simp only [List.getElem?_cons_zero, Option.some.injEq] at hj
      subst hj
      simp only [List.getElem?_cons_succ] at hi
      rw [List.filterMap_cons] at hn
      simp only [Function.comp, skOf, h2] at hn
      exact absurd (sub hi h1) (List.nodup_cons.1 hn).1
     | succ j => rw [ih i j tail (by simpa using hi) (by simpa using hj)]
  exact key ops.toList i j hn (by simpa using hi) (by simpa using hj)
theorem PureC.congr {P : Program} {ρ ρ' : Operand → AV} {op : Op} {v : AV} (h : ∀ x ∈ op.operands, ρ x = ρ' x) (k : PureC P ρ op v) : PureC P ρ' op v := by
 unfold PureC at k ⊢
 split at k
 ·rename_i f args ts
  obtain ⟨g, first, cap, h1, h2⟩ := k
  refine ⟨g, first, cap, ?_, ?_⟩
  ·rw [← h f (by simp [Op.operands, Call.operands])]; exact h1
  ·have : args.toList.map ρ' = args.toList.map ρ := List.map_congr_left fun x hx => (h x (by simp [Op.operands, Call.operands]; exact .inr (by simpa using hx))).symm
   rw [this]; exact h2
 ·exact k.elim
theorem QV.congr {P : Program} {T : Tab} {qf : List FuncId} {S : AHeap} {ρ ρ' : Operand → AV} {op : Op} {v : AV} (h : ∀ x ∈ op.operands, ρ x = ρ' x) (k : QV P T qf S ρ op v) : QV P T qf S ρ' op v := by
 rcases k with ⟨h1, h2⟩ | ⟨h1, h2, p, h3, h4⟩
 ·exact .inl ⟨h1, h2.congr h⟩
 ·exact .inr ⟨h1, h2, p, by rw [← qop_congr h]; exact h3, h4⟩
theorem QV.keep {P : Program} {T : Tab} {qf : List FuncId} {S S' : AHeap} {ρ : Operand → AV} {op : Op} {v : AV} (k : QV P T qf S ρ op v) (hk : ∀ q ∈ reads ρ op, q.ok S S') : QV P T qf S' ρ op v := by
 rcases k with ⟨h1, h2⟩ | ⟨h1, h2, p, h3, h4⟩
 ·exact .inl ⟨h1, h2⟩
 ·obtain ⟨p', a, b⟩ := qop_keep h3 h4 hk
  exact .inr ⟨h1, h2, p', a, b⟩
theorem effq_false {qf : List FuncId} {op : Op} (h : effq qf op = false) (hq : quietOp qf op = false) : effect op = false := by
 simp only [effq, hq, Bool.not_false, Bool.and_true] at h; exact h
def Good (P : Program) (qf : List FuncId) (T : Tab) (ops : Array Oper) (sl : Slots) (S : AHeap) (i : Nat) : Prop := ∃ o, ops[i]? = some o ∧ effq qf o.op = false ∧
 ((want sl (LOp.of ops o).guard = some true ∧ ∃ v, QV P T qf S (ev sl) o.op v ∧ ∀ t, o.dst = some t → sget sl t = v) ∨ (want sl (LOp.of ops o).guard = some false ∧ ∀ t, o.dst = some t → sget sl t = .lit undef))
theorem Good.congr {P : Program} {qf : List FuncId} {T : Tab} {ops : Array Oper} (hg : guardsOk ops = true) {sl sl' : Slots} {S S' : AHeap} {i : Nat} (h : Good P qf T ops sl S i)
  (hl : ∀ o, ops[i]? = some o → (∀ t ∈ o.looksAt ops, sget sl t = sget sl' t) ∧ (∀ t, o.dst = some t → sget sl t = sget sl' t) ∧ (S' = S ∨ want sl (LOp.of ops o).guard = some false ∨ ∀ q ∈ reads (ev sl) o.op, q.ok S S')) : Good P qf T ops sl' S' i := by
 obtain ⟨o, ho, he, h⟩ := h
 obtain ⟨h1, h2, h3⟩ := hl o ho
 refine ⟨o, ho, he, ?_⟩
 rw [← want_agree (guards_isSome hg ho) h1]
 rcases h with ⟨hw, v, ha, hd⟩ | ⟨hw, hd⟩
 ·have ha' : QV P T qf S' (ev sl) o.op v := by
   rcases h3 with rfl | h3 | h3
   ·exact ha
   ·rw [h3] at hw; cases hw
   ·exact ha.keep h3
  exact .inl ⟨hw, v, ha'.congr (ev_agree h1), fun t ht => by rw [← h2 t ht]; exact hd t ht⟩
 ·exact .inr ⟨hw, fun t ht => by rw [← h2 t ht]; exact hd t ht⟩
theorem PureC.lopv {P : Program} {T : Tab} {d : Nat} {ρ : Operand → AV} {op : Op} {v : AV} {S : AHeap} {c : Nat} (h : PureC P ρ op v) : Al.lopv P T d op ρ S c (fun v' S' c' => v' = v ∧ S' = S ∧ c' = c) (fun _ _ => False) := by
 unfold PureC at h
 split at h
 ·rename_i f args ts
  obtain ⟨g, first, cap, h1, h2⟩ := h
  simp only [Al.lopv, h1]
  refine ⟨_, S, c, GhostL.refl, (h2 S).mono ?_⟩
  rintro e S' ⟨rfl, rfl⟩ _
  exact ⟨v, _, _, GhostL.refl, rfl, rfl, rfl⟩
 ·exact h.elim
def heldOf (ops : Array Oper) (H : List Nat) : List (Option Nat × TypeId) := H.filterMap fun i => (ops[i]?).bind fun o => (allocT (LOp.of ops o)).map fun t => (o.dst, t)
theorem isAl_some {ops : Array Oper} {i : Nat} {o : Oper} (ho : ops[i]? = some o) (h : isAl ops i = true) : ∃ t, allocT (LOp.of ops o) = some t := by
 simp only [isAl, ho] at h
 exact Option.isSome_iff_exists.1 h
theorem isAl_none {ops : Array Oper} {i : Nat} {o : Oper} (ho : ops[i]? = some o) (h : isAl ops i = false) : allocT (LOp.of ops o) = none := by
 simp only [isAl, ho] at h
 cases hc : allocT (LOp.of ops o) with
 | none => rfl
 | some t => rw [hc] at h; exact nomatch h
theorem allocT_some {o : LOp} {t : TypeId} (h : allocT o = some t) : o.op = .alloc t ∧ o.guard = none := by
 unfold allocT at h
 split at h
 ·rename_i t' e1 e2
  exact ⟨by rw [e1, Option.some.inj h], e2⟩
 ·exact nomatch h
theorem heldOf_erase {ops : Array Oper} {H : List Nat} {i : Nat} {o : Oper} {t : TypeId} (hi : i ∈ H) (ho : ops[i]? = some o) (ht : allocT (LOp.of ops o) = some t) : ((o.dst, t) :: heldOf ops (H.erase i)).Perm (heldOf ops H) := by
 have h1 : (heldOf ops H).Perm (heldOf ops (i :: H.erase i)) := (List.perm_cons_erase hi).filterMap fun i => (ops[i]?).bind fun o => (allocT (LOp.of ops o)).map fun t => (o.dst, t)
 have h2 : heldOf ops (i :: H.erase i) = (o.dst, t) :: heldOf ops (H.erase i) := by
  simp only [heldOf, List.filterMap_cons, ho, ht, Option.bind_some, Option.map_some]
 rw [h2] at h1
 exact h1.symm
section
variable {P : Program} {T : Tab} {N d : Nat} {K0 : Kn} {S0 : AHeap} {w0 : World} {qf : List FuncId} {ops : Array Oper} {b : Nat → Nat} {Q : Post}
structure Inv (P : Program) (T : Tab) (N d : Nat) (K0 : Kn) (S0 : AHeap) (w0 : World) (qf : List FuncId) (ops : Array Oper) (b : Nat → Nat) (Q : Post) (r : Plan) (done effs grp strict cur : Nat → Prop) (U H : List Nat) (opn : List Keep) (listed : Array Bool)
  (sl : Slots) (S : AHeap) (c : Nat) (a : Act) (w : World) (K : Kn) : Prop where
 pg : PG qf ops b r done effs grp strict cur
 hl : ldrw P T d qf (planOps ops r) (heldOf ops H) opn sl S c (Q .normal) (fun x S => Q (.pan x) [] S 0)
 stt : Stt P N d K0 S0 w0 (forget (dsts ops U) sl) S c a w K
 lsz : listed.size = ops.size
 lst : ∀ i, i < ops.size → (listed.getD i false = true ↔ done i ∧ i ∉ U ∧ i ∉ H)
 dn : ∀ i, done i → i < ops.size
 ud : ∀ i ∈ U, done i ∧ ¬ effs i ∧ ¬ grp i
 ed : ∀ i, effs i → done i
 gd : ∀ i, grp i → done i
 hh : ∀ i ∈ H, grp i ∧ isAl ops i = true
 hn : H.Nodup
 hw : ∀ i ∈ H, ∀ o, ops[i]? = some o → ∀ t, o.dst = some t → ∀ j ∈ U, ∀ oj, ops[j]? = some oj → t ∉ oj.looksAt ops
 good : ∀ i ∈ U, Good P qf T ops sl S i
 opk : ∀ i ∈ U, strict i ∨ ∀ o, ops[i]? = some o → want sl (LOp.of ops o).guard = some false ∨ ∀ q ∈ reads (ev sl) o.op, q ∈ opn
 down : Down ops listed
 look : ∀ i ∈ U, ∀ o, ops[i]? = some o → ∀ t ∈ o.looksAt ops, ∀ j oj, ops[j]? = some oj → oj.dst = some t → done j → (b i).testBit j = true
 uc : ∀ i ∈ U, cur i
 nd : U.Nodup
theorem Inv.step (hf : PF ops b) (hg : guardsOk ops = true) {r : Plan} {done effs grp strict cur : Nat → Prop} {U : List Nat} {opn opn' : List Keep} {listed : Array Bool} {sl sl1 : Slots} {S : AHeap} {c : Nat} {a : Act} {w : World} {K : Kn} {i : Nat} {l : Bool}
  (h : Inv P T N d K0 S0 w0 qf ops b Q (some (i, l) :: r) done effs grp strict cur U [] opn listed sl S c a w K) {o : Oper} (ho : ops[i]? = some o) (hal : isAl ops i = false) (he : effq qf o.op = false)
  (h1 : ∀ t, sget sl1 t = sget sl t) {v : AV} (hl : ldrw P T d qf (planOps ops r) [] opn' (put sl1 o.dst v) S c (Q .normal) (fun x S => Q (.pan x) [] S 0))
  (hgood : (want sl (LOp.of ops o).guard = some true ∧ QV P T qf S (ev sl) o.op v) ∨ (want sl (LOp.of ops o).guard = some false ∧ v = .lit undef))
  (ho1 : ∀ q ∈ opn, q ∈ opn') (ho2 : l = false ∨ want sl (LOp.of ops o).guard = some false ∨ ∀ q ∈ reads (ev sl) o.op, q ∈ opn') :
  Inv P T N d K0 S0 w0 qf ops b Q r (fun j => j = i ∨ done j) (fun j => effs j ∨ grp j) (fun _ => False) (fun j => (l = false ∧ j = i) ∨ strict j) (fun j => j = i ∨ cur j) (i :: U) [] opn' listed (put sl1 o.dst v) S c a w K := by
 obtain ⟨o', ho', hnd, heff, hlook, hwr, _, hpg0⟩ := h.pg
 have hpg := (hpg0 hal).2.2
 obtain rfl : o' = o := by rw [ho] at ho'; exact (Option.some.inj ho').symm
 have hi : i < ops.size := (Array.getElem?_eq_some_iff.1 ho).1
 have hsg : ∀ t, sget (put sl1 o'.dst v) t = if o'.dst = some t then v else sget sl t := fun t => by rw [sget_put, h1]
 have hself : ∀ t ∈ o'.looksAt ops, sget sl t = sget (put sl1 o'.dst v) t := fun t ht => by
  rw [hsg, if_neg]; intro hd
  exact (hwr t hd).1 ht
 have hoth : ∀ j ∈ U, ∀ oj, ops[j]? = some oj → ∀ t ∈ oj.looksAt ops, sget sl t = sget (put sl1 o'.dst v) t := fun j hj oj hoj t ht => by
  rw [hsg, if_neg]; intro hd
  exact (hwr t hd).2 j (h.uc j hj) oj hoj ht
 have hdst : ∀ j, done j → ∀ oj, ops[j]? = some oj → ∀ t, oj.dst = some t → sget sl t = sget (put sl1 o'.dst v) t := fun j hj oj hoj t ht => by
  rw [hsg, if_neg]; intro hd
  have := hf.nodup j i oj o' t hoj ho ht hd
  subst this; exact hnd hj
 refine ⟨hpg he, hl, ⟨h.stt.step, h.stt.sim.of_sget fun t => ?_, h.stt.size, h.stt.defers, h.stt.fresh⟩, h.lsz, fun j hj => ?_, fun j hj => ?_, fun j hj => ?_, fun j hj => .inr (hj.elim (h.ed j) (h.gd j)), fun j hj => hj.elim, fun j hj => (by cases hj), List.nodup_nil, fun j hj => (by cases hj), fun j hj => ?_, fun j hj => ?_, h.down, fun j hj oj hoj t ht k ok hk hkd hdk => ?_, fun j hj => ?_, List.nodup_cons.2 ⟨fun hu => hnd (h.ud i hu).1, h.nd⟩⟩
 ·rw [sget_forget', sget_forget']
  by_cases hc : (dsts ops (i :: U)).contains t = true
  ·rw [if_pos hc]; exact .inr rfl
  ·rw [if_neg hc]
   have hc1 : t ∉ dsts ops (i :: U) := by simpa using hc
   have hcu : ¬ (dsts ops U).contains t = true := by
    intro hx
    obtain ⟨j, hj, q⟩ := mem_dsts.1 (by simpa using hx)
    exact hc1 (mem_dsts.2 ⟨j, by simp [hj], q⟩)
   rw [if_neg hcu, hsg, if_neg fun hd => hc1 (mem_dsts.2 ⟨i, by simp, o', ho, hd⟩)]
   exact .inl rfl
 ·rw [h.lst j hj]
  by_cases e : j = i
  ·subst e; simp [hnd]
  ·simp [e]
 ·rcases hj with rfl | hj
  ·exact hi
  ·exact h.dn j hj
 ·rcases List.mem_cons.1 hj with rfl | hj
  ·exact ⟨.inl rfl, fun q => hnd (q.elim (h.ed _) (h.gd _)), fun q => q⟩
  ·exact ⟨.inr (h.ud j hj).1, fun q => q.elim (h.ud j hj).2.1 (h.ud j hj).2.2, fun q => q⟩
 ·rcases List.mem_cons.1 hj with rfl | hj
  ·refine ⟨o', ho, he, ?_⟩
   rw [← want_agree (guards_isSome hg ho) hself]
   rcases hgood with ⟨hw, ha⟩ | ⟨hw, rfl⟩
   ·exact .inl ⟨hw, v, ha.congr (ev_agree hself), fun t ht => by rw [hsg, if_pos ht]⟩
   ·exact .inr ⟨hw, fun t ht => by rw [hsg, if_pos ht]⟩
  ·refine (h.good j hj).congr hg fun oj hoj => ⟨hoth j hj oj hoj, hdst j (h.ud j hj).1 oj hoj, Or.inl rfl⟩
 ·rcases List.mem_cons.1 hj with rfl | hj
  ·rcases ho2 with h2 | h2
   ·exact .inl (.inl ⟨h2, rfl⟩)
   ·refine .inr fun oj hoj => ?_
    obtain rfl : o' = oj := by rw [ho] at hoj; exact Option.some.inj hoj
    rw [← reads_congr (ev_agree hself), ← want_agree (guards_isSome hg ho) hself]
    exact h2
  ·rcases h.opk j hj with h2 | h2
   ·exact .inl (.inr h2)
   ·refine .inr fun oj hoj => ?_
    rw [← reads_congr (ev_agree (hoth j hj oj hoj)), ← want_agree (guards_isSome hg hoj) (hoth j hj oj hoj)]
    exact (h2 oj hoj).imp id fun h3 q hq => ho1 q (h3 q hq)
 ·rcases List.mem_cons.1 hj with rfl | hj
  ·obtain rfl : o' = oj := by rw [ho] at hoj; exact Option.some.inj hoj
   rcases hdk with rfl | hdk
   ·obtain rfl : o' = ok := by rw [ho] at hk; exact Option.some.inj hk
    exact absurd ht (hwr t hkd).1
   ·exact hlook t ht k ok hk hkd hdk
  ·rename_i hjU
   rcases hdk with rfl | hdk
   ·obtain rfl : o' = ok := by rw [ho] at hk; exact Option.some.inj hk
    exact absurd ht ((hwr t hkd).2 j (h.uc j (by assumption)) oj hoj)
   ·exact h.look j (by assumption) oj hoj t ht k ok hk hkd hdk
 ·rcases List.mem_cons.1 hj with rfl | hj
  ·exact .inl rfl
  ·exact .inr (h.uc j hj)
theorem Inv.pure (hf : PF ops b) (hg : guardsOk ops = true) {r : Plan} {done effs grp strict cur : Nat → Prop} {U : List Nat} {opn : List Keep} {listed : Array Bool} {sl : Slots} {S : AHeap} {c : Nat} {a : Act} {w : World} {K : Kn} {i : Nat} {l : Bool}
  (h : Inv P T N d K0 S0 w0 qf ops b Q (some (i, l) :: r) done effs grp strict cur U [] opn listed sl S c a w K) {o : Oper} (ho : ops[i]? = some o) (hal : isAl ops i = false) (he : effq qf o.op = false) :
  ∃ done' effs' grp' strict' cur' opn' sl', Inv P T N d K0 S0 w0 qf ops b Q r done' effs' grp' strict' cur' (i :: U) [] opn' listed sl' S c a w K := by
 have hl := h.hl
 rw [planOps_cons ho] at hl
 simp only [Qt.ldrw, isAl_none ho hal, heldOf, List.filterMap_nil, ldrwA_nil] at hl
 have heo : effq qf (LOp.of ops o).op = false := he
 have hdst : (LOp.of ops o).dst = o.dst := rfl
 have hop : (LOp.of ops o).op = o.op := rfl
 have run : ∀ sl1 : Slots, (∀ t, sget sl1 t = sget sl t) → want sl (LOp.of ops o).guard = some true → (∃ v, QV P T qf S (ev sl1) o.op v ∧ ldrw P T d qf (planOps ops r) [] (if l then reads (ev sl1) o.op ++ opn else opn) (put sl1 o.dst v) S c (Q .normal) (fun x S => Q (.pan x) [] S 0)) →
   ∃ done' effs' grp' strict' cur' opn' sl', Inv P T N d K0 S0 w0 qf ops b Q r done' effs' grp' strict' cur' (i :: U) [] opn' listed sl' S c a w K := by
  intro sl1 h1 hw hl
  have hev : ev sl1 = ev sl := by funext x; cases x <;> first | rfl | exact h1 _
  obtain ⟨v, ha, hk⟩ := hl
  rw [hev] at ha hk
  refine ⟨_, _, _, _, _, _, _, h.step hf hg ho hal he h1 hk (.inl ⟨hw, ha⟩) (fun q hq => ?_) ?_⟩
  ·cases l <;> simp [hq]
  ·cases l
   ·exact .inl rfl
   ·exact .inr (.inr fun q hq => by simp [hq])
 cases hgd : (LOp.of ops o).guard with
 | none =>
  rw [hgd] at hl
  simp only [heo, Bool.false_eq_true, if_false] at hl
  exact run sl (fun _ => rfl) (by simp [hgd, want]) hl
 | some tb =>
  obtain ⟨t, bb⟩ := tb
  rw [hgd] at hl
  simp only [heo, Bool.false_eq_true, if_false] at hl
  split at hl <;> try exact hl.elim
  rotate_left
  ·rename_i vs hsg
   exact ⟨_, _, _, _, _, opn, _, h.step hf hg ho hal he (fun _ => rfl) hl (.inr ⟨by simp [hgd, want, hsg], rfl⟩) (fun q hq => hq) (.inr (.inl (by simp [hgd, want, hsg])))⟩
  rename_i g hsg
  have hsame : ∀ x : AV, x = sget sl t → ∀ t', sget (sset sl t x) t' = sget sl t' := fun x hx t' => by
   rw [sget_sset]; split
   ·rename_i e; subst e; exact hx
   ·rfl
  by_cases hgb : g = bb
  ·exact run _ (hsame _ (by rw [hsg, hgb])) (by simp [hgd, want, hsg, hgb]) (hl.1 hgb)
  ·exact ⟨_, _, _, _, _, opn, _, h.step hf hg ho hal he (hsame _ (by rw [hsg]; congr 2; cases g <;> cases bb <;> first | rfl | exact absurd rfl hgb)) (hl.2 hgb) (.inr ⟨by simp [hgd, want, hsg, hgb], rfl⟩) (fun q hq => hq) (.inr (.inl (by simp [hgd, want, hsg, hgb])))⟩
theorem Inv.push {r : Plan} {done effs grp strict cur : Nat → Prop} {U H : List Nat} {opn : List Keep} {listed : Array Bool} {sl : Slots} {S : AHeap} {c : Nat} {a : Act} {w : World} {K : Kn} {i : Nat} {l : Bool}
  (h : Inv P T N d K0 S0 w0 qf ops b Q (some (i, l) :: r) done effs grp strict cur U H opn listed sl S c a w K) {o : Oper} (ho : ops[i]? = some o) (hal : isAl ops i = true) :
  Inv P T N d K0 S0 w0 qf ops b Q r (fun j => j = i ∨ done j) effs (fun j => j = i ∨ grp j) strict (fun j => j = i ∨ cur j) U (H ++ [i]) opn listed sl S c a w K := by
 obtain ⟨o', ho', hnd, heff, hlook, hwr, hpg, _⟩ := h.pg
 obtain rfl : o' = o := by rw [ho] at ho'; exact (Option.some.inj ho').symm
 obtain ⟨t, ht⟩ := isAl_some ho hal
 have hl := h.hl
 rw [planOps_cons ho] at hl
 simp only [Qt.ldrw, ht] at hl
 have hi : i < ops.size := (Array.getElem?_eq_some_iff.1 ho).1
 have hiU : i ∉ U := fun hu => hnd (h.ud i hu).1
 have hiH : i ∉ H := fun hu => hnd (h.gd i (h.hh i hu).1)
 refine ⟨hpg hal, ?_, h.stt, h.lsz, fun j hj => ?_, fun j hj => ?_, fun j hj => ⟨.inr (h.ud j hj).1, (h.ud j hj).2.1, fun q => q.elim (fun e => hiU (e ▸ hj)) (h.ud j hj).2.2⟩, fun j hj => .inr (h.ed j hj), fun j hj => hj.elim .inl fun q => .inr (h.gd j q), fun j hj => ?_, ?_, fun j hj oj hoj t ht k hk ok hok => ?_, h.good, h.opk, h.down, fun j hj oj hoj t ht k ok hk hkd hdk => ?_, fun j hj => .inr (h.uc j hj), h.nd⟩
 ·have : heldOf ops (H ++ [i]) = heldOf ops H ++ [(o'.dst, t)] := by
   simp only [heldOf, List.filterMap_append, List.filterMap_cons, ho, ht, Option.bind_some, Option.map_some, List.filterMap_nil]
  rw [this]; exact hl
 ·rw [h.lst j hj, List.mem_append, List.mem_singleton]
  constructor
  ·rintro ⟨a, b, c⟩
   exact ⟨.inr a, b, fun q => q.elim c fun e => hnd (e ▸ a)⟩
  ·rintro ⟨a, b, c⟩
   rcases a with rfl | a
   ·exact absurd (.inr rfl) c
   ·exact ⟨a, b, fun q => c (.inl q)⟩
 ·rcases hj with rfl | hj
  ·exact hi
  ·exact h.dn j hj
 ·rcases List.mem_append.1 hj with hj | hj
  ·exact ⟨.inr (h.hh j hj).1, (h.hh j hj).2⟩
  ·rw [List.mem_singleton] at hj; subst hj; exact ⟨.inl rfl, hal⟩
 ·rw [List.nodup_append]
  refine ⟨h.hn, by simp, fun x hx y hy => ?_⟩
  rw [List.mem_singleton] at hy
  rintro rfl
  exact hiH (hy ▸ hx)
 ·rcases List.mem_append.1 hj with hj | hj
  ·exact h.hw j hj oj hoj t ht k hk ok hok
  ·rw [List.mem_singleton] at hj; subst hj
   obtain rfl : o' = oj := by rw [ho] at hoj; exact Option.some.inj hoj
   exact (hwr t ht).2 k (h.uc k hk) ok hok
 ·rcases hdk with rfl | hdk
  ·obtain rfl : o' = ok := by rw [ho] at hk; exact Option.some.inj hk
   exact absurd ht ((hwr t hkd).2 j (h.uc j hj) oj hoj)
  ·exact h.look j hj oj hoj t ht k ok hk hkd hdk
theorem Inv.norm (hf : PF ops b) (hg : guardsOk ops = true) {listed : Array Bool} {S : AHeap} {c : Nat} {a : Act} {w : World} {K : Kn} : ∀ {r : Plan} {done effs grp strict cur : Nat → Prop} {U H : List Nat} {opn : List Keep} {sl : Slots},
  Inv P T N d K0 S0 w0 qf ops b Q r done effs grp strict cur U H opn listed sl S c a w K → ∃ r' done' effs' grp' strict' cur' U' H' opn' sl', Inv P T N d K0 S0 w0 qf ops b Q r' done' effs' grp' strict' cur' U' H' opn' listed sl' S c a w K ∧ U'.length + H'.length + plen r' = U.length + H.length + plen r ∧
   (r' = [] ∨ (∃ i l r'' o, r' = some (i, l) :: r'' ∧ ops[i]? = some o ∧ isAl ops i = false ∧ (effq qf o.op = true ∨ H' ≠ [])) ∨ (∃ r'', r' = none :: r'' ∧ U' ≠ []))
 | [], _, _, _, _, _, _, _, _, _, h => ⟨_, _, _, _, _, _, _, _, _, _, h, rfl, .inl rfl⟩
 | none :: r, done, effs, grp, strict, cur, U, H, opn, sl, h => by
  by_cases hU : U = []
  ·subst hU
   have h' : Inv P T N d K0 S0 w0 qf ops b Q r done effs grp strict (fun _ => False) [] H opn listed sl S c a w K :=
    ⟨h.pg.2, h.hl, h.stt, h.lsz, h.lst, h.dn, h.ud, h.ed, h.gd, h.hh, h.hn, h.hw, h.good, h.opk, h.down, h.look, fun i hi => (by cases hi), h.nd⟩
   obtain ⟨r', done', effs', grp', strict', cur', U', H', opn', sl', h1, h2, h3⟩ := Inv.norm hf hg h'
   exact ⟨r', done', effs', grp', strict', cur', U', H', opn', sl', h1, by simpa [plen] using h2, h3⟩
  ·exact ⟨_, _, _, _, _, _, _, _, _, _, h, rfl, .inr (.inr ⟨r, rfl, hU⟩)⟩
 | some (i, l) :: r, _, _, _, _, _, U, H, _, _, h => by
  obtain ⟨o, ho, _⟩ := h.pg
  cases hal : isAl ops i with
  | true =>
   obtain ⟨r', done', effs', grp', strict', cur', U', H', opn', sl', h1, h2, h3⟩ := Inv.norm hf hg (h.push ho hal)
   exact ⟨r', done', effs', grp', strict', cur', U', H', opn', sl', h1, by simp only [List.length_append, List.length_cons, List.length_nil, plen, List.filterMap_cons, id] at h2 ⊢; omega, h3⟩
  | false =>
   by_cases hH : H = []
   ·subst hH
    cases he : effq qf o.op with
    | true => exact ⟨_, _, _, _, _, _, _, _, _, _, h, rfl, .inr (.inl ⟨i, l, r, o, rfl, ho, hal, .inl he⟩)⟩
    | false =>
     obtain ⟨_, _, _, _, _, _, _, h'⟩ := h.pure hf hg ho hal he
     obtain ⟨r', done', effs', grp', strict', cur', U', H', opn', sl', h1, h2, h3⟩ := Inv.norm hf hg h'
     exact ⟨r', done', effs', grp', strict', cur', U', H', opn', sl', h1, by simp only [List.length_cons, List.length_nil, plen, List.filterMap_cons, id] at h2 ⊢; omega, h3⟩
   ·exact ⟨_, _, _, _, _, _, _, _, _, _, h, rfl, .inr (.inl ⟨i, l, r, o, rfl, ho, hal, .inr hH⟩)⟩
theorem PG.later {i : Nat} (hi : i < ops.size) : ∀ {r : Plan} {done effs grp strict cur : Nat → Prop}, PG qf ops b r done effs grp strict cur → ¬ done i → ∀ e, effs e → (b i).testBit e = true
 | [], _, _, _, _, _, h, hn, _, _ => absurd (h i hi) hn
 | none :: r, done, effs, grp, strict, cur, h, hn, e, he => PG.later hi h.2 hn e he
 | some (j, l) :: r, done, effs, grp, strict, cur, h, hn, e, he => by
  obtain ⟨o, ho, _, h1, _, _, h2, h3⟩ := h
  by_cases hij : i = j
  ·subst hij; exact h1 e he
  ·cases hal : isAl ops j with
   | true => exact PG.later hi (h2 hal) (fun q => q.elim hij hn) e he
   | false =>
    cases hef : effq qf o.op with
    | true => exact PG.later hi ((h3 hal).2.1 hef).2 (fun q => q.elim hij hn) e (.inr (.inl he))
    | false => exact PG.later hi ((h3 hal).2.2 hef) (fun q => q.elim hij hn) e (.inl he)
theorem PG.later2 {i : Nat} (hi : i < ops.size) {j : Nat} {l : Bool} {r : Plan} {done effs grp strict cur : Nat → Prop} (h : PG qf ops b (some (j, l) :: r) done effs grp strict cur) (hal : isAl ops j = false) (hn : ¬ done i) : ∀ e, effs e ∨ grp e → (b i).testBit e = true := by
 intro e he
 obtain ⟨o, ho, _, h1, _, _, h2, h3⟩ := h
 by_cases hij : i = j
 ·subst hij
  exact he.elim (h1 e) ((h3 hal).1 e)
 ·cases hef : effq qf o.op with
  | true => exact PG.later hi ((h3 hal).2.1 hef).2 (fun q => q.elim hij hn) e (.inr he)
  | false => exact PG.later hi ((h3 hal).2.2 hef) (fun q => q.elim hij hn) e he
section
variable {r : Plan} {done effs grp strict cur : Nat → Prop} {U H : List Nat} {opn : List Keep} {listed : Array Bool} {sl : Slots} {S : AHeap} {c : Nat} {a : Act} {w : World} {K : Kn}
theorem Inv.clear (hf : PF ops b) (h : Inv P T N d K0 S0 w0 qf ops b Q r done effs grp strict cur U H opn listed sl S c a w K) {i : Nat} {o : Oper} (ho : ops[i]? = some o) (hall : ∀ e ∈ o.after, Region.binds .any e = true → listed.getD e.on false = true)
  (hlook : ∀ t ∈ o.looksAt ops, ∀ j oj, ops[j]? = some oj → oj.dst = some t → done j → (b i).testBit j = true) : ∀ t ∈ o.looksAt ops, sget (forget (dsts ops U) sl) t = sget sl t := by
 intro t ht
 rw [sget_forget', if_neg]
 intro hc
 obtain ⟨j, hj, oj, hoj, hd⟩ := mem_dsts.1 (by simpa using hc)
 have := anc_listed hf h.lsz h.down i o ho hall j (hlook t ht j oj hoj hd (h.ud j hj).1)
 exact ((h.lst j (Array.getElem?_eq_some_iff.1 hoj).1).1 this).2.1 hj
theorem Inv.wanted (hg : guardsOk ops = true) (h : Inv P T N d K0 S0 w0 qf ops b Q r done effs grp strict cur U H opn listed sl S c a w K) {i : Nat} {o : Oper} (ho : ops[i]? = some o) (hc : ∀ t ∈ o.looksAt ops, sget (forget (dsts ops U) sl) t = sget sl t)
  {g : Bool} (hw : want sl (LOp.of ops o).guard = some g) : Region.wanted o (yielded ops a.tmps) = g := by
 cases hgd : o.guard with
 | none =>
  simp only [LOp.of, hgd, want, Option.some.injEq] at hw
  simp [Region.wanted, hgd, hw]
 | some jb =>
  obtain ⟨j, bb⟩ := jb
  obtain ⟨t, ht⟩ := Option.isSome_iff_exists.1 (guards_isSome hg ho j bb hgd)
  simp only [LOp.of, hgd, ht, Option.getD_some, want] at hw
  split at hw <;> try (cases hw; done)
  rotate_left
  ·rename_i vs hsg
   simp only [Option.some.injEq] at hw
   have hy := yielded_none h.stt.sim ht ((hc t (guard_look hgd ht)).trans hsg)
   simp only [Region.wanted, hgd, hy]
   rw [← hw]; rfl
  rename_i g' hsg
  simp only [Option.some.injEq] at hw
  have hy := yielded_of h.stt.sim ht ((hc t (guard_look hgd ht)).trans hsg)
  simp only [Region.wanted, hgd, hy]
  rw [← hw]; rfl
theorem Inv.did (hf : PF ops b) (h : Inv P T N d K0 S0 w0 qf ops b Q r done effs grp strict cur U H opn listed sl S c a w K) (hd : ∀ t : Nat, ∀ (i : Nat) (o : Oper), ops[i]? = some o → o.dst = some t → t < N) {i : Nat} {o : Oper} (ho : ops[i]? = some o) (hi : i ∈ U)
  (hall : ∀ e ∈ o.after, Region.binds .any e = true → listed.getD e.on false = true) {v : AV} {u : Value} {w' : World} {K' : Kn} (hst : Step d K S w K' S w') (hfr : Fresh K' S d c) (hv : SimV K' v u) (hsd : ∀ t, o.dst = some t → sget sl t = v) :
  Inv P T N d K0 S0 w0 qf ops b Q r done effs grp strict cur (U.erase i) H opn (listed.setIfInBounds i true) sl S c (a.put o.dst u) w' K' := by
 have hlt : i < ops.size := (Array.getElem?_eq_some_iff.1 ho).1
 have hlt' : i < listed.size := by rw [h.lsz]; exact hlt
 have hme : ∀ j, j ∈ U.erase i ↔ j ≠ i ∧ j ∈ U := fun j => h.nd.mem_erase_iff
 have hp := h.stt.put hst hfr (fun t ht => hd t i o ho ht) hv
 refine ⟨h.pg, h.hl, ⟨hp.step, hp.sim.of_sget fun t => ?_, hp.size, hp.defers, hp.fresh⟩, by simpa using h.lsz, fun j hj => ?_, h.dn, fun j hj => h.ud j ((hme j).1 hj).2, h.ed, h.gd, h.hh, h.hn, fun j hj oj hoj t ht k hk => h.hw j hj oj hoj t ht k ((hme k).1 hk).2, fun j hj => h.good j ((hme j).1 hj).2, fun j hj => h.opk j ((hme j).1 hj).2, h.down.set hlt' ho hall, fun j hj => h.look j ((hme j).1 hj).2, fun j hj => h.uc j ((hme j).1 hj).2, h.nd.erase i⟩
 ·rw [sget_forget', sget_put, sget_forget']
  by_cases hc : (dsts ops (U.erase i)).contains t = true
  ·rw [if_pos hc]; exact .inr rfl
  ·rw [if_neg hc]
   by_cases hdt : o.dst = some t
   ·rw [if_pos hdt]; exact .inl (hsd t hdt)
   ·rw [if_neg hdt, if_neg]
    ·exact .inl rfl
    ·intro hx
     obtain ⟨j, hj, oj, hoj, hjd⟩ := mem_dsts.1 (by simpa using hx)
     have hji : j ≠ i := by
      rintro rfl
      obtain rfl : o = oj := by rw [ho] at hoj; exact Option.some.inj hoj
      exact hdt hjd
     exact hc (by simpa using mem_dsts.2 ⟨j, (hme j).2 ⟨hji, hj⟩, oj, hoj, hjd⟩)
 ·rw [getD_set hlt', h.lst j hj, hme]
  by_cases e : j = i
  ·subst e
   have hjH : j ∉ H := fun q => (h.ud j hi).2.2 (h.hh j q).1
   simp [(h.ud j hi).1, hjH]
  ·simp [e]
theorem QV.new {S : AHeap} {ρ : Operand → AV} {op : Op} {v : AV} {n0 : Name} {ob : AObj} (k : QV P T qf S ρ op v) (h0 : S n0 = none) : QV P T qf (S.set n0 ob) ρ op v := by
 rcases k with ⟨h1, h2⟩ | ⟨h1, h2, p, h3, h4⟩
 ·exact .inl ⟨h1, h2⟩
 ·refine .inr ⟨h1, h2, ?_⟩
  suffices h : ∀ q ∈ reads ρ op, q.ok S (S.set n0 ob) by
   obtain ⟨p', a, b⟩ := qop_keep h3 h4 h
   exact ⟨p', a, b⟩
  intro q hq
  have hal : ∀ o : Own, o.alive S → o.alive (S.set n0 ob) := by
   intro o ho
   have key : ∀ n : Name, (∃ len, S n = some (.buf len)) → ∃ len, (S.set n0 ob) n = some (.buf len) := by
    rintro n ⟨len, hl⟩
    refine ⟨len, ?_⟩
    simp only [AHeap.set]
    rw [if_neg]; · exact hl
    rintro rfl; rw [h0] at hl; cases hl
   cases o <;> first | trivial | exact key _ ho
  cases op <;> try (simp only [reads, List.not_mem_nil] at hq; done)
  rename_i t x
  simp only [reads] at hq
  simp only [qop, aop] at h3
  split at hq
  ·rename_i n o hx
   rw [List.mem_singleton] at hq
   subst hq
   rw [hx] at h3
   simp only [Keep.ok, AHeap.set]
   rw [if_neg]
   rintro rfl
   simp only [aload, h0] at h3
   cases h3
  ·rename_i own cs hx
   rw [List.mem_singleton] at hq
   subst hq
   rw [hx] at h3
   simp only [aload, Option.map_eq_some_iff] at h3
   obtain ⟨⟨p1, x1⟩, h5, h6⟩ := h3
   simp only [Prod.mk.injEq] at h6
   rw [← h6.1] at h4
   exact hal _ h4.2
  ·simp only [List.not_mem_nil] at hq
theorem Inv.made (hf : PF ops b) (hg : guardsOk ops = true) (h : Inv P T N d K0 S0 w0 qf ops b Q r done effs grp strict cur U H opn listed sl S c a w K) (hd : ∀ t : Nat, ∀ (i : Nat) (o : Oper), ops[i]? = some o → o.dst = some t → t < N)
  {i : Nat} {o : Oper} (ho : ops[i]? = some o) (hi : i ∈ H) (hall : ∀ e ∈ o.after, Region.binds .any e = true → listed.getD e.on false = true) {v : AV} {u : Value} {n0 : Name} {ob : AObj} {c' : Nat} {w' : World} {K' : Kn} (h0 : S n0 = none)
  (hv : SimV K' v u) (hst : Step d K S w K' (S.set n0 ob) w') (hfr : Fresh K' (S.set n0 ob) d c') (hl : ldrw P T d qf (planOps ops r) (heldOf ops (H.erase i)) opn (put sl o.dst v) (S.set n0 ob) c' (Q .normal) (fun x S => Q (.pan x) [] S 0)) :
  Inv P T N d K0 S0 w0 qf ops b Q r done effs grp strict cur U (H.erase i) opn (listed.setIfInBounds i true) (put sl o.dst v) (S.set n0 ob) c' (a.put o.dst u) w' K' := by
 have hlt : i < ops.size := (Array.getElem?_eq_some_iff.1 ho).1
 have hlt' : i < listed.size := by rw [h.lsz]; exact hlt
 have hiU : i ∉ U := fun hu => (h.ud i hu).2.2 (h.hh i hi).1
 have hme : ∀ j, j ∈ H.erase i ↔ j ≠ i ∧ j ∈ H := fun j => h.hn.mem_erase_iff
 have hsg : ∀ t, sget (put sl o.dst v) t = if o.dst = some t then v else sget sl t := fun t => by rw [sget_put]
 have hoth : ∀ j ∈ U, ∀ oj, ops[j]? = some oj → ∀ t ∈ oj.looksAt ops, sget sl t = sget (put sl o.dst v) t := fun j hj oj hoj t ht => by
  rw [hsg, if_neg]; intro hd
  exact h.hw i hi o ho t hd j hj oj hoj ht
 have hdst : ∀ j ∈ U, ∀ oj, ops[j]? = some oj → ∀ t, oj.dst = some t → sget sl t = sget (put sl o.dst v) t := fun j hj oj hoj t ht => by
  rw [hsg, if_neg]; intro hd
  have := hf.nodup j i oj o t hoj ho ht hd
  subst this; exact hiU hj
 have hp := h.stt.put hst hfr (fun t ht => hd t i o ho ht) hv
 refine ⟨h.pg, hl, ⟨hp.step, hp.sim.of_sget fun t => ?_, hp.size, hp.defers, hp.fresh⟩, by simpa using h.lsz, fun j hj => ?_, h.dn, h.ud, h.ed, h.gd, fun j hj => h.hh j ((hme j).1 hj).2, h.hn.erase i, fun j hj => h.hw j ((hme j).1 hj).2, fun j hj => ?_, fun j hj => ?_, h.down.set hlt' ho hall, h.look, h.uc, h.nd⟩
 ·rw [sget_forget', hsg, sget_put, sget_forget']
  by_cases hc : (dsts ops U).contains t = true
  ·rw [if_pos hc]; exact .inr rfl
  ·rw [if_neg hc, if_neg hc]; exact .inl rfl
 ·rw [getD_set hlt', h.lst j hj, hme]
  by_cases e : j = i
  ·subst e; simp [hiU, h.gd j (h.hh j hi).1]
  ·simp [e]
 ·obtain ⟨oj, hoj, he, hg1⟩ := h.good j hj
  have hag := fun t ht => hoth j hj oj hoj t ht
  refine ⟨oj, hoj, he, ?_⟩
  rw [← want_agree (guards_isSome hg hoj) hag]
  rcases hg1 with ⟨hw, v', ha, hd'⟩ | ⟨hw, hd'⟩
  ·exact .inl ⟨hw, v', (ha.new h0).congr (ev_agree hag), fun t ht => by rw [← hdst j hj oj hoj t ht]; exact hd' t ht⟩
  ·exact .inr ⟨hw, fun t ht => by rw [← hdst j hj oj hoj t ht]; exact hd' t ht⟩
 ·rcases h.opk j hj with h2 | h2
  ·exact .inl h2
  ·refine .inr fun oj hoj => ?_
   rw [← reads_congr (ev_agree (hoth j hj oj hoj)), ← want_agree (guards_isSome hg hoj) (hoth j hj oj hoj)]
   exact h2 oj hoj
theorem Inv.turned (hf : PF ops b) (hg : guardsOk ops = true) {i : Nat} {l : Bool} (h : Inv P T N d K0 S0 w0 qf ops b Q (some (i, l) :: r) done effs grp strict cur U [] opn listed sl S c a w K) (hd : ∀ t : Nat, ∀ (i : Nat) (o : Oper), ops[i]? = some o → o.dst = some t → t < N)
  {o : Oper} (ho : ops[i]? = some o) (hal : isAl ops i = false) (he : effq qf o.op = true) (hall : ∀ e ∈ o.after, Region.binds .any e = true → listed.getD e.on false = true)
  {sl1 : Slots} (h1 : ∀ t, sget sl1 t = sget sl t) {v : AV} {u : Value} {S' : AHeap} {c' : Nat} {w' : World} {K' : Kn} (hv : SimV K' v u) (hst : Step d K S w K' S' w') (hfr : Fresh K' S' d c')
  {opn' : List Keep} (hkeep : S' = S ∨ l = true ∨ ∀ q ∈ opn, q.ok S S') (hopn : l = true ∨ opn' = opn) (hl : ldrw P T d qf (planOps ops r) [] opn' (put sl1 o.dst v) S' c' (Q .normal) (fun x S => Q (.pan x) [] S 0)) :
  Inv P T N d K0 S0 w0 qf ops b Q r (fun j => j = i ∨ done j) (fun j => j = i ∨ effs j ∨ grp j) (fun _ => False) strict (fun j => j = i ∨ cur j) U [] opn' (listed.setIfInBounds i true) (put sl1 o.dst v) S' c' (a.put o.dst u) w' K' := by
 obtain ⟨o', ho', hnd, heff, hlook, hwr, _, hpg0⟩ := h.pg
 have hpg := (hpg0 hal).2.1
 obtain rfl : o' = o := by rw [ho] at ho'; exact (Option.some.inj ho').symm
 have hlt : i < ops.size := (Array.getElem?_eq_some_iff.1 ho).1
 have hlt' : i < listed.size := by rw [h.lsz]; exact hlt
 have hiU : i ∉ U := fun hu => hnd (h.ud i hu).1
 have hsg : ∀ t, sget (put sl1 o'.dst v) t = if o'.dst = some t then v else sget sl t := fun t => by rw [sget_put, h1]
 have hoth : ∀ j ∈ U, ∀ oj, ops[j]? = some oj → ∀ t ∈ oj.looksAt ops, sget sl t = sget (put sl1 o'.dst v) t := fun j hj oj hoj t ht => by
  rw [hsg, if_neg]; intro hd
  exact (hwr t hd).2 j (h.uc j hj) oj hoj ht
 have hdst : ∀ j, done j → ∀ oj, ops[j]? = some oj → ∀ t, oj.dst = some t → sget sl t = sget (put sl1 o'.dst v) t := fun j hj oj hoj t ht => by
  rw [hsg, if_neg]; intro hd
  have := hf.nodup j i oj o' t hoj ho ht hd
  subst this; exact hnd hj
 have hp := h.stt.put hst hfr (fun t ht => hd t i o' ho ht) hv
 have hnl : ∀ j, (b i).testBit j = true → j ∉ U := fun j hj hu => ((h.lst j (h.dn j (h.ud j hu).1)).1 (anc_listed hf h.lsz h.down i o' ho hall j hj)).2.1 hu
 refine ⟨(hpg he).2, hl, ⟨hp.step, hp.sim.of_sget fun t => ?_, hp.size, hp.defers, hp.fresh⟩, by simpa using h.lsz, fun j hj => ?_, fun j hj => ?_, fun j hj => ?_, fun j hj => ?_, fun j hj => hj.elim, fun j hj => (by cases hj), List.nodup_nil, fun j hj => (by cases hj), fun j hj => ?_, fun j hj => ?_, h.down.set hlt' ho hall, fun j hj oj hoj t ht k ok hk hkd hdk => ?_, fun j hj => .inr (h.uc j hj), h.nd⟩
 ·rw [sget_forget', hsg, sget_put, sget_forget']
  by_cases hc : (dsts ops U).contains t = true
  ·rw [if_pos hc]; exact .inr rfl
  ·rw [if_neg hc, if_neg hc]; exact .inl rfl
 ·rw [getD_set hlt', h.lst j hj]
  by_cases e : j = i
  ·subst e; simp [hiU]
  ·simp [e]
 ·rcases hj with rfl | hj
  ·exact hlt
  ·exact h.dn j hj
 ·refine ⟨.inr (h.ud j hj).1, fun q => ?_, fun q => q⟩
  rcases q with rfl | q | q
  ·exact hiU hj
  ·exact (h.ud j hj).2.1 q
  ·exact (h.ud j hj).2.2 q
 ·rcases hj with rfl | hj | hj
  ·exact .inl rfl
  ·exact .inr (h.ed j hj)
  ·exact .inr (h.gd j hj)
 ·refine (h.good j hj).congr hg fun oj hoj => ⟨hoth j hj oj hoj, hdst j (h.ud j hj).1 oj hoj, ?_⟩
  rcases hkeep with hk | hk | hk
  ·exact .inl hk
  ·exact absurd hj (hnl j ((hpg he).1.2 hk j (h.ud j hj).1))
  rcases h.opk j hj with h2 | h2
  ·exact absurd hj (hnl j ((hpg he).1.1 j h2))
  ·rcases h2 oj hoj with h3 | h3
   ·exact .inr (.inl h3)
   ·exact .inr (.inr fun q hq => hk q (h3 q hq))
 ·rcases hopn with hl1 | rfl
  ·exact absurd hj (hnl j ((hpg he).1.2 hl1 j (h.ud j hj).1))
  rcases h.opk j hj with h2 | h2
  ·exact .inl h2
  ·refine .inr fun oj hoj => ?_
   rw [← reads_congr (ev_agree (hoth j hj oj hoj)), ← want_agree (guards_isSome hg hoj) (hoth j hj oj hoj)]
   exact h2 oj hoj
 ·rcases hdk with rfl | hdk
  ·obtain rfl : o' = ok := by rw [ho] at hk; exact Option.some.inj hk
   exact absurd ht ((hwr t hkd).2 j (h.uc j hj) oj hoj)
  ·exact h.look j hj oj hoj t ht k ok hk hkd hdk
end
theorem ldrw_pick {dst : Option Nat} {t : TypeId} {k : Slots → AHeap → Nat → Prop} {kp : AV → AHeap → Prop} : ∀ {os : List (LOp × Bool)} {l r : List (Option Nat × TypeId)} {opn : List Keep} {sl : Slots} {S : AHeap} {c : Nat}, ldrw P T d qf os l opn sl S c k kp → ((dst, t) :: r).Perm l →
  ∃ z, T t = some z ∧ ldrw P T d qf os r opn (put sl dst (.ptr (d, c) 0)) (S.set (d, c) (.box (z.zero.map .lit))) (c + 1) k kp
 | [], l, r, opn, sl, S, c, h, hp => ldrwA_pick h hp
 | (o, lo) :: os, l, r, opn, sl, S, c, h, hp => by
  simp only [Qt.ldrw] at h ⊢
  split at h
  ·exact ldrw_pick (os := os) h (by rw [← List.cons_append]; exact hp.append_right _)
  ·exact ldrwA_pick h hp
theorem drw_main (hT : TOk P T) (hf : PF ops b) (hg : guardsOk ops = true) (hd : ∀ t : Nat, ∀ (i : Nat) (o : Oper), ops[i]? = some o → o.dst = some t → t < N) : ∀ (n : Nat) {r : Plan} {done effs grp strict cur : Nat → Prop} {U H : List Nat} {opn : List Keep} {listed : Array Bool} {sl : Slots} {S : AHeap} {c : Nat} {a : Act} {w : World} {K : Kn},
  Inv P T N d K0 S0 w0 qf ops b Q r done effs grp strict cur U H opn listed sl S c a w K → U.length + H.length + plen r ≤ n → wpAny P .any ops (CPost P N d K0 S0 w0 Q) n listed a w := by
 intro n
 induction n with
 | zero =>
  intro r done effs grp strict cur U H opn listed sl S c a w K h hn
  obtain ⟨r', done', effs', grp', strict', cur', U', H', opn', sl', h', hlen, hhead⟩ := h.norm hf hg
  have hU0 : U' = [] := List.length_eq_zero_iff.1 (by omega)
  have hH0 : H' = [] := List.length_eq_zero_iff.1 (by omega)
  subst hU0; subst hH0
  obtain rfl : r' = [] := by
   rcases hhead with h | ⟨i, l, r'', o, rfl, _⟩ | ⟨_, _, h⟩
   ·exact h
   ·simp only [plen, List.filterMap_cons, id, List.length_cons, List.length_nil] at hlen hn; omega
   ·exact absurd rfl h
  clear h
  have h := h'
  refine ⟨?_, sl', S, c, K, ldrwA_nil.1 h.hl, h.stt.step, h.stt.sim.of_sget fun t => .inl (by rw [sget_forget']; simp [dsts]), h.stt.size, h.stt.defers, h.stt.fresh⟩
  cases hr : Region.ready .any ops listed with
  | nil => rfl
  | cons i l =>
   have hm : i ∈ Region.ready .any ops listed := by rw [hr]; simp
   obtain ⟨h0, o, ho, _⟩ := mem_ready.1 hm
   have hi := (Array.getElem?_eq_some_iff.1 ho).1
   have := (h.lst i hi).2 ⟨h.pg i hi, by simp⟩
   have hi' : i < listed.size := by rw [h.lsz]; exact hi
   simp only [Array.getD, hi', dite_true] at h0 this
   rw [h0] at this; cases this
 | succ n ih =>
  intro r done effs grp strict cur U H opn listed sl S c a w K h hn
  obtain ⟨r', done', effs', grp', strict', cur', U', H', opn', sl', h', hlen, hhead⟩ := h.norm hf hg
  clear h
  refine ⟨fun hr => ?_, fun i hi => ?_⟩
  ·have hall := all_listed hf h'.lsz hr
   have hU : U' = [] := by
    cases U' with
    | nil => rfl
    | cons j U'' => exact absurd (by simp) ((h'.lst j (h'.dn j (h'.ud j (by simp)).1)).1 (hall j (h'.dn j (h'.ud j (by simp)).1))).2.1
   have hH : H' = [] := by
    cases H' with
    | nil => rfl
    | cons j H'' =>
     have hj := h'.gd j (h'.hh j (by simp)).1
     exact absurd (by simp) ((h'.lst j (h'.dn j hj)).1 (hall j (h'.dn j hj))).2.2
   subst hU; subst hH
   have hr' : r' = [] := by
    rcases hhead with hh | ⟨j, l, r'', o, rfl, _⟩ | ⟨_, _, hh⟩
    ·exact hh
    ·obtain ⟨o, ho, hnd, _⟩ := h'.pg
     have hj := (Array.getElem?_eq_some_iff.1 ho).1
     exact absurd ((h'.lst j hj).1 (hall j hj)).1 hnd
    ·exact absurd rfl hh
   subst hr'
   exact ⟨sl', S, c, K, ldrwA_nil.1 h'.hl, h'.stt.step, h'.stt.sim.of_sget fun t => .inl (by rw [sget_forget']; simp [dsts]), h'.stt.size, h'.stt.defers, h'.stt.fresh⟩
  ·obtain ⟨h0, o, ho, hall⟩ := mem_ready.1 hi
   have hlt := (Array.getElem?_eq_some_iff.1 ho).1
   have hlt' : i < listed.size := by rw [h'.lsz]; exact hlt
   have hunl : ¬ listed.getD i false = true := by
    simp only [Array.getD, hlt', dite_true] at h0 ⊢
    rw [h0]; simp
   rw [h'.lst i hlt] at hunl
   unfold wpOp
   simp only [ho]
   by_cases hiU : i ∈ U'
   ·have hclear := h'.clear hf ho hall fun t ht j oj hoj hjd hdj => h'.look i hiU o ho t ht j oj hoj hjd hdj
    have hlen' : (U'.erase i).length + H'.length + plen r' ≤ n := by
     have := List.length_erase_of_mem hiU
     have hpos : 0 < U'.length := List.length_pos_of_mem hiU
     omega
    obtain ⟨o', ho', he, hgood⟩ := h'.good i hiU
    obtain rfl : o' = o := by rw [ho] at ho'; exact (Option.some.inj ho').symm
    rcases hgood with ⟨hw, v, ha, hv⟩ | ⟨hw, hv⟩
    ·rw [if_pos (h'.wanted hg ho hclear hw)]
     have ha' : QV P T qf S (ev (forget (dsts ops U') sl')) o'.op v := ha.congr (ev_agree fun t ht => (hclear t ht).symm)
     rcases ha' with ⟨-, hpc⟩ | ⟨-, -, p, ha', hp⟩
     ·have hlop : lopv P T d o'.op (ev (forget (dsts ops U') sl')) S c (fun v' S' c' => v' = v ∧ S' = S ∧ c' = c) (fun _ _ => False) := hpc.lopv
      refine .inl (lopv_sound hT h'.stt.step.sat h'.stt.fresh (fun x => h'.stt.sim.ev x) hlop ?_ ?_)
      ·rintro u w' v' S' c' K' ⟨rfl, rfl, rfl⟩ hv' hst hfr
       exact ih (h'.did hf hd ho hiU hall hst hfr hv' hv) hlen'
      ·rintro x S' K' v' w' - hk -
       exact hk.elim
     ·obtain ⟨u, w', K', h1, h2, h3, h4⟩ := qop_sound hT h'.stt.step.sat h'.stt.fresh (fun x => h'.stt.sim.ev x) ha' hp
      exact .inl (wp_value h1 (ih (h'.did hf hd ho hiU hall h3 h4 h2 hv) hlen'))
    ·rw [if_neg (by rw [h'.wanted hg ho hclear hw]; simp)]
     exact ih (h'.did hf hd ho hiU hall (v := .lit undef) (Step.refl d h'.stt.step.sat) h'.stt.fresh (by simp only [SimV]) hv) hlen'
   by_cases hiH : i ∈ H'
   ·have hal := (h'.hh i hiH).2
    obtain ⟨t, hat⟩ := isAl_some ho hal
    obtain ⟨hop, hgd⟩ := allocT_some hat
    have hop' : o.op = .alloc t := hop
    have hlen' : U'.length + (H'.erase i).length + plen r' ≤ n := by
     have := List.length_erase_of_mem hiH
     have hpos : 0 < H'.length := List.length_pos_of_mem hiH
     omega
    obtain ⟨z, hz, hl⟩ := ldrw_pick h'.hl (heldOf_erase hiH ho hat)
    rw [if_pos (by
     simp only [LOp.of] at hgd
     have hgn : o.guard = none := by
      cases hc : o.guard with
      | none => rfl
      | some jb =>
       obtain ⟨j, bb⟩ := jb
       rw [hc] at hgd
       simp at hgd
     simp [Region.wanted, hgn])]
    have hlop : lopv P T d o.op (ev (forget (dsts ops U') sl')) S c (fun v' S' c' => v' = .ptr (d, c) 0 ∧ S' = S.set (d, c) (.box (z.zero.map .lit)) ∧ c' = c + 1) (fun _ _ => False) := by
     rw [hop']
     simp only [Al.lopv, hz, and_self]
    have hfn := (h'.stt.fresh.2 c (Nat.le_refl _)).2
    refine .inl (lopv_sound hT h'.stt.step.sat h'.stt.fresh (fun x => h'.stt.sim.ev x) hlop ?_ ?_)
    ·rintro u w' v' S' c' K' ⟨rfl, rfl, rfl⟩ hv' hst hfr
     exact ih (h'.made hf hg hd ho hiH hall hfn hv' hst hfr hl) hlen'
    ·rintro x S' K' v' w' - hk -
     exact hk.elim
   ·have hnd : ¬ done' i := fun q => hunl ⟨q, hiU, hiH⟩
    rcases hhead with rfl | ⟨m, l, r'', om, rfl, hom, ham, hem⟩ | ⟨r'', rfl, hne⟩
    ·exact absurd (h'.pg i hlt) hnd
    rotate_left
    ·cases hUc : U' with
     | nil => exact absurd hUc hne
     | cons j U'' =>
      have hjU : j ∈ U' := by rw [hUc]; simp
      have hjd := (h'.ud j hjU).1
      have := anc_listed hf h'.lsz h'.down i o ho hall j (h'.pg.1 i hlt hnd j hjd)
      exact absurd hjU ((h'.lst j (h'.dn j hjd)).1 this).2.1
    have hH0 : H' = [] := by
     cases hHc : H' with
     | nil => rfl
     | cons j H'' =>
      have hjH : j ∈ H' := by rw [hHc]; simp
      have hjg := (h'.hh j hjH).1
      have := anc_listed hf h'.lsz h'.down i o ho hall j (PG.later2 hlt h'.pg ham hnd j (.inr hjg))
      exact absurd hjH ((h'.lst j (h'.dn j (h'.gd j hjg))).1 this).2.2
    subst hH0
    have hem : effq qf om.op = true := hem.resolve_right (fun q => q rfl)
    have him : i = m := by
     by_cases e : i = m
     ·exact e
     ·obtain ⟨om', hom', hmnd, _, _, _, _, hpg0⟩ := h'.pg
      have hpg := (hpg0 ham).2.1
      obtain rfl : om' = om := by rw [hom] at hom'; exact (Option.some.inj hom').symm
      have hbit := PG.later hlt (hpg hem).2 (fun q => q.elim e hnd) m (.inl rfl)
      have := anc_listed hf h'.lsz h'.down i o ho hall m hbit
      exact absurd ((h'.lst m (Array.getElem?_eq_some_iff.1 hom).1).1 this).1 hmnd
    subst him
    obtain rfl : o = om := by rw [ho] at hom; exact Option.some.inj hom
    have hclear := h'.clear hf ho hall fun t ht j oj hoj hjd hdj => by
     obtain ⟨o', ho', _, _, hlook, _⟩ := h'.pg
     obtain rfl : o' = o := by rw [ho] at ho'; exact (Option.some.inj ho').symm
     exact hlook t ht j oj hoj hjd hdj
    have hlen' : U'.length + ([] : List Nat).length + plen r'' ≤ n := by simp only [plen, List.filterMap_cons, id, List.length_cons, List.length_nil] at hlen hn ⊢; omega
    have hl := h'.hl
    rw [planOps_cons ho] at hl
    simp only [Qt.ldrw, isAl_none ho ham, heldOf, List.filterMap_nil, ldrwA_nil] at hl
    have heo : effq qf (LOp.of ops o).op = true := hem
    have run : ∀ sl1 : Slots, (∀ t, sget sl1 t = sget sl' t) → want sl' (LOp.of ops o).guard = some true → lopv P T d o.op (ev sl1) S c (fun v S' c' => (∀ q ∈ (if l then [] else opn'), q.ok S S') ∧ ldrw P T d qf (planOps ops r'') [] (if l then [] else opn') (put sl1 o.dst v) S' c' (Q .normal) (fun x S => Q (.pan x) [] S 0)) (fun x S => Q (.pan x) [] S 0) →
      if Region.wanted o (yielded ops a.tmps) = true then o.wp P a w (wpAny P .any ops (CPost P N d K0 S0 w0 Q) n (listed.setIfInBounds i true)) (CPost P N d K0 S0 w0 Q) ∨ (o.asks P a w ∧ LetsOut (CPost P N d K0 S0 w0 Q)) else wpAny P .any ops (CPost P N d K0 S0 w0 Q) n (listed.setIfInBounds i true) (a.put o.dst undef) w := by
     intro sl1 h1 hw hl
     rw [if_pos (h'.wanted hg ho hclear hw)]
     have hl' := lopv_congr (ρ' := ev (forget (dsts ops U') sl')) (ev_agree fun t ht => by rw [h1, hclear t ht]) hl
     refine .inl (lopv_sound hT h'.stt.step.sat h'.stt.fresh (fun x => h'.stt.sim.ev x) hl' ?_ ?_)
     ·intro u w' v S' c' K' ⟨hk1, hk2⟩ hv hst hfr
      exact ih (h'.turned hf hg hd ho ham hem hall h1 hv hst hfr (by cases l with | true => exact .inr (.inl rfl) | false => exact .inr (.inr hk1)) (by cases l with | true => exact .inl rfl | false => exact .inr rfl) hk2) hlen'
     ·intro x S' K' v w' hx hk hst
      exact ⟨x, S', K', v, rfl, hx, hk, h'.stt.step.trans hst, h'.stt.defers.mono hst.le⟩
    cases hgd : (LOp.of ops o).guard with
    | none =>
     rw [hgd] at hl
     simp only [heo, if_true] at hl
     exact run sl' (fun _ => rfl) (by simp [hgd, want]) hl
    | some tb =>
     obtain ⟨t, bb⟩ := tb
     rw [hgd] at hl
     simp only [heo, if_true] at hl
     split at hl <;> try exact hl.elim
     rotate_left
     ·rename_i vs hsg
      rw [if_neg (by rw [h'.wanted hg ho hclear (g := false) (by simp [hgd, want, hsg])]; simp)]
      exact ih (h'.turned hf hg hd ho ham hem hall (fun _ => rfl) (v := .lit undef) (by simp only [SimV]) (Step.refl d h'.stt.step.sat) h'.stt.fresh (.inl rfl) (.inr rfl) hl) hlen'
     rename_i g hsg
     have hsame : ∀ x : AV, x = sget sl' t → ∀ t', sget (sset sl' t x) t' = sget sl' t' := fun x hx t' => by
      rw [sget_sset]; split
      ·rename_i e; subst e; exact hx
      ·rfl
     by_cases hgb : g = bb
     ·exact run _ (hsame _ (by rw [hsg, hgb])) (by simp [hgd, want, hsg, hgb]) (hl.1 hgb)
     ·rw [if_neg (by rw [h'.wanted hg ho hclear (g := false) (by simp [hgd, want, hsg, hgb])]; simp)]
      exact ih (h'.turned hf hg hd ho ham hem hall (hsame _ (by rw [hsg]; congr 2; cases g <;> cases bb <;> first | rfl | exact absurd rfl hgb)) (v := .lit undef) (by simp only [SimV]) (Step.refl d h'.stt.step.sat) h'.stt.fresh (.inl rfl) (.inr rfl) (hl.2 hgb)) hlen'
theorem drw_sound (hT : TOk P T) (hP : P.follows .mixedOrders = true) {id : Nat} (hd : ∀ o ∈ ops, ∀ i, o.dst = some i → i < N) (hg : guardsOk ops = true) {plan : Plan} {sk : List Sk} {bs : List Nat} (hpl : planOk qf ops plan sk bs = true)
  {sl : Slots} {S : AHeap} {c : Nat} {a : Act} {w : World} {K : Kn} (h : Stt P N d K0 S0 w0 sl S c a w K) (hl : ldrw P T d qf (planOps ops plan) [] [] sl S c (Q .normal) (fun x S => Q (.pan x) [] S 0)) :
  (Code.region id ops true).wp P (CPost P N d K0 S0 w0 Q) a w := by
 simp only [planOk, Bool.and_eq_true, decide_eq_true_eq] at hpl
 obtain ⟨⟨⟨⟨h1, h2⟩, h3⟩, h4⟩, h5⟩ := hpl
 have hsz : sk.length = ops.size := by rw [← h1]; simp
 have hst := Step.drew (d := d) h.step.sat
 refine wp_region_any hP (drw_main (qf := qf) (b := (bs.getD · 0)) hT (certOk_sound h1 h4 h5) hg (fun t i o ho hdt => hd o (Array.mem_of_getElem? ho) t hdt) ops.size (r := plan) (done := fun _ => False) (effs := fun _ => False) (grp := fun _ => False) (strict := fun _ => False) (cur := fun _ => False) (U := []) (H := []) (opn := []) (sl := sl) (S := S) (c := c) (K := K) ?_ (by simp; omega))
 refine ⟨(planGo_sound h1 h3).iff (fun j => by simp) (fun j => by simp) (fun j => by simp) (fun j => by simp) (fun j => by simp), hl, ⟨h.step.trans hst, h.sim.of_sget fun t => .inl (by rw [sget_forget']; simp [dsts]), h.size, h.defers, h.fresh⟩, by simp, fun i hi => ?_, fun i hi => hi.elim, fun i hi => (by cases hi), fun i hi => hi.elim, fun i hi => hi.elim, fun i hi => (by cases hi), List.nodup_nil, fun i hi => (by cases hi), fun i hi => (by cases hi), fun i hi => (by cases hi), fun i o ho hl => ?_, fun i hi => (by cases hi), fun i hi => (by cases hi), List.nodup_nil⟩
 ·simp [Array.getD, hi]
 ·have := (Array.getElem?_eq_some_iff.1 ho).1
  simp [Array.getD, this] at hl
end
end Go.Al.Qt
