import Derived.Test.YtolfnhebnennpaaAlM
import Derived.Orders
set_option linter.unusedSimpArgs false
set_option linter.unusedVariables false
namespace Go.Al
open Go.RowKit
theorem map_congr' {ρ ρ' : Operand → AV} {l : List Operand} (h : ∀ x ∈ l, ρ x = ρ' x) : l.map ρ = l.map ρ' := List.map_congr_left h
theorem mapP_congr {ρ ρ' : Operand → AV} : ∀ {l : List (Nat × Operand)}, (∀ x ∈ l.map (·.2), ρ x = ρ' x) → (l.map fun q => (q.1, ρ q.2)) = l.map fun q => (q.1, ρ' q.2)
 | [], _ => rfl
 | q :: l, h => by
  simp only [List.map_cons]
  rw [h q.2 (by simp), mapP_congr fun x hx => h x (by simp only [List.map_cons, List.mem_cons]; exact .inr hx)]
theorem aop_congr {T : Tab} {S : AHeap} {ρ ρ' : Operand → AV} {op : Op} (h : ∀ x ∈ op.operands, ρ x = ρ' x) : aop T S ρ op = aop T S ρ' op := by
 cases op <;> try rfl
 case makeFunc f a b =>
  simp only [aop]
  rw [map_congr' (ρ := ρ) (ρ' := ρ') (l := a.toList) (fun x hx => h x (by simp [Op.operands]; exact .inl (by simpa using hx))), map_congr' (ρ := ρ) (ρ' := ρ') (l := b.toList) (fun x hx => h x (by simp [Op.operands]; exact .inr (by simpa using hx)))]
 case build t ps =>
  simp only [aop]
  rw [mapP_congr fun x hx => h x (by simpa [Op.operands] using hx)]
 case call c =>
  obtain ⟨f, args, ts⟩ := c
  cases f <;> try rfl
  simp only [aop]
  rw [map_congr' fun x hx => h x (by simp [Op.operands, Call.operands]; simpa using hx)]
 case slice t x lo hi m =>
  cases m <;> cases lo <;> cases hi <;> simp [Op.operands] at h <;> simp [aop, h]
 case typeAssert x s t b => cases b <;> simp [Op.operands] at h <;> simp [aop, h]
 all_goals (simp [Op.operands] at h; simp [aop, h])
theorem lopv_congr {P : Program} {T : Tab} {d : Nat} {op : Op} {ρ ρ' : Operand → AV} {S : AHeap} {c : Nat} {k : AV → AHeap → Nat → Prop} {kp : AV → AHeap → Prop} (h : ∀ x ∈ op.operands, ρ x = ρ' x) (hl : lopv P T d op ρ S c k kp) : lopv P T d op ρ' S c k kp := by
 cases op
 case box t x => simp [Op.operands] at h; simpa [lopv, h] using hl
 case alloc t => exact hl
 case buildSlice t n ps =>
  simp only [lopv] at hl ⊢
  rw [← mapP_congr fun x hx => h x (by simpa [Op.operands] using hx)]
  exact hl
 case store t a x => simp [Op.operands] at h; simpa [lopv, h] using hl
 case makeSlice t ln cp =>
  simp [Op.operands] at h
  obtain ⟨h1, h2⟩ := h
  cases ln
  case const v =>
   cases v <;> first | (simp only [lopv] at hl ⊢; rw [← h2]; exact hl) | (simp only [lopv] at hl ⊢; rw [← h1, ← h2]; exact hl)
  all_goals (simp only [lopv] at hl ⊢; rw [← h1, ← h2]; exact hl)
 case panic x => simp [Op.operands] at h; simpa [lopv, h] using hl
 case convert s t x => simp [Op.operands] at h; simpa [lopv, h] using hl
 case call cc =>
  obtain ⟨f, args, ts⟩ := cc
  cases f
  case value f =>
   simp only [lopv] at hl ⊢
   rw [← h f (by simp [Op.operands, Call.operands]), ← map_congr' (ρ := ρ) (ρ' := ρ') (l := args.toList) fun x hx => h x (by simp [Op.operands, Call.operands]; exact .inr (by simpa using hx))]
   exact hl
  case invoke r m =>
   simp only [lopv] at hl ⊢
   rw [← aop_congr h]; exact hl
  case builtin b =>
   have key : aop T S ρ (.call ⟨.builtin b, args, ts⟩) = aop T S ρ' (.call ⟨.builtin b, args, ts⟩) := aop_congr h
   cases b <;> try (simp only [lopv] at hl ⊢; rw [← key]; exact hl)
   all_goals
    have ha : ∀ x ∈ args.toList, ρ x = ρ' x := fun x hx => h x (by simp [Op.operands, Call.operands]; simpa using hx)
    simp only [lopv] at hl ⊢
    revert hl ha
    generalize args.toList = l
    generalize ts.toList = tl
    intro hl ha
    rcases l with _ | ⟨s, _ | ⟨x, _ | ⟨y, l⟩⟩⟩ <;> try exact hl
    rcases tl with _ | ⟨t, _ | ⟨tx, _ | ⟨y, tl⟩⟩⟩ <;> try exact hl
    have h1 := ha s (by simp)
    have h2 := ha x (by simp)
    dsimp only at hl ⊢
    rw [h1, h2] at hl
    exact hl
 all_goals (simp only [lopv] at hl ⊢; rw [← aop_congr h]; exact hl)
inductive Keep where
 | obj (n : Name)
 | own (o : Own)
def Keep.ok (S S' : AHeap) : Keep → Prop
 | .obj n => S' n = S n
 | .own o => o.alive S'
def effect : Op → Bool
 | .move _ | .assign _ | .pick .. | .load .. | .nilCheck _ | .binOp .. | .unOp .. | .convert .. | .makeInterface .. | .makeFunc .. | .fieldAddr .. | .field .. | .indexAddr .. | .index .. | .slice .. | .extract .. | .build .. | .typeAssert .. | .buildSlice .. => false
 | .call ⟨.builtin .len, _, _⟩ | .call ⟨.builtin .cap, _, _⟩ | .call ⟨.builtin .max, _, _⟩ | .call ⟨.builtin .min, _, _⟩ => false
 | _ => true
def reads (ρ : Operand → AV) : Op → List Keep
 | .load _ a => match ρ a with
  | .ptr n _ => [.obj n]
  | .rptr own _ => [.own own]
  | _ => []
 | _ => []
def ldrw (P : Program) (T : Tab) (d : Nat) : List (LOp × Bool) → List Keep → Slots → AHeap → Nat → (Slots → AHeap → Nat → Prop) → (AV → AHeap → Prop) → Prop
 | [], _, sl, S, c, k, _ => k sl S c
 | (o, loose) :: r, open_, sl, S, c, k, kp =>
  let run (sl : Slots) : Prop :=
   if effect o.op then lopv P T d o.op (ev sl) S c (fun v S' c' => (∀ q ∈ (if loose then [] else open_), q.ok S S') ∧ ldrw P T d r (if loose then [] else open_) (put sl o.dst v) S' c' k kp) kp
   else lopv P T d o.op (ev sl) S c (fun v S' c' => ldrw P T d r (if loose then reads (ev sl) o.op ++ open_ else open_) (put sl o.dst v) S' c' k kp) kp
  match o.guard with
  | none => run sl
  | some (t, b) => match sget sl t with
   | .lit (.bool g) => (g = b → run (sset sl t (.lit (.bool b)))) ∧ (g ≠ b → ldrw P T d r open_ (put (sset sl t (.lit (.bool (!b)))) o.dst (.lit undef)) S c k kp)
   | .lit (.tuple _) => ldrw P T d r open_ (put sl o.dst (.lit undef)) S c k kp
   | _ => False
abbrev Plan := List (Option (Nat × Bool))
def planOps (ops : Array Oper) (plan : Plan) : List (LOp × Bool) := plan.filterMap fun q => q.bind fun q => (ops[q.1]?).map fun o => (LOp.of ops o, q.2)
def plen (plan : Plan) : Nat := (plan.filterMap id).length
structure Sk where
 dst : Option Nat
 looks : List Nat
 after : List Nat
 eff : Bool
 deriving DecidableEq
def skOf (ops : Array Oper) (o : Oper) : Sk := ⟨o.dst, o.looksAt ops, (o.after.toList.filter (Region.binds .any ·)).map (·.on), effect o.op⟩
def allIdx {α : Type} (f : Nat → α → Bool) : Nat → List α → Bool
 | _, [] => true
 | i, x :: r => f i x && allIdx f (i + 1) r
theorem allIdx_spec {α : Type} {f : Nat → α → Bool} : ∀ {l : List α} {k : Nat}, allIdx f k l = true → ∀ j x, l[j]? = some x → f (k + j) x = true
 | y :: l, k, h, j, x, hj => by
  simp only [allIdx, Bool.and_eq_true] at h
  cases j with
  | zero => simp only [List.getElem?_cons_zero, Option.some.injEq] at hj; subst hj; exact h.1
  | succ j => have := allIdx_spec h.2 j x (by simpa using hj); rwa [show k + (j + 1) = k + 1 + j by omega]
 | [], _, _, _, _, hj => by simp at hj
def ancs (b : List Nat) (s : Sk) : Nat := s.after.foldl (fun m e => m ||| 2 ^ e ||| b.getD e 0) 0
def certOk (sk : List Sk) (b : List Nat) : Bool :=
 allIdx (fun i s => s.after.all (fun e => decide (e < i)) && ((b.getD i 0 ||| ancs b s) == ancs b s)) 0 sk
def planGo (sk : List Sk) (b : List Nat) : Plan → (done effs strict cur : Nat) → Bool
 | [], done, _, _, _ => allIdx (fun i _ => done.testBit i) 0 sk
 | none :: r, done, effs, strict, _ =>
  allIdx (fun i _ => done.testBit i || ((done ||| b.getD i 0) == b.getD i 0)) 0 sk && planGo sk b r done effs strict 0
 | some (i, loose) :: r, done, effs, strict, cur =>
  match sk[i]? with
  | none => false
  | some s =>
   !done.testBit i && ((effs ||| b.getD i 0) == b.getD i 0) &&
   s.looks.all (fun t => allIdx (fun j s' => s'.dst != some t || !done.testBit j || (b.getD i 0).testBit j) 0 sk) &&
   (match s.dst with
    | none => true
    | some t => !s.looks.contains t && allIdx (fun j s' => !cur.testBit j || !s'.looks.contains t) 0 sk) &&
   (if s.eff then ((strict ||| b.getD i 0) == b.getD i 0) && (!loose || ((done ||| b.getD i 0) == b.getD i 0)) && planGo sk b r (done ||| 2 ^ i) (effs ||| 2 ^ i) strict (cur ||| 2 ^ i)
    else planGo sk b r (done ||| 2 ^ i) effs (if loose then strict else strict ||| 2 ^ i) (cur ||| 2 ^ i))
def planOk (ops : Array Oper) (plan : Plan) (sk : List Sk) (b : List Nat) : Bool :=
 decide (ops.toList.map (skOf ops) = sk) && decide (plen plan ≤ sk.length) && planGo sk b plan 0 0 0 0 && certOk sk b && decide ((sk.filterMap (·.dst)).Nodup)
def PG (ops : Array Oper) (b : Nat → Nat) : Plan → (done effs strict cur : Nat → Prop) → Prop
 | [], done, _, _, _ => ∀ i, i < ops.size → done i
 | none :: r, done, effs, strict, _ => (∀ i, i < ops.size → ¬ done i → ∀ j, done j → (b i).testBit j = true) ∧ PG ops b r done effs strict (fun _ => False)
 | some (i, l) :: r, done, effs, strict, cur => ∃ o, ops[i]? = some o ∧ ¬ done i ∧ (∀ e, effs e → (b i).testBit e = true) ∧
   (∀ t ∈ o.looksAt ops, ∀ j oj, ops[j]? = some oj → oj.dst = some t → done j → (b i).testBit j = true) ∧
   (∀ t, o.dst = some t → t ∉ o.looksAt ops ∧ ∀ j, cur j → ∀ oj, ops[j]? = some oj → t ∉ oj.looksAt ops) ∧
   (effect o.op = true → ((∀ j, strict j → (b i).testBit j = true) ∧ (l = true → ∀ j, done j → (b i).testBit j = true)) ∧ PG ops b r (fun j => j = i ∨ done j) (fun j => j = i ∨ effs j) strict (fun j => j = i ∨ cur j)) ∧
   (effect o.op = false → PG ops b r (fun j => j = i ∨ done j) effs (fun j => (l = false ∧ j = i) ∨ strict j) (fun j => j = i ∨ cur j))
structure PF (ops : Array Oper) (b : Nat → Nat) : Prop where
 cert : ∀ i o, ops[i]? = some o → (∀ e ∈ o.after, Region.binds .any e = true → e.on < i) ∧ ∀ j, (b i).testBit j = true → ∃ e ∈ o.after, Region.binds .any e = true ∧ (e.on = j ∨ (b e.on).testBit j = true)
 nodup : ∀ (i j : Nat) (o o' : Oper) (t : Nat), ops[i]? = some o → ops[j]? = some o' → o.dst = some t → o'.dst = some t → i = j
theorem bit_sub {m n : Nat} (h : (m ||| n) = n) {j : Nat} (hj : m.testBit j = true) : n.testBit j = true := by
 rw [← h, Nat.testBit_or, hj, Bool.true_or]
theorem bit_pow {i j : Nat} : (2 ^ i).testBit j = true ↔ j = i := by
 rw [Nat.testBit_two_pow]; simp [eq_comm]
theorem PG.iff {ops : Array Oper} {b : Nat → Nat} : ∀ {r : Plan} {done effs strict cur done' effs' strict' cur' : Nat → Prop}, (∀ j, done j ↔ done' j) → (∀ j, effs j ↔ effs' j) → (∀ j, strict j ↔ strict' j) → (∀ j, cur j ↔ cur' j) → PG ops b r done effs strict cur → PG ops b r done' effs' strict' cur' := by
 intro r done effs strict cur done' effs' strict' cur' h1 h2 h3 h4 h
 rwa [← funext fun j => propext (h1 j), ← funext fun j => propext (h2 j), ← funext fun j => propext (h3 j), ← funext fun j => propext (h4 j)]
theorem ancs_bit {b : List Nat} {j : Nat} : ∀ {l : List Nat} {m : Nat}, (l.foldl (fun m e => m ||| 2 ^ e ||| b.getD e 0) m).testBit j = true → m.testBit j = true ∨ ∃ e ∈ l, e = j ∨ (b.getD e 0).testBit j = true
 | [], m, h => .inl h
 | e :: l, m, h => by
  rw [List.foldl_cons] at h
  rcases ancs_bit h with h | ⟨e', h1, h2⟩
  ·rw [Nat.testBit_or, Nat.testBit_or, Bool.or_eq_true, Bool.or_eq_true] at h
   rcases h with (h | h) | h
   ·exact .inl h
   ·exact .inr ⟨e, by simp, .inl (bit_pow.1 h).symm⟩
   ·exact .inr ⟨e, by simp, .inr h⟩
  ·exact .inr ⟨e', by simp [h1], h2⟩
theorem sk_get {ops : Array Oper} {i : Nat} {o : Oper} (h : ops[i]? = some o) : (ops.toList.map (skOf ops))[i]? = some (skOf ops o) := by
 rw [List.getElem?_map]; simp [h]
theorem planGo_sound {ops : Array Oper} {sk : List Sk} (hs : ops.toList.map (skOf ops) = sk) {b : List Nat} : ∀ {r : Plan} {done effs strict cur : Nat}, planGo sk b r done effs strict cur = true →
  PG ops (b.getD · 0) r (done.testBit · = true) (effs.testBit · = true) (strict.testBit · = true) (cur.testBit · = true)
 | [], done, effs, strict, cur, h => by
  intro i hi
  simp only [planGo] at h
  have := allIdx_spec h i (skOf ops ops[i]) (by rw [← hs]; exact sk_get (by simp [hi]))
  simpa using this
 | none :: r, done, effs, strict, cur, h => by
  simp only [planGo, Bool.and_eq_true] at h
  refine ⟨fun i hi hnd j hj => ?_, (planGo_sound hs h.2).iff (fun _ => Iff.rfl) (fun _ => Iff.rfl) (fun _ => Iff.rfl) (fun j => by simp)⟩
  have := allIdx_spec h.1 i (skOf ops ops[i]) (by rw [← hs]; exact sk_get (by simp [hi]))
  simp only [Nat.zero_add, Bool.or_eq_true, beq_iff_eq] at this
  rcases this with this | this
  ·exact absurd this hnd
  ·exact bit_sub this hj
 | some (i, l) :: r, done, effs, strict, cur, h => by
  simp only [planGo] at h
  split at h <;> try (cases h; done)
  rename_i s hsi
  rw [← hs, List.getElem?_map] at hsi
  simp only [Array.getElem?_toList, Option.map_eq_some_iff] at hsi
  obtain ⟨o, ho, rfl⟩ := hsi
  simp only [Bool.and_eq_true, Bool.not_eq_true', beq_iff_eq, List.all_eq_true] at h
  obtain ⟨⟨⟨⟨h1, h2⟩, h3⟩, h5⟩, h4⟩ := h
  have hdone : ∀ (m j : Nat), (m ||| 2 ^ i).testBit j = true ↔ (j = i ∨ m.testBit j = true) := fun m j => by rw [Nat.testBit_or, Bool.or_eq_true, bit_pow, or_comm]
  refine ⟨o, ho, by simp [h1], fun e he => bit_sub h2 he, fun t ht j oj hj hdst hdn => ?_, fun t hdt => ?_, fun he => ?_, fun he => ?_⟩
  ·have := allIdx_spec (h3 t ht) j (skOf ops oj) (by rw [← hs]; exact sk_get hj)
   simp only [skOf, hdst, bne_self_eq_false, Bool.false_or, Nat.zero_add, Bool.or_eq_true, Bool.not_eq_true'] at this
   rcases this with this | this
   ·rw [hdn] at this; cases this
   ·exact this
  ·have hdt' : (skOf ops o).dst = some t := hdt
   rw [hdt'] at h5
   simp only [Bool.and_eq_true, Bool.not_eq_true'] at h5
   refine ⟨fun hm => ?_, fun j hj oj hoj hm => ?_⟩
   ·have : (skOf ops o).looks.contains t = true := by simpa [skOf] using hm
    rw [h5.1] at this; cases this
   ·have := allIdx_spec h5.2 j (skOf ops oj) (by rw [← hs]; exact sk_get hoj)
    simp only [Nat.zero_add, Bool.or_eq_true, Bool.not_eq_true'] at this
    rcases this with this | this
    ·rw [hj] at this; cases this
    ·have h6 : (skOf ops oj).looks.contains t = true := by simpa [skOf] using hm
     rw [this] at h6; cases h6
  ·have he' : (skOf ops o).eff = true := he
   rw [he'] at h4
   simp only [if_true, Bool.and_eq_true, beq_iff_eq] at h4
   exact ⟨⟨fun j hj => bit_sub h4.1.1 hj, fun hl j hj => by
    have := h4.1.2
    simp only [hl, Bool.not_true, Bool.false_or, beq_iff_eq] at this
    exact bit_sub this hj⟩, (planGo_sound hs h4.2).iff (hdone _) (hdone _) (fun _ => Iff.rfl) (hdone _)⟩
  ·have he' : (skOf ops o).eff = false := he
   rw [he'] at h4
   simp only [Bool.false_eq_true, if_false] at h4
   refine (planGo_sound hs h4).iff (hdone _) (fun _ => Iff.rfl) (fun j => ?_) (hdone _)
   cases l
   ·simp only [Bool.false_eq_true, if_false]; rw [Nat.testBit_or, Bool.or_eq_true, bit_pow, or_comm]; simp
   ·simp
theorem certOk_sound {ops : Array Oper} {sk : List Sk} (hs : ops.toList.map (skOf ops) = sk) {b : List Nat} (h : certOk sk b = true) (hn : (sk.filterMap (·.dst)).Nodup) : PF ops (b.getD · 0) := by
 refine ⟨fun i o ho => ?_, fun i j o o' t hi hj h1 h2 => ?_⟩
 ·have := allIdx_spec h i (skOf ops o) (by rw [← hs]; exact sk_get ho)
  simp only [Nat.zero_add, Bool.and_eq_true, beq_iff_eq, List.all_eq_true, decide_eq_true_eq] at this
  obtain ⟨g1, g2⟩ := this
  refine ⟨fun e he hb => g1 e.on (by simp only [skOf, List.mem_map, List.mem_filter]; exact ⟨e, ⟨by simpa using he, hb⟩, rfl⟩), fun j hj => ?_⟩
  rcases ancs_bit (bit_sub g2 hj) with h | ⟨e, h1, h2⟩
  ·simp at h
  ·simp only [skOf, List.mem_map, List.mem_filter] at h1
   obtain ⟨e', ⟨h3, h4⟩, rfl⟩ := h1
   exact ⟨e', by simpa using h3, h4, h2⟩
 ·subst hs
  rw [List.filterMap_map] at hn
  have key : ∀ (l : List Oper) (i j : Nat), (l.filterMap ((fun s : Sk => s.dst) ∘ skOf ops)).Nodup → l[i]? = some o → l[j]? = some o' → i = j := by
   intro l
   induction l with
   | nil => intro i j _ hi; simp at hi
   | cons x l ih =>
    intro i j hn hi hj
    have sub : ∀ {k : Nat} {q : Oper}, l[k]? = some q → q.dst = some t → t ∈ l.filterMap ((fun s : Sk => s.dst) ∘ skOf ops) := fun hk hq => List.mem_filterMap.2 ⟨_, List.mem_of_getElem? hk, hq⟩
    have tail : (l.filterMap ((fun s : Sk => s.dst) ∘ skOf ops)).Nodup := by
     rw [List.filterMap_cons] at hn
     split at hn
     ·exact hn
     ·exact (List.nodup_cons.1 hn).2
    cases i with
    | zero =>
     simp only [List.getElem?_cons_zero, Option.some.injEq] at hi
     subst hi
     cases j with
     | zero => rfl
     | succ j =>
      simp only [List.getElem?_cons_succ] at hj
      rw [List.filterMap_cons] at hn
      simp only [Function.comp, skOf, h1] at hn
      exact absurd (sub hj h2) (List.nodup_cons.1 hn).1
    | succ i =>
     cases j with
     | zero =>
      simp only [List.getElem?_cons_zero, Option.some.injEq] at hj
      subst hj
      simp only [List.getElem?_cons_succ] at hi
      rw [List.filterMap_cons] at hn
      simp only [Function.comp, skOf, h2] at hn
      exact absurd (sub hi h1) (List.nodup_cons.1 hn).1
     | succ j => rw [ih i j tail (by simpa using hi) (by simpa using hj)]
  exact key ops.toList i j hn (by simpa using hi) (by simpa using hj)
def forget (ds : List Nat) (sl : Slots) : Slots := sl.filter fun p => !ds.contains p.1
theorem sget_forget (ds : List Nat) (i : Nat) : ∀ sl : Slots, sget (forget ds sl) i = sget sl i ∨ sget (forget ds sl) i = .any
 | [] => .inl rfl
 | (j, v) :: r => by
  have ih := sget_forget ds i r
  simp only [forget, List.filter_cons]
  by_cases hj : ds.contains j
  ·simp only [hj, Bool.not_true, Bool.false_eq_true, if_false]
   by_cases e : i = j
   ·subst e
    right
    have : ∀ r : Slots, sget (r.filter fun p => !ds.contains p.1) i = .any := by
     intro r
     induction r with
     | nil => rfl
     | cons q r ih =>
      obtain ⟨k, u⟩ := q
      simp only [List.filter_cons]
      split
      ·rename_i hk
       simp only [sget]
       rw [if_neg (by rintro rfl; simp at hk; simp at hj; exact hk hj)]; exact ih
      ·exact ih
    exact this r
   ·simp only [sget, if_neg e]; exact ih
  ·simp only [hj, Bool.not_false, if_true]
   simp only [sget]
   split
   ·exact .inl rfl
   ·exact ih
theorem SimT.forget {K : Kn} {sl : Slots} {ts : Array Value} (h : SimT K sl ts) (ds : List Nat) : SimT K (Al.forget ds sl) ts := by
 intro i
 rcases sget_forget ds i sl with e | e <;> rw [e]
 ·exact h i
 ·simp only [SimV]
theorem sget_forget' (ds : List Nat) (i : Nat) : ∀ sl : Slots, sget (forget ds sl) i = if ds.contains i then .any else sget sl i
 | [] => by simp [forget, sget]
 | (j, v) :: r => by
  have ih := sget_forget' ds i r
  simp only [forget, List.filter_cons] at ih ⊢
  by_cases hj : ds.contains j
  ·simp only [hj, Bool.not_true, Bool.false_eq_true, if_false]
   rw [ih]
   by_cases e : i = j
   ·subst e; simp only [hj, if_true]
   ·simp only [sget, if_neg e]
  ·simp only [hj, Bool.not_false, if_true, sget]
   by_cases e : i = j
   ·subst e; simp only [if_true]; rw [if_neg (by simpa using hj)]
   ·simp only [if_neg e]; exact ih
theorem sget_put {sl : Slots} {dst : Option Nat} {v : AV} (i : Nat) : sget (put sl dst v) i = if dst = some i then v else sget sl i := by
 cases dst with
 | none => simp [put]
 | some j =>
  simp only [put, sget_sset, Option.some.injEq]
  by_cases h : i = j
  ·rw [if_pos h, if_pos h.symm]
  ·rw [if_neg h, if_neg (fun e => h e.symm)]
theorem SimT.of_sget {K : Kn} {sl sl' : Slots} {ts : Array Value} (h : SimT K sl ts) (k : ∀ t, sget sl' t = sget sl t ∨ sget sl' t = .any) : SimT K sl' ts := by
 intro t
 rcases k t with e | e <;> rw [e]
 ·exact h t
 ·simp only [SimV]
def want (sl : Slots) : Option (Nat × Bool) → Option Bool
 | none => some true
 | some (t, b) => match sget sl t with
  | .lit (.bool g) => some (g == b)
  | .lit (.tuple _) => some false
  | _ => none
def qop (T : Tab) (S : AHeap) (ρ : Operand → AV) : Op → Option (Prop × AV)
 | .buildSlice t n ps => match T t with
  | some ⟨.slice e, _, _, _⟩ => match T e with
   | some ei => match afill (fun i => some (i * ei.size, ei.size)) (zeros n ei.zero) (ps.toList.map fun q => (q.1, ρ q.2)) with
    | some cs => some (0 < ei.size ∧ n * ei.size ≤ 2 ^ 24, if n = 0 then .empt else .slice .young ei.size cs)
    | none => none
   | none => none
  | _ => none
 | .convert s t x => qconv T s t (ρ x)
 | op => aop T S ρ op
theorem qop_sound {P : Program} {T : Tab} (hT : TOk P T) {d : Nat} {K : Kn} {S : AHeap} {w : World} {c : Nat} (hs : Sat K S w) (hfr : Fresh K S d c) {ρ : Operand → AV} {σ : Operand → Value} (hρ : ∀ x, SimV K (ρ x) (σ x)) {o : Oper} {r : AV} {p : Prop}
  (h : qop T S ρ o.op = some (p, r)) (hp : p) : ∃ u w' K', (execOp σ o).run P w = .ok (.value u) w' ∧ SimV K' r u ∧ Step d K S w K' S w' ∧ Fresh K' S d c := by
 obtain ⟨dst, op, type, pos, after, guard⟩ := o
 by_cases hb : ∃ t n ps, op = .buildSlice t n ps
 ·obtain ⟨t, n, parts, rfl⟩ := hb
  simp only [qop] at h
  split at h <;> try (cases h; done)
  rename_i e s1 s2 s3 hi
  split at h <;> try (cases h; done)
  rename_i ei hei
  split at h <;> try (cases h; done)
  rename_i cs hf
  cases h
  obtain ⟨g0, g1⟩ := hp
  obtain ⟨arr, q1, q2, q3⟩ := run_buildSlice (w := w) (vs := parts.map fun q => (q.1, σ q.2)) hT hi hei hf (by simpa using SimP_map hρ parts.toList) g0 g1
  have hcl := SimL_length q2
  obtain ⟨k1, k2, k3⟩ := hs.newPerm (t := e) q2 d
  refine ⟨.slice (some ⟨w.heap.size, 0, none⟩) n n, w.alloc (.cells arr e), _, ?_, ?_, ⟨k1, k2, (Below.refl _ _).alloc hs.low _, fun _ _ h => h⟩, ⟨hfr.1, hfr.2⟩⟩
  ·simp only [execOp, Sem.run_bind, q1, Result.andThen_ok, Sem.run_pure]
  ·split
   ·rename_i h0; subst h0; simp only [SimV]; exact ⟨_, rfl⟩
   ·simp only [SimV]
    exact ⟨_, n, n, rfl, by rw [hcl, Array.length_toList, q3], Nat.le_refl _, g0, .inr ⟨_, 0, rfl, k3, 0, undef, .inr (.inr ⟨rfl, rfl⟩)⟩⟩
 by_cases hc : ∃ s t x, op = .convert s t x
 ·obtain ⟨s, t, x, rfl⟩ := hc
  simp only [qop] at h
  obtain ⟨u, w', g1, g2, g3⟩ := qconv_sound hT hs hfr h hp (hρ x)
  exact ⟨u, w', K, by simp only [execOp, Sem.run_bind, g1, Result.andThen_ok, Sem.run_pure], g2, g3, ⟨hfr.1, hfr.2⟩⟩
 ·have h' : aop T S ρ op = some (p, r) := by
   unfold qop at h
   split at h
   ·exact absurd ⟨_, _, _, by first | rfl | assumption⟩ hb
   ·exact absurd ⟨_, _, _, by first | rfl | assumption⟩ hc
   ·exact h
  obtain ⟨u, h1, h2⟩ := aop_sound hT hs hρ (o := ⟨dst, op, type, pos, after, guard⟩) h' hp
  exact ⟨u, w, K, h1, h2, Step.refl d hs, hfr⟩
theorem qop_congr {T : Tab} {S : AHeap} {ρ ρ' : Operand → AV} {op : Op} (h : ∀ x ∈ op.operands, ρ x = ρ' x) : qop T S ρ op = qop T S ρ' op := by
 unfold qop
 split
 ·rename_i t n ps
  rw [mapP_congr fun x hx => h x (by simpa [Op.operands] using hx)]
 ·rename_i s t x
  rw [h x (by simp [Op.operands])]
 ·exact aop_congr h
def Good (T : Tab) (ops : Array Oper) (sl : Slots) (S : AHeap) (i : Nat) : Prop := ∃ o, ops[i]? = some o ∧ effect o.op = false ∧
 ((want sl (LOp.of ops o).guard = some true ∧ ∃ p v, qop T S (ev sl) o.op = some (p, v) ∧ p ∧ ∀ t, o.dst = some t → sget sl t = v) ∨ (want sl (LOp.of ops o).guard = some false ∧ ∀ t, o.dst = some t → sget sl t = .lit undef))
theorem qop_keep {T : Tab} {S S' : AHeap} {ρ : Operand → AV} {op : Op} {p : Prop} {v : AV} (h : qop T S ρ op = some (p, v)) (hp : p) (hk : ∀ q ∈ reads ρ op, q.ok S S') : ∃ p', qop T S' ρ op = some (p', v) ∧ p' := by
 cases op <;> try exact ⟨p, h, hp⟩
 case slice t x lo hi m => cases m <;> exact ⟨p, h, hp⟩
 case typeAssert x s t b => cases b <;> exact ⟨p, h, hp⟩
 case call c => obtain ⟨f, args, ts⟩ := c; cases f <;> exact ⟨p, h, hp⟩
 case load t a =>
  simp only [qop, aop] at h ⊢
  simp only [reads] at hk
  revert h hk
  generalize ρ a = x
  intro h hk
  cases x <;> try (simp only [aload] at h; cases h; done)
  case ptr n o =>
   have := hk _ (List.mem_singleton.2 rfl)
   simp only [Keep.ok] at this
   simp only [aload, this] at h ⊢
   exact ⟨p, h, hp⟩
  case rptr own cs =>
   have := hk _ (List.mem_singleton.2 rfl)
   simp only [Keep.ok] at this
   simp only [aload] at h ⊢
   cases hr : readC T t cs with
   | none => rw [hr] at h; cases h
   | some q =>
    rw [hr] at h
    simp only [Option.map_some, Option.some.injEq, Prod.mk.injEq] at h
    obtain ⟨rfl, rfl⟩ := h
    exact ⟨_, rfl, hp.1, this⟩
theorem ev_agree {ops : Array Oper} {o : Oper} {sl sl' : Slots} (h : ∀ t ∈ o.looksAt ops, sget sl t = sget sl' t) : ∀ x ∈ o.op.operands, ev sl x = ev sl' x := by
 intro x hx
 cases x <;> try rfl
 rename_i t
 exact h t (by
  simp only [Oper.looksAt, List.mem_append, List.mem_filterMap]
  exact .inl ⟨.tmp t, by simpa using hx, rfl⟩)
theorem guard_look {ops : Array Oper} {o : Oper} {j : Nat} {b : Bool} {t : Nat} (hg : o.guard = some (j, b)) (ht : (ops[j]?).bind (·.dst) = some t) : t ∈ o.looksAt ops := by
 simp [Oper.looksAt, hg, ht]
theorem want_agree {ops : Array Oper} {o : Oper} {sl sl' : Slots} (hg : ∀ j b, o.guard = some (j, b) → ((ops[j]?).bind (·.dst)).isSome = true) (h : ∀ t ∈ o.looksAt ops, sget sl t = sget sl' t) : want sl (LOp.of ops o).guard = want sl' (LOp.of ops o).guard := by
 cases hgd : o.guard with
 | none => simp [LOp.of, hgd, want]
 | some jb =>
  obtain ⟨j, b⟩ := jb
  obtain ⟨t, ht⟩ := Option.isSome_iff_exists.1 (hg j b hgd)
  simp only [LOp.of, hgd, ht, Option.getD_some, want]
  rw [h t (guard_look hgd ht)]
theorem guards_isSome {ops : Array Oper} (hg : guardsOk ops = true) {i : Nat} {o : Oper} (ho : ops[i]? = some o) : ∀ j b, o.guard = some (j, b) → ((ops[j]?).bind (·.dst)).isSome = true := by
 intro j b h
 have := Array.all_eq_true_iff_forall_mem.1 hg o (Array.mem_of_getElem? ho)
 simpa [h] using this
theorem Good.congr {T : Tab} {ops : Array Oper} (hg : guardsOk ops = true) {sl sl' : Slots} {S S' : AHeap} {i : Nat} (h : Good T ops sl S i)
  (hl : ∀ o, ops[i]? = some o → (∀ t ∈ o.looksAt ops, sget sl t = sget sl' t) ∧ (∀ t, o.dst = some t → sget sl t = sget sl' t) ∧ (S' = S ∨ want sl (LOp.of ops o).guard = some false ∨ ∀ q ∈ reads (ev sl) o.op, q.ok S S')) : Good T ops sl' S' i := by
 obtain ⟨o, ho, he, h⟩ := h
 obtain ⟨h1, h2, h3⟩ := hl o ho
 refine ⟨o, ho, he, ?_⟩
 rw [← want_agree (guards_isSome hg ho) h1]
 rcases h with ⟨hw, p, v, ha, hp, hd⟩ | ⟨hw, hd⟩
 ·obtain ⟨p', ha', hp'⟩ : ∃ p', qop T S' (ev sl) o.op = some (p', v) ∧ p' := by
   rcases h3 with rfl | h3 | h3
   ·exact ⟨p, ha, hp⟩
   ·rw [h3] at hw; cases hw
   ·exact qop_keep ha hp h3
  exact .inl ⟨hw, p', v, by rw [← qop_congr (ev_agree h1)]; exact ha', hp', fun t ht => by rw [← h2 t ht]; exact hd t ht⟩
 ·exact .inr ⟨hw, fun t ht => by rw [← h2 t ht]; exact hd t ht⟩
theorem lopv_pure {P : Program} {T : Tab} {d : Nat} {op : Op} {ρ : Operand → AV} {S : AHeap} {c : Nat} {k : AV → AHeap → Nat → Prop} {kp : AV → AHeap → Prop} (he : effect op = false) (h : lopv P T d op ρ S c k kp) :
  ∃ p v, qop T S ρ op = some (p, v) ∧ p ∧ k v S c := by
 have key : lopv P T d op ρ S c k kp = match qop T S ρ op with
   | some (p, r) => p ∧ k r S c
   | none => False := by
  cases op <;> try rfl
  all_goals first
   | (simp [effect] at he; done)
   | (
    rename_i t n ps
    simp only [lopv, qop]
    rcases T t with _ | ⟨dd, s1, s2, s3⟩
    ·rfl
    ·cases dd <;> first | rfl | (
      rename_i e
      simp only
      cases T e with
      | none => rfl
      | some ei =>
       simp only
       cases afill (fun i => some (i * ei.size, ei.size)) (zeros n ei.zero) (ps.toList.map fun q => (q.1, ρ q.2)) with
       | none => rfl
       | some cs => simp only [and_assoc]))
   | (rename_i cc; obtain ⟨f, args, ts⟩ := cc; cases f <;> first | rfl | (simp [effect] at he; done) | (rename_i bb; cases bb <;> first | rfl | (simp [effect] at he; done)))
 rw [key] at h
 cases ha : qop T S ρ op with
 | none => rw [ha] at h; exact h.elim
 | some q => rw [ha] at h; exact ⟨q.1, q.2, rfl, h.1, h.2⟩
def Down (ops : Array Oper) (listed : Array Bool) : Prop := ∀ i o, ops[i]? = some o → listed.getD i false = true → ∀ e ∈ o.after, Region.binds .any e = true → listed.getD e.on false = true
theorem anc_listed {ops : Array Oper} {b : Nat → Nat} (hf : PF ops b) {listed : Array Bool} (hsz : listed.size = ops.size) (hd : Down ops listed) : ∀ (i : Nat) (o : Oper), ops[i]? = some o → (∀ e ∈ o.after, Region.binds .any e = true → listed.getD e.on false = true) →
  ∀ j, (b i).testBit j = true → listed.getD j false = true := by
 intro i
 induction i using Nat.strongRecOn with
 | _ i ih =>
  intro o ho hall j hj
  obtain ⟨h1, h2⟩ := hf.cert i o ho
  obtain ⟨e, he, hb, h⟩ := h2 j hj
  have hl := hall e he hb
  rcases h with rfl | h
  ·exact hl
  ·have hlt : e.on < ops.size := by
    rcases Nat.lt_or_ge e.on listed.size with q | q
    ·omega
    ·simp [Array.getElem?_eq_none q] at hl
   have hoe : ops[e.on]? = some ops[e.on] := Array.getElem?_eq_getElem hlt
   exact ih e.on (h1 e he hb) _ hoe (fun e' he' hb' => hd _ _ hoe hl e' he' hb') j h
end Go.Al
