import Derived.Test.YtolfnhebnennpaaAlD
import Derived.ChangeKeysEq
import Derived.Laws.StructEq
set_option linter.unusedSimpArgs false
set_option linter.unusedVariables false
namespace Go.Al
open Go.RowKit
def aintOp (op : BinOp) (k : IntKind) (a : Int) (k' : IntKind) (b : Int) : Option (Prop × AV) :=
 match op with
 | .shl => some (0 ≤ b, .lit (.int k (k.wrap (a * 2 ^ (min b.toNat k.bits)))))
 | .shr => some (0 ≤ b, .lit (.int k (a.fdiv (2 ^ (min b.toNat k.bits)))))
 | _ => if k = k' then match op with
  | .add => some (True, .lit (.int k (k.wrap (a + b))))
  | .sub => some (True, .lit (.int k (k.wrap (a - b))))
  | .mul => some (True, .lit (.int k (k.wrap (a * b))))
  | .quo => some (b ≠ 0, .lit (.int k (k.wrap (a.tdiv b))))
  | .rem => some (b ≠ 0, .lit (.int k (a.tmod b)))
  | .and => some (True, .lit (.int k (k.wrap ((BitVec.ofInt k.bits a &&& BitVec.ofInt k.bits b).toNat : Int))))
  | .or => some (True, .lit (.int k (k.wrap ((BitVec.ofInt k.bits a ||| BitVec.ofInt k.bits b).toNat : Int))))
  | .xor => some (True, .lit (.int k (k.wrap ((BitVec.ofInt k.bits a ^^^ BitVec.ofInt k.bits b).toNat : Int))))
  | .andNot => some (True, .lit (.int k (k.wrap ((BitVec.ofInt k.bits a &&& ~~~ (BitVec.ofInt k.bits b)).toNat : Int))))
  | .eql => some (True, .lit (.bool (a == b)))
  | .neq => some (True, .lit (.bool (a != b)))
  | .lss => some (True, .lit (.bool (decide (a < b))))
  | .leq => some (True, .lit (.bool (decide (a ≤ b))))
  | .gtr => some (True, .lit (.bool (decide (a > b))))
  | .geq => some (True, .lit (.bool (decide (a ≥ b))))
  | _ => none
  else none
theorem aintOp_sound {P : Program} {w : World} {op : BinOp} {t : TypeId} {k k' : IntKind} {a b : Int} {p : Prop} {r : AV}
  (h : aintOp op k a k' b = some (p, r)) (hp : p) : ∃ u, (binOp op t (.int k a) (.int k' b)).run P w = .ok u w ∧ r = .lit u := by
 unfold aintOp at h
 split at h
 ·cases h
  have hn : ¬ b < 0 := by omega
  exact ⟨_, by simp only [binOp, Op.shift, if_neg hn, Sem.run_pure], rfl⟩
 ·cases h
  have hn : ¬ b < 0 := by omega
  exact ⟨_, by simp only [binOp, Op.shift, if_neg hn, Sem.run_pure], rfl⟩
 ·split at h <;> try (cases h; done)
  rename_i hk
  subst hk
  split at h <;> (try (cases h; done)) <;> cases h <;>
   first
    | (have hp' : ¬ b = 0 := hp; exact ⟨_, by simp only [binOp, Op.intDiv, ne_eq, not_true_eq_false, if_false, if_neg hp', Sem.run_pure], rfl⟩)
    | exact ⟨_, by simp only [binOp, ne_eq, not_true_eq_false, if_false]; rfl, rfl⟩
def astrOp (op : BinOp) (a b : ByteArray) : Option (Prop × AV) :=
 match op with
 | .add => some (((a.size + b.size : Nat) : Int) ≤ IntKind.i64.max, .lit (.string (a ++ b)))
 | .eql => some (True, .lit (.bool (a.toList == b.toList)))
 | .neq => some (True, .lit (.bool (!(a.toList == b.toList))))
 | .lss => some (True, .lit (.bool (Op.bytesLess a.toList b.toList)))
 | _ => none
theorem astrOp_sound {P : Program} {w : World} {op : BinOp} {t : TypeId} {a b : ByteArray} {p : Prop} {r : AV}
  (h : astrOp op a b = some (p, r)) (hp : p) : ∃ u, (binOp op t (.string a) (.string b)).run P w = .ok u w ∧ r = .lit u := by
 unfold astrOp at h
 split at h <;> (try (cases h; done)) <;> cases h
 ·have : ¬ (((a.size + b.size : Nat) : Int) > IntKind.i64.max) := by omega
  exact ⟨_, by simp only [binOp, Op.stringOp, if_neg this, Sem.run_pure], rfl⟩
 all_goals exact ⟨_, rfl, rfl⟩
def nilP : AV → Option (Prop × Bool)
 | .lit (.pointer none) => some (True, true)
 | .ptr _ _ => some (True, false)
 | .rptr _ _ => some (True, false)
 | _ => none
def nilS : AV → Option (Prop × Bool)
 | .lit (.slice none 0 0) => some (True, true)
 | .lit (.slice (some _) _ _) => some (True, false)
 | .slice _ _ cs => some (cs ≠ [], false)
 | .sref _ _ _ _ _ => some (True, false)
 | _ => none
inductive Dep where
 | z | s (d : Dep)
def Dep.n : Dep → Nat
 | .z => 0
 | .s d => d.n + 1
def eqL (T : Tab) (f : TypeId → AV → AV → Option (Prop × Bool)) : List (Nat × TypeId) → List AV → List AV → Option (Prop × Bool)
 | [], _, _ => some (True, true)
 | q :: r, xs, ys => match apart T q.2 xs q.1, apart T q.2 ys q.1 with
  | some (p1, a), some (p2, b) => match f q.2 a b with
   | some (p3, u) => match r with
    | [] => some (p1 ∧ p2 ∧ p3, u)
    | _ :: _ => match eqL T f r xs ys with
     | some (p4, v) => some (p1 ∧ p2 ∧ p3 ∧ p4, u && v)
     | none => none
   | none => none
  | _, _ => none
def eqAt (T : Tab) : Dep → TypeId → AV → AV → Option (Prop × Bool)
 | .z, _, _, _ => none
 | .s d, t, x, y => match T t, x, y with
  | some ⟨.int _, _, _, _⟩, .lit (.int k a), .lit (.int k' b) => if k = k' then some (True, a == b) else none
  | some ⟨.bool, _, _, _⟩, .lit (.bool a), .lit (.bool b) => some (True, a == b)
  | some ⟨.string, _, _, _⟩, .lit (.string a), .lit (.string b) => some (True, a.toList == b.toList)
  | some ⟨.struct fs, _, _, _⟩, .agg xs, .agg ys => if T.eq t = true then eqL T (eqAt T d) fs xs ys else none
  | some ⟨.array n e, _, _, _⟩, .agg xs, .agg ys => match T e with
   | some ei => if T.eq t = true then eqL T (eqAt T d) ((List.range n).map fun i => (i * ei.size, e)) xs ys else none
   | none => none
  | _, _, _ => none
def aeq (T : Tab) (t : TypeId) (x y : AV) : Option (Prop × Bool) :=
 match x, y with
 | .lit (.int k a), .lit (.int k' b) => if k = k' then some (True, a == b) else none
 | .lit (.string a), .lit (.string b) => some (True, a.toList == b.toList)
 | .lit (.bool a), .lit (.bool b) => match T t with
  | some ⟨.bool, _, _, _⟩ => some (True, a == b)
  | _ => none
 | x, .lit (.pointer none) => match T t with
  | some ⟨.pointer e, _, _, _⟩ => nilP x
  | _ => none
 | .lit (.pointer none), y => match T t with
  | some ⟨.pointer e, _, _, _⟩ => nilP y
  | _ => none
 | x, .lit (.slice none 0 0) => match T t with
  | some ⟨.slice e, _, _, _⟩ => nilS x
  | _ => none
 | .agg xs, .agg ys => if T.eq t = true then eqAt T (.s (.s (.s (.s .z)))) t (.agg xs) (.agg ys) else none
 | _, _ => none
theorem run_equal_of {P : Program} {w : World} {t : TypeId} {x y : Value} {r : Result Bool} (h : ∀ d, (Op.equalIn (d + 1) t x y).run P w = r) : (Op.equal t x y).run P w = r := h 9999
theorem eq3 {P : Program} {w : World} {t : TypeId} {v u : Value} {b : Bool} (hg : ∀ o1 o2 op, (eqGuard op t o1 o2 v u).run P w = .ok () w)
  (h1 : binOp .eql t v u = do pure (.bool (← Op.equal t v u))) (h2 : binOp .neq t v u = do pure (.bool (!(← Op.equal t v u)))) (he : (Op.equal t v u).run P w = .ok b w) :
  (∀ o1 o2 op, (eqGuard op t o1 o2 v u).run P w = .ok () w) ∧ (binOp .eql t v u).run P w = .ok (.bool b) w ∧ (binOp .neq t v u).run P w = .ok (.bool !b) w :=
 ⟨hg, by rw [h1]; simp only [Sem.run_bind, he, Result.andThen_ok, Sem.run_pure], by rw [h2]; simp only [Sem.run_bind, he, Result.andThen_ok, Sem.run_pure]⟩
theorem eqGuard_ok {P : Program} {w : World} {t : TypeId} {v u : Value} (h : match v, u with | .nilIface, .nilIface | .agg _, .agg _ => False | _, _ => True) :
  ∀ o1 o2 op, (eqGuard op t o1 o2 v u).run P w = .ok () w := by
 intro o1 o2 op
 unfold eqGuard
 cases op <;> first | rfl | (simp only [Sem.run_bind]; cases v <;> cases u <;> first | rfl | exact h.elim)
theorem nilness_ptr {K : Kn} {x : AV} {v : Value} {p : Prop} {b : Bool} (h : nilP x = some (p, b)) (hp : p) (hx : SimV K x v) : ∃ a, v = .pointer a ∧ b = a.isNone := by
 unfold nilP at h
 split at h <;> (try (cases h; done)) <;> simp only [SimV] at hx
 ·cases h; exact ⟨none, hx, rfl⟩
 ·cases h; obtain ⟨b1, f, _, rfl⟩ := hx; exact ⟨_, rfl, rfl⟩
 ·cases h; obtain ⟨b1, f, rfl, _⟩ := hx; exact ⟨_, rfl, rfl⟩
theorem nilness_slice {K : Kn} {x : AV} {v : Value} {p : Prop} {b : Bool} (h : nilS x = some (p, b)) (hp : p) (hx : SimV K x v) : ∃ a n c, v = .slice a n c ∧ b = a.isNone := by
 unfold nilS at h
 split at h <;> (try (cases h; done)) <;> simp only [SimV] at hx
 ·cases h; exact ⟨none, 0, 0, hx, rfl⟩
 ·cases h; exact ⟨_, _, _, hx, rfl⟩
 ·cases h
  obtain ⟨a, n, c, rfl, _, _, _, h5⟩ := hx
  rcases h5 with ⟨h5, _⟩ | ⟨b1, o, rfl, _⟩
  ·exact absurd h5 hp
  ·exact ⟨_, _, _, rfl, rfl⟩
 ·cases h; obtain ⟨b1, f, c', _, rfl, _⟩ := hx; exact ⟨_, _, _, rfl, rfl⟩
theorem eqL_fields {P : Program} {T : Tab} (hT : TOk P T) {K : Kn} {w : World} {d : Dep} {m : Nat} {xs ys : List AV} {vs us : Array Value} (hx : SimL K xs vs.toList) (hy : SimL K ys us.toList)
  (ih : ∀ (t : TypeId) (x y : AV) (v u : Value) (p : Prop) (b : Bool), eqAt T d t x y = some (p, b) → p → SimV K x v → SimV K y u → (Op.equalIn (m + d.n) t v u).run P w = .ok b w) :
  ∀ (fs : List Field) (p : Prop) (b : Bool), (∀ f ∈ fs, f.name ≠ "_") → eqL T (eqAt T d) (fs.map fun f => (f.offset, f.type)) xs ys = some (p, b) → p → (Op.eqFields (m + d.n) vs us fs).run P w = .ok b w
 | [], p, b, _, h, hp => by simp only [List.map_nil, eqL] at h; cases h; simp [Op.eqFields]
 | f :: fs, p, b, hn, h, hp => by
  simp only [List.map_cons, eqL] at h
  split at h <;> try (cases h; done)
  rename_i p1 a p2 b2 h1 h2
  split at h <;> try (cases h; done)
  rename_i p3 u h3
  have hf := hn f (by simp)
  have key : ∀ (p4 : Prop) (v : Bool), (p1 ∧ p2 ∧ p3) → (Op.eqFields (m + d.n) vs us fs).run P w = .ok v w → (Op.eqFields (m + d.n) vs us (f :: fs)).run P w = .ok (u && v) w := by
   intro p4 v ⟨q1, q2, q3⟩ hr
   obtain ⟨va, e1, s1⟩ := apart_sound (w := w) hT h1 q1 hx
   obtain ⟨vb, e2, s2⟩ := apart_sound (w := w) hT h2 q2 hy
   have e3 := ih _ _ _ _ _ _ _ h3 q3 s1 s2
   simp only [Op.eqFields, hf, ne_eq, not_false_eq_true, if_true, Sem.run_bind, e1, e2, e3, Result.andThen_ok]
   cases u
   ·simp
   ·simpa using hr
  split at h
  ·rename_i hnil
   cases h
   have : fs = [] := by simpa using hnil
   subst this
   have := key True true hp (by simp [Op.eqFields])
   simpa using this
  ·split at h <;> try (cases h; done)
   rename_i p4 v h4
   cases h
   obtain ⟨q1, q2, q3, q4⟩ := hp
   exact key True v ⟨q1, q2, q3⟩ (eqL_fields hT hx hy ih fs _ _ (fun g hg => hn g (by simp [hg])) h4 q4)
theorem eqL_items {P : Program} {T : Tab} (hT : TOk P T) {K : Kn} {w : World} {d : Dep} {m : Nat} {e : TypeId} {c : Nat} {xs ys : List AV} {vs us : Array Value} (hx : SimL K xs vs.toList) (hy : SimL K ys us.toList)
  (ih : ∀ (t : TypeId) (x y : AV) (v u : Value) (p : Prop) (b : Bool), eqAt T d t x y = some (p, b) → p → SimV K x v → SimV K y u → (Op.equalIn (m + d.n) t v u).run P w = .ok b w) :
  ∀ (is : List Nat) (p : Prop) (b : Bool), eqL T (eqAt T d) (is.map fun i => (i * c, e)) xs ys = some (p, b) → p → (Op.eqItems (m + d.n) e c vs us is).run P w = .ok b w
 | [], p, b, h, hp => by simp only [List.map_nil, eqL] at h; cases h; simp [Op.eqItems]
 | i :: is, p, b, h, hp => by
  simp only [List.map_cons, eqL] at h
  split at h <;> try (cases h; done)
  rename_i p1 a p2 b2 h1 h2
  split at h <;> try (cases h; done)
  rename_i p3 u h3
  have key : ∀ (p4 : Prop) (v : Bool), (p1 ∧ p2 ∧ p3) → (Op.eqItems (m + d.n) e c vs us is).run P w = .ok v w → (Op.eqItems (m + d.n) e c vs us (i :: is)).run P w = .ok (u && v) w := by
   intro p4 v ⟨q1, q2, q3⟩ hr
   obtain ⟨va, e1, s1⟩ := apart_sound (w := w) hT h1 q1 hx
   obtain ⟨vb, e2, s2⟩ := apart_sound (w := w) hT h2 q2 hy
   have e3 := ih _ _ _ _ _ _ _ h3 q3 s1 s2
   simp only [Op.eqItems, Sem.run_bind, e1, e2, e3, Result.andThen_ok]
   cases u
   ·simp
   ·simpa using hr
  split at h
  ·rename_i hnil
   cases h
   have : is = [] := by simpa using hnil
   subst this
   have := key True true hp (by simp [Op.eqItems])
   simpa using this
  ·split at h <;> try (cases h; done)
   rename_i p4 v h4
   cases h
   obtain ⟨q1, q2, q3, q4⟩ := hp
   exact key True v ⟨q1, q2, q3⟩ (eqL_items hT hx hy ih is _ _ h4 q4)
theorem eqAt_sound {P : Program} {T : Tab} (hT : TOk P T) {K : Kn} {w : World} {m : Nat} : ∀ (d : Dep) (t : TypeId) (x y : AV) (v u : Value) (p : Prop) (b : Bool), eqAt T d t x y = some (p, b) → p → SimV K x v → SimV K y u →
  (Op.equalIn (m + d.n) t v u).run P w = .ok b w
 | .z, t, x, y, v, u, p, b, h, hp, hx, hy => by simp only [eqAt] at h; cases h
 | .s d, t, x, y, v, u, p, b, h, hp, hx, hy => by
  have hm : m + (Dep.s d).n = (m + d.n) + 1 := rfl
  rw [hm]
  have ih := eqAt_sound (m := m) hT (K := K) (w := w) d
  unfold eqAt at h
  split at h <;> try (cases h; done)
  ·rename_i k0 s1 s2 s3 k a k' b' hti
   split at h <;> try (cases h; done)
   rename_i hk
   cases h
   simp only [SimV] at hx hy
   subst hx hy hk
   obtain ⟨dd, h1, h2⟩ := hT.und hti
   simp only [TD.fits] at h2; subst h2
   simp only [Op.equalIn, Sem.run_bind, h1, Result.andThen_ok, Sem.run_pure, if_true]
  ·rename_i s1 s2 s3 a b' hti
   cases h
   simp only [SimV] at hx hy
   subst hx hy
   obtain ⟨dd, h1, h2⟩ := hT.und hti
   simp only [TD.fits] at h2; subst h2
   simp only [Op.equalIn, Sem.run_bind, h1, Result.andThen_ok, Sem.run_pure]
  ·rename_i s1 s2 s3 a b' hti
   cases h
   simp only [SimV] at hx hy
   subst hx hy
   obtain ⟨dd, h1, h2⟩ := hT.und hti
   simp only [TD.fits] at h2; subst h2
   simp only [Op.equalIn, Sem.run_bind, h1, Result.andThen_ok, Sem.run_pure, beq_toListBytes]
  ·rename_i fs s1 s2 s3 xs ys hti
   split at h <;> try (cases h; done)
   rename_i heq
   simp only [SimV] at hx hy
   obtain ⟨vs, rfl, hxs⟩ := hx
   obtain ⟨us, rfl, hys⟩ := hy
   obtain ⟨g1, g2, g3⟩ := hT.eq t heq
   obtain ⟨dd, h1, h2⟩ := (hT t _ hti).und
   simp only [TD.fits] at h2
   obtain ⟨fields, rfl, hfs⟩ := h2
   have hf : P.fieldsOf t = fields := by simp [Program.fieldsOf, h1]
   rw [run_equalIn_struct w _ t vs us (by rw [hf]; exact h1) g1]
   rw [hf] at g3 ⊢
   rw [← hfs] at h
   exact eqL_fields hT hxs hys ih fields.toList p b g3 h hp
  ·rename_i n e s1 s2 s3 xs ys hti
   split at h <;> try (cases h; done)
   rename_i ei hei
   split at h <;> try (cases h; done)
   rename_i heq
   simp only [SimV] at hx hy
   obtain ⟨vs, rfl, hxs⟩ := hx
   obtain ⟨us, rfl, hys⟩ := hy
   obtain ⟨dd, h1, h2⟩ := (hT t _ hti).und
   simp only [TD.fits] at h2
   subst h2
   obtain ⟨i, hi, hi2, _⟩ := (hT e _ hei).info
   rw [run_equalIn_array w _ vs us h1 hi]
   have hc : P.cellsOf e = ei.size := by simp [Program.cellsOf, hi, hi2]
   rw [hc]
   exact eqL_items hT hxs hys ih _ p b h hp
theorem aeq_sound {P : Program} {T : Tab} (hT : TOk P T) {K : Kn} {w : World} {t : TypeId} {x y : AV} {v u : Value} {p : Prop} {b : Bool}
  (h : aeq T t x y = some (p, b)) (hp : p) (hx : SimV K x v) (hy : SimV K y u) :
  (∀ o1 o2 op, (eqGuard op t o1 o2 v u).run P w = .ok () w) ∧ (binOp .eql t v u).run P w = .ok (.bool b) w ∧ (binOp .neq t v u).run P w = .ok (.bool !b) w := by
 unfold aeq at h
 split at h
 ·split at h <;> try (cases h; done)
  rename_i k a k' b' hk
  cases h
  simp only [SimV] at hx hy
  subst hx hy hk
  refine ⟨eqGuard_ok trivial, ?_, ?_⟩ <;> simp only [binOp, ne_eq, not_true_eq_false, if_false] <;> rfl
 ·cases h
  simp only [SimV] at hx hy
  subst hx hy
  exact ⟨eqGuard_ok trivial, rfl, rfl⟩
 ·split at h <;> try (cases h; done)
  rename_i a b' i s1 s2 s3 hti
  cases h
  simp only [SimV] at hx hy
  subst hx hy
  obtain ⟨d, h1, h2⟩ := hT.und hti
  simp only [TD.fits] at h2; subst h2
  exact eq3 (eqGuard_ok trivial) rfl rfl (run_equal_of fun d' => by simp only [Op.equalIn, Sem.run_bind, h1, Result.andThen_ok, Sem.run_pure])
 ·-- pointers
  split at h <;> try (cases h; done)
  rename_i e s1 s2 s3 hti
  obtain ⟨d, h1, h2⟩ := hT.und hti
  simp only [TD.fits] at h2; subst h2
  simp only [SimV] at hy; subst hy
  obtain ⟨a, rfl, rfl⟩ := nilness_ptr h hp hx
  refine eq3 (eqGuard_ok trivial) rfl rfl ?_
  refine run_equal_of fun d' => ?_
  cases a <;> simp only [Op.equalIn, Sem.run_bind, h1, Result.andThen_ok, Sem.run_pure] <;> rfl
 ·split at h <;> try (cases h; done)
  rename_i e s1 s2 s3 hti
  obtain ⟨d, h1, h2⟩ := hT.und hti
  simp only [TD.fits] at h2; subst h2
  simp only [SimV] at hx; subst hx
  obtain ⟨a, rfl, rfl⟩ := nilness_ptr h hp hy
  refine eq3 (eqGuard_ok trivial) rfl rfl ?_
  refine run_equal_of fun d' => ?_
  cases a <;> simp only [Op.equalIn, Sem.run_bind, h1, Result.andThen_ok, Sem.run_pure] <;> rfl
 ·split at h <;> try (cases h; done)
  rename_i e s1 s2 s3 hti
  obtain ⟨d, h1, h2⟩ := hT.und hti
  simp only [TD.fits] at h2; subst h2
  simp only [SimV] at hy; subst hy
  obtain ⟨a, n, c, rfl, rfl⟩ := nilness_slice h hp hx
  refine eq3 (eqGuard_ok trivial) rfl rfl ?_
  refine run_equal_of fun d' => ?_
  cases a <;> simp only [Op.equalIn, Sem.run_bind, h1, Result.andThen_ok, Sem.run_pure] <;> rfl
 ·rename_i xs ys
  split at h <;> try (cases h; done)
  rename_i heq
  have hx' := hx; have hy' := hy
  simp only [SimV] at hx' hy'
  obtain ⟨vs, rfl, hxs⟩ := hx'
  obtain ⟨us, rfl, hys⟩ := hy'
  refine eq3 (fun o1 o2 op => run_eqGuard_agg w op t o1 o2 vs us (hT.eq t heq).2.1) rfl rfl ?_
  exact eqAt_sound (m := 9996) hT _ _ _ _ _ _ _ _ h hp hx hy
 ·cases h
end Go.Al
