import Derived.Test.YtolfnhebnennpaaAlF
set_option linter.unusedSimpArgs false
set_option linter.unusedVariables false
namespace Go.Al
open Go.RowKit
def apick (t : Bool) (a b : AV) : AV :=
 match a, b with
 | .lit (.bool x), .lit (.bool y) => .lit (.bool (if t then x else y))
 | .lit (.int k x), .lit (.int k' y) => if k = k' then .lit (.int k (if t then x else y)) else if t then .lit (.int k x) else .lit (.int k' y)
 | a, b => if t then a else b
theorem apick_sim {K : Kn} {t : Bool} {a b : AV} {v u : Value} (h : SimV K a v) (k : SimV K b u) : SimV K (apick t a b) (if t then v else u) := by
 unfold apick
 split
 ·simp only [SimV] at h k ⊢; subst h k; cases t <;> rfl
 ·split
  ·rename_i hk; subst hk; simp only [SimV] at h k ⊢; subst h k; cases t <;> rfl
  ·cases t <;> simpa
 ·cases t <;> simpa
def abin (T : Tab) (op : BinOp) (t : TypeId) (x y : AV) : Option (Prop × AV) :=
 match x, y with
 | .lit (.int k a), .lit (.int k' b) => aintOp op k a k' b
 | .lit (.string a), .lit (.string b) => astrOp op a b
 | x, y => match op with
  | .eql => (aeq T t x y).map fun q => (q.1, .lit (.bool q.2))
  | .neq => (aeq T t x y).map fun q => (q.1, .lit (.bool (!q.2)))
  | _ => none
theorem abin_sound {P : Program} {T : Tab} (hT : TOk P T) {K : Kn} {w : World} {op : BinOp} {t : TypeId} {x y r : AV} {v u : Value} {o1 o2 : Operand} {p : Prop}
  (h : abin T op t x y = some (p, r)) (hp : p) (hx : SimV K x v) (hy : SimV K y u) :
  ∃ z, (do eqGuard op t o1 o2 v u; binOp op t v u : Sem Value).run P w = .ok z w ∧ SimV K r z := by
 unfold abin at h
 split at h
 ·simp only [SimV] at hx hy; subst hx hy
  obtain ⟨z, h1, rfl⟩ := aintOp_sound (P := P) (w := w) (t := t) h hp
  exact ⟨z, by simp only [Sem.run_bind, eqGuard_ok (v := .int _ _) (u := .int _ _) trivial, Result.andThen_ok, h1], rfl⟩
 ·simp only [SimV] at hx hy; subst hx hy
  obtain ⟨z, h1, rfl⟩ := astrOp_sound (P := P) (w := w) (t := t) h hp
  exact ⟨z, by simp only [Sem.run_bind, eqGuard_ok (v := .string _) (u := .string _) trivial, Result.andThen_ok, h1], rfl⟩
 ·split at h <;> (try (cases h; done)) <;> simp only [Option.map_eq_some_iff] at h <;> obtain ⟨⟨p', b⟩, h1, h2⟩ := h <;> cases h2
  ·obtain ⟨g1, g2, g3⟩ := aeq_sound (w := w) hT h1 hp hx hy
   exact ⟨_, by simp only [Sem.run_bind, g1, Result.andThen_ok, g2], rfl⟩
  ·obtain ⟨g1, g2, g3⟩ := aeq_sound (w := w) hT h1 hp hx hy
   exact ⟨_, by simp only [Sem.run_bind, g1, Result.andThen_ok, g3], rfl⟩
def aop (T : Tab) (S : AHeap) (ρ : Operand → AV) : Op → Option (Prop × AV)
 | .move x => some (True, ρ x)
 | .assign x => some (True, ρ x)
 | .pick c a b => match ρ c with
  | .lit (.bool t) => some (True, apick t (ρ a) (ρ b))
  | _ => none
 | .load t a => aload T S t (ρ a)
 | .nilCheck x => match ρ x with
  | .ptr n o => some (True, .ptr n o)
  | .rptr own cs => some (True, .rptr own cs)
  | .fn (.func f) a b => some (True, .fn (.func f) a b)
  | _ => none
 | .binOp op t x y _ => abin T op t (ρ x) (ρ y)
 | .unOp op _ x => aunOp op (ρ x)
 | .convert s d x => aconvert T s d (ρ x)
 | .makeInterface t x => match T t with
  | some ⟨.iface, _, _, _⟩ => none
  | some _ => some (True, .ifc t (ρ x))
  | none => none
 | .makeFunc f a b => some (True, .fn f (a.toList.map ρ) (b.toList.map ρ))
 | .fieldAddr t x f => (afieldAddr T t f (ρ x)).map fun r => (True, r)
 | .field t x f => afield T t f (ρ x)
 | .indexAddr t x i => aindexAddr T t (ρ x) (ρ i)
 | .index t x i => aindex T t (ρ x) (ρ i)
 | .slice t x lo hi none => aslice T t (ρ x) (lo.map ρ) (hi.map ρ)
 | .slice t x lo hi (some m) => aslice3 T t (ρ x) (lo.map ρ) (hi.map ρ) (some (ρ m))
 | .extract x i => match ρ x with
  | .tup vs => match vs[i]? with
   | some v => some (True, v)
   | none => none
  | _ => none
 | .build t parts => (abuild T t (parts.toList.map fun q => (q.1, ρ q.2))).map fun r => (True, r)
 | .typeAssert x _ t false => match T t, ρ x with
  | some ⟨.iface, _, _, _⟩, _ => none
  | some _, .ifc t' v => if t' = t then some (True, v) else none
  | _, _ => none
 | .call ⟨.builtin b, args, ts⟩ => abuiltin T b ts.toList (args.toList.map ρ)
 | _ => none
theorem SimL_map {K : Kn} {ρ : Operand → AV} {σ : Operand → Value} (h : ∀ x, SimV K (ρ x) (σ x)) : ∀ (xs : List Operand), SimL K (xs.map ρ) (xs.map σ)
 | [] => by simp [SimL]
 | x :: xs => by simp only [List.map_cons, SimL]; exact ⟨h x, SimL_map h xs⟩
theorem SimP_map {K : Kn} {ρ : Operand → AV} {σ : Operand → Value} (h : ∀ x, SimV K (ρ x) (σ x)) : ∀ (xs : List (Nat × Operand)), SimP K (xs.map fun q => (q.1, ρ q.2)) (xs.map fun q => (q.1, σ q.2))
 | [] => by simp [SimP]
 | x :: xs => by simp only [List.map_cons, SimP, true_and]; exact ⟨h x.2, SimP_map h xs⟩
theorem SimO_map {K : Kn} {ρ : Operand → AV} {σ : Operand → Value} (h : ∀ x, SimV K (ρ x) (σ x)) (x : Option Operand) : SimO K (x.map ρ) (x.map σ) := by
 cases x with
 | none => exact .inl ⟨rfl, rfl⟩
 | some x => exact .inr ⟨_, _, rfl, rfl, h x⟩
theorem aop_sound {P : Program} {T : Tab} (hT : TOk P T) {K : Kn} {S : AHeap} {w : World} (hs : Sat K S w) {ρ : Operand → AV} {σ : Operand → Value} (hρ : ∀ x, SimV K (ρ x) (σ x)) {o : Oper} {r : AV} {p : Prop}
  (h : aop T S ρ o.op = some (p, r)) (hp : p) : ∃ u, (execOp σ o).run P w = .ok (.value u) w ∧ SimV K r u := by
 obtain ⟨dst, op, type, pos, after, guard⟩ := o
 have lift : ∀ {s : Sem Value}, (∃ u, s.run P w = .ok u w ∧ SimV K r u) → ∃ u, (do pure (.value (← s)) : Sem Next).run P w = .ok (.value u) w ∧ SimV K r u := by
  rintro s ⟨u, h1, h2⟩
  exact ⟨u, by simp only [Sem.run_bind, h1, Result.andThen_ok, Sem.run_pure], h2⟩
 cases op <;> simp only [aop] at h <;> try (cases h; done)
 case move x => cases h; exact ⟨_, rfl, hρ x⟩
 case assign x => cases h; exact ⟨_, rfl, hρ x⟩
 case pick c a b =>
  split at h <;> try (cases h; done)
  rename_i t hc
  cases h
  have h1 := hρ c
  rw [hc] at h1; simp only [SimV] at h1
  refine ⟨if t then σ a else σ b, ?_, apick_sim (hρ a) (hρ b)⟩
  simp only [execOp, h1, asBool, Sem.run_bind, Sem.run_pure, Result.andThen_ok]
 case load t a => exact lift (aload_sound hT hs h hp (hρ a))
 case nilCheck x =>
  have h1 := hρ x
  split at h <;> (try (cases h; done)) <;> rename_i hx <;> rw [hx] at h1 <;> cases h
  ·have h2 := h1
   simp only [SimV] at h1; obtain ⟨b, f, hb, he⟩ := h1
   exact ⟨σ x, by simp only [execOp, he, Sem.run_pure], h2⟩
  ·have h2 := h1
   simp only [SimV] at h1; obtain ⟨b, f, he, hb⟩ := h1
   exact ⟨σ x, by simp only [execOp, he, Sem.run_pure], h2⟩
  ·have h2 := h1
   simp only [SimV] at h1; obtain ⟨b, f, he, hb⟩ := h1
   exact ⟨σ x, by simp only [execOp, he, Sem.run_pure], h2⟩
 case binOp op t x y yt => exact lift (abin_sound hT h hp (hρ x) (hρ y))
 case unOp op t x => exact lift (aunOp_sound h (hρ x))
 case convert s d x => exact lift (aconvert_sound hT h (hρ x))
 case makeInterface t x =>
  split at h <;> try (cases h; done)
  rename_i i hne hi
  cases h
  obtain ⟨d, h1, h2⟩ := hT.und hi
  refine lift ⟨.iface t (σ x), ?_, by simp only [SimV]; exact ⟨_, rfl, hρ x⟩⟩
  simp only [Instr.makeInterface, Sem.run_bind, h1, Result.andThen_ok]
  split
  ·rename_i ms
   obtain ⟨id, s1, s2, s3⟩ := i
   cases id <;> simp only [TD.fits] at h2 <;> (try (cases h2; done))
   all_goals first
    | (obtain ⟨_, h2, _⟩ := h2; cases h2; done)
    | (obtain ⟨_, _, _, h2⟩ := h2; cases h2; done)
    | exact (hne _ _ _ rfl).elim
  ·rfl
 case makeFunc f a b =>
  cases h
  refine lift ⟨.func f (a.map σ) (b.map σ), rfl, ?_⟩
  simp only [SimV]
  exact ⟨_, _, rfl, by simpa using SimL_map hρ a.toList, by simpa using SimL_map hρ b.toList⟩
 case fieldAddr t x f =>
  simp only [Option.map_eq_some_iff] at h
  obtain ⟨r', h1, h2⟩ := h
  cases h2
  exact lift (afieldAddr_sound hT h1 (hρ x))
 case field t x f => exact lift (afield_sound hT h hp (hρ x))
 case indexAddr t x i => exact lift (aindexAddr_sound hT h hp (hρ x) (hρ i))
 case index t x i => exact lift (aindex_sound hT h hp (hρ x) (hρ i))
 case slice t x lo hi mx =>
  cases mx with
  | some m =>
   simp only [aop] at h
   exact lift (aslice3_sound hT h hp (hρ x) (SimO_map hρ lo) (SimO_map hρ hi) (SimO_map hρ (some m)))
  | none =>
   simp only [aop] at h
   exact lift (aslice_sound hT h hp (hρ x) (SimO_map hρ lo) (SimO_map hρ hi))
 case extract x i =>
  have h1 := hρ x
  split at h <;> try (cases h; done)
  rename_i vs hx
  split at h <;> try (cases h; done)
  rename_i v hv
  cases h
  rw [hx] at h1; simp only [SimV] at h1
  obtain ⟨us, he, h2⟩ := h1
  obtain ⟨u, h3, h4⟩ := SimL_get h2 i _ hv
  refine lift ⟨u, ?_, h4⟩
  simp only [Array.getElem?_toList] at h3
  simp only [Instr.extract, he, h3, Sem.run_pure]
 case build t parts =>
  simp only [Option.map_eq_some_iff] at h
  obtain ⟨r', h1, h2⟩ := h
  cases h2
  exact lift (abuild_sound hT h1 (by simpa using SimP_map hρ parts.toList))
 case typeAssert x xt t ok =>
  cases ok with
  | true => simp only [aop] at h; cases h
  | false =>
   simp only [aop] at h
   have h1 := hρ x
   split at h <;> try (cases h; done)
   rename_i i t' v hne hi hx
   split at h <;> try (cases h; done)
   rename_i he
   cases h
   rw [hx] at h1; simp only [SimV] at h1
   obtain ⟨u, hv, h2⟩ := h1
   obtain ⟨d, h3, h4⟩ := hT.und hi
   refine lift ⟨u, ?_, h2⟩
   simp only [Instr.typeAssert, hv, he]
   obtain ⟨id, s1, s2, s3⟩ := i
   have hnot : ∀ ms, d ≠ .interface ms := by
    rintro ms rfl
    cases id <;> simp only [TD.fits] at h4 <;> (try (cases h4; done))
    all_goals first
     | (obtain ⟨_, h4, _⟩ := h4; cases h4; done)
     | (obtain ⟨_, _, _, h4⟩ := h4; cases h4; done)
     | exact (hne _ _ _ rfl).elim
   simp only [Sem.run_bind, h3, Result.andThen_ok]
   cases d <;> first
    | exact absurd rfl (hnot _)
    | (simp; done)
 case call c =>
  obtain ⟨callee, args, ts⟩ := c
  cases callee <;> simp only [aop] at h <;> try (cases h; done)
  rename_i b
  obtain ⟨u, h1, h2⟩ := abuiltin_sound (w := w) (t := type) (cs := args.map fun | .const _ => true | _ => false) (vs := args.map σ) hT h (by simpa using SimL_map hρ args.toList)
  refine ⟨u, ?_, h2⟩
  simp only [execOp, resolve, Sem.run_bind, Sem.run_pure, Result.andThen_ok, invoke]
  exact h1
end Go.Al
