import Derived.Test.YtolfnhebnennpaaAlA
import Derived.Laws.Cells
import Derived.Laws.IdiomCopy
set_option linter.unusedSimpArgs false
set_option linter.unusedVariables false
namespace Go.Al
open Go.RowKit
inductive TD where
 | int (k : IntKind) | bool | string
 | pointer (e : TypeId) | slice (e : TypeId)
 | struct (fs : List (Nat × TypeId))
 | array (n : Nat) (e : TypeId)
 | map (k e : TypeId)
 | func | iface | other
 deriving DecidableEq
structure TI where
 d : TD
 size : Nat
 bytes : Nat
 zero : List Value
def TD.fits : TD → TypeDesc → Prop
 | .int k, d => d = .int k
 | .bool, d => d = .bool
 | .string, d => d = .string
 | .pointer e, d => d = .pointer e
 | .slice e, d => d = .slice e
 | .struct fs, d => ∃ fields, d = .struct fields ∧ fields.toList.map (fun f => (f.offset, f.type)) = fs
 | .array n e, d => d = .array n e
 | .map k e, d => d = .map k e
 | .func, d => ∃ p r v, d = .func p r v
 | .iface, d => ∃ ms, d = .interface ms
 | .other, _ => False
def TD.isAgg : TD → Bool
 | .struct _ | .array _ _ => true
 | _ => false
structure Tab where
 get : TypeId → Option TI
 eq : TypeId → Bool
instance : CoeFun Tab fun _ => TypeId → Option TI := ⟨Tab.get⟩
structure TIOk (P : Program) (t : TypeId) (i : TI) : Prop where
 und : ∃ d, P.underlying t = some d ∧ i.d.fits d
 info : ∃ x, P.info? t = some x ∧ x.size = i.size ∧ x.bytes = i.bytes ∧ ∃ z, x.zero = some z ∧ z.cells.toList = i.zero ∧ (i.d.isAgg = true → ∃ vs, z = .agg vs) ∧ (i.d.isAgg = false → z.oneCell' = true)
 len : i.zero.length = i.size
structure TOk (P : Program) (T : Tab) : Prop where
 get : ∀ t i, T t = some i → TIOk P t i
 eq : ∀ t, T.eq t = true → P.stoodInHeld t = false ∧ P.eqGuardType P.depth t = false ∧ ∀ f ∈ (P.fieldsOf t).toList, f.name ≠ "_"
instance {P : Program} {T : Tab} : CoeFun (TOk P T) fun _ => ∀ t i, T t = some i → TIOk P t i := ⟨TOk.get⟩
section
variable {P : Program} {T : Tab}
theorem TOk.size (h : TOk P T) {t : TypeId} {i : TI} (ht : T t = some i) (w : World) : (sizeOf t).run P w = .ok i.size w := by
 obtain ⟨x, h1, h2, _⟩ := (h t i ht).info
 simp [sizeOf, typeInfo, h1, h2]
theorem TOk.zero (h : TOk P T) {t : TypeId} {i : TI} (ht : T t = some i) (w : World) : ∃ z, (zeroValue t).run P w = .ok z w ∧ z.cells.toList = i.zero ∧ (i.d.isAgg = true → ∃ vs, z = .agg vs) ∧ (i.d.isAgg = false → z.oneCell' = true) := by
 obtain ⟨x, h1, h2, h3, z, h4, h5⟩ := (h t i ht).info
 exact ⟨z, by simp [zeroValue, typeInfo, h1, h4], h5⟩
theorem TOk.und (h : TOk P T) {t : TypeId} {i : TI} (ht : T t = some i) : ∃ d, (∀ w, (underlying t).run P w = .ok d w) ∧ i.d.fits d := by
 obtain ⟨d, h1, h2⟩ := (h t i ht).und
 exact ⟨d, fun w => run_underlying h1 w, h2⟩
theorem TOk.isAgg (h : TOk P T) {t : TypeId} {i : TI} (ht : T t = some i) (w : World) : (isAgg t).run P w = .ok i.d.isAgg w := by
 obtain ⟨d, h1, h2⟩ := h.und ht
 simp only [Go.isAgg, Sem.run_bind, h1, Result.andThen_ok]
 cases hd : i.d <;> rw [hd] at h2 <;> simp only [TD.fits] at h2
 case struct fs => obtain ⟨f, rfl, _⟩ := h2; rfl
 case func => obtain ⟨p, r, v, rfl⟩ := h2; rfl
 case iface => obtain ⟨p, rfl⟩ := h2; rfl
 all_goals first | (subst h2; rfl)
end
abbrev Slots := List (Nat × AV)
def sget : Slots → Nat → AV
 | [], _ => .any
 | (j, v) :: r, i => if i = j then v else sget r i
def sset : Slots → Nat → AV → Slots
 | [], i, v => [(i, v)]
 | (j, u) :: r, i, v => if i = j then (j, v) :: r else (j, u) :: sset r i v
theorem sget_sset (i : Nat) (v : AV) (j : Nat) : ∀ sl : Slots, sget (sset sl i v) j = if j = i then v else sget sl j
 | [] => by simp [sset, sget]
 | (k, u) :: r => by
  simp only [sset]
  split
  ·rename_i h; subst h; simp only [sget]; split <;> rfl
  ·rename_i h
   simp only [sget, sget_sset i v j r]
   split
   ·rename_i hj; subst hj; rw [if_neg (fun h' => h h'.symm)]
   ·rfl
def SimT (K : Kn) (sl : Slots) (ts : Array Value) : Prop := ∀ i, SimV K (sget sl i) (ts.getD i undef)
theorem SimT.mono {D : Nat} {K K' : Kn} (h : Kle D K K') {sl : Slots} {ts : Array Value} (s : SimT K sl ts) : SimT K' sl ts := fun i => (s i).mono h
def ev (sl : Slots) : Operand → AV
 | .tmp t => sget sl t
 | .const v => .lit v
 | .global _ => .any
 | .func f => .fn (.func f) [] []
theorem SimT.ev {K : Kn} {sl : Slots} {a : Act} (s : SimT K sl a.tmps) (x : Operand) : SimV K (ev sl x) (a.eval x) := by
 cases x with
 | tmp t => exact s t
 | const v => simp [Al.ev, SimV, Act.eval]
 | global g => trivial
 | func f => simp only [Al.ev, SimV, Act.eval]; exact ⟨_, _, rfl, by simp [SimL], by simp [SimL]⟩
theorem SimT.put {K : Kn} {sl : Slots} {a : Act} (s : SimT K sl a.tmps) {d : Nat} (hd : d < a.tmps.size) {x : AV} {v : Value} (h : SimV K x v) : SimT K (sset sl d x) (a.put (some d) v).tmps := by
 intro i
 rw [sget_sset]
 simp only [Act.put]
 by_cases e : i = d
 ·subst e
  rw [if_pos rfl]
  simpa [Array.getD, Array.size_setIfInBounds, hd] using h
 ·rw [if_neg e]
  have := s i
  have e2 : (a.tmps.setIfInBounds d v).getD i undef = a.tmps.getD i undef := by
   simp [Array.getElem?_setIfInBounds_ne (Ne.symm e)]
  rw [e2]; exact this
def readC (T : Tab) (t : TypeId) (cs : List AV) : Option (Prop × AV) :=
 match T t with
 | none => none
 | some i => if i.d.isAgg then some (i.size ≤ cs.length, .agg (cs.take i.size)) else some (0 < cs.length, cs.headD .any)
theorem plainAdd (b o n : Nat) : (⟨b, o, none⟩ : Addr).add n = ⟨b, o + n, none⟩ := by
 unfold Addr.add; split <;> simp_all
def Lies (K : Kn) (w : World) (b o : Nat) (cs : List AV) : Prop := ∀ i c, cs[i]? = some c → ∃ u, w.cell? ⟨b, o + i, none⟩ = some u ∧ SimV K c u
theorem Lies.drop {K : Kn} {w : World} {b o : Nat} {cs : List AV} (h : Lies K w b o cs) (k : Nat) : Lies K w b (o + k) (cs.drop k) := by
 intro i c hc
 obtain ⟨u, h1, h2⟩ := h (k + i) c (by simpa using hc)
 exact ⟨u, by rwa [show o + k + i = o + (k + i) from by omega], h2⟩
theorem Lies.take {K : Kn} {w : World} {b o : Nat} {cs : List AV} (h : Lies K w b o cs) (k : Nat) : Lies K w b o (cs.take k) := by
 intro i c hc
 have : i < k := by
  by_cases hk : i < k
  ·exact hk
  ·simp [List.getElem?_take, hk] at hc
 exact h i c (by simpa [List.getElem?_take, this] using hc)
theorem Lies.values {K : Kn} {w : World} : ∀ {cs : List AV} {b o : Nat}, Lies K w b o cs → ∃ vs : List Value, SimL K cs vs ∧ ∀ j v, vs[j]? = some v → w.cell? ⟨b, o + j, none⟩ = some v
 | [], _, _, _ => ⟨[], by simp [SimL], by simp⟩
 | c :: cs, b, o, h => by
  obtain ⟨u, h1, h2⟩ := h 0 c rfl
  obtain ⟨vs, h3, h4⟩ := Lies.values (h.drop 1)
  refine ⟨u :: vs, by simpa [SimL] using ⟨h2, h3⟩, ?_⟩
  intro j v hv
  cases j with
  | zero => simp at hv; subst hv; simpa using h1
  | succ j => have := h4 j v (by simpa using hv); rwa [show o + 1 + j = o + (j + 1) from by omega] at this
theorem readC_sound {P : Program} {T : Tab} (hT : TOk P T) {K : Kn} {w : World} {b o : Nat} {cs : List AV} (hl : Lies K w b o cs) {t : TypeId} {p : Prop} {x : AV}
  (hr : readC T t cs = some (p, x)) (hp : p) : ∃ v, (loadVar t ⟨b, o, none⟩).run P w = .ok v w ∧ SimV K x v := by
 unfold readC at hr
 cases hi : T t with
 | none => simp [hi] at hr
 | some i =>
  simp only [hi] at hr
  by_cases ha : i.d.isAgg = true
  ·simp only [ha, if_true, Option.some.injEq, Prod.mk.injEq] at hr
   obtain ⟨rfl, rfl⟩ := hr
   obtain ⟨vs, h1, h2⟩ := (hl.take i.size).values
   have hlen : vs.length = i.size := by rw [← SimL_length h1]; simp; omega
   refine ⟨.agg vs.toArray, ?_, by simp only [SimV]; exact ⟨_, rfl, by simpa using h1⟩⟩
   have := run_loadCells_list (P := P) w ⟨b, o, none⟩ vs (fun j v hv => by rw [plainAdd]; exact h2 j v hv)
   rw [hlen] at this
   simp [loadVar, hT.isAgg hi, ha, hT.size hi, this]
  ·simp only [ha, Bool.false_eq_true, if_false, Option.some.injEq, Prod.mk.injEq] at hr
   obtain ⟨rfl, rfl⟩ := hr
   cases cs with
   | nil => simp at hp
   | cons c cs =>
    obtain ⟨u, h1, h2⟩ := hl 0 c rfl
    refine ⟨u, ?_, by simpa using h2⟩
    have ha' : i.d.isAgg = false := by simpa using ha
    have h1' : w.cell? ⟨b, o, none⟩ = some u := by simpa using h1
    simp only [loadVar, Sem.run_bind, hT.isAgg hi, ha', Result.andThen_ok, Bool.false_eq_true, if_false, run_load, h1']
def Own.alive (S : AHeap) : Own → Prop
 | .perm => True
 | .buf n _ => ∃ len, S n = some (.buf len)
 | .tip _ _ => True
 | .cut n _ _ => ∃ len, S n = some (.buf len)
 | .young => True
theorem SimC.lies {K : Kn} {S : AHeap} {w : World} (hs : Sat K S w) {own : Own} (ha : own.alive S) {b o : Nat} {cs : List AV} (h : SimC K own.tag b o cs) : Lies K w b o cs := by
 intro i c hc
 obtain ⟨u, h1, h2⟩ := SimC_get h i c hc
 refine ⟨u, ?_, h2⟩
 cases own with
 | perm => exact hs.perm _ _ _ h1
 | tip n e => exact hs.perm _ _ _ h1
 | young => exact hs.perm _ _ _ h1
 | buf n e =>
  obtain ⟨_, _, _, h3, _⟩ := hs.objs
  exact (h3 _ _ _ _ h1 ha).2.1
 | cut n e k =>
  obtain ⟨_, _, _, h3, _⟩ := hs.objs
  exact (h3 _ _ _ _ h1 ha).2.1
theorem Sat.box {K : Kn} {S : AHeap} {w : World} (hs : Sat K S w) {n : Name} {cs : List AV} (hn : S n = some (.box cs)) {b f : Nat} (hb : K.base n = some (b, f)) (o : Nat) : Lies K w b (f + o) (cs.drop o) := by
 obtain ⟨_, _, _, _, h4, _⟩ := hs.objs
 have h5 := h4 n _ hn b f hb
 refine Lies.drop (o := f) (k := o) ?_
 intro i c hc
 obtain ⟨_, u, h6, _, h7, _⟩ := h5 i c hc
 exact ⟨u, h6, h7⟩
def aload (T : Tab) (S : AHeap) (t : TypeId) : AV → Option (Prop × AV)
 | .ptr n o => match S n with
  | some (.box cs) => readC T t (cs.drop o)
  | _ => none
 | .rptr own cs => (readC T t cs).map fun (p, x) => (p ∧ own.alive S, x)
 | _ => none
theorem aload_sound {P : Program} {T : Tab} (hT : TOk P T) {K : Kn} {S : AHeap} {w : World} (hs : Sat K S w) {t : TypeId} {x r : AV} {v : Value} {p : Prop}
  (h : aload T S t x = some (p, r)) (hp : p) (hx : SimV K x v) : ∃ u, (Instr.loadAt t v).run P w = .ok u w ∧ SimV K r u := by
 cases x <;> simp only [aload] at h <;> try (cases h; done)
 case ptr n o =>
  cases hn : S n with
  | none => simp [hn] at h
  | some obj =>
   cases obj <;> simp only [hn] at h <;> try (cases h; done)
   rename_i cs
   simp only [SimV] at hx
   obtain ⟨b, f, h1, rfl⟩ := hx
   obtain ⟨u, h2, h3⟩ := readC_sound hT (hs.box hn h1 o) h hp
   exact ⟨u, by simpa [Instr.loadAt, Instr.sureAddr] using h2, h3⟩
 case rptr own cs =>
  simp only [SimV] at hx
  obtain ⟨b, o, rfl, h2⟩ := hx
  cases hr : readC T t cs with
  | none => simp [hr] at h
  | some q =>
   obtain ⟨p', x'⟩ := q
   simp only [hr, Option.map_some, Option.some.injEq, Prod.mk.injEq] at h
   obtain ⟨rfl, rfl⟩ := h
   obtain ⟨u, h3, h4⟩ := readC_sound hT (SimC.lies hs hp.2 h2) hr hp.1
   exact ⟨u, by simpa [Instr.loadAt, Instr.sureAddr] using h3, h4⟩
def afieldAddr (T : Tab) (t : TypeId) (f : Nat) (x : AV) : Option AV :=
 match T t with
 | some ⟨.struct fs, _, _, _⟩ => match fs[f]? with
  | some (off, ft) => match T ft with
   | some i => if i.size = 0 then none else
    match x with
    | .ptr n o => some (.ptr n (o + off))
    | .rptr own cs => if off < cs.length then some (.rptr own (cs.drop off)) else none
    | _ => none
   | none => none
  | none => none
 | _ => none
theorem afieldAddr_sound {P : Program} {T : Tab} (hT : TOk P T) {K : Kn} {w : World} {t : TypeId} {f : Nat} {x r : AV} {v : Value}
  (h : afieldAddr T t f x = some r) (hx : SimV K x v) : ∃ u, (Instr.fieldAt t v f).run P w = .ok u w ∧ SimV K r u := by
 unfold afieldAddr at h
 split at h <;> try (cases h; done)
 rename_i fs sz by_ z hi
 split at h <;> try (cases h; done)
 rename_i off ft hf
 split at h <;> try (cases h; done)
 rename_i i hi2
 split at h <;> try (cases h; done)
 rename_i hz
 obtain ⟨d, h1, h2⟩ := hT.und hi
 simp only [TD.fits] at h2
 obtain ⟨fields, rfl, h3⟩ := h2
 have h4 : ∃ fl, fields[f]? = some fl ∧ fl.offset = off ∧ fl.type = ft := by
  rw [← h3] at hf
  simp only [List.getElem?_map, Option.map_eq_some_iff, Array.getElem?_toList] at hf
  obtain ⟨fl, h5, h6⟩ := hf
  simp only [Prod.mk.injEq] at h6
  exact ⟨fl, h5, h6⟩
 obtain ⟨fl, h5, rfl, rfl⟩ := h4
 have hplace : ∀ (b o : Nat) (w : World), (fieldPlace ⟨b, o, none⟩ fl).run P w = .ok ⟨b, o + fl.offset, none⟩ w := by
  intro b o w
  simp only [fieldPlace, Sem.run_bind, hT.size hi2, Result.andThen_ok, if_neg hz, Sem.run_pure, plainAdd]
 split at h <;> try (cases h; done)
 ·rename_i n o
  cases h
  simp only [SimV] at hx
  obtain ⟨b, g, h6, rfl⟩ := hx
  refine ⟨.pointer (some ⟨b, g + (o + fl.offset), none⟩), ?_, by simp only [SimV]; exact ⟨b, g, h6, rfl⟩⟩
  simp only [Instr.fieldAt, Sem.run_bind, h1, Result.andThen_ok, h5, Instr.sureAddr, Sem.run_pure, hplace]
  rw [Nat.add_assoc]
 ·rename_i own cs
  split at h <;> try (cases h; done)
  rename_i hlt
  cases h
  simp only [SimV] at hx
  obtain ⟨b, g, rfl, h6⟩ := hx
  refine ⟨.pointer (some ⟨b, g + fl.offset, none⟩), ?_, by simp only [SimV]; exact ⟨b, _, rfl, SimC_drop h6 _ (by omega)⟩⟩
  simp only [Instr.fieldAt, Sem.run_bind, h1, Result.andThen_ok, h5, Instr.sureAddr, Sem.run_pure, hplace]
end Go.Al
