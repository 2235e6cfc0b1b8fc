import Derived.Test.YtolfnhebnennpaaAlE
import Derived.Laws.BytesArg
set_option linter.unusedSimpArgs false
set_option linter.unusedVariables false
namespace Go.Al
open Go.RowKit
def AV.one : AV → Bool
 | .lit v => v.oneCell'
 | .agg _ | .tup _ | .any | .own _ _ => false
 | _ => true
theorem AV.owns_one {a : AV} (h : a.one = true) : a.owns = false := by
 cases a <;> first | rfl | cases h
theorem AV.one_sim {K : Kn} {a : AV} {v : Value} (h : SimV K a v) (ha : a.one = true) : v.oneCell' = true := by
 cases a <;> simp only [AV.one] at ha <;> (try (cases ha; done)) <;> simp only [SimV] at h
 case lit u => subst h; exact ha
 case empt => obtain ⟨a, rfl⟩ := h; rfl
 case ptr n o => obtain ⟨b, f, _, rfl⟩ := h; rfl
 case rptr own cs => obtain ⟨b, f, rfl, _⟩ := h; rfl
 case slice own sz cs => obtain ⟨a, l, c, rfl, _⟩ := h; rfl
 case sref n sz o len cap => obtain ⟨b, f, c', _, rfl, _⟩ := h; rfl
 case fn f a b => obtain ⟨_, _, rfl, _⟩ := h; rfl
 case ifc t x => obtain ⟨_, rfl, _⟩ := h; rfl
 case map n => obtain ⟨b, f, _, rfl⟩ := h; rfl
 case iter n => obtain ⟨b, f, _, rfl⟩ := h; rfl
def AV.laid : AV → Bool
 | .agg cs => cs.all AV.one
 | x => x.one
theorem AV.laid_cells {K : Kn} {a : AV} {v : Value} (h : SimV K a v) (ha : a.laid = true) : SimL K a.cells v.cells.toList ∧ (∀ c ∈ a.cells, c.one = true) := by
 cases a
 case agg cs =>
  simp only [SimV] at h
  obtain ⟨vs, rfl, h⟩ := h
  simp only [AV.laid, List.all_eq_true] at ha
  exact ⟨h, ha⟩
 case any => simp [AV.laid, AV.one] at ha
 case tup vs => simp [AV.laid, AV.one] at ha
 case own sz cs => simp [AV.laid, AV.one] at ha
 all_goals
  simp only [AV.laid] at ha
  refine ⟨?_, by simpa [AV.cells] using ha⟩
  have h1 := AV.one_sim h ha
  have : v.cells = #[v] := by cases v <;> first | rfl | (simp [Value.oneCell'] at h1; done)
  rw [this]
  simp only [AV.cells, SimL, and_true]
  exact h
theorem SimL_set {K : Kn} : ∀ {as : List AV} {vs : List Value} (i : Nat) {c : AV} {u : Value}, SimL K as vs → SimV K c u → SimL K (as.set i c) (vs.set i u)
 | [], [], _, _, _, h, _ => by simp [SimL]
 | a :: as, v :: vs, 0, c, u, h, hc => by simp only [SimL, List.set_cons_zero] at h ⊢; exact ⟨hc, h.2⟩
 | a :: as, v :: vs, i + 1, c, u, h, hc => by simp only [SimL, List.set_cons_succ] at h ⊢; exact ⟨h.1, SimL_set i h.2 hc⟩
 | [], _ :: _, _, _, _, h, _ => by simp [SimL] at h
 | _ :: _, [], _, _, _, h, _ => by simp [SimL] at h
def splice (off : Nat) : List AV → List AV → List AV
 | [], cells => cells
 | c :: cs, cells => splice (off + 1) cs (cells.set off c)
theorem splice_length : ∀ (cs cells : List AV) (off : Nat), (splice off cs cells).length = cells.length
 | [], _, _ => rfl
 | c :: cs, cells, off => by simp [splice, splice_length cs]
theorem splice_sim {K : Kn} : ∀ {cs : List AV} {vs : List Value} {off k : Nat} {cells : List AV} {arr : Array Value}, SimL K cs vs → SimL K cells arr.toList →
  SimL K (splice (off + k) cs cells) ((vs.zipIdx k).foldl (fun (cs : Array Value) (p : Value × Nat) => cs.setIfInBounds (off + p.2) p.1) arr).toList
 | [], [], _, _, _, _, _, h => by simpa [splice] using h
 | c :: cs, v :: vs, off, k, cells, arr, h, h2 => by
  simp only [SimL] at h
  simp only [splice, List.zipIdx_cons, List.foldl_cons]
  have := splice_sim (cells := cells.set (off + k) c) (arr := arr.setIfInBounds (off + k) v) (off := off) (k := k + 1) h.2 (by simpa using SimL_set (off + k) h2 h.1)
  rwa [show off + k + 1 = off + (k + 1) from by omega]
 | [], _ :: _, _, _, _, _, h, _ => by simp [SimL] at h
 | _ :: _, [], _, _, _, _, h, _ => by simp [SimL] at h
def SimP (K : Kn) : List (Nat × AV) → List (Nat × Value) → Prop
 | [], [] => True
 | (i, a) :: as, (j, v) :: vs => (i = j ∧ SimV K a v) ∧ SimP K as vs
 | _, _ => False
def afill (place : Nat → Option (Nat × Nat)) : List AV → List (Nat × AV) → Option (List AV)
 | cells, [] => some cells
 | cells, (i, x) :: rest =>
  match place i with
  | none => none
  | some (off, size) => if x.laid = true ∧ x.cells.length = size ∧ off + size ≤ cells.length then afill place (splice off x.cells cells) rest else none
theorem afill_sim {K : Kn} {place : Nat → Option (Nat × Nat)} : ∀ {xs : List (Nat × AV)} {vs : List (Nat × Value)} {cells out : List AV} {arr : Array Value},
  SimP K xs vs → SimL K cells arr.toList → afill place cells xs = some out → ∃ arr', Instr.fill place arr vs = some arr' ∧ SimL K out arr'.toList
 | [], [], cells, out, arr, _, h, hf => by simp only [afill, Option.some.injEq] at hf; subst hf; exact ⟨arr, by simp [Instr.fill], h⟩
 | (i, x) :: xs, (j, v) :: vs, cells, out, arr, hx, h, hf => by
  simp only [SimP] at hx
  obtain ⟨⟨e, hv⟩, ht⟩ := hx
  subst e
  simp only [afill] at hf
  cases hp : place i with
  | none => simp [hp] at hf
  | some q =>
   obtain ⟨off, size⟩ := q
   simp only [hp] at hf
   split at hf <;> try (cases hf; done)
   rename_i hc
   obtain ⟨h1, h2, h3⟩ := hc
   obtain ⟨h4, _⟩ := AV.laid_cells hv h1
   have hl1 := SimL_length h4
   have hl2 := SimL_length h
   have hs1 : v.cells.size = size := by rw [← h2, hl1]; simp
   have hs2 : cells.length = arr.size := by rw [hl2]; simp
   have := splice_sim (off := off) (k := 0) h4 h
   obtain ⟨arr', h5, h6⟩ := afill_sim ht (by simpa using this) hf
   refine ⟨arr', ?_, h6⟩
   simp only [Instr.fill, hp]
   rw [if_neg (by simp; omega)]
   rw [← h5]
   congr 1
   rw [← Array.foldl_toList]
   congr 1
   simp
 | [], _ :: _, _, _, _, h, _, _ => by simp [SimP] at h
 | _ :: _, [], _, _, _, h, _, _ => by simp [SimP] at h
theorem SimL_lit {K : Kn} : ∀ (vs : List Value), SimL K (vs.map .lit) vs
 | [] => by simp [SimL]
 | v :: vs => by simp only [List.map_cons, SimL, SimV, true_and]; exact SimL_lit vs
def places (T : Tab) : TD → Nat → Option (Nat × Nat)
 | .struct fs, i => match fs[i]? with
  | some (off, ft) => (T ft).map fun j => (off, j.size)
  | none => none
 | .array _ e, i => (T e).map fun j => (i * j.size, j.size)
 | _, _ => none
def abuild (T : Tab) (t : TypeId) (parts : List (Nat × AV)) : Option AV :=
 match T t with
 | some i => match i.d with
  | .struct fs => if fs.all (fun f => (T f.2).isSome) then (afill (places T i.d) (i.zero.map .lit) parts).map .agg else none
  | .array n e => if (T e).isSome then (afill (places T i.d) (i.zero.map .lit) parts).map .agg else none
  | _ => none
 | none => none
theorem mapM_places {P : Program} {T : Tab} (hT : TOk P T) {w : World} : ∀ (fields : List Field), (∀ f ∈ fields, (T f.type).isSome) →
  (fields.mapM (fun f => do pure (f.offset, ← sizeOf f.type) : Field → Sem (Nat × Nat))).run P w = .ok (fields.map fun f => (f.offset, ((T f.type).map (·.size)).getD 0)) w
 | [], _ => by simp
 | f :: fs, h => by
  obtain ⟨i, hi⟩ := Option.isSome_iff_exists.1 (h f (by simp))
  have := mapM_places hT (w := w) fs (fun g hg => h g (by simp [hg]))
  simp only [List.mapM_cons, Sem.run_bind, hT.size hi, this, hi, Result.andThen_ok, Sem.run_pure, List.map_cons, Option.map_some, Option.getD_some]
theorem abuild_sound {P : Program} {T : Tab} (hT : TOk P T) {K : Kn} {w : World} {t : TypeId} {xs : List (Nat × AV)} {vs : Array (Nat × Value)} {r : AV}
  (h : abuild T t xs = some r) (hx : SimP K xs vs.toList) : ∃ u, (Instr.build t vs).run P w = .ok u w ∧ SimV K r u := by
 unfold abuild at h
 split at h <;> try (cases h; done)
 rename_i i hi
 obtain ⟨z, hz1, hz2, _⟩ := hT.zero hi w
 obtain ⟨d, h1, h2⟩ := hT.und hi
 have hz : SimL K (i.zero.map .lit) z.cells.toList := by rw [hz2]; exact SimL_lit _
 split at h <;> try (cases h; done)
 ·rename_i fs hd
  rw [hd] at h2
  simp only [TD.fits] at h2
  obtain ⟨fields, rfl, h3⟩ := h2
  split at h <;> try (cases h; done)
  rename_i hall
  have hall' : ∀ f ∈ fields.toList, (T f.type).isSome := by
   intro f hf
   rw [← h3] at hall
   simp only [List.all_map, List.all_eq_true] at hall
   exact hall f hf
  simp only [Option.map_eq_some_iff] at h
  obtain ⟨out, ho, rfl⟩ := h
  obtain ⟨arr', h4, h5⟩ := afill_sim (arr := z.cells) hx hz ho
  refine ⟨.agg arr', ?_, by simp only [SimV]; exact ⟨_, rfl, h5⟩⟩
  have hm := mapM_places hT (w := w) fields.toList hall'
  have hpl : (fun i => (fields.toList.map fun f => (f.offset, ((T f.type).map (·.size)).getD 0)).toArray[i]?) = places T i.d := by
   funext j
   rw [hd]
   simp only [places, List.getElem?_toArray]
   rw [← h3]
   simp only [List.getElem?_map]
   cases hj : fields.toList[j]? with
   | none => simp
   | some f =>
    obtain ⟨q, hq⟩ := Option.isSome_iff_exists.1 (hall' f (List.mem_of_getElem? hj))
    simp [hq]
  have hm2 : (fields.mapM (fun f => do pure (f.offset, ← sizeOf f.type) : Field → Sem (Nat × Nat))).run P w = .ok (fields.toList.map fun f => (f.offset, ((T f.type).map (·.size)).getD 0)).toArray w := by
   rw [Array.mapM_eq_mapM_toList, Sem.run_map, hm]; rfl
  simp only [Instr.build, Sem.run_bind, hz1, h1, Result.andThen_ok, hm2]
  rw [hpl, h4]
  rfl
 ·rename_i n e hd
  rw [hd] at h2
  simp only [TD.fits] at h2
  subst h2
  split at h <;> try (cases h; done)
  rename_i hsome
  obtain ⟨j, hj⟩ := Option.isSome_iff_exists.1 hsome
  simp only [Option.map_eq_some_iff] at h
  obtain ⟨out, ho, rfl⟩ := h
  obtain ⟨arr', h4, h5⟩ := afill_sim (arr := z.cells) hx hz ho
  refine ⟨.agg arr', ?_, by simp only [SimV]; exact ⟨_, rfl, h5⟩⟩
  have hpl : (fun i => some (i * j.size, j.size)) = places T i.d := by
   funext q; rw [hd]; simp [places, hj]
  simp only [Instr.build, Sem.run_bind, hz1, h1, Result.andThen_ok, hT.size hj]
  rw [hpl, h4]
  rfl
def aconvert (T : Tab) (src dst : TypeId) (x : AV) : Option (Prop × AV) :=
 match T dst, x with
 | some ⟨.int k, _, _, _⟩, .lit (.int _ n) => if (T src).isSome then some (True, .lit (.int k (k.wrap n))) else none
 | some ⟨.string, _, _, _⟩, .lit (.string s) => if (T src).isSome then some (True, .lit (.string s)) else none
 | _, _ => none
theorem aconvert_sound {P : Program} {T : Tab} (hT : TOk P T) {K : Kn} {w : World} {src dst : TypeId} {x r : AV} {v : Value} {p : Prop}
  (h : aconvert T src dst x = some (p, r)) (hx : SimV K x v) : ∃ u, (convert src dst v).run P w = .ok u w ∧ SimV K r u := by
 unfold aconvert at h
 split at h <;> try (cases h; done)
 ·rename_i k s1 s2 s3 k' n hi
  split at h <;> try (cases h; done)
  rename_i hs
  cases h
  obtain ⟨j, hj⟩ := Option.isSome_iff_exists.1 hs
  obtain ⟨d, h1, h2⟩ := hT.und hi
  obtain ⟨d', h3, _⟩ := hT.und hj
  simp only [TD.fits] at h2; subst h2
  simp only [SimV] at hx; subst hx
  refine ⟨_, ?_, rfl⟩
  simp only [convert, Sem.run_bind, h1, h3, Result.andThen_ok]
  rfl
 ·rename_i s1 s2 s3 s hi
  split at h <;> try (cases h; done)
  rename_i hs
  cases h
  obtain ⟨j, hj⟩ := Option.isSome_iff_exists.1 hs
  obtain ⟨d, h1, h2⟩ := hT.und hi
  obtain ⟨d', h3, _⟩ := hT.und hj
  simp only [TD.fits] at h2; subst h2
  simp only [SimV] at hx; subst hx
  refine ⟨_, ?_, rfl⟩
  simp only [convert, Sem.run_bind, h1, h3, Result.andThen_ok]
  rfl
def AV.num : AV → Option Int
 | .lit (.int .u8 n) => some n
 | _ => none
def nums : List AV → Option (List Int)
 | [] => some []
 | c :: cs => match c.num, nums cs with
  | some n, some ns => some (n :: ns)
  | _, _ => none
def qconv (T : Tab) (s t : TypeId) (x : AV) : Option (Prop × AV) :=
 match T t, x with
 | some ⟨.slice e, _, _, _⟩, .slice .young sz cs => match T e with
  | some ⟨.int .u8, _, _, _⟩ => some (s = t ∧ cs ≠ [], .slice .young sz cs)
  | _ => none
 | some ⟨.string, _, _, _⟩, .slice own sz cs => match T s with
  | some ⟨.slice e, _, _, _⟩ => match T e, nums cs with
   | some ⟨.int .u8, _, _, _⟩, some ns => some (sz = 1 ∧ own.tag = .perm, .lit (.string (strOfNums ns)))
   | _, _ => none
  | _ => none
 | _, _ => aconvert T s t x
def aunOp (op : UnOp) (x : AV) : Option (Prop × AV) :=
 match op, x with
 | .not, .lit (.bool b) => some (True, .lit (.bool (!b)))
 | .neg, .lit (.int k n) => some (True, .lit (.int k (k.wrap (0 - n))))
 | .xor, .lit (.int k n) => some (True, .lit (.int k (k.wrap ((BitVec.ofInt k.bits (if k.signed then -1 else k.max) ^^^ BitVec.ofInt k.bits n).toNat : Int))))
 | _, _ => none
theorem aunOp_sound {P : Program} {K : Kn} {w : World} {op : UnOp} {x r : AV} {v : Value} {p : Prop}
  (h : aunOp op x = some (p, r)) (hx : SimV K x v) : ∃ u, (Op.unary op v).run P w = .ok u w ∧ SimV K r u := by
 unfold aunOp at h
 split at h <;> (try (cases h; done)) <;> cases h <;> simp only [SimV] at hx <;> subst hx <;> exact ⟨_, rfl, rfl⟩
def alen (x : AV) : Option (Prop × AV) :=
 match x with
 | .slice _ sz cs => some (True, .lit (.int .i64 ((cs.length / sz : Nat) : Int)))
 | .sref _ _ _ len _ => some (True, .lit (.int .i64 (len : Int)))
 | .lit (.slice _ n _) => some (True, .lit (.int .i64 (n : Int)))
 | .empt => some (True, .lit (.int .i64 0))
 | .lit (.string s) => some (True, .lit (.int .i64 (s.size : Int)))
 | _ => none
def abuiltin (T : Tab) (b : Builtin) (argTypes : List TypeId) (args : List AV) : Option (Prop × AV) :=
 match b, argTypes, args with
 | .len, [t], [x] => match T t with
  | some ⟨.slice _, _, _, _⟩ => match x with
   | .slice .. | .sref .. | .lit (.slice ..) | .empt => alen x
   | _ => none
  | some ⟨.string, _, _, _⟩ => match x with
   | .lit (.string s) => alen x
   | _ => none
  | some ⟨.array n _, _, _, _⟩ => some (True, .lit (.int .i64 (n : Int)))
  | _ => none
 | .cap, [t], [x] => match T t with
  | some ⟨.slice _, _, _, _⟩ => match x with
   | .lit (.slice _ _ c) => some (True, .lit (.int .i64 (c : Int)))
   | .empt => some (True, .lit (.int .i64 0))
   | _ => none
  | _ => none
 | .max, _, [.lit (.int k x), .lit (.int _ y)] => some (True, .lit (.int k (if y > x then y else x)))
 | .min, _, [.lit (.int k x), .lit (.int _ y)] => some (True, .lit (.int k (if y < x then y else x)))
 | _, _, _ => none
theorem abuiltin_sound {P : Program} {T : Tab} (hT : TOk P T) {K : Kn} {w : World} {b : Builtin} {ts : Array TypeId} {t : TypeId} {xs : List AV} {vs : Array Value} {r : AV} {p : Prop} {cs : Array Bool}
  (h : abuiltin T b ts.toList xs = some (p, r)) (hx : SimL K xs vs.toList) : ∃ u, (builtin b ts t cs vs).run P w = .ok (.value u) w ∧ SimV K r u := by
 unfold abuiltin at h
 split at h <;> try (cases h; done)
 ·rename_i t' x hts
  have hts' : ts = #[t'] := by apply Array.ext'; exact hts
  obtain ⟨v, rfl⟩ : ∃ v, vs = #[v] := by
   have := SimL_length hx
   exact Array.size_eq_one_iff.1 (by simpa using this.symm)
  simp only [SimL, and_true] at hx
  subst hts'
  split at h <;> try (cases h; done)
  ·rename_i e s1 s2 s3 hi
   obtain ⟨d, h1, h2⟩ := hT.und hi
   simp only [TD.fits] at h2; subst h2
   obtain ⟨a, n, c, rfl, hr⟩ : ∃ a n c, v = .slice a n c ∧ r = .lit (.int .i64 (n : Int)) := by
    split at h <;> (try (cases h; done)) <;> simp only [alen, Option.some.injEq, Prod.mk.injEq] at h <;> obtain ⟨_, rfl⟩ := h <;> simp only [SimV] at hx
    ·obtain ⟨a, n, c, rfl, h3, _, h0, _⟩ := hx
     refine ⟨a, n, c, rfl, ?_⟩
     rw [← h3, Nat.mul_div_cancel _ h0]
    ·obtain ⟨b, f, c', _, rfl, _⟩ := hx; exact ⟨_, _, _, rfl, rfl⟩
    ·exact ⟨_, _, _, hx, rfl⟩
    ·obtain ⟨a, rfl⟩ := hx; exact ⟨_, _, _, rfl, rfl⟩
   subst hr
   refine ⟨_, ?_, rfl⟩
   simp only [builtin, Builtin.len_, Sem.run_bind, h1, Result.andThen_ok, List.getElem?_toArray, List.getElem?_cons_zero]
   rfl
  ·rename_i s1 s2 s3 hi
   obtain ⟨d, h1, h2⟩ := hT.und hi
   simp only [TD.fits] at h2; subst h2
   split at h <;> try (cases h; done)
   simp only [alen, Option.some.injEq, Prod.mk.injEq] at h
   obtain ⟨_, rfl⟩ := h
   simp only [SimV] at hx; subst hx
   refine ⟨_, ?_, rfl⟩
   simp only [builtin, Builtin.len_, Sem.run_bind, h1, Result.andThen_ok, List.getElem?_toArray, List.getElem?_cons_zero]
   rfl
  ·rename_i n e s1 s2 s3 hi
   obtain ⟨d, h1, h2⟩ := hT.und hi
   simp only [TD.fits] at h2; subst h2
   cases h
   refine ⟨_, ?_, rfl⟩
   simp only [builtin, Builtin.len_, Sem.run_bind, h1, Result.andThen_ok, List.getElem?_toArray, List.getElem?_cons_zero]
   rfl
 ·rename_i t' x hts
  have hts' : ts = #[t'] := by apply Array.ext'; exact hts
  obtain ⟨v, rfl⟩ : ∃ v, vs = #[v] := by
   have := SimL_length hx
   exact Array.size_eq_one_iff.1 (by simpa using this.symm)
  simp only [SimL, and_true] at hx
  subst hts'
  split at h <;> try (cases h; done)
  rename_i e s1 s2 s3 hi
  obtain ⟨d, h1, h2⟩ := hT.und hi
  simp only [TD.fits] at h2; subst h2
  obtain ⟨a, n, c, rfl, hr⟩ : ∃ a n c, v = .slice a n c ∧ r = .lit (.int .i64 (c : Int)) := by
   split at h <;> (try (cases h; done)) <;> cases h <;> simp only [SimV] at hx
   ·exact ⟨_, _, _, hx, rfl⟩
   ·obtain ⟨a, rfl⟩ := hx; exact ⟨_, _, _, rfl, rfl⟩
  subst hr
  refine ⟨_, ?_, rfl⟩
  simp only [builtin, Builtin.cap_, Sem.run_bind, h1, Result.andThen_ok, List.getElem?_toArray, List.getElem?_cons_zero]
  rfl
 ·rename_i k x k' y
  cases h
  obtain ⟨v1, v2, hvs⟩ : ∃ v1 v2, vs.toList = [v1, v2] := by
   match hvs : vs.toList, hx with
   | [v1, v2], _ => exact ⟨v1, v2, rfl⟩
   | [], hx => simp [SimL] at hx
   | [_], hx => simp [SimL] at hx
   | _ :: _ :: _ :: _, hx => simp [SimL] at hx
  rw [hvs] at hx
  simp only [SimL, SimV, and_true] at hx
  obtain ⟨rfl, rfl⟩ := hx
  refine ⟨_, ?_, rfl⟩
  simp only [builtin, Builtin.max_, hvs]
  rfl
 ·rename_i k x k' y
  cases h
  obtain ⟨v1, v2, hvs⟩ : ∃ v1 v2, vs.toList = [v1, v2] := by
   match hvs : vs.toList, hx with
   | [v1, v2], _ => exact ⟨v1, v2, rfl⟩
   | [], hx => simp [SimL] at hx
   | [_], hx => simp [SimL] at hx
   | _ :: _ :: _ :: _, hx => simp [SimL] at hx
  rw [hvs] at hx
  simp only [SimL, SimV, and_true] at hx
  obtain ⟨rfl, rfl⟩ := hx
  refine ⟨_, ?_, rfl⟩
  simp only [builtin, Builtin.min_, hvs]
  rfl
end Go.Al
