import Derived.Test.YtolfnhebnennpaaAmA
set_option linter.unusedSimpArgs false
set_option linter.unusedVariables false
namespace Go.Al
open Go Go.RowKit
def gdd {α : Type} (p : Prop) [Decidable p] (m : p → Option α) : Option α := if h : p then m h else none
theorem gdd_some {α : Type} {p : Prop} {_ : Decidable p} {m : p → Option α} {r : α} (h : gdd p m = some r) : ∃ hp : p, m hp = some r := by
 unfold gdd at h; split at h
 ·exact ⟨by assumption, h⟩
 ·cases h
theorem gdd_gd {α : Type} {p : Prop} {_ : Decidable p} {m : Option α} : gdd p (fun _ => m) = gd p m := by
 unfold gdd gd; split <;> rfl
def gg {α : Type} (p : Prop) [Decidable p] (m : Option α) : Option α := gdd p fun _ => m
theorem gg_eq {α : Type} {p : Prop} {_ : Decidable p} {m : Option α} : gg p m = gd p m := gdd_gd
@[reducible] def nl (α : Type) : List α := []
noncomputable def lp {σ A : Type} (s : σ) (body : σ → Option (σ ⊕ A)) : Option A := loop body s
inductive Pr where
 | t (v : SV)
 | g (p : Prop) (d : Decidable p) (f : p → SV)
 | c (i : Int) (vs : List SV)
def splitGo {A : Type} (i : Int) (k : SV → Option A) : Int → List SV → Option A
 | _, [] => none
 | j, v :: r => if i = j then k v else splitGo i k (j + 1) r
def Pr.run {A : Type} : Pr → (SV → Option A) → Option A
 | .t v, k => k v
 | .g p d f, k => @gdd A p d fun h => k (f h)
 | .c i vs, k => splitGo i k 0 vs
def Pr.all : Pr → (SV → Prop) → Prop
 | .t v, Q => Q v
 | .g p _ f, Q => ∀ h : p, Q (f h)
 | .c i vs, Q => ∀ (j : Nat) (v : SV), vs[j]? = some v → i = (j : Int) → Q v
theorem splitGo_some {A : Type} {i : Int} {k : SV → Option A} {r : A} : ∀ {vs : List SV} {j : Nat}, splitGo i k (j : Int) vs = some r → ∃ q v, vs[q]? = some v ∧ i = ((j + q : Nat) : Int) ∧ k v = some r
 | [], j, h => by simp [splitGo] at h
 | v :: vs, j, h => by
  simp only [splitGo] at h
  split at h
  ·rename_i e; exact ⟨0, v, rfl, by simpa using e, h⟩
  ·obtain ⟨q, w, h1, h2, h3⟩ := splitGo_some (j := j + 1) (by push_cast; exact h)
   exact ⟨q + 1, w, by simpa using h1, by rw [h2]; congr 1; omega, h3⟩
theorem Pr.run_some {A : Type} {p : Pr} {Q : SV → Prop} {k : SV → Option A} {r : A} (hp : p.all Q) (h : p.run k = some r) : ∃ v, Q v ∧ k v = some r := by
 cases p with
 | t v => exact ⟨v, hp, h⟩
 | g p d f => obtain ⟨h1, h2⟩ := gdd_some h; exact ⟨f h1, hp h1, h2⟩
 | c i vs =>
  obtain ⟨q, v, h1, h2, h3⟩ := splitGo_some (j := 0) h
  exact ⟨v, hp q v h1 (by simpa using h2), h3⟩
def lview (H : SHp) : SV → Option (OwnI × (e : Ty) × List e.den)
 | .sl o e xs => some (o, ⟨e, xs⟩)
 | .cur m => match hget H m with
  | some (.tip true e xs) => some (.tip m (xs.length * e.sz), ⟨e, xs⟩)
  | some (.tip false e xs) => some (.buf m (xs.length * e.sz), ⟨e, xs⟩)
  | _ => none
 | _ => none
theorem lview_av {ν : Nm} {H : SHp} {x : SV} {o : OwnI} {e : Ty} {xs : List e.den} (h : lview H x = some (o, ⟨e, xs⟩)) : x.av ν H = .slice (o.of ν) e.lay.sz (flat e.lay xs) := by
 unfold lview at h
 split at h <;> try (cases h; done)
 ·cases h; simp only [SV.av]
 ·split at h <;> (try (cases h; done)) <;> cases h <;> rename_i hc <;> simp only [SV.av, curAV, hc, eT, eB, OwnI.of, Ty.lay_sz]
def OwnI.alive (H : SHp) : OwnI → Bool
 | .perm => true
 | .young => true
 | .tip _ _ => true
 | .buf m _ => match hget H m with
  | some (.tip _ _ _) => true
  | _ => false
 | .sub o _ _ _ => o.alive H
def sint (op : BinOp) (k : IntKind) (a : Int) (k' : IntKind) (b : Int) : Option Pr :=
 match op with
 | .shl => some (.g (0 ≤ b) inferInstance fun _ => .lit (.int k (shlI k a b)))
 | .shr => some (.g (0 ≤ b) inferInstance fun _ => .lit (.int k (shrI k a b)))
 | _ => if k = k' then match op with
  | .add => some (.t (.lit (.int k (k.wrap (a + b)))))
  | .sub => some (.t (.lit (.int k (k.wrap (a - b)))))
  | .mul => some (.t (.lit (.int k (k.wrap (a * b)))))
  | .quo => some (.g (b ≠ 0) inferInstance fun _ => .lit (.int k (k.wrap (a.tdiv b))))
  | .rem => some (.g (b ≠ 0) inferInstance fun _ => .lit (.int k (a.tmod b)))
  | .and => some (.t (.lit (.int k (bitAnd k a b))))
  | .or => some (.t (.lit (.int k (bitOr k a b))))
  | .xor => some (.t (.lit (.int k (bitXor k a b))))
  | .andNot => some (.t (.lit (.int k (bitAndNot k a b))))
  | .eql => some (.t (.lit (.bool (a == b))))
  | .neq => some (.t (.lit (.bool (a != b))))
  | .lss => some (.t (.lit (.bool (decide (a < b)))))
  | .leq => some (.t (.lit (.bool (decide (a ≤ b)))))
  | .gtr => some (.t (.lit (.bool (decide (b < a)))))
  | .geq => some (.t (.lit (.bool (decide (b ≤ a)))))
  | _ => none
  else none
def sstr (op : BinOp) (a b : ByteArray) : Option Pr :=
 match op with
 | .add => some (.g (((a.size + b.size : Nat) : Int) ≤ IntKind.i64.max) inferInstance fun _ => .lit (.string (a ++ b)))
 | .eql => some (.t (.lit (.bool (a.toList == b.toList))))
 | .neq => some (.t (.lit (.bool (!(a.toList == b.toList)))))
 | .lss => some (.t (.lit (.bool (Op.bytesLess a.toList b.toList))))
 | _ => none
def sapart (T : Tab) (t : TypeId) (cs : List SV) (off : Nat) : Option SV :=
 match T t with
 | some i => if i.d.isAgg then match part3 off i.size cs with
   | some (_, b, _) => some (.agg b)
   | none => none
  else match part3 off 1 cs with
   | some (_, [x], _) => if x.isVec then none else some x
   | _ => none
 | none => none
def spick (t : Bool) (a b : SV) : SV :=
 match a, b with
 | .lit (.bool x), .lit (.bool y) => .lit (.bool (if t then x else y))
 | .lit (.int k x), .lit (.int k' y) => if k = k' then .lit (.int k (if t then x else y)) else if t then .lit (.int k x) else .lit (.int k' y)
 | a, b => if t then a else b
def vcont (H : SHp) (m : Id) (o : Nat) : Option ((e : Ty) × List e.den) :=
 match hget H m with
 | some (.box cs) => match cutAt o cs with
  | some (_, .vec _ e v :: _) => some ⟨e, v.toList⟩
  | _ => none
 | some (.arr e xs) => if o = 0 then some ⟨e, xs⟩ else none
 | _ => none
def SV.isOwn : SV → Bool
 | .own _ _ => true
 | _ => false
def sone (T : Tab) (t : TypeId) (i : TI) (cs : List SV) : Option SV :=
 if i.d.isAgg then some (.agg cs) else match cs with
  | [x] => if x.isVec || x.isOwn then none else some x
  | _ => none
def sload (T : Tab) (H : SHp) (t : TypeId) (x : SV) : Option Pr :=
 match T t with
 | some i => match x with
  | .ptr m o => match hget H m with
   | some (.box cs) => match part3 o i.size cs with
    | some (_, b, _) => (sone T t i b).map .t
    | none => none
   | _ => none
  | .vp m o j s => match vcont H m o with
   | some ⟨e, xs⟩ => if e.sz = s ∧ i.size = s then match sone T t i (e.un (xs.getD j e.dflt)) with
    | some _ => some (.g (j < xs.length) inferInstance fun _ => (sone T t i (e.un (xs.getD j e.dflt))).getD .any)
    | none => none else none
   | none => none
  | .rp o cs => if o.alive H then match part3 0 i.size cs with
    | some (_, b, _) => (sone T t i b).map .t
    | none => none else none
  | _ => none
 | none => none
def snilS (H : SHp) (x : SV) : Option Pr :=
 match x with
 | .lit (.slice none 0 0) => some (.t (.lit (.bool true)))
 | .sref .. => some (.t (.lit (.bool false)))
 | x => match lview H x with
  | some (_, ⟨_, xs⟩) => some (.g (0 < xs.length) inferInstance fun _ => .lit (.bool false))
  | none => none
def Pr.neg : Pr → Pr
 | .t (.lit (.bool b)) => .t (.lit (.bool (!b)))
 | .g p d f => .g p d fun h => match f h with
  | .lit (.bool b) => .lit (.bool (!b))
  | x => x
 | p => p
def seqL (T : Tab) (f : TypeId → SV → SV → Option Bool) : List (Nat × TypeId) → List SV → List SV → Option Bool
 | [], _, _ => some true
 | q :: r, xs, ys => match sapart T q.2 xs q.1, sapart T q.2 ys q.1 with
  | some a, some b => match f q.2 a b with
   | some u => match r with
    | [] => some u
    | _ :: _ => match seqL T f r xs ys with
     | some v => some (u && v)
     | none => none
   | none => none
  | _, _ => none
def seqAt (T : Tab) : Dep → TypeId → SV → SV → Option Bool
 | .z, _, _, _ => none
 | .s d, t, x, y => match T t, x, y with
  | some ⟨.int _, _, _, _⟩, .lit (.int k a), .lit (.int k' b) => if k = k' then some (a == b) else none
  | some ⟨.bool, _, _, _⟩, .lit (.bool a), .lit (.bool b) => some (a == b)
  | some ⟨.string, _, _, _⟩, .lit (.string a), .lit (.string b) => some (a.toList == b.toList)
  | some ⟨.struct fs, _, _, _⟩, .agg xs, .agg ys => if T.eq t = true then seqL T (seqAt T d) fs xs ys else none
  | _, _, _ => none
def seq (T : Tab) (H : SHp) (t : TypeId) (x y : SV) : Option Pr :=
 match x, y with
 | .lit (.bool a), .lit (.bool b) => match T t with
  | some ⟨.bool, _, _, _⟩ => some (.t (.lit (.bool (a == b))))
  | _ => none
 | .agg xs, .agg ys => if T.eq t = true then (seqAt T (.s (.s (.s (.s .z)))) t (.agg xs) (.agg ys)).map fun b => .t (.lit (.bool b)) else none
 | x, .lit (.pointer none) => match T t with
  | some ⟨.pointer _, _, _, _⟩ => match x with
   | .lit (.pointer none) => some (.t (.lit (.bool true)))
   | .ptr _ _ => some (.t (.lit (.bool false)))
   | .opt b _ => some (.t (.lit (.bool (!b))))
   | _ => none
  | _ => none
 | .lit (.pointer none), .ptr _ _ => match T t with
  | some ⟨.pointer _, _, _, _⟩ => some (.t (.lit (.bool false)))
  | _ => none
 | x, .lit (.slice none 0 0) => match T t with
  | some ⟨.slice _, _, _, _⟩ => snilS H x
  | _ => none
 | _, _ => none
def sbin (T : Tab) (H : SHp) (op : BinOp) (t : TypeId) (x y : SV) : Option Pr :=
 match x, y with
 | .lit (.int k a), .lit (.int k' b) => sint op k a k' b
 | .lit (.string a), .lit (.string b) => sstr op a b
 | x, y => match op with
  | .eql => seq T H t x y
  | .neq => (seq T H t x y).map Pr.neg
  | _ => none
def sun (op : UnOp) (x : SV) : Option Pr :=
 match op, x with
 | .not, .lit (.bool b) => some (.t (.lit (.bool (!b))))
 | .neg, .lit (.int k n) => some (.t (.lit (.int k (k.wrap (0 - n)))))
 | .xor, .lit (.int k n) => some (.t (.lit (.int k (bitNot k n))))
 | _, _ => none
def sbytes (H : SHp) (x : SV) : Option (List Int) :=
 match lview H x with
 | some (.perm, ⟨.int .u8, xs⟩) => some xs
 | some (.young, ⟨.int .u8, xs⟩) => some xs
 | some (.tip _ _, ⟨.int .u8, xs⟩) => some xs
 | _ => none
def sconv (T : Tab) (H : SHp) (s t : TypeId) (x : SV) : Option Pr :=
 match T t with
 | some ⟨.int k, _, _, _⟩ => match x with
  | .lit (.int _ n) => if (T s).isSome then some (.t (.lit (.int k (k.wrap n)))) else none
  | _ => none
 | some ⟨.string, _, _, _⟩ => match x with
  | .lit (.string b) => if (T s).isSome then some (.t (.lit (.string b))) else none
  | x => match sbytes H x, T s with
   | some xs, some ⟨.slice e, _, _, _⟩ => match T e with
    | some ⟨.int .u8, _, _, _⟩ => some (.t (.lit (.string (strOfNums xs))))
    | _ => none
   | _, _ => none
 | some ⟨.slice e, _, _, _⟩ => match x with
  | .row sz (c :: cs) => match T e with
   | some ⟨.int .u8, _, _, _⟩ => if s = t ∧ c.isVec = false then some (.t (.row sz (c :: cs))) else none
   | _ => none
  | _ => none
 | _ => none
def sfieldAddr (T : Tab) (t : TypeId) (f : Nat) (x : SV) : Option SV :=
 match T t with
 | some ⟨.struct fs, _, _, _⟩ => match fs[f]? with
  | some (off, ft) => match T ft with
   | some i => if i.size = 0 then none else match x with
    | .ptr m o => some (.ptr m (o + off))
    | .rp o cs => match cutAt off cs with
     | some (_, c :: r) => some (.rp o (c :: r))
     | _ => none
    | _ => none
   | none => none
  | none => none
 | _ => none
def sfield (T : Tab) (t : TypeId) (f : Nat) (x : SV) : Option SV :=
 match T t, x with
 | some ⟨.struct fs, _, _, _⟩, .agg cs => match fs[f]? with
  | some (off, ft) => sapart T ft cs off
  | none => none
 | _, _ => none
def opConst : Operand → Option Int
 | .const (.int _ j) => some j
 | _ => none
def sindexAddr (T : Tab) (H : SHp) (t : TypeId) (x : SV) (io : Option Int) (ix : SV) : Option Pr :=
 match ix, T t with
 | .lit (.int _ i), some ⟨.slice e, _, _, _⟩ => match T e with
  | some ei => match lview H x with
   | some (o, ⟨y, xs⟩) => if y.sz = ei.size then some (.g (0 ≤ i ∧ i.toNat < xs.length) inferInstance fun _ => .rp o (y.un (xs.getD i.toNat y.dflt))) else none
   | none => match x with
    | .sref m sz o len _ => if sz = ei.size then some (.g (0 ≤ i ∧ i.toNat < len) inferInstance fun _ => .vp m o i.toNat sz) else none
    | _ => none
  | none => none
 | .lit (.int _ i), some ⟨.array n e, _, _, _⟩ => match T e with
  | some ei => match x with
   | .ptr m o => match io with
    | some j => if 0 ≤ j ∧ j.toNat < n then match vcont H m o with
      | some _ => some (.t (.vp m o j.toNat ei.size))
      | none => some (.t (.ptr m (o + j.toNat * ei.size))) else none
    | none => match vcont H m o with
     | some _ => some (.g (0 ≤ i ∧ i.toNat < n) inferInstance fun _ => .vp m o i.toNat ei.size)
     | none => some (.c i ((List.range n).map fun j => .ptr m (o + j * ei.size)))
   | .rp o cs => match io with
    | some j => if 0 ≤ j ∧ j.toNat < n then match part3 (j.toNat * ei.size) ei.size cs with
      | some (_, b, _) => some (.t (.rp o b))
      | none => none else none
    | none => match cs with
     | [.vec n' y v] => if n' + 1 = n ∧ y.sz = ei.size then some (.g (0 ≤ i ∧ i.toNat < n) inferInstance fun _ => .rp o (y.un (v.toList.getD i.toNat y.dflt))) else none
     | _ => none
   | _ => none
  | none => none
 | _, _ => none
def sindex (T : Tab) (t : TypeId) (x : SV) (io : Option Int) (ix : SV) : Option Pr :=
 match ix, T t, x with
 | .lit (.int _ i), some ⟨.array n e, _, _, _⟩, .agg cs => match T e with
  | some ei => match io with
   | some j => if 0 ≤ j ∧ j.toNat < n then (match cs with
     | [.vec n' y v] => if n' + 1 = n ∧ y.sz = ei.size then sone T e ei (y.un (v.toList.getD j.toNat y.dflt)) else none
     | cs => sapart T e cs (j.toNat * ei.size)).map .t else none
   | none => match cs with
    | [.vec n' y v] => if n' + 1 = n ∧ y.sz = ei.size then match sone T e ei (y.un (v.toList.getD i.toNat y.dflt)) with
     | some _ => some (.g (0 ≤ i ∧ i.toNat < n) inferInstance fun _ => (sone T e ei (y.un (v.toList.getD i.toNat y.dflt))).getD .any)
     | none => none else none
    | cs => if (List.range n).all (fun j => (sapart T e cs (j * ei.size)).isSome) then some (.c i ((List.range n).map fun j => (sapart T e cs (j * ei.size)).getD .any)) else none
  | none => none
 | .lit (.int _ i), some ⟨.string, _, _, _⟩, .lit (.string s) => some (.g (0 ≤ i ∧ i.toNat < s.size) inferInstance fun _ => .lit (.int .u8 ((s.data.toList.getD i.toNat 0).toNat : Int)))
 | _, _, _ => none
def sbound (d : Int) : Option SV → Option Int
 | none => some d
 | some (.lit (.int _ i)) => some i
 | _ => none
def OwnI.cut (o : OwnI) (l h n : Nat) : OwnI :=
 match o with
 | .perm => .perm
 | .young => .perm
 | .tip _ _ => .perm
 | o => .sub o l h n
def sslice (T : Tab) (H : SHp) (t : TypeId) (x : SV) (lo hi : Option SV) : Option Pr :=
 match T t with
 | some ⟨.slice e, _, _, _⟩ => match T e with
  | some ei => match lview H x with
   | some (o, ⟨y, xs⟩) => if y.sz = ei.size then match lo, hi with
     | none, none => some (.t (.sl (o.cut 0 (xs.length * y.sz) (xs.length * y.sz)) y xs))
     | some (.lit (.int _ l)), none => some (.g (0 ≤ l ∧ l.toNat ≤ xs.length) inferInstance fun _ => .sl (o.cut (l.toNat * y.sz) (xs.length * y.sz) (xs.length * y.sz)) y (xs.drop l.toNat))
     | none, some (.lit (.int _ h)) => some (.g (0 ≤ h ∧ h.toNat ≤ xs.length) inferInstance fun _ => .sl (o.cut 0 (h.toNat * y.sz) (xs.length * y.sz)) y (xs.take h.toNat))
     | some (.lit (.int _ l)), some (.lit (.int _ h)) => some (.g (0 ≤ l ∧ l ≤ h ∧ h.toNat ≤ xs.length) inferInstance fun _ => .sl (o.cut (l.toNat * y.sz) (h.toNat * y.sz) (xs.length * y.sz)) y ((xs.take h.toNat).drop l.toNat))
     | _, _ => none else none
   | none => match x with
    | .lit (.slice none 0 0) => match sbound 0 lo, sbound 0 hi with
     | some l, some h => some (.g (l = 0 ∧ h = 0) inferInstance fun _ => .lit (.slice none 0 0))
     | _, _ => none
    | .empt => match sbound 0 lo, sbound 0 hi with
     | some l, some h => some (.g (l = 0 ∧ h = 0) inferInstance fun _ => .empt)
     | _, _ => none
    | .sref m sz o len cap => match sbound 0 lo, sbound len hi with
     | some l, some h => if sz = ei.size then some (.g (0 ≤ l ∧ l ≤ h ∧ h ≤ cap ∧ (l < cap ∨ l = 0)) inferInstance fun _ => .sref m sz (o + l.toNat * sz) (h - l).toNat (cap - l.toNat)) else none
     | _, _ => none
    | _ => none
  | none => none
 | some ⟨.array n e, _, _, _⟩ => match T e, x with
  | some ei, .ptr m o => match sbound 0 lo, sbound n hi with
   | some l, some h => some (.g (0 ≤ l ∧ l ≤ h ∧ h ≤ n ∧ (l < n ∨ l = 0) ∧ 0 < ei.size) inferInstance fun _ => .sref m ei.size (o + l.toNat * ei.size) (h - l).toNat (n - l.toNat))
   | _, _ => none
  | _, _ => none
 | some ⟨.string, _, _, _⟩ => match x with
  | .lit (.string s) => match sbound 0 lo, sbound s.size hi with
   | some l, some h => some (.g (0 ≤ l ∧ l ≤ h ∧ h ≤ s.size) inferInstance fun _ => .lit (.string (s.extract l.toNat h.toNat)))
   | _, _ => none
  | _ => none
 | _ => none
def SV.one : SV → Bool
 | .any | .own .. | .agg _ | .tup _ => false
 | .cur _ => false
 | .lit v => v.oneCell'
 | _ => true
def SV.leaves (H : SHp) : SV → Option (List SV)
 | .agg cs => if cs.all (fun x => x.one || (lview H x).isSome) then some cs else none
 | x => if (x.one || (lview H x).isSome) && !x.isVec then some [x] else none
def sfill (H : SHp) (place : Nat → Option (Nat × Nat)) : List SV → List (Nat × SV) → Option (List SV)
 | cs, [] => some cs
 | cs, (i, x) :: r => match place i with
  | none => none
  | some (off, size) => match x.leaves H with
   | some ls => if wsum ls = size then match part3 off size cs with
     | some (a, _, c) => sfill H place (a ++ ls ++ c) r
     | none => none else none
   | none => none
def szero (Z : TypeId → Option (List SV)) (t : TypeId) (i : TI) : List SV :=
 match Z t with
 | some cs => cs
 | none => i.zero.map .lit
def sbuild (T : Tab) (Z : TypeId → Option (List SV)) (H : SHp) (t : TypeId) (ps : List (Nat × SV)) : Option SV :=
 match T t with
 | some i => match i.d with
  | .struct fs => if fs.all (fun f => (T f.2).isSome) then (sfill H (places T i.d) (szero Z t i) ps).map .agg else none
  | .array n e => if (T e).isSome then (sfill H (places T i.d) (match ps with | [] => szero Z t i | _ => i.zero.map .lit) ps).map .agg else none
  | _ => none
 | none => none
def sbuildSlice (T : Tab) (H : SHp) (t : TypeId) (n : Nat) (ps : List (Nat × SV)) : Option SV :=
 match T t with
 | some ⟨.slice e, _, _, _⟩ => match T e with
  | some ei => match sfill H (fun i => some (i * ei.size, ei.size)) ((List.replicate n (ei.zero.map SV.lit)).flatten) ps with
   | some cs => if 0 < ei.size ∧ n * ei.size ≤ 2 ^ 24 then some (if n = 0 then .empt else .row ei.size cs) else none
   | none => none
  | none => none
 | _ => none
def slen (H : SHp) (x : SV) : Option SV :=
 match x with
 | .sref _ _ _ len _ => some (.lit (.int .i64 (len : Int)))
 | .lit (.slice _ n _) => some (.lit (.int .i64 (n : Int)))
 | .empt => some (.lit (.int .i64 0))
 | .row sz cs => some (.lit (.int .i64 ((wsum cs / sz : Nat) : Int)))
 | x => match lview H x with
  | some (_, ⟨_, xs⟩) => some (.lit (.int .i64 (xs.length : Int)))
  | none => none
def sbuiltin (T : Tab) (H : SHp) (b : Builtin) (ts : List TypeId) (xs : List SV) : Option SV :=
 match b, ts, xs with
 | .len, [t], [x] => match T t with
  | some ⟨.slice _, _, _, _⟩ => slen H x
  | some ⟨.string, _, _, _⟩ => match x with
   | .lit (.string s) => some (.lit (.int .i64 (s.size : Int)))
   | _ => none
  | some ⟨.array n _, _, _, _⟩ => some (.lit (.int .i64 (n : Int)))
  | _ => none
 | .max, _, [.lit (.int k x), .lit (.int _ y)] => some (.lit (.int k (if y > x then y else x)))
 | .min, _, [.lit (.int k x), .lit (.int _ y)] => some (.lit (.int k (if y < x then y else x)))
 | _, _, _ => none
def sq (T : Tab) (Z : TypeId → Option (List SV)) (H : SHp) (ρ : Operand → SV) : Op → Option Pr
 | .move x => some (.t (ρ x))
 | .assign x => some (.t (ρ x))
 | .pick c a b => match ρ c with
  | .lit (.bool t) => some (.t (spick t (ρ a) (ρ b)))
  | _ => none
 | .load t a => sload T H t (ρ a)
 | .nilCheck x => match ρ x with
  | .ptr m o => some (.t (.ptr m o))
  | .vp m o i s => some (.t (.vp m o i s))
  | .rp o cs => some (.t (.rp o cs))
  | .fn (.func f) a b => some (.t (.fn (.func f) a b))
  | .fx i => some (.t (.fx i))
  | _ => none
 | .binOp op t x y _ => sbin T H op t (ρ x) (ρ y)
 | .unOp op _ x => sun op (ρ x)
 | .convert s t x => sconv T H s t (ρ x)
 | .makeInterface t x => match T t with
  | some ⟨.iface, _, _, _⟩ => none
  | some _ => some (.t (.ifc t (ρ x)))
  | none => none
 | .makeFunc f a b => some (.t (.fn f (a.toList.map ρ) (b.toList.map ρ)))
 | .fieldAddr t x f => (sfieldAddr T t f (ρ x)).map .t
 | .field t x f => (sfield T t f (ρ x)).map .t
 | .indexAddr t x i => sindexAddr T H t (ρ x) (opConst i) (ρ i)
 | .index t x i => sindex T t (ρ x) (opConst i) (ρ i)
 | .slice t x lo hi none => sslice T H t (ρ x) (lo.map ρ) (hi.map ρ)
 | .extract x i => match ρ x with
  | .tup vs => match vs[i]? with
   | some v => some (.t v)
   | none => none
  | _ => none
 | .build t ps => (sbuild T Z H t (ps.toList.map fun q => (q.1, ρ q.2))).map .t
 | .buildSlice t n ps => (sbuildSlice T H t n (ps.toList.map fun q => (q.1, ρ q.2))).map .t
 | .call ⟨.builtin b, args, ts⟩ => (sbuiltin T H b ts.toList (args.toList.map ρ)).map .t
 | _ => none
end Go.Al
