import Derived.Test.YtolfnhebnennpaaAlZ
set_option linter.unusedSimpArgs false
set_option linter.unusedVariables false
namespace Go.Al
open Go Go.RowKit
inductive Ty where
 | int (k : IntKind)
 | bool
 | str
 | list (e : Ty)
 | pair (a b : Ty)
 | arr (n : Nat) (e : Ty)
 deriving DecidableEq
@[reducible] def Ty.den : Ty → Type
 | .int _ => Int
 | .bool => Bool
 | .str => ByteArray
 | .list e => List e.den
 | .pair a b => a.den × b.den
 | .arr n e => Vector e.den (n + 1)
def lP {α β : Type} (A : Lay α) (B : Lay β) : Lay (α × β) :=
 ⟨A.sz + B.sz, fun x => A.cells x.1 ++ B.cells x.2, (A.dflt, B.dflt), fun x => by rw [List.length_append, A.len, B.len], by have := A.pos; omega, fun x c h => by
  rcases List.mem_append.1 h with h | h
  ·exact A.one _ c h
  ·exact B.one _ c h⟩
def lV {α : Type} (n : Nat) (A : Lay α) : Lay (Vector α (n + 1)) :=
 ⟨(n + 1) * A.sz, fun v => flat A v.toList, Vector.replicate (n + 1) A.dflt, fun v => by rw [flat_length, Vector.length_toList], Nat.mul_pos (by omega) A.pos, fun v => flat_one⟩
def Ty.lay : (t : Ty) → Lay t.den
 | .int k => lI k
 | .bool => lB
 | .str => lStr
 | .list e => lS e.lay
 | .pair a b => lP a.lay b.lay
 | .arr n e => lV n e.lay
def Ty.sz : Ty → Nat
 | .pair a b => a.sz + b.sz
 | .arr n e => (n + 1) * e.sz
 | _ => 1
theorem Ty.lay_sz : ∀ t : Ty, t.lay.sz = t.sz
 | .int _ => rfl
 | .bool => rfl
 | .str => rfl
 | .list _ => rfl
 | .pair a b => by simp only [Ty.lay, lP, Ty.sz, lay_sz a, lay_sz b]
 | .arr n e => by simp only [Ty.lay, lV, Ty.sz, lay_sz e]
def Ty.dflt : (t : Ty) → t.den
 | .int _ => 0
 | .bool => false
 | .str => ⟨#[]⟩
 | .list _ => []
 | .pair a b => (a.dflt, b.dflt)
 | .arr n e => Vector.replicate (n + 1) e.dflt
theorem Ty.lay_dflt : ∀ t : Ty, t.lay.dflt = t.dflt
 | .int _ => rfl
 | .bool => rfl
 | .str => rfl
 | .list _ => rfl
 | .pair a b => by simp only [Ty.lay, lP, Ty.dflt, lay_dflt a, lay_dflt b]
 | .arr n e => by simp only [Ty.lay, lV, Ty.dflt, lay_dflt e]
abbrev Id := Nat × Nat
def ieq (a b : Id) : Bool := a.1 == b.1 && a.2 == b.2
theorem ieq_iff {a b : Id} : ieq a b = true ↔ a = b := by
 obtain ⟨a1, a2⟩ := a
 obtain ⟨b1, b2⟩ := b
 simp [ieq]
theorem ieq_false {a b : Id} : ieq a b = false ↔ a ≠ b := by
 rw [← Bool.not_eq_true, ieq_iff]
theorem ieq_self {a : Id} : ieq a a = true := ieq_iff.2 rfl
structure Nm where
 nm : Id → Name
 fn : Nat → FuncId × List AV × List AV
instance : CoeFun Nm fun _ => Id → Name := ⟨Nm.nm⟩
inductive OwnI where
 | perm
 | young
 | tip (m : Id) (e : Nat)
 | buf (m : Id) (e : Nat)
 | sub (o : OwnI) (l h n : Nat)
def OwnI.of (ν : Nm) : OwnI → Own
 | .perm => .perm
 | .young => .young
 | .tip m e => .tip (ν m) e
 | .buf m e => .buf (ν m) e
 | .sub o l h n => (o.of ν).sub l h n
inductive SV where
 | any
 | lit (v : Value)
 | empt
 | sl (o : OwnI) (e : Ty) (xs : List e.den)
 | cur (m : Id)
 | own (e : Ty) (xs : List e.den)
 | row (sz : Nat) (cs : List SV)
 | ptr (m : Id) (o : Nat)
 | vp (m : Id) (o i s : Nat)
 | rp (o : OwnI) (cs : List SV)
 | vec (n : Nat) (e : Ty) (v : Vector e.den (n + 1))
 | sref (m : Id) (sz o len cap : Nat)
 | agg (cs : List SV)
 | tup (vs : List SV)
 | fn (f : Fn) (first cap : List SV)
 | fx (i : Nat)
 | ifc (t : TypeId) (x : SV)
 | map (m : Id)
 | opt (b : Bool) (m : Id)
inductive SObj where
 | box (cs : List SV)
 | tip (pm : Bool) (e : Ty) (xs : List e.den)
 | arr (e : Ty) (xs : List e.den)
 | obox (b : Bool) (cs : List SV)
abbrev SHp := List (Id × SObj)
def hget : SHp → Id → Option SObj
 | [], _ => none
 | (j, o) :: r, i => if ieq i j then some o else hget r i
def curAV (ν : Nm) (H : SHp) (m : Id) : AV :=
 match hget H m with
 | some (.tip true e xs) => eT e.lay (ν m) xs
 | some (.tip false e xs) => eB e.lay (ν m) xs
 | _ => .any
mutual
def SV.av (ν : Nm) (H : SHp) : SV → AV
 | .any => .any
 | .lit v => .lit v
 | .empt => .empt
 | .sl o e xs => .slice (o.of ν) e.lay.sz (flat e.lay xs)
 | .cur m => curAV ν H m
 | .own e xs => eO e.lay xs
 | .row sz cs => .slice .young sz (avs ν H cs)
 | .ptr m o => .ptr (ν m) o
 | .vp m o i s => vptr (ν m) o i s
 | .rp o cs => .rptr (o.of ν) (avs ν H cs)
 | .vec n e v => .agg (flat e.lay v.toList)
 | .sref m sz o len cap => .sref (ν m) sz o len cap
 | .agg cs => .agg (avs ν H cs)
 | .tup vs => .tup (avl ν H vs)
 | .fn f a b => .fn f (avl ν H a) (avl ν H b)
 | .fx i => .fn (.func (ν.fn i).1) (ν.fn i).2.1 (ν.fn i).2.2
 | .ifc t x => .ifc t (x.av ν H)
 | .map m => .map (ν m)
 | .opt b m => if b then .ptr (ν m) 0 else .lit (.pointer none)
def avs (ν : Nm) (H : SHp) : List SV → List AV
 | [] => []
 | .vec n e v :: r => flat e.lay v.toList ++ avs ν H r
 | x :: r => x.av ν H :: avs ν H r
def avl (ν : Nm) (H : SHp) : List SV → List AV
 | [] => []
 | x :: r => x.av ν H :: avl ν H r
end
def SV.w : SV → Nat
 | .vec n e _ => (n + 1) * e.sz
 | _ => 1
def SV.isVec : SV → Bool
 | .vec .. => true
 | _ => false
section
variable {ν : Nm} {H : SHp}
theorem avs_nil : avs ν H [] = [] := by simp [avs]
theorem avs_vec {n : Nat} {e : Ty} {v : Vector e.den (n + 1)} {r : List SV} : avs ν H (.vec n e v :: r) = flat e.lay v.toList ++ avs ν H r := by simp [avs]
theorem avs_one {x : SV} {r : List SV} (h : x.isVec = false) : avs ν H (x :: r) = x.av ν H :: avs ν H r := by
 cases x <;> first | (simp [SV.isVec] at h; done) | simp [avs]
theorem avl_cons {x : SV} {r : List SV} : avl ν H (x :: r) = x.av ν H :: avl ν H r := by simp [avl]
theorem avl_map : ∀ {l : List SV}, avl ν H l = l.map (SV.av ν H)
 | [] => by simp [avl]
 | x :: r => by rw [avl_cons, avl_map, List.map_cons]
theorem avs_append : ∀ {a b : List SV}, avs ν H (a ++ b) = avs ν H a ++ avs ν H b
 | [], b => by simp [avs_nil]
 | x :: a, b => by
  rw [List.cons_append]
  cases hx : x.isVec with
  | false => rw [avs_one hx, avs_one hx, avs_append, List.cons_append]
  | true =>
   cases x <;> first | (simp [SV.isVec] at hx; done) | skip
   rw [avs_vec, avs_vec, avs_append, List.append_assoc]
def wsum : List SV → Nat
 | [] => 0
 | x :: r => x.w + wsum r
theorem avs_length : ∀ {l : List SV}, (avs ν H l).length = wsum l
 | [] => by simp [avs_nil, wsum]
 | x :: r => by
  cases hx : x.isVec with
  | false =>
   rw [avs_one hx, List.length_cons, avs_length, wsum]
   have : x.w = 1 := by cases x <;> first | rfl | (simp [SV.isVec] at hx; done)
   omega
  | true =>
   cases x <;> first | (simp [SV.isVec] at hx; done) | skip
   rename_i n e v
   rw [avs_vec, List.length_append, avs_length, wsum, flat_length, Vector.length_toList, SV.w, e.lay_sz]
end
def cutAt : Nat → List SV → Option (List SV × List SV)
 | n, [] => if n = 0 then some ([], []) else none
 | n, x :: r => if n = 0 then some ([], x :: r) else if x.w ≤ n then match cutAt (n - x.w) r with
  | some (a, b) => some (x :: a, b)
  | none => none else none
theorem cutAt_some : ∀ {l a b : List SV} {n : Nat}, cutAt n l = some (a, b) → l = a ++ b ∧ wsum a = n
 | [], a, b, n, h => by
  simp only [cutAt] at h
  split at h
  ·cases h; exact ⟨rfl, by simp [wsum]; omega⟩
  ·cases h
 | x :: r, a, b, n, h => by
  simp only [cutAt] at h
  split at h
  ·cases h; exact ⟨rfl, by simp [wsum]; omega⟩
  ·split at h
   ·rename_i hle
    split at h
    ·rename_i a' b' hc
     cases h
     obtain ⟨h1, h2⟩ := cutAt_some hc
     exact ⟨by rw [h1, List.cons_append], by simp only [wsum]; omega⟩
    ·cases h
   ·cases h
def part3 (o n : Nat) (l : List SV) : Option (List SV × List SV × List SV) :=
 match cutAt o l with
 | some (a, r) => match cutAt n r with
  | some (b, c) => some (a, b, c)
  | none => none
 | none => none
theorem part3_some {o n : Nat} {l a b c : List SV} (h : part3 o n l = some (a, b, c)) : l = a ++ b ++ c ∧ wsum a = o ∧ wsum b = n := by
 unfold part3 at h
 split at h <;> try (cases h; done)
 rename_i a' r h1
 split at h <;> try (cases h; done)
 rename_i b' c' h2
 cases h
 obtain ⟨e1, e2⟩ := cutAt_some h1
 obtain ⟨e3, e4⟩ := cutAt_some h2
 exact ⟨by rw [e1, e3, List.append_assoc], e2, e4⟩
def Ty.un : (t : Ty) → t.den → List SV
 | .int k, n => [.lit (.int k n)]
 | .bool, b => [.lit (.bool b)]
 | .str, s => [.lit (.string s)]
 | .list e, xs => [.sl .perm e xs]
 | .pair a b, x => a.un x.1 ++ b.un x.2
 | .arr n e, v => [.vec n e v]
theorem Ty.un_cells {ν : Nm} {H : SHp} : ∀ (t : Ty) (x : t.den), avs ν H (t.un x) = t.lay.cells x
 | .int k, n => by simp only [Ty.un, Ty.lay, lI]; rw [avs_one rfl, avs_nil]; simp [SV.av]
 | .bool, b => by simp only [Ty.un, Ty.lay, lB]; rw [avs_one rfl, avs_nil]; simp [SV.av]
 | .str, s => by simp only [Ty.un, Ty.lay, lStr]; rw [avs_one rfl, avs_nil]; simp [SV.av]
 | .list e, xs => by simp only [Ty.un, Ty.lay, lS]; rw [avs_one rfl, avs_nil]; simp [SV.av, OwnI.of, eS]
 | .pair a b, x => by simp only [Ty.un, Ty.lay, lP]; rw [avs_append, un_cells a, un_cells b]
 | .arr n e, v => by simp only [Ty.un, Ty.lay, lV]; rw [avs_vec, avs_nil, List.append_nil]
def pks {α : Type} (f : List SV → Option (α × List SV)) : Nat → List SV → Option (List α)
 | _, [] => some []
 | 0, _ :: _ => none
 | k + 1, x :: l => match f (x :: l) with
  | some (y, r) => match pks f k r with
   | some ys => some (y :: ys)
   | none => none
  | none => none
def pkn {α : Type} (f : List SV → Option (α × List SV)) : Nat → List SV → Option (List α × List SV)
 | 0, l => some ([], l)
 | k + 1, l => match f l with
  | some (y, r) => match pkn f k r with
   | some (ys, r) => some (y :: ys, r)
   | none => none
  | none => none
def vofl {α : Type} (n : Nat) (d : α) (xs : List α) : Vector α (n + 1) := Vector.ofFn fun i => xs.getD i d
theorem vofl_toList {α : Type} {n : Nat} {d : α} {xs : List α} (h : xs.length = n + 1) : (vofl n d xs).toList = xs := by
 refine List.ext_getElem (by simp [h]) fun i h1 h2 => ?_
 simp only [vofl, Vector.getElem_toList, Vector.getElem_ofFn]
 rw [List.getD_eq_getElem?_getD, List.getElem?_eq_getElem h2]; rfl
def Ty.pk (H : SHp) : (t : Ty) → List SV → Option (t.den × List SV)
 | .int k, l => match l with
  | .lit (.int k' n) :: r => if k' = k then some (n, r) else none
  | _ => none
 | .bool, l => match l with
  | .lit (.bool b) :: r => some (b, r)
  | _ => none
 | .str, l => match l with
  | .lit (.string s) :: r => some (s, r)
  | _ => none
 | .list e, l => match l with
  | .sl .perm e' xs :: r => if h : e' = e then some (h ▸ xs, r) else none
  | .sl .young e' xs :: r => if h : e' = e then some (h ▸ xs, r) else none
  | .sl (.tip _ _) e' xs :: r => if h : e' = e then some (h ▸ xs, r) else none
  | .cur m :: r => match hget H m with
   | some (.tip true e' xs) => if h : e' = e then some (h ▸ xs, r) else none
   | _ => none
  | .lit (.slice none 0 0) :: r => some ([], r)
  | .empt :: r => some ([], r)
  | .row sz cs :: r => if sz = e.sz then match pks (fun l => e.pk H l) cs.length cs with
   | some xs => some (xs, r)
   | none => none else none
  | _ => none
 | .pair a b, l => match a.pk H l with
  | some (x, r) => match b.pk H r with
   | some (y, r) => some ((x, y), r)
   | none => none
  | none => none
 | .arr n e, l => match l with
  | .vec n' e' v :: r => if h : n' = n ∧ e' = e then some (h.1 ▸ h.2 ▸ v, r) else none
  | l => match pkn (fun l => e.pk H l) (n + 1) l with
   | some (xs, r) => some (vofl n e.dflt xs, r)
   | none => none
theorem SubL.append {as bs cs ds : List AV} (h : SubL as bs) (k : SubL cs ds) : SubL (as ++ cs) (bs ++ ds) := by
 induction h with
 | nil => exact k
 | cons h _ ih => exact .cons h ih
theorem Sub.trans {a b c : AV} (h : Sub a b) (k : Sub b c) : Sub a c := fun K v hv => k K v (h K v hv)
theorem Sub.slYoung {sz : Nat} {cs : List AV} : Sub (.slice .young sz cs) (.slice .perm sz cs) := by
 intro K v h
 simp only [SimV] at h ⊢
 obtain ⟨a, len, cap, rfl, h1, h2, h3, h4⟩ := h
 refine ⟨a, len, cap, rfl, h1, h2, h3, ?_⟩
 rcases h4 with ⟨h5, h6⟩ | ⟨b, o, rfl, h5, _⟩
 ·exact .inl ⟨h5, h6⟩
 ·exact .inr ⟨b, o, rfl, h5, trivial⟩
theorem Sub.slTip {n : Name} {k sz : Nat} {cs : List AV} : Sub (.slice (.tip n k) sz cs) (.slice .perm sz cs) := Sub.slice rfl (fun _ _ _ h => h.1)
theorem Sub.slCells {own : Own} {sz : Nat} {as bs : List AV} (h : SubL as bs) (ho : ∀ K b o c, TipOk K b o as.length c own → TipOk K b o bs.length c own) : Sub (.slice own sz as) (.slice own sz bs) := by
 intro K v hv
 simp only [SimV] at hv ⊢
 obtain ⟨a, len, cap, rfl, h1, h2, h3, h4⟩ := hv
 refine ⟨a, len, cap, rfl, by rw [h1, h.length], h2, h3, ?_⟩
 rcases h4 with ⟨rfl, h5⟩ | ⟨b, o, rfl, h5, h6⟩
 ·cases h; exact .inl ⟨rfl, h5⟩
 ·exact .inr ⟨b, o, rfl, SimC_sub h h5, ho _ _ _ _ h6⟩
section
variable {ν : Nm} {H : SHp}
theorem pks_sub {α : Type} {L : Lay α} {f : List SV → Option (α × List SV)} (hf : ∀ l x r, f l = some (x, r) → ∃ u, l = u ++ r ∧ SubL (avs ν H u) (L.cells x)) :
  ∀ (k : Nat) (l : List SV) (xs : List α), pks f k l = some xs → SubL (avs ν H l) (flat L xs)
 | _, [], xs, h => by
  cases ‹Nat› <;> simp only [pks, Option.some.injEq] at h <;> subst h <;> rw [avs_nil] <;> exact .nil
 | 0, _ :: _, xs, h => by simp [pks] at h
 | k + 1, x :: l, xs, h => by
  simp only [pks] at h
  split at h <;> try (cases h; done)
  rename_i y r h1
  split at h <;> try (cases h; done)
  rename_i ys h2
  cases h
  obtain ⟨u, e1, e2⟩ := hf _ _ _ h1
  rw [e1, avs_append, flat_cons]
  exact e2.append (pks_sub hf k r ys h2)
theorem pkn_sub {α : Type} {L : Lay α} {f : List SV → Option (α × List SV)} (hf : ∀ l x r, f l = some (x, r) → ∃ u, l = u ++ r ∧ SubL (avs ν H u) (L.cells x)) :
  ∀ (k : Nat) (l r : List SV) (xs : List α), pkn f k l = some (xs, r) → xs.length = k ∧ ∃ u, l = u ++ r ∧ SubL (avs ν H u) (flat L xs)
 | 0, l, r, xs, h => by
  simp only [pkn, Option.some.injEq, Prod.mk.injEq] at h
  obtain ⟨rfl, rfl⟩ := h
  exact ⟨rfl, [], rfl, by rw [avs_nil]; exact .nil⟩
 | k + 1, l, r, xs, h => by
  simp only [pkn] at h
  split at h <;> try (cases h; done)
  rename_i y r1 h1
  split at h <;> try (cases h; done)
  rename_i ys r2 h2
  cases h
  obtain ⟨u, e1, e2⟩ := hf _ _ _ h1
  obtain ⟨h3, v, e3, e4⟩ := pkn_sub hf k _ _ _ h2
  refine ⟨by simp [h3], u ++ v, by rw [e1, e3, List.append_assoc], ?_⟩
  rw [avs_append, flat_cons]
  exact e2.append e4
theorem Ty.pk_sub : ∀ {t : Ty} {l r : List SV} {x : t.den}, t.pk H l = some (x, r) → ∃ u, l = u ++ r ∧ SubL (avs ν H u) (t.lay.cells x)
 | .int k, l, r, x, h => by
  simp only [Ty.pk] at h
  split at h <;> try (cases h; done)
  split at h <;> try (cases h; done)
  rename_i hk
  cases h; subst hk
  exact ⟨[_], rfl, by rw [avs_one rfl, avs_nil]; simp only [SV.av]; exact SubL.refl⟩
 | .bool, l, r, x, h => by
  simp only [Ty.pk] at h
  split at h <;> try (cases h; done)
  cases h
  exact ⟨[_], rfl, by rw [avs_one rfl, avs_nil]; simp only [SV.av]; exact SubL.refl⟩
 | .str, l, r, x, h => by
  simp only [Ty.pk] at h
  split at h <;> try (cases h; done)
  cases h
  exact ⟨[_], rfl, by rw [avs_one rfl, avs_nil]; simp only [SV.av]; exact SubL.refl⟩
 | .list e, l, r, x, h => by
  simp only [Ty.pk] at h
  split at h <;> try (cases h; done)
  ·split at h <;> try (cases h; done)
   rename_i hk
   subst hk; cases h
   exact ⟨[_], rfl, by rw [avs_one rfl, avs_nil]; simp only [SV.av, OwnI.of]; exact SubL.refl⟩
  ·split at h <;> try (cases h; done)
   rename_i hk
   subst hk; cases h
   exact ⟨[_], rfl, by rw [avs_one rfl, avs_nil]; simp only [SV.av, OwnI.of]; exact .cons Sub.slYoung .nil⟩
  ·split at h <;> try (cases h; done)
   rename_i hk
   subst hk; cases h
   exact ⟨[_], rfl, by rw [avs_one rfl, avs_nil]; simp only [SV.av, OwnI.of]; exact .cons Sub.slTip .nil⟩
  ·split at h <;> try (cases h; done)
   rename_i hc
   split at h <;> try (cases h; done)
   rename_i hk
   subst hk; cases h
   refine ⟨[_], rfl, ?_⟩
   rw [avs_one rfl, avs_nil]
   simp only [SV.av, curAV, hc]
   exact .cons Sub.tip .nil
  ·cases h
   exact ⟨[_], rfl, by rw [avs_one rfl, avs_nil]; simp only [SV.av]; exact .cons Sub.nil .nil⟩
  ·cases h
   exact ⟨[_], rfl, by rw [avs_one rfl, avs_nil]; simp only [SV.av]; exact .cons Sub.empt .nil⟩
  ·split at h <;> try (cases h; done)
   rename_i hz
   split at h <;> try (cases h; done)
   rename_i xs hp
   cases h; subst hz
   refine ⟨[_], rfl, ?_⟩
   rw [avs_one rfl, avs_nil]
   simp only [SV.av]
   have hs := pks_sub (ν := ν) (H := H) (L := e.lay) (fun l x r h => Ty.pk_sub h) _ _ _ hp
   refine .cons (Sub.trans (Sub.slCells hs fun _ _ _ _ h => h) ?_) .nil
   rw [← e.lay_sz]
   exact Sub.slYoung
 | .pair a b, l, r, x, h => by
  simp only [Ty.pk] at h
  split at h <;> try (cases h; done)
  rename_i x1 r1 h1
  split at h <;> try (cases h; done)
  rename_i y1 r2 h2
  cases h
  obtain ⟨u1, e1, s1⟩ := Ty.pk_sub h1
  obtain ⟨u2, e2, s2⟩ := Ty.pk_sub h2
  exact ⟨u1 ++ u2, by rw [e1, e2, List.append_assoc], by rw [avs_append]; exact s1.append s2⟩
 | .arr n e, l, r, x, h => by
  simp only [Ty.pk] at h
  split at h
  ·split at h <;> try (cases h; done)
   rename_i hk
   obtain ⟨hk1, hk2⟩ := hk
   subst hk1; subst hk2; cases h
   exact ⟨[_], rfl, by rw [avs_vec, avs_nil, List.append_nil]; exact SubL.refl⟩
  ·split at h <;> try (cases h; done)
   rename_i xs r' hp
   cases h
   obtain ⟨h1, u, h2, h3⟩ := pkn_sub (ν := ν) (H := H) (L := e.lay) (fun l x r h => Ty.pk_sub h) _ _ _ _ hp
   refine ⟨u, h2, ?_⟩
   show SubL _ (flat e.lay (vofl n e.dflt xs).toList)
   rw [vofl_toList h1]; exact h3
end
end Go.Al
