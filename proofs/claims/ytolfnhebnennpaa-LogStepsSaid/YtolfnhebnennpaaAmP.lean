import Derived.Test.YtolfnhebnennpaaAmO
set_option linter.unusedSimpArgs false
set_option linter.unusedVariables false
namespace Go.Al
open Go Go.RowKit
def zrep (f : List Value → Option (List Value)) : Nat → List Value → Option (List Value)
 | 0, l => some l
 | k + 1, l => match f l with
  | some r => zrep f k r
  | none => none
def Ty.zz : Ty → List Value → Option (List Value)
 | .int k, l => match l with
  | .int k' n :: r => if k' = k ∧ n = 0 then some r else none
  | _ => none
 | .bool, l => match l with
  | .bool false :: r => some r
  | _ => none
 | .str, l => match l with
  | .string ⟨⟨[]⟩⟩ :: r => some r
  | _ => none
 | .list _, _ => none
 | .pair a b, l => match a.zz l with
  | some r => b.zz r
  | none => none
 | .arr n e, l => zrep (fun l => e.zz l) (n + 1) l
theorem zrep_ok {α : Type} {L : Lay α} {x : α} {f : List Value → Option (List Value)} (hf : ∀ l r, f l = some r → ∃ u, l = u ++ r ∧ u.map AV.lit = L.cells x) :
  ∀ {k : Nat} {l r : List Value}, zrep f k l = some r → ∃ u, l = u ++ r ∧ u.map AV.lit = flat L (List.replicate k x)
 | 0, l, r, h => by cases h; exact ⟨[], rfl, rfl⟩
 | k + 1, l, r, h => by
  simp only [zrep] at h
  split at h <;> try (cases h; done)
  rename_i r1 h1
  obtain ⟨u, e1, e2⟩ := hf _ _ h1
  obtain ⟨v, e3, e4⟩ := zrep_ok hf h
  exact ⟨u ++ v, by rw [e1, e3, List.append_assoc], by rw [List.map_append, e2, e4, List.replicate_succ, flat_cons]⟩
theorem Ty.zz_ok : ∀ {t : Ty} {l r : List Value}, t.zz l = some r → ∃ u, l = u ++ r ∧ u.map AV.lit = t.lay.cells t.dflt
 | .int k, l, r, h => by
  simp only [Ty.zz] at h
  split at h <;> try (cases h; done)
  split at h <;> try (cases h; done)
  rename_i hk
  obtain ⟨rfl, rfl⟩ := hk
  cases h
  exact ⟨[_], rfl, rfl⟩
 | .bool, l, r, h => by
  simp only [Ty.zz] at h
  split at h <;> try (cases h; done)
  cases h
  exact ⟨[_], rfl, rfl⟩
 | .str, l, r, h => by
  simp only [Ty.zz] at h
  split at h <;> try (cases h; done)
  cases h
  exact ⟨[_], rfl, rfl⟩
 | .list _, l, r, h => by simp [Ty.zz] at h
 | .pair a b, l, r, h => by
  simp only [Ty.zz] at h
  split at h <;> try (cases h; done)
  rename_i r1 h1
  obtain ⟨u, e1, e2⟩ := zz_ok h1
  obtain ⟨v, e3, e4⟩ := zz_ok h
  exact ⟨u ++ v, by rw [e1, e3, List.append_assoc], by rw [List.map_append, e2, e4]; rfl⟩
 | .arr n e, l, r, h => by
  simp only [Ty.zz] at h
  obtain ⟨u, e1, e2⟩ := zrep_ok (L := e.lay) (x := e.dflt) (fun l r h => zz_ok h) h
  refine ⟨u, e1, ?_⟩
  rw [e2]
  show _ = flat e.lay (Vector.replicate (n + 1) e.dflt).toList
  rw [Vector.toList_replicate]
def tyFs (f : TypeId → Option Ty) : List (Nat × TypeId) → Option Ty
 | [] => none
 | [q] => f q.2
 | q :: r => match f q.2, tyFs f r with
  | some a, some b => some (.pair a b)
  | _, _ => none
def isZ : Option (List Value) → Bool
 | some [] => true
 | _ => false
def tyOf (T : Tab) : Nat → TypeId → Option Ty
 | 0, _ => none
 | k + 1, t => match T t with
  | some i => match (match i.d with
    | .int k => some (.int k)
    | .bool => some .bool
    | .string => some .str
    | .slice e => (tyOf T k e).map .list
    | .array n e => match n, tyOf T k e with
     | n + 1, some y => some (.arr n y)
     | _, _ => none
    | .struct fs => tyFs (tyOf T k) fs
    | _ => none : Option Ty) with
   | some y => if y.sz == i.size && (!y.ex || isZ (y.zz i.zero)) then some y else none
   | none => none
  | none => none
theorem tyOf_ok {T : Tab} {k : Nat} {t : TypeId} {y : Ty} {i : TI} (h : tyOf T k t = some y) (hi : T t = some i) : y.sz = i.size ∧ (y.ex = true → i.zero.map AV.lit = y.lay.cells y.dflt) := by
 cases k with
 | zero => simp [tyOf] at h
 | succ k =>
  simp only [tyOf, hi] at h
  split at h <;> try (cases h; done)
  split at h <;> try (cases h; done)
  rename_i hc
  cases h
  simp only [Bool.and_eq_true, beq_iff_eq] at hc
  refine ⟨hc.1, fun he => ?_⟩
  have h2 := hc.2
  rw [he] at h2
  simp only [Bool.not_true, Bool.false_or] at h2
  unfold isZ at h2
  split at h2 <;> try (cases h2; done)
  rename_i hz
  obtain ⟨u, e1, e2⟩ := Ty.zz_ok hz
  rw [e1, List.append_nil, e2]
def zOf (T : Tab) (k : Nat) (t : TypeId) : Option (List SV) := match tyOf T k t with
 | some y => if y.hasArr && y.ex then some (y.un y.dflt) else none
 | none => none
theorem zOf_ok {T : Tab} {k : Nat} : ZOk T (zOf T k) := by
 intro t i cs hi hc ν H
 unfold zOf at hc
 split at hc <;> try (cases hc; done)
 rename_i y hy
 split at hc <;> try (cases hc; done)
 rename_i he
 cases hc
 simp only [Bool.and_eq_true] at he
 rw [Ty.un_cells, (tyOf_ok hy hi).2 he.2]
def envC {P : Program} (T : Tab) (Φ : Nat → FuncId × List AV × List AV) (Γ : (g : FuncId) → Option (Cal P Φ g id)) (Ξ : (i : Nat) → Option (Cal P Φ (Φ i).1 fun l => (Φ i).2.1 ++ l ++ (Φ i).2.2)) (Ω : FuncId → Option Ty) : Env P :=
 ⟨T, zOf T 6, tyOf T 6, Φ, Γ, Ξ, Ω, false⟩
theorem envC_ok {P : Program} {T : Tab} (hT : TOk P T) {Φ Γ Ξ Ω} (h : ChOk P Ω) : EnvOk (envC (P := P) T Φ Γ Ξ Ω) := ⟨hT, zOf_ok, fun _ _ _ hy hi => tyOf_ok hy hi, h⟩
def envB {P : Program} (T : Tab) (Φ : Nat → FuncId × List AV × List AV) (Γ : (g : FuncId) → Option (Cal P Φ g id)) (Ξ : (i : Nat) → Option (Cal P Φ (Φ i).1 fun l => (Φ i).2.1 ++ l ++ (Φ i).2.2)) (Ω : FuncId → Option Ty) : Env P :=
 ⟨T, zOf T 6, tyOf T 6, Φ, Γ, Ξ, Ω, true⟩
theorem envB_ok {P : Program} {T : Tab} (hT : TOk P T) {Φ Γ Ξ Ω} (h : ChOk P Ω) : EnvOk (envB (P := P) T Φ Γ Ξ Ω) := ⟨hT, zOf_ok, fun _ _ _ hy hi => tyOf_ok hy hi, h⟩
def cfind {P : Program} {Φ : Nat → FuncId × List AV × List AV} : List ((g : FuncId) × Cal P Φ g id) → (g : FuncId) → Option (Cal P Φ g id)
 | [], _ => none
 | c :: r, g => if h : c.1 = g then some (h ▸ c.2) else cfind r g
def Env.noY {P : Program} (E : Env P) (l : List TypeId) : Env P := { E with Y := fun t => if l.contains t then none else E.Y t }
theorem noY_ok {P : Program} {E : Env P} (h : EnvOk E) (l : List TypeId) : EnvOk (E.noY l) :=
 ⟨h.T, h.Z, fun t y i hy hi => by
  simp only [Env.noY] at hy
  split at hy
  ·cases hy
  ·exact h.Y t y i hy hi, h.C⟩
end Go.Al
