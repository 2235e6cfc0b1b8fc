import Derived.Test.YtolfnhebnennpaaAmF
set_option linter.unusedSimpArgs false
set_option linter.unusedVariables false
namespace Go.Al
open Go Go.RowKit
def CallOk (P : Program) (d : Nat) (g : FuncId) (as : List AV) (S : AHeap) (c : Nat) (kv : AV → AHeap → Nat → Prop) (kp : AV → AHeap → Prop) : Prop :=
 ∃ as' S1 c1, GhostL d as S c as' S1 c1 ∧ AC P g as' S1 fun e S' => (∀ n : Name, n.1 ≤ d → S1 n = none → S' n = none) → match e with
  | .ret v => ∃ v' S2 c2, GhostL d [v] S' c1 [v'] S2 c2 ∧ kv v' S2 c2
  | .pan v => kp v S'
def Unt2 (ν ν' : Nm) (F : Fr) (S0 : AHeap) (tl : List Id) (st st' : SS) : Prop :=
 (∀ x ∈ SHp.ids (st.H F), x ∉ tl → heapOf ν' F st' S0 (ν x) = heapOf ν F st S0 (ν x)) ∧ ∀ n len, heapOf ν F st S0 n = some (.buf len) → ∃ len', heapOf ν' F st' S0 n = some (.buf len')
abbrev Unt (ν : Nm) (F : Fr) (S0 : AHeap) (tl : List Id) (st st' : SS) : Prop := Unt2 ν ν F S0 tl st st'
def Same2 (ν ν' : Nm) (F : Fr) (st st' : SS) : Prop := ∀ i, (st'.at F i).av ν' (st'.H F) = (st.at F i).av ν (st.H F)
def lowI (F : Fr) (st : SS) (m : Id) : Bool := !(m.1 == F.lv && decide (st.nx ≤ m.2))
structure Nx (ν ν' : Nm) (F : Fr) (st : SS) : Prop where
 fn : ν'.fn = ν.fn
 eq : ∀ m, lowI F st m = true → ν' m = ν m
theorem Nx.refl {ν : Nm} {F : Fr} {st : SS} : Nx ν ν F st := ⟨rfl, fun _ _ => rfl⟩
structure Cal (P : Program) (Φ : Nat → FuncId × List AV × List AV) (g : FuncId) (wrap : List AV → List AV) where
 run : {A : Type} → Fr → List SV → SS → (SV → SS → Option A) → Option A
 touch : SHp → List SV → List Id
 pur : {A : Type} → SHp → List SV → (SV → Option A) → Option A
 pur_ok : ∀ {A : Type} {H : SHp} {ν : Nm} {as : List SV} {k : SV → Option A} {r : A}, ν.fn = Φ → pur H as k = some r → ∃ v, k v = some r ∧ ∀ S, AC P g (wrap (avl ν H as)) S fun r' S' => r' = .ret (v.av ν H) ∧ S' = S
 ok : ∀ {A : Type} {pr : List (Id × Name)} {df : Nat} {S0 : AHeap} {F : Fr} {st : SS} {ν : Nm} {d : Nat} {as : List SV} {k : SV → SS → Option A} {r : A} {kv : AV → AHeap → Nat → Prop} {kp : AV → AHeap → Prop},
  ν.fn = Φ → Okk pr df S0 F st ν d → run F as st k = some r →
  (∀ ν' v st', Nx ν ν' F st → Okk pr df S0 F st' ν' d → k v st' = some r → Same2 ν ν' F st st' → Unt2 ν ν' F S0 (touch (st.H F) as) st st' → kv (v.av ν' (st'.H F)) (heapOf ν' F st' S0) st'.nx) →
  CallOk P d g (wrap (avl ν (st.H F) as)) (heapOf ν F st S0) st.nx kv kp
structure Env (P : Program) where
 T : Tab
 Z : TypeId → Option (List SV)
 Y : TypeId → Option Ty
 Φ : Nat → FuncId × List AV × List AV
 Γ : (g : FuncId) → Option (Cal P Φ g id)
 Ξ : (i : Nat) → Option (Cal P Φ (Φ i).1 fun l => (Φ i).2.1 ++ l ++ (Φ i).2.2)
 Ω : FuncId → Option Ty
 eb : Bool := false
def Ty.ex : Ty → Bool
 | .int _ => true
 | .bool => true
 | .str => true
 | .list _ => false
 | .pair a b => a.ex && b.ex
 | .arr _ e => e.ex
def chunks {α : Type} (k : Nat) (xs : List α) : List (List α) := (List.range ((xs.length + k - 1) / k)).map fun i => (xs.drop (i * k)).take k
def ChOk (P : Program) (Ω : FuncId → Option Ty) : Prop := ∀ f e, Ω f = some e → ∀ (n : Int) (xs : List e.den), 0 < n → n < 2 ^ 32 → xs.length < 2 ^ 62 → ItOk P (.fn (.func f) [] [.rptr .perm [eS e.lay xs], .rptr .perm [.lit (.int .i64 n)]]) ((chunks n.toNat xs).map (eS e.lay))
structure EnvOk {P : Program} (E : Env P) : Prop where
 T : TOk P E.T
 Z : ZOk E.T E.Z
 Y : ∀ t y i, E.Y t = some y → E.T t = some i → y.sz = i.size ∧ (y.ex = true → i.zero.map AV.lit = y.lay.cells y.dflt)
 C : ChOk P E.Ω
def Ty.pkx (H : SHp) : (t : Ty) → List SV → Option (t.den × List SV)
 | .int k, l => match l with
  | .lit (.int k' n) :: r => if k' = k then some (n, r) else none
  | _ => none
 | .bool, l => match l with
  | .lit (.bool b) :: r => some (b, r)
  | _ => none
 | .str, l => match l with
  | .lit (.string s) :: r => some (s, r)
  | _ => none
 | .list e, l => match l with
  | .sl .perm e' xs :: r => if h : e' = e then some (h ▸ xs, r) else none
  | _ => none
 | .pair a b, l => match a.pkx H l with
  | some (x, r) => match b.pkx H r with
   | some (y, r) => some ((x, y), r)
   | none => none
  | none => none
 | .arr n e, l => match l with
  | .vec n' e' v :: r => if h : n' = n ∧ e' = e then some (h.1 ▸ h.2 ▸ v, r) else none
  | _ => none
section
variable {ν : Nm} {H : SHp}
theorem Ty.pkx_eq : ∀ {t : Ty} {l r : List SV} {x : t.den}, t.pkx H l = some (x, r) → ∃ u, l = u ++ r ∧ avs ν H u = t.lay.cells x
 | .int k, l, r, x, h => by
  simp only [Ty.pkx] at h
  split at h <;> try (cases h; done)
  split at h <;> try (cases h; done)
  rename_i hk
  cases h; subst hk
  exact ⟨[_], rfl, by rw [avs_one rfl, avs_nil]; simp only [SV.av]; rfl⟩
 | .bool, l, r, x, h => by
  simp only [Ty.pkx] at h
  split at h <;> try (cases h; done)
  cases h
  exact ⟨[_], rfl, by rw [avs_one rfl, avs_nil]; simp only [SV.av]; rfl⟩
 | .str, l, r, x, h => by
  simp only [Ty.pkx] at h
  split at h <;> try (cases h; done)
  cases h
  exact ⟨[_], rfl, by rw [avs_one rfl, avs_nil]; simp only [SV.av]; rfl⟩
 | .list e, l, r, x, h => by
  simp only [Ty.pkx] at h
  split at h <;> try (cases h; done)
  split at h <;> try (cases h; done)
  rename_i hk
  subst hk; cases h
  exact ⟨[_], rfl, by rw [avs_one rfl, avs_nil]; simp only [SV.av, OwnI.of]; rfl⟩
 | .pair a b, l, r, x, h => by
  simp only [Ty.pkx] at h
  split at h <;> try (cases h; done)
  rename_i x1 r1 h1
  split at h <;> try (cases h; done)
  rename_i y1 r2 h2
  cases h
  obtain ⟨u1, e1, s1⟩ := Ty.pkx_eq h1
  obtain ⟨u2, e2, s2⟩ := Ty.pkx_eq h2
  exact ⟨u1 ++ u2, by rw [e1, e2, List.append_assoc], by rw [avs_append, s1, s2]; rfl⟩
 | .arr n e, l, r, x, h => by
  simp only [Ty.pkx] at h
  split at h <;> try (cases h; done)
  split at h <;> try (cases h; done)
  rename_i hk
  obtain ⟨hk1, hk2⟩ := hk
  subst hk1; subst hk2; cases h
  exact ⟨[_], rfl, by rw [avs_vec, avs_nil, List.append_nil]; rfl⟩
theorem pks_eq {α : Type} {L : Lay α} {f : List SV → Option (α × List SV)} (hf : ∀ l x r, f l = some (x, r) → ∃ u, l = u ++ r ∧ avs ν H u = L.cells x) :
  ∀ (k : Nat) (l : List SV) (xs : List α), pks f k l = some xs → avs ν H l = flat L xs
 | _, [], xs, h => by
  cases ‹Nat› <;> simp only [pks, Option.some.injEq] at h <;> subst h <;> rw [avs_nil] <;> rfl
 | 0, _ :: _, xs, h => by simp [pks] at h
 | k + 1, x :: l, xs, h => by
  simp only [pks] at h
  split at h <;> try (cases h; done)
  rename_i y r h1
  split at h <;> try (cases h; done)
  rename_i ys h2
  cases h
  obtain ⟨u, e1, e2⟩ := hf _ _ _ h1
  rw [e1, avs_append, flat_cons, e2, pks_eq hf k r ys h2]
end
def ssrc (H : SHp) (e : Ty) (x : SV) : Option (List e.den) :=
 match x with
 | .lit (.slice none 0 0) => some []
 | .empt => some []
 | .row sz cs => if sz = e.sz then pks (fun l => e.pkx H l) cs.length cs else none
 | .lit (.string s) => match e with
  | .int .u8 => some (bytesOf s)
  | _ => none
 | .sref m sz o len _ => match hget H m with
  | some (.arr e' xs) => if h : e' = e then if sz = 1 ∧ e.sz = 1 then some (((h ▸ xs : List e.den).drop o).take len) else none else none
  | some (.box [.vec n e' v]) => if h : e' = e then if sz = 1 ∧ e.sz = 1 ∧ o + len ≤ n + 1 then some (((h ▸ v.toList : List e.den).drop o).take len) else none else none
  | _ => none
 | x => match lview H x with
  | some (o, ⟨e', xs⟩) => if h : e' = e then if o.alive H then some (h ▸ xs) else none else none
  | none => none
section
variable {ν : Nm} {H : SHp} {S : AHeap}
def srcOk (H : SHp) (x : SV) : Prop :=
 match x with
 | .sref m _ o len _ => match hget H m with
  | some (.arr e' xs) => o + len ≤ xs.length
  | _ => True
 | _ => True
def sgd (H : SHp) {A : Type} (x : SV) (k : Option A) : Option A :=
 match x with
 | .sref m _ o len _ => match hget H m with
  | some (.arr e' xs) => gdd (o + len ≤ xs.length) fun _ => k
  | _ => k
 | _ => k
omit H in
theorem sgd_some {H : SHp} {A : Type} {x : SV} {k : Option A} {r : A} (h : sgd H x k = some r) : srcOk H x ∧ k = some r := by
 cases x <;> try exact ⟨trivial, h⟩
 rename_i m sz o len cap
 simp only [sgd, srcOk] at h ⊢
 cases hm : hget H m with
 | none => rw [hm] at h; exact ⟨trivial, h⟩
 | some q =>
  rw [hm] at h
  cases q with
  | box cs => exact ⟨trivial, h⟩
  | tip pm e xs => exact ⟨trivial, h⟩
  | arr e xs => obtain ⟨h1, h2⟩ := gdd_some h; exact ⟨h1, h2⟩
  | obox b cs => exact ⟨trivial, h⟩
theorem ssrc_av (hS : HOk ν H S) {e : Ty} {x : SV} {ys : List e.den} (h : ssrc H e x = some ys) (hok : srcOk H x) : ∃ p, asrc S e.lay.sz (x.av ν H) = some (p, flat e.lay ys) ∧ p := by
 unfold ssrc at h
 split at h
 ·cases h; exact ⟨True, by simp only [SV.av, asrc]; rfl, trivial⟩
 ·cases h; exact ⟨True, by simp only [SV.av, asrc]; rfl, trivial⟩
 ·rename_i sz cs
  split at h <;> try (cases h; done)
  rename_i hz
  subst hz
  refine ⟨True ∧ e.sz = e.lay.sz, ?_, trivial, e.lay_sz.symm⟩
  simp only [SV.av, asrc, Own.alive]
  rw [pks_eq (ν := ν) (L := e.lay) (fun l x r h => Ty.pkx_eq h) _ _ _ h]
 ·split at h <;> try (cases h; done)
  cases h
  exact ⟨1 = 1, asrc_str, rfl⟩
 ·rename_i m sz o len cap
  split at h <;> try (cases h; done)
  ·rename_i e' xs hm
   split at h <;> try (cases h; done)
   rename_i he
   subst he
   split at h <;> try (cases h; done)
   rename_i hz
   cases h
   simp only [srcOk, hm] at hok
   have hl : e'.lay.sz = 1 := by rw [e'.lay_sz]; exact hz.2
   refine ⟨sz = e'.lay.sz ∧ o + len * e'.lay.sz ≤ (flat e'.lay xs).length, ?_, by rw [hl]; exact hz.1, by rw [flat_length, hl]; omega⟩
   simp only [SV.av, asrc, hS _ _ hm, SObj.ob]
   have h1 := flat_drop (L := e'.lay) (xs := xs) o
   have h2 := flat_take (L := e'.lay) (xs := xs.drop o) len
   rw [hl, Nat.mul_one] at h1 h2
   rw [hl, Nat.mul_one, h1, h2]
  ·rename_i n e' v hm
   split at h <;> try (cases h; done)
   rename_i he
   subst he
   split at h <;> try (cases h; done)
   rename_i hz
   cases h
   have hl : e'.lay.sz = 1 := by rw [e'.lay_sz]; exact hz.2.1
   refine ⟨sz = e'.lay.sz ∧ o + len * e'.lay.sz ≤ (flat e'.lay v.toList).length, ?_, by rw [hl]; exact hz.1, by rw [flat_length, hl, Vector.length_toList]; have := hz.2.2; omega⟩
   simp only [SV.av, asrc, hS _ _ hm, SObj.ob]
   rw [avs_vec, avs_nil, List.append_nil]
   have h1 := flat_drop (L := e'.lay) (xs := v.toList) o
   have h2 := flat_take (L := e'.lay) (xs := v.toList.drop o) len
   rw [hl, Nat.mul_one] at h1 h2
   rw [hl, Nat.mul_one, h1, h2]
 ·split at h <;> try (cases h; done)
  rename_i o e' xs hl
  split at h <;> try (cases h; done)
  rename_i he
  subst he
  split at h <;> try (cases h; done)
  rename_i hal
  cases h
  rw [lview_av hl]
  exact ⟨_, rfl, OwnI.alive_of hS hal, rfl⟩
end
def spl {α : Type} (q : Nat) (zs xs : List α) : List α := xs.take q ++ zs ++ xs.drop (q + zs.length)
theorem flat_spl {α : Type} {L : Lay α} {q : Nat} {zs xs : List α} (h : q + zs.length ≤ xs.length) (h1 : L.sz = 1) : splice q (flat L zs) (flat L xs) = flat L (spl q zs xs) := by
 have e1 : xs = xs.take q ++ (((xs.drop q).take zs.length) ++ xs.drop (q + zs.length)) := by
  rw [← List.drop_drop, List.take_append_drop, List.take_append_drop]
 conv => lhs; rw [e1]
 have hl : (xs.take q).length = q := by rw [List.length_take]; omega
 have hl2 : ((xs.drop q).take zs.length).length = zs.length := by rw [List.length_take, List.length_drop]; omega
 rw [flat_append, splice_append (by rw [flat_length, hl, h1, Nat.mul_one]), flat_append, splice_all _ _ (by rw [flat_length, flat_length, hl2]), spl, flat_append, flat_append, List.append_assoc]
def sdst (st : SS) (e : Ty) (m : Id) : Option (List e.den) :=
 match hget st.hp m with
 | some (.arr e' xs) => if h : e' = e then some (h ▸ xs) else none
 | some (.box [.vec n e' v]) => if h : e' = e then some (h ▸ v.toList) else none
 | _ => none
def sdstObj (st : SS) (e : Ty) (m : Id) (xs : List e.den) : Option SObj :=
 match hget st.hp m with
 | some (.arr _ _) => some (.arr e xs)
 | some (.box [.vec n _ _]) => some (.box [.vec n e (vofl n e.dflt xs)])
 | _ => none
variable {P : Program}
def seff (E : Env P) (F : Fr) {A : Type} (op : Op) (st : SS) (k : SV → SS → Option A) : Option A :=
 let ρ := st.ev F
 let H := st.H F
 match op with
 | .box _ x => match (ρ x).leaves H with
  | some ls => match st.new F (.box ls) with
   | some (id, st') => k (.ptr id 0) st'
   | none => none
  | none => none
 | .alloc t => match E.T t with
  | some i => match st.new F (.box (szero E.Z t i)) with
   | some (id, st') => k (.ptr id 0) st'
   | none => none
  | none => none
 | .store t a x => match ρ a, E.T t with
  | .ptr m o, some i => match hget st.hp m with
   | some (.box cs) => match (ρ x).leaves H with
    | some ls => if wsum ls = i.size then match part3 o i.size cs with
     | some (a, _, c) => match st.upd F m (.box (a ++ ls ++ c)) with
      | some st' => k .any st'
      | none => none
     | none => none else none
    | none => none
   | _ => none
  | .vp m o j s, some i => match (ρ x).leaves H with
   | some ls => match hget st.hp m with
    | some (.box cs) => match cutAt o cs with
     | some (a, .vec n e v :: r) => if e.sz = s ∧ i.size = s then match e.pkx H ls with
      | some (y, []) => gdd (j < n + 1) fun _ => match st.upd F m (.box (a ++ .vec n e (vset v j y) :: r)) with
       | some st' => k .any st'
       | none => none
      | _ => none else none
     | _ => none
    | some (.arr e xs) => if o = 0 ∧ e.sz = s ∧ i.size = s then match e.pkx H ls with
     | some (y, []) => gdd (j < xs.length) fun _ => match st.upd F m (.arr e (xs.set j y)) with
      | some st' => k .any st'
      | none => none
     | _ => none else none
    | _ => none
   | none => none
  | _, _ => none
 | .makeSlice t ln cp => match E.T t with
  | some ⟨.slice e, _, _, _⟩ => match E.T e, E.Y e with
   | some ei, some y => match opConst ln, ρ ln, ρ cp with
    | some z, _, .lit (.int _ m) => if z = 0 then gdd (0 ≤ m ∧ m * ei.bytes ≤ 2 ^ 47 ∧ m < 2 ^ 62) fun _ => match st.new F (.tip true y []) with
      | some (id, st') => k (.cur id) st'
      | none => none
     else if y.ex then gdd (0 ≤ z ∧ z = m ∧ z * ei.bytes ≤ 2 ^ 47 ∧ z < 2 ^ 62) fun _ => match st.new F (.arr y (List.replicate z.toNat y.dflt)) with
      | some (id, st') => k (.sref id y.sz 0 z.toNat z.toNat) st'
      | none => none else none
    | none, .lit (.int _ l), .lit (.int _ m) => if y.ex then gdd (0 ≤ l ∧ l = m ∧ l * ei.bytes ≤ 2 ^ 47 ∧ l < 2 ^ 62) fun _ => match st.new F (.arr y (List.replicate l.toNat y.dflt)) with
      | some (id, st') => k (.sref id y.sz 0 l.toNat l.toNat) st'
      | none => none else none
    | _, _, _ => none
   | _, _ => none
  | _ => none
 | .call ⟨.builtin .append, args, ts⟩ => match args.toList, ts.toList with
  | [s, x], [t, tx] => match E.T t, E.T tx with
   | some ⟨.slice te, _, _, _⟩, some tix => match E.T te, E.Y te with
    | some ei, some e => if (tix.d = .slice te ∨ tix.d = .string) ∧ e.sz = ei.size then match ssrc H e (ρ x) with
     | some ys => match ρ s with
      | .cur m => match hget st.hp m with
       | some (.tip _ e' xs) => if h : e' = e then
         gdd ((xs.length + ys.length) * ei.bytes ≤ 2 ^ 47 ∧ xs.length + ys.length < 2 ^ 63) fun _ => sgd H (ρ x) <| match st.grow F m e ((h ▸ xs) ++ ys) with
         | some st' => k (.cur m) st'
         | none => none
        else none
       | _ => none
      | .lit (.slice none 0 0) => gdd (ys.length * ei.bytes ≤ 2 ^ 47 ∧ ys.length < 2 ^ 63) fun _ => sgd H (ρ x) <| match st.new F (.tip false e ys) with
       | some (id, st') => k (.cur id) st'
       | none => none
      | .empt => gdd (ys.length * ei.bytes ≤ 2 ^ 47 ∧ ys.length < 2 ^ 63) fun _ => sgd H (ρ x) <| match st.new F (.tip (!E.eb) e ys) with
       | some (id, st') => k (.cur id) st'
       | none => none
      | _ => none
     | none => none else none
    | _, _ => none
   | _, _ => none
  | _, _ => none
 | .call ⟨.builtin .copy, args, ts⟩ => match args.toList, ts.toList with
  | [a, x], [t, tx] => match E.T t, E.T tx with
   | some ⟨.slice te, _, _, _⟩, some tix => match E.T te, E.Y te, ρ a with
    | some ei, some e, .sref m sz o len _ => if (tix.d = .slice te ∨ tix.d = .string) ∧ e.sz = 1 ∧ ei.size = 1 ∧ sz = 1 then match ssrc H e (ρ x), sdst st e m with
     | some ys, some xs => gdd (o + len ≤ xs.length) fun _ => sgd H (ρ x) <| match sdstObj st e m (spl o (ys.take len) xs) with
      | some ob => match st.upd F m ob with
       | some st' => k (.lit (.int .i64 ((min ys.length len : Nat) : Int))) st'
       | none => none
      | none => none
     | _, _ => none else none
    | _, _, _ => none
   | _, _ => none
  | _, _ => none
 | .call ⟨.value f, args, _⟩ => match ρ f with
  | .fn (.func g) first cap => match E.Γ g with
   | some C => C.run F (first ++ args.toList.map ρ ++ cap) st k
   | none => none
  | .fx i => match E.Ξ i with
   | some C => C.run F (args.toList.map ρ) st k
   | none => none
  | _ => none
 | _ => none
def stouch (E : Env P) (F : Fr) (op : Op) (st : SS) : List Id :=
 let ρ := st.ev F
 match op with
 | .store _ a _ => match ρ a with
  | .ptr m _ => [m]
  | .vp m _ _ _ => [m]
  | _ => []
 | .call ⟨.builtin _, args, _⟩ => match args.toList with
  | a :: _ => match ρ a with
   | .cur m => [m]
   | .sref m _ _ _ _ => [m]
   | _ => []
  | _ => []
 | .call ⟨.value f, args, _⟩ => match ρ f with
  | .fn (.func g) first cap => match E.Γ g with
   | some C => C.touch (st.H F) (first ++ args.toList.map ρ ++ cap)
   | none => []
  | .fx i => match E.Ξ i with
   | some C => C.touch (st.H F) (args.toList.map ρ)
   | none => []
  | _ => []
 | _ => []
end Go.Al
