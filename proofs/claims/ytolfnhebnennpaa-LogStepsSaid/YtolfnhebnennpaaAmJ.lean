import Derived.Test.YtolfnhebnennpaaAmI
set_option linter.unusedSimpArgs false
set_option linter.unusedVariables false
namespace Go.Al
open Go Go.RowKit
def OwnI.mi (p : Id → Bool) : OwnI → Bool
 | .perm => true
 | .young => true
 | .tip m _ => p m
 | .buf m _ => p m
 | .sub o _ _ _ => o.mi p
mutual
def SV.mi (p q : Id → Bool) : SV → Bool
 | .sl o _ _ => o.mi p
 | .cur m => q m
 | .row _ cs => mil p q cs
 | .ptr m _ => p m
 | .vp m _ _ _ => p m
 | .rp o cs => o.mi p && mil p q cs
 | .sref m _ _ _ _ => p m
 | .agg cs => mil p q cs
 | .tup vs => mil p q vs
 | .fn _ a b => mil p q a && mil p q b
 | .ifc _ x => x.mi p q
 | .map m => p m
 | .opt _ m => p m
 | _ => true
def mil (p q : Id → Bool) : List SV → Bool
 | [] => true
 | x :: r => x.mi p q && mil p q r
end
def SObj.mi (p q : Id → Bool) : SObj → Bool
 | .box cs => mil p q cs
 | .obox _ cs => mil p q cs
 | _ => true
section
variable {ν ν' : Nm} {H H' : SHp} {p q : Id → Bool}
theorem OwnI.mi_congr (hp : ∀ m, p m = true → ν m = ν' m) : ∀ {o : OwnI}, o.mi p = true → o.of ν = o.of ν'
 | .perm, _ => rfl
 | .young, _ => rfl
 | .tip m e, h => by simp only [OwnI.mi] at h; simp only [OwnI.of]; rw [hp m h]
 | .buf m e, h => by simp only [OwnI.mi] at h; simp only [OwnI.of]; rw [hp m h]
 | .sub o l k n, h => by simp only [OwnI.mi] at h; simp only [OwnI.of]; rw [mi_congr hp h]
mutual
theorem SV.mi_congr (hp : ∀ m, p m = true → ν m = ν' m) (hq : ∀ m, q m = true → curAV ν H m = curAV ν' H' m) (hf : ν.fn = ν'.fn) : ∀ {v : SV}, v.mi p q = true → v.av ν H = v.av ν' H'
 | .any, _ => by simp only [SV.av]
 | .lit _, _ => by simp only [SV.av]
 | .empt, _ => by simp only [SV.av]
 | .sl o e xs, h => by simp only [SV.mi] at h; simp only [SV.av]; rw [OwnI.mi_congr hp h]
 | .cur m, h => by simp only [SV.mi] at h; simp only [SV.av]; exact hq m h
 | .own .., _ => by simp only [SV.av]
 | .row sz cs, h => by simp only [SV.mi] at h; simp only [SV.av]; rw [mil_avs hp hq hf h]
 | .ptr m o, h => by simp only [SV.mi] at h; simp only [SV.av]; rw [hp m h]
 | .vp m o i s, h => by simp only [SV.mi] at h; simp only [SV.av]; rw [hp m h]
 | .rp o cs, h => by simp only [SV.mi, Bool.and_eq_true] at h; simp only [SV.av]; rw [OwnI.mi_congr hp h.1, mil_avs hp hq hf h.2]
 | .vec .., _ => by simp only [SV.av]
 | .sref m sz o len cap, h => by simp only [SV.mi] at h; simp only [SV.av]; rw [hp m h]
 | .agg cs, h => by simp only [SV.mi] at h; simp only [SV.av]; rw [mil_avs hp hq hf h]
 | .tup vs, h => by simp only [SV.mi] at h; simp only [SV.av]; rw [mil_avl hp hq hf h]
 | .fn f a b, h => by simp only [SV.mi, Bool.and_eq_true] at h; simp only [SV.av]; rw [mil_avl hp hq hf h.1, mil_avl hp hq hf h.2]
 | .fx i, _ => by simp only [SV.av]; rw [hf]
 | .ifc t x, h => by simp only [SV.mi] at h; simp only [SV.av]; rw [SV.mi_congr hp hq hf h]
 | .map m, h => by simp only [SV.mi] at h; simp only [SV.av]; rw [hp m h]
 | .opt b m, h => by simp only [SV.mi] at h; simp only [SV.av]; rw [hp m h]
theorem mil_avs (hp : ∀ m, p m = true → ν m = ν' m) (hq : ∀ m, q m = true → curAV ν H m = curAV ν' H' m) (hf : ν.fn = ν'.fn) : ∀ {l : List SV}, mil p q l = true → avs ν H l = avs ν' H' l
 | [], _ => by simp only [avs]
 | x :: r, h => by
  simp only [mil, Bool.and_eq_true] at h
  have h1 := SV.mi_congr hp hq hf h.1
  have h2 := mil_avs hp hq hf h.2
  cases hv : x.isVec with
  | false => rw [avs_one hv, avs_one hv, h1, h2]
  | true =>
   cases x <;> first | (simp [SV.isVec] at hv; done) | skip
   rw [avs_vec, avs_vec, h2]
theorem mil_avl (hp : ∀ m, p m = true → ν m = ν' m) (hq : ∀ m, q m = true → curAV ν H m = curAV ν' H' m) (hf : ν.fn = ν'.fn) : ∀ {l : List SV}, mil p q l = true → avl ν H l = avl ν' H' l
 | [], _ => by simp only [avl]
 | x :: r, h => by
  simp only [mil, Bool.and_eq_true] at h
  simp only [avl]
  rw [SV.mi_congr hp hq hf h.1, mil_avl hp hq hf h.2]
end
theorem SObj.mi_congr (hp : ∀ m, p m = true → ν m = ν' m) (hq : ∀ m, q m = true → curAV ν H m = curAV ν' H' m) (hf : ν.fn = ν'.fn) {o : SObj} (h : o.mi p q = true) : o.ob ν H = o.ob ν' H' := by
 cases o with
 | box cs => simp only [SObj.mi] at h; simp only [SObj.ob]; rw [mil_avs hp hq hf h]
 | tip pm e xs => rfl
 | arr e xs => rfl
 | obox b cs => simp only [SObj.mi] at h; simp only [SObj.ob]; rw [mil_avs hp hq hf h]
end
inductive KI where
 | obj (m : Id)
 | own (o : OwnI)
def KI.key (ν : Nm) : KI → Keep
 | .obj m => .obj (ν m)
 | .own o => .own (o.of ν)
def kreads (ρ : Operand → SV) : Op → List KI
 | .load _ a => match ρ a with
  | .ptr m _ => [.obj m]
  | .vp m _ _ _ => [.obj m]
  | .rp o _ => [.own o]
  | .opt b m => if b then [.obj m] else []
  | _ => []
 | _ => []
def OwnI.all (p : Id → Bool) : OwnI → Bool
 | .perm => true
 | .young => true
 | .tip m _ => p m
 | .buf m _ => p m
 | .sub o _ _ _ => o.all p
theorem OwnI.of_congr {ν ν' : Nm} {p : Id → Bool} (h : ∀ m, p m = true → ν' m = ν m) : ∀ {o : OwnI}, o.all p = true → o.of ν' = o.of ν
 | .perm, _ => rfl
 | .young, _ => rfl
 | .tip m e, k => by simp only [OwnI.of]; rw [h m k]
 | .buf m e, k => by simp only [OwnI.of]; rw [h m k]
 | .sub o _ _ _, k => by simp only [OwnI.of]; rw [OwnI.of_congr h (o := o) k]
def KI.low (F : Fr) (st : SS) : KI → Bool
 | .obj m => lowI F st m
 | .own o => o.all (lowI F st)
def kok (F : Fr) (st : SS) (tl : List Id) : KI → Bool
 | .obj m => (hget (st.H F) m).isSome && !(tl.any fun x => ieq x m) && lowI F st m
 | .own o => o.alive (st.H F) && o.all (lowI F st)
variable {P : Program}
def squi (E : Env P) (F : Fr) {A : Type} (qf : List FuncId) (op : Op) (st : SS) (k : SV → Option A) : Option A :=
 if Qt.quietOp qf op then match op with
  | .call ⟨.value f, args, _⟩ => match st.ev F f with
   | .fn (.func g) first cap => match E.Γ g with
    | some C => C.pur (st.H F) (first ++ args.toList.map (st.ev F) ++ cap) k
    | none => none
   | _ => none
  | _ => none
 else match sq E.T E.Z (st.H F) (st.ev F) op with
  | some p => p.run k
  | none => none
def grpSl (lv : Nat) : Nat → List (Option Nat × TypeId) → List (Nat × SV) → List (Nat × SV)
 | _, [], sl => sl
 | i, (some t, _) :: r, sl => grpSl lv (i + 1) r (lput sl t (.ptr (lv, i) 0))
 | i, (none, _) :: r, sl => grpSl lv (i + 1) r sl
def grpHp (lv : Nat) : Nat → List (List SV) → SHp
 | _, [] => []
 | i, z :: r => ((lv, i), .box z) :: grpHp lv (i + 1) r
def grpZ (E : Env P) : List (Option Nat × TypeId) → Option (List (List SV))
 | [] => some []
 | (_, t) :: r => match E.T t with
  | some i => match grpZ E r with
   | some zs => some (szero E.Z t i :: zs)
   | none => none
  | none => none
def nodupO : List (Option Nat × TypeId) → Bool
 | [] => true
 | x :: r => x.1.isSome && r.all (fun y => y.1 != x.1) && nodupO r
def sgrp (E : Env P) (F : Fr) (l : List (Option Nat × TypeId)) (st : SS) : Option SS :=
 match l with
 | [] => some st
 | l => match grpZ E l with
  | some zs => if nodupO l && st.sl.all (fun u => u.2.mi (lowI F st) (lowI F st)) && F.sl.all (fun u => u.2.mi (lowI F st) (lowI F st)) && st.hp.all (fun u => u.2.mi (lowI F st) (lowI F st)) && F.hp.all (fun u => u.2.mi (lowI F st) (lowI F st)) && F.pr.all (lowI F st) then
    some ⟨grpSl F.lv st.nx l st.sl, st.hp ++ grpHp F.lv st.nx zs, st.nx + l.length⟩ else none
  | none => none
def sdrw (E : Env P) (F : Fr) {A : Type} (qf : List FuncId) : List (LOp × Bool) → List (Option Nat × TypeId) → List KI → SS → (SS → Option A) → Option A
 | [], held, _, st, k => match sgrp E F held st with
  | some st => k st
  | none => none
 | (o, loose) :: r, held, q, st, k =>
  match Qt.allocT o with
  | some t => sdrw E F qf r (held ++ [(o.dst, t)]) q st k
  | none => if q.all (KI.low F st) then match sgrp E F held st with
   | none => none
   | some st => match o.guard with
    | none => sresL F (resL F st (resC o.op)) st fun st => if Qt.effq qf o.op then seff E F o.op st fun v st' => if loose || q.all (kok F st (stouch E F o.op st)) then sdrw E F qf r [] (if loose then [] else q) (st'.put o.dst v) k else none
     else squi E F qf o.op st fun v => sdrw E F qf r [] (if loose then kreads (st.ev F) o.op ++ q else q) (st.put o.dst v) k
    | some (t, b) => match st.at F t with
     | .lit (.bool g) => if g = b then sresL F (resL F (st.put (some t) (.lit (.bool b))) (resC o.op)) (st.put (some t) (.lit (.bool b))) fun st =>
       if Qt.effq qf o.op then seff E F o.op st fun v st' => if loose || q.all (kok F st (stouch E F o.op st)) then sdrw E F qf r [] (if loose then [] else q) (st'.put o.dst v) k else none
       else squi E F qf o.op st fun v => sdrw E F qf r [] (if loose then kreads (st.ev F) o.op ++ q else q) (st.put o.dst v) k
       else sdrw E F qf r [] q ((st.put (some t) (.lit (.bool (!b)))).put o.dst (.lit undef)) k
     | .lit (.tuple _) => sdrw E F qf r [] q (st.put o.dst (.lit undef)) k
     | _ => none
   else none
section
variable {pr : List (Id × Name)} {df : Nat} {S0 : AHeap} {F : Fr} {st st' : SS} {ν : Nm} {d : Nat} {sl : Slots}
theorem kreads_av {op : Op} : reads (fun x => (st.ev F x).av ν (st.H F)) op = (kreads (st.ev F) op).map (KI.key ν) := by
 cases op <;> try rfl
 rename_i t a
 simp only [reads, kreads]
 have hc : ∀ m, (match curAV ν (st.H F) m with | .ptr n _ => [Keep.obj n] | .rptr own _ => [Keep.own own] | _ => []) = [] := by
  intro m
  unfold curAV
  cases hget (st.H F) m with
  | none => rfl
  | some o => cases o <;> (try rfl); rename_i pm e xs; cases pm <;> rfl
 cases h : st.ev F a <;> simp only [SV.av, vptr, List.map_cons, List.map_nil, KI.key, eO]
 ·exact hc _
 ·rename_i b m; cases b <;> rfl
theorem own_stays {H : SHp} {S S' : AHeap} (hb : ∀ n len, S n = some (.buf len) → ∃ len', S' n = some (.buf len')) (hS : HOk ν H S) : ∀ {o : OwnI}, o.alive H = true → (o.of ν).alive S'
 | .perm, _ => trivial
 | .young, _ => trivial
 | .tip _ _, _ => trivial
 | .buf m e, h => by
  simp only [OwnI.alive] at h
  split at h <;> try (cases h; done)
  rename_i pm y xs hm
  exact hb _ _ (hS _ _ hm)
 | .sub o l k n, h => alive_sub (own_stays hb hS (o := o) h)
theorem kok_ok {ν' : Nm} (hok : Okk pr df S0 F st ν d) {tl : List Id} (hu : Unt2 ν ν' F S0 tl st st') {q : List KI} (h : q.all (kok F st tl) = true) : ∀ x ∈ q.map (KI.key ν), x.ok (heapOf ν F st S0) (heapOf ν' F st' S0) := by
 intro x hx
 obtain ⟨y, hy, rfl⟩ := List.mem_map.1 hx
 have := List.all_eq_true.1 h y hy
 cases y with
 | obj m =>
  simp only [kok, Bool.and_eq_true, Bool.not_eq_true', Option.isSome_iff_exists] at this
  obtain ⟨⟨⟨o, ho⟩, h2⟩, -⟩ := this
  refine hu.1 m (hget_mem ho) fun hm => ?_
  have := List.any_eq_false.1 h2 m hm
  rw [ieq_self] at this; exact this rfl
 | own o =>
  simp only [kok, Bool.and_eq_true] at this
  exact own_stays hu.2 hok.hok this.1
theorem low_key {ν' : Nm} (hn : Nx ν ν' F st) {q : List KI} (h : q.all (KI.low F st) = true) : q.map (KI.key ν') = q.map (KI.key ν) := by
 refine List.map_congr_left fun y hy => ?_
 have := List.all_eq_true.1 h y hy
 cases y with
 | obj m =>
  simp only [KI.low] at this
  simp only [KI.key]; rw [hn.eq m this]
 | own o =>
  simp only [KI.low] at this
  simp only [KI.key]; rw [OwnI.of_congr hn.eq this]
theorem kok_key {ν' : Nm} (hn : Nx ν ν' F st) {tl : List Id} {q : List KI} (h : q.all (kok F st tl) = true) : q.map (KI.key ν') = q.map (KI.key ν) := by
 refine List.map_congr_left fun y hy => ?_
 have := List.all_eq_true.1 h y hy
 cases y with
 | obj m =>
  simp only [kok, Bool.and_eq_true] at this
  simp only [KI.key]; rw [hn.eq m this.2]
 | own o =>
  simp only [kok, Bool.and_eq_true] at this
  simp only [KI.key]; rw [OwnI.of_congr hn.eq this.2]
theorem squi_sound {E : Env P} (hE : EnvOk E) (hΦ : ν.fn = E.Φ) (hok : Okk pr df S0 F st ν d) {A : Type} {qf : List FuncId} {op : Op} {k : SV → Option A} {r : A} (he : Qt.effq qf op = false) (h : squi E F qf op st k = some r) :
  ∃ v, Qt.QV P E.T qf (heapOf ν F st S0) (fun x => (st.ev F x).av ν (st.H F)) op (v.av ν (st.H F)) ∧ k v = some r := by
 unfold squi at h
 split at h
 ·rename_i hq
  split at h <;> try (cases h; done)
  rename_i f args ts
  split at h <;> try (cases h; done)
  rename_i g first cap hf
  split at h <;> try (cases h; done)
  rename_i C hC
  obtain ⟨v, h1, h2⟩ := C.pur_ok hΦ h
  refine ⟨v, .inl ⟨hq, g, avl ν (st.H F) first, avl ν (st.H F) cap, by simp only [hf, SV.av], fun S => ?_⟩, h1⟩
  have e1 : (avl ν (st.H F) first ++ (args.toList.map fun x => (st.ev F x).av ν (st.H F)) ++ avl ν (st.H F) cap) = id (avl ν (st.H F) (first ++ args.toList.map (st.ev F) ++ cap)) := by
   simp only [avl_map, List.map_append, List.map_map, id]; rfl
  rw [e1]; exact h2 S
 ·rename_i hq
  split at h <;> try (cases h; done)
  rename_i p hp
  obtain ⟨v, ⟨pp, h1, h2⟩, h3⟩ := Pr.run_some (sq_sound hE.Z hok.hok evok hp) h
  have hq' : Qt.quietOp qf op = false := by simpa using hq
  exact ⟨v, .inr ⟨hq', Qt.effq_false he hq', pp, h1, h2⟩, h3⟩
theorem runA_intro {T : Tab} {d : Nat} : ∀ {l : List (Option Nat × TypeId)} {sl : Slots} {S : AHeap} {c : Nat} {k : Slots → AHeap → Nat → Prop}, (∀ x ∈ l, ∃ z, T x.2 = some z) → nodupO l = true →
  (∀ sl' S', (∀ t p x, l[p]? = some x → x.1 = some t → sget sl' t = .ptr (d, c + p) 0) → (∀ t, (∀ x ∈ l, x.1 ≠ some t) → sget sl' t = sget sl t) →
   (∀ p x z, l[p]? = some x → T x.2 = some z → S' (d, c + p) = some (.box (z.zero.map .lit))) → (∀ n : Name, (∀ p, p < l.length → n ≠ (d, c + p)) → S' n = S n) → k sl' S' (c + l.length)) → Qt.runA T d l sl S c k
 | [], sl, S, c, k, _, _, hk => hk sl S (fun t p x h => by simp at h) (fun _ _ => rfl) (fun p x z h => by simp at h) (fun _ _ => rfl)
 | x :: r, sl, S, c, k, hT, hn, hk => by
  obtain ⟨dst, t0⟩ := x
  obtain ⟨z, hz⟩ := hT (dst, t0) (by simp)
  simp only [nodupO, Bool.and_eq_true, List.all_eq_true, bne_iff_ne, ne_eq] at hn
  obtain ⟨⟨hn1, hn2⟩, hn3⟩ := hn
  simp only [Qt.runA, hz]
  refine runA_intro (l := r) (fun x hx => hT x (by simp [hx])) hn3 fun sl' S' h1 h2 h3 h4 => ?_
  have := hk sl' S' ?_ ?_ ?_ ?_
  ·rw [show c + 1 + r.length = c + ((dst, t0) :: r).length by simp; omega]; exact this
  ·intro t p x hp hx
   cases p with
   | zero =>
    simp only [List.getElem?_cons_zero, Option.some.injEq] at hp
    subst hp
    simp only at hx
    rw [h2 t fun y hy e => hn2 y hy (by rw [e, hx]), hx, sget_put, if_pos rfl]; rfl
   | succ p =>
    rw [h1 t p x (by simpa using hp) hx, show c + 1 + p = c + (p + 1) by omega]
  ·intro t ht
   rw [h2 t fun y hy => ht y (by simp [hy]), sget_put, if_neg (ht (dst, t0) (by simp))]
  ·intro p x z' hp hx
   cases p with
   | zero =>
    simp only [List.getElem?_cons_zero, Option.some.injEq] at hp
    subst hp
    have e : z' = z := by
     have hx' : T t0 = some z' := hx
     rw [hz] at hx'; exact (Option.some.inj hx').symm
    subst e
    rw [h4 _ fun p hp e => by simp only [Prod.mk.injEq] at e; omega]
    simp [AHeap.set]
   | succ p => rw [← h3 p x z' (by simpa using hp) hx, show c + 1 + p = c + (p + 1) by omega]
  ·intro n hn
   rw [h4 n fun p hp e => hn (p + 1) (by simpa using hp) (by rw [e, show c + 1 + p = c + (p + 1) by omega])]
   have hn0 := hn 0 (by simp)
   simp only [Nat.add_zero] at hn0
   simp only [AHeap.set]
   rw [if_neg hn0]
theorem grpSl_get {lv : Nat} {b : List (Nat × SV)} : ∀ {l : List (Option Nat × TypeId)} {i : Nat} {sl : List (Nat × SV)}, nodupO l = true → ∀ t, (∀ p x, l[p]? = some x → x.1 = some t → lget (grpSl lv i l sl ++ b) t = .ptr (lv, i + p) 0) ∧ ((∀ x ∈ l, x.1 ≠ some t) → lget (grpSl lv i l sl ++ b) t = lget (sl ++ b) t)
 | [], i, sl, _, t => ⟨fun p x h => by simp at h, fun _ => rfl⟩
 | (none, t0) :: r, i, sl, hn, t => by simp [nodupO] at hn
 | (some t1, t0) :: r, i, sl, hn, t => by
  simp only [nodupO, Bool.and_eq_true, List.all_eq_true, bne_iff_ne, ne_eq] at hn
  obtain ⟨⟨-, hn2⟩, hn3⟩ := hn
  obtain ⟨h1, h2⟩ := grpSl_get (lv := lv) (b := b) (i := i + 1) (sl := lput sl t1 (.ptr (lv, i) 0)) hn3 t
  simp only [grpSl]
  refine ⟨fun p x hp hx => ?_, fun h => ?_⟩
  ·cases p with
   | zero =>
    simp only [List.getElem?_cons_zero, Option.some.injEq] at hp
    subst hp
    have hx : t1 = t := Option.some.inj hx
    subst hx
    rw [h2 fun y hy e => hn2 y hy e, lget_put, if_pos rfl]; rfl
   | succ p => rw [h1 p x (by simpa using hp) hx, show i + 1 + p = i + (p + 1) by omega]
  ·rw [h2 fun y hy => h y (by simp [hy]), lget_put, if_neg]
   intro e
   exact h (some t1, t0) (by simp) (by rw [e])
theorem grpHp_get {lv : Nat} : ∀ {zs : List (List SV)} {i : Nat} {m : Id}, hget (grpHp lv i zs) m = if m.1 = lv ∧ i ≤ m.2 then (zs[m.2 - i]?).map .box else none
 | [], i, m => by simp [grpHp, hget]
 | z :: r, i, m => by
  simp only [grpHp, hget]
  by_cases e : ieq m (lv, i) = true
  ·rw [if_pos e]
   have := ieq_iff.1 e
   subst this
   simp
  ·rw [if_neg e, grpHp_get]
   rw [ieq_iff] at e
   by_cases h1 : m.1 = lv ∧ i + 1 ≤ m.2
   ·rw [if_pos h1, if_pos ⟨h1.1, by omega⟩, show m.2 - i = (m.2 - (i + 1)) + 1 by omega, List.getElem?_cons_succ]
   ·rw [if_neg h1]
    by_cases h2 : m.1 = lv ∧ i ≤ m.2
    ·exfalso
     apply e
     obtain ⟨m1, m2⟩ := m
     simp only at h1 h2 ⊢
     simp only [Prod.mk.injEq]
     exact ⟨h2.1, by have := h2.1; omega⟩
    ·rw [if_neg h2]
theorem grpHp_ids {lv : Nat} : ∀ {zs : List (List SV)} {i : Nat} {m : Id}, m ∈ SHp.ids (grpHp lv i zs) ↔ m.1 = lv ∧ i ≤ m.2 ∧ m.2 < i + zs.length
 | [], i, m => by simp [grpHp, SHp.ids]
 | z :: r, i, m => by
  have ih := grpHp_ids (lv := lv) (zs := r) (i := i + 1) (m := m)
  simp only [grpHp, SHp.ids, List.map_cons, List.mem_cons, List.length_cons] at ih ⊢
  rw [ih]
  obtain ⟨m1, m2⟩ := m
  simp only [Prod.mk.injEq]
  omega
theorem grpZ_spec {E : Env P} : ∀ {l : List (Option Nat × TypeId)} {zs : List (List SV)}, grpZ E l = some zs → zs.length = l.length ∧ ∀ (p : Nat) x, l[p]? = some x → ∃ i, E.T x.2 = some i ∧ zs[p]? = some (szero E.Z x.2 i)
 | [], zs, h => by simp only [grpZ, Option.some.injEq] at h; subst h; exact ⟨rfl, fun p x h => by simp at h⟩
 | (dst, t) :: r, zs, h => by
  simp only [grpZ] at h
  split at h <;> try (cases h; done)
  rename_i i hi
  split at h <;> try (cases h; done)
  rename_i zs' hz
  cases h
  obtain ⟨h1, h2⟩ := grpZ_spec hz
  refine ⟨by simp [h1], fun p x hp => ?_⟩
  cases p with
  | zero => simp only [List.getElem?_cons_zero, Option.some.injEq] at hp; subst hp; exact ⟨i, hi, by simp⟩
  | succ p => obtain ⟨i', a, b⟩ := h2 p x (by simpa using hp); exact ⟨i', a, by simpa using b⟩
theorem nodupO_spec : ∀ {l : List (Option Nat × TypeId)}, nodupO l = true → l.Nodup ∧ ∀ x ∈ l, ∀ y ∈ l, x.1 = y.1 → x = y
 | [], _ => ⟨List.nodup_nil, fun x hx => by cases hx⟩
 | x :: r, h => by
  simp only [nodupO, Bool.and_eq_true, List.all_eq_true, bne_iff_ne, ne_eq] at h
  obtain ⟨⟨-, h2⟩, h3⟩ := h
  obtain ⟨a, b⟩ := nodupO_spec h3
  refine ⟨List.nodup_cons.2 ⟨fun hx => h2 x hx rfl, a⟩, fun y hy z hz e => ?_⟩
  rcases List.mem_cons.1 hy with hy1 | hy1 <;> rcases List.mem_cons.1 hz with hz1 | hz1
  ·rw [hy1, hz1]
  ·exact absurd (hy1 ▸ e.symm) (h2 z hz1)
  ·exact absurd (hz1 ▸ e) (h2 y hy1)
  ·exact b y hy1 z hz1 e
theorem nodupO_perm {l l' : List (Option Nat × TypeId)} (hp : l'.Perm l) (h : nodupO l = true) : nodupO l' = true := by
 obtain ⟨a, b⟩ := nodupO_spec h
 have hs : ∀ x ∈ l, x.1.isSome = true := by
  clear hp a b
  induction l with
  | nil => intro x hx; cases hx
  | cons y r ih =>
   simp only [nodupO, Bool.and_eq_true] at h
   intro x hx
   rcases List.mem_cons.1 hx with rfl | hx
   ·exact h.1.1
   ·exact ih h.2 x hx
 have hn : l'.Nodup := hp.nodup_iff.2 a
 have hm : ∀ x, x ∈ l' → x ∈ l := fun x hx => hp.mem_iff.1 hx
 clear hp
 induction l' with
 | nil => rfl
 | cons y r ih =>
  rw [List.nodup_cons] at hn
  simp only [nodupO, Bool.and_eq_true, List.all_eq_true, bne_iff_ne, ne_eq]
  refine ⟨⟨hs y (hm y (by simp)), fun z hz e => ?_⟩, ih hn.2 fun x hx => hm x (by simp [hx])⟩
  have := b z (hm z (by simp [hz])) y (hm y (by simp)) e
  exact hn.1 (this ▸ hz)
theorem mi_get {p q : Id → Bool} {l : List (Nat × SV)} (h : (l.all fun r => r.2.mi p q) = true) (i : Nat) : (lget l i).mi p q = true := by
 induction l with
 | nil => rfl
 | cons r l ih =>
  obtain ⟨k, u⟩ := r
  simp only [List.all_cons, Bool.and_eq_true] at h
  simp only [lget]
  split
  ·exact h.1
  ·exact ih h.2
theorem mi_getH {p q : Id → Bool} {H : SHp} (h : (H.all fun r => r.2.mi p q) = true) {m : Id} {o : SObj} (hm : hget H m = some o) : o.mi p q = true := by
 induction H with
 | nil => cases hm
 | cons r l ih =>
  obtain ⟨k, u⟩ := r
  simp only [List.all_cons, Bool.and_eq_true] at h
  simp only [hget] at hm
  split at hm
  ·cases hm; exact h.1
  ·exact ih h.2 hm
theorem ids_getJ {H : SHp} {m : Id} (h : m ∈ SHp.ids H) : ∃ o, hget H m = some o := by
 cases hg : hget H m with
 | some o => exact ⟨o, rfl⟩
 | none => exact absurd h (hget_none hg)
theorem hget_notJ {H : SHp} {m : Id} (h : m ∉ SHp.ids H) : hget H m = none := by
 cases hg : hget H m with
 | none => rfl
 | some o => exact absurd (hget_mem hg) h
theorem sgrp_ok {E : Env P} (hE : EnvOk E) (hok : Okk pr df S0 F st ν d) (hs : SlEq ν F st sl) {l : List (Option Nat × TypeId)} (h : sgrp E F l st = some st') {k : Slots → AHeap → Nat → Prop}
  (hk : ∀ ν' sl', Nx ν ν' F st → Okk pr df S0 F st' ν' d → SlEq ν' F st' sl' → k sl' (heapOf ν' F st' S0) st'.nx) : Qt.ldrwA E.T d l sl (heapOf ν F st S0) st.nx k := by
 cases l with
 | nil =>
  simp only [sgrp, Option.some.injEq] at h
  subst h
  exact Qt.ldrwA_nil.2 (hk ν sl .refl hok hs)
 | cons x0 r0 =>
 generalize hl0 : x0 :: r0 = l at h ⊢
 have h : (match grpZ E l with
  | some zs => if nodupO l && st.sl.all (fun u => u.2.mi (lowI F st) (lowI F st)) && F.sl.all (fun u => u.2.mi (lowI F st) (lowI F st)) && st.hp.all (fun u => u.2.mi (lowI F st) (lowI F st)) && F.hp.all (fun u => u.2.mi (lowI F st) (lowI F st)) && F.pr.all (lowI F st) then
    some (⟨grpSl F.lv st.nx l st.sl, st.hp ++ grpHp F.lv st.nx zs, st.nx + l.length⟩ : SS) else none
  | none => none) = some st' := by rw [← hl0] at h ⊢; exact h
 split at h <;> try (cases h; done)
 rename_i zs hz
 split at h <;> try (cases h; done)
 rename_i hc
 cases h
 simp only [Bool.and_eq_true] at hc
 obtain ⟨⟨⟨⟨⟨c1, c2⟩, c3⟩, c4⟩, c5⟩, c6⟩ := hc
 obtain ⟨z1, z2⟩ := grpZ_spec hz
 obtain ⟨n1, n2⟩ := nodupO_spec c1
 intro l' hp
 have hlen : l'.length = l.length := hp.length_eq
 have hn' : l'.Nodup := hp.nodup_iff.2 n1
 refine runA_intro (fun x hx => ?_) (nodupO_perm hp c1) fun sl' S' h1 h2 h3 h4 => ?_
 ·obtain ⟨p, hp'⟩ := List.getElem?_of_mem (hp.mem_iff.1 hx)
  obtain ⟨i, hi, -⟩ := z2 p x hp'
  exact ⟨i, hi⟩
 let pos : Nat → Nat := fun j => l'.idxOf (l.getD j (none, 0))
 have hpos : ∀ j x, l[j]? = some x → pos j < l.length ∧ l'[pos j]? = some x := by
  intro j x hj
  have hx : x ∈ l' := hp.mem_iff.2 (List.mem_of_getElem? hj)
  have e : l.getD j (none, 0) = x := by rw [List.getD_eq_getElem?_getD, hj]; rfl
  show l'.idxOf (l.getD j (none, 0)) < l.length ∧ l'[l'.idxOf (l.getD j (none, 0))]? = some x
  rw [e]
  have hlt := List.idxOf_lt_length_iff.2 hx
  exact ⟨by omega, by rw [List.getElem?_eq_getElem hlt, List.getElem_idxOf hlt]⟩
 have hposinj : ∀ j j', j < l.length → j' < l.length → pos j = pos j' → j = j' := by
  intro j j' hj hj' e
  have a := (hpos j l[j] (List.getElem?_eq_getElem hj)).2
  have b := (hpos j' l[j'] (List.getElem?_eq_getElem hj')).2
  rw [e, b] at a
  exact (List.getElem_inj n1).1 (Option.some.inj a).symm
 have hposof : ∀ p x, l'[p]? = some x → ∃ j, l[j]? = some x ∧ pos j = p := by
  intro p x hx
  obtain ⟨j, hj⟩ := List.getElem?_of_mem (hp.mem_iff.1 (List.mem_of_getElem? hx))
  refine ⟨j, hj, ?_⟩
  have := (hpos j x hj).2
  have hp1 := (List.getElem?_eq_some_iff.1 this).1
  have hp2 := (List.getElem?_eq_some_iff.1 hx).1
  refine (List.getElem_inj (h₀ := hp1) (h₁ := hp2) hn').1 ?_
  rw [(List.getElem?_eq_some_iff.1 this).2, (List.getElem?_eq_some_iff.1 hx).2]
 let ν2 : Nm := ⟨fun m => if m.1 = F.lv ∧ st.nx ≤ m.2 ∧ m.2 < st.nx + l.length then (d, st.nx + pos (m.2 - st.nx)) else ν m, ν.fn⟩
 have hlow : ∀ m, lowI F st m = true → ν2 m = ν m := by
  intro m hm
  show (if _ then _ else _ : Name) = _
  rw [if_neg]
  rintro ⟨a, b, -⟩
  simp [lowI, a, b] at hm
 have hnew : ∀ j, j < l.length → ν2 (F.lv, st.nx + j) = (d, st.nx + pos j) := by
  intro j hj
  show (if _ then _ else _ : Name) = _
  rw [if_pos ⟨rfl, by simp, by simpa using hj⟩, show st.nx + j - st.nx = j by omega]
 have hlowH : ∀ a ∈ SHp.ids (st.H F), lowI F st a = true := by
  intro a ha
  cases hc : lowI F st a with
  | true => rfl
  | false =>
   simp only [lowI, Bool.not_eq_false', Bool.and_eq_true, beq_iff_eq, decide_eq_true_eq] at hc
   have h2 := hok.lev a.2 hc.2
   rw [← hc.1] at h2
   exact absurd h2 (hok.fr a ha a.2 hc.2)
 generalize hst : (⟨grpSl F.lv st.nx l st.sl, st.hp ++ grpHp F.lv st.nx zs, st.nx + l.length⟩ : SS) = st1 at hk
 have e_hp : st1.hp = st.hp ++ grpHp F.lv st.nx zs := by rw [← hst]
 have e_nx : st1.nx = st.nx + l.length := by rw [← hst]
 have e_sl : st1.sl = grpSl F.lv st.nx l st.sl := by rw [← hst]
 have hmem : ∀ a, a ∈ SHp.ids (st1.H F) ↔ (a ∈ SHp.ids (st.H F) ∨ ∃ j, j < l.length ∧ a = (F.lv, st.nx + j)) := by
  intro a
  rw [SS.H, SS.H, e_hp, ids_append, ids_append, ids_append, List.mem_append, List.mem_append, List.mem_append, grpHp_ids, z1]
  constructor
  ·rintro ((ha | ⟨a1, a2, a3⟩) | ha)
   ·exact .inl (.inl ha)
   ·exact .inr ⟨a.2 - st.nx, by omega, by rw [show st.nx + (a.2 - st.nx) = a.2 by omega, ← a1]⟩
   ·exact .inl (.inr ha)
  ·rintro ((ha | ha) | ⟨j, hj, rfl⟩)
   ·exact .inl (.inl ha)
   ·exact .inr ha
   ·exact .inl (.inr ⟨rfl, by simp, by simpa using hj⟩)
 have hgold : ∀ a, lowI F st a = true → hget (st1.H F) a = hget (st.H F) a := by
  intro a ha
  have : hget (grpHp F.lv st.nx zs) a = none := by
   refine hget_notJ fun hc => ?_
   obtain ⟨a1, a2, -⟩ := grpHp_ids.1 hc
   simp [lowI, a1, a2] at ha
  rw [SS.H, SS.H, e_hp, hget_append, hget_append, hget_append, this]
  cases hget st.hp a <;> rfl
 have hgnew : ∀ j, j < l.length → hget (st1.H F) (F.lv, st.nx + j) = (zs[j]?).map .box := by
  intro j hj
  have : hget st.hp (F.lv, st.nx + j) = none := by
   refine hget_notJ fun hc => ?_
   have := hlowH _ (by rw [SS.H, ids_append]; exact List.mem_append_left _ hc)
   simp [lowI] at this
  have hj' : j < zs.length := by omega
  rw [SS.H, e_hp, hget_append, hget_append, this, grpHp_get, if_pos ⟨rfl, by simp⟩, show (F.lv, st.nx + j).2 - st.nx = j by simp]
  rw [List.getElem?_eq_getElem hj']; rfl
 have hnm : ∀ m, lowI F st m = true → ν m = ν2 m := fun m hm => (hlow m hm).symm
 have hcur : ∀ m, lowI F st m = true → curAV ν (st.H F) m = curAV ν2 (st1.H F) m := by
  intro m hm
  unfold curAV
  rw [hgold m hm, hlow m hm]
 have hok' : Okk pr df S0 F st1 ν2 d := by
  refine ⟨?_, ?_, ?_, ?_, hok.low, hok.none, ?_, hok.prs⟩
  ·intro a ha b hb hab
   rcases (hmem a).1 ha with ha | ⟨j, hj, rfl⟩ <;> rcases (hmem b).1 hb with hb | ⟨j', hj', rfl⟩
   ·rw [hlow a (hlowH a ha), hlow b (hlowH b hb)] at hab; exact hok.inj a ha b hb hab
   ·rw [hlow a (hlowH a ha), hnew j' hj'] at hab
    exact absurd hab (hok.fr a ha _ (by omega))
   ·rw [hlow b (hlowH b hb), hnew j hj] at hab
    exact absurd hab.symm (hok.fr b hb _ (by omega))
   ·rw [hnew j hj, hnew j' hj'] at hab
    simp only [Prod.mk.injEq, true_and] at hab
    rw [hposinj j j' hj hj' (by omega)]
  ·intro a ha i hi
   rw [e_nx] at hi
   rcases (hmem a).1 ha with ha | ⟨j, hj, rfl⟩
   ·rw [hlow a (hlowH a ha)]; exact hok.fr a ha i (by omega)
   ·rw [hnew j hj]
    have := (hpos j l[j] (List.getElem?_eq_getElem hj)).1
    simp only [ne_eq, Prod.mk.injEq, true_and]; omega
  ·intro i hi
   rw [e_nx] at hi
   show (if _ then _ else _ : Name) = _
   rw [if_neg (by rintro ⟨-, -, a⟩; simp only at a; omega)]
   exact hok.lev i (by omega)
  ·intro a ha hp
   rcases (hmem a).1 ha with ha | ⟨j, hj, rfl⟩
   ·rw [hlow a (hlowH a ha)]; exact hok.base a ha hp
   ·rw [hnew j hj]; exact hok.low
  ·intro q hq
   have : q.1 ∈ F.pr := by rw [hok.prs]; exact List.mem_map.2 ⟨q, hq, rfl⟩
   rw [hlow q.1 (List.all_eq_true.1 c6 q.1 this)]
   exact hok.par q hq
 have hobold : ∀ a ∈ SHp.ids (st.H F), ∀ o, hget (st.H F) a = some o → o.ob ν2 (st1.H F) = o.ob ν (st.H F) := by
  intro a ha o ho
  refine (SObj.mi_congr hnm hcur rfl ?_).symm
  refine mi_getH (H := st.hp ++ F.hp) ?_ ho
  rw [List.all_append, Bool.and_eq_true]; exact ⟨c4, c5⟩
 have hheap : heapOf ν2 F st1 S0 = S' := by
  funext n
  by_cases hex : ∃ a ∈ SHp.ids (st1.H F), ν2 a = n
  ·obtain ⟨a, ha, rfl⟩ := hex
   rcases (hmem a).1 ha with ha | ⟨j, hj, rfl⟩
   ·obtain ⟨o, ho⟩ := ids_getJ ha
    have h5 := hok'.hok a o (by rw [hgold a (hlowH a ha)]; exact ho)
    rw [h5, hobold a ha o ho, hlow a (hlowH a ha), h4 _ fun p hp => hok.fr a ha _ (by omega)]
    exact (hok.hok a o ho).symm
   ·obtain ⟨i, hi, hzj⟩ := z2 j l[j] (List.getElem?_eq_getElem hj)
    have hg := hgnew j hj
    rw [hzj] at hg
    have h5 := hok'.hok _ _ hg
    rw [h5, hnew j hj, h3 (pos j) l[j] i (hpos j l[j] (List.getElem?_eq_getElem hj)).2 hi]
    simp only [SObj.ob, szero_av hE.Z hi]
  ·have h5 : heapOf ν2 F st1 S0 n = S0 n := hp_miss (f := fun o => o.ob ν2 (st1.H F)) fun a ha e => hex ⟨a, ha, e⟩
   have h6 : heapOf ν F st S0 n = S0 n := hp_miss (f := fun o => o.ob ν (st.H F)) fun a ha e => hex ⟨a, (hmem a).2 (.inl ha), by rw [hlow a (hlowH a ha)]; exact e⟩
   rw [h5, h4 n fun p hp e => ?_, h6]
   have hp' : p < l'.length := by omega
   obtain ⟨j, hj, hjp⟩ := hposof p l'[p] (List.getElem?_eq_getElem hp')
   have hj' := (List.getElem?_eq_some_iff.1 hj).1
   exact hex ⟨_, (hmem _).2 (.inr ⟨j, hj', rfl⟩), by rw [hnew j hj', hjp, e]⟩
 have hsl : SlEq ν2 F st1 sl' := by
  intro t
  by_cases ht : ∃ x ∈ l, x.1 = some t
  ·obtain ⟨x, hx, hxt⟩ := ht
   obtain ⟨j, hj⟩ := List.getElem?_of_mem hx
   have hj' := (List.getElem?_eq_some_iff.1 hj).1
   rw [h1 t (pos j) x (hpos j x hj).2 hxt]
   have : st1.at F t = .ptr (F.lv, st.nx + j) 0 := by
    simp only [SS.at, e_sl]
    exact (grpSl_get c1 t).1 j x hj hxt
   rw [this]
   simp only [SV.av]
   rw [hnew j hj']
  ·have ht' : ∀ x ∈ l, x.1 ≠ some t := fun x hx e => ht ⟨x, hx, e⟩
   rw [h2 t fun x hx => ht' x (hp.mem_iff.1 hx), hs t]
   have : st1.at F t = st.at F t := by
    simp only [SS.at, e_sl]
    exact (grpSl_get c1 t).2 ht'
   rw [this]
   refine SV.mi_congr hnm hcur rfl ?_
   refine mi_get (l := st.sl ++ F.sl) ?_ t
   rw [List.all_append, Bool.and_eq_true]; exact ⟨c2, c3⟩
 have := hk ν2 sl' ⟨rfl, hlow⟩ hok' hsl
 rw [hheap, e_nx] at this
 rw [hlen]; exact this
theorem sdrw_sound {E : Env P} (hE : EnvOk E) {A : Type} {k : SS → Option A} {r : A} {qf : List FuncId} {kk : Slots → AHeap → Nat → Prop} {kp : AV → AHeap → Prop}
  (hk : ∀ (ν : Nm) st' sl', ν.fn = E.Φ → Okk pr df S0 F st' ν d → SlEq ν F st' sl' → k st' = some r → kk sl' (heapOf ν F st' S0) st'.nx) :
  ∀ {ops : List (LOp × Bool)} {held : List (Option Nat × TypeId)} {q : List KI} {ν : Nm} {st : SS} {sl : Slots}, ν.fn = E.Φ → Okk pr df S0 F st ν d → SlEq ν F st sl → sdrw E F qf ops held q st k = some r → Qt.ldrw P E.T d qf ops held (q.map (KI.key ν)) sl (heapOf ν F st S0) st.nx kk kp
 | [], held, q, ν, st, sl, hΦ, hok, hs, h => by
  simp only [sdrw] at h
  split at h <;> try (cases h; done)
  rename_i st1 hg
  exact sgrp_ok hE hok hs hg fun ν' sl' a0 a1 a2 => hk ν' st1 sl' (a0.fn.trans hΦ) a1 a2 h
 | (o, loose) :: ops, held, q, ν, st, sl, hΦ, hok, hs, h => by
  have ih2 := fun {held q ν st sl} => @sdrw_sound E hE A k r qf kk kp hk ops held q ν st sl
  simp only [sdrw] at h
  simp only [Qt.ldrw]
  split at h
  ·rename_i t ht
   simp only [ht]
   exact ih2 hΦ hok hs h
  rename_i ht
  simp only [ht]
  split at h <;> try (cases h; done)
  rename_i hlow
  split at h <;> try (cases h; done)
  rename_i st1 hg
  refine sgrp_ok hE hok hs hg fun ν1 sl1 b0 b1 b2 => ?_
  rw [← low_key b0 hlow]
  clear hok hs hg hlow
  replace hΦ := b0.fn.trans hΦ
  clear b0
  revert h
  revert hΦ b1 b2
  generalize ν1 = ν, st1 = st, sl1 = sl
  intro hok hs hΦ h
  have ih := fun {q st sl} => @ih2 [] q ν st sl hΦ
  have run : ∀ {st : SS} {sl : Slots}, Okk pr df S0 F st ν d → SlEq ν F st sl →
    (sresL F (resL F st (resC o.op)) st fun st => if Qt.effq qf o.op then seff E F o.op st fun v st' => if loose || q.all (kok F st (stouch E F o.op st)) then sdrw E F qf ops [] (if loose then [] else q) (st'.put o.dst v) k else none
     else squi E F qf o.op st fun v => sdrw E F qf ops [] (if loose then kreads (st.ev F) o.op ++ q else q) (st.put o.dst v) k) = some r →
    (if Qt.effq qf o.op then lopv P E.T d o.op (ev sl) (heapOf ν F st S0) st.nx (fun v S' c' => (∀ x ∈ (if loose then [] else q.map (KI.key ν)), x.ok (heapOf ν F st S0) S') ∧ Qt.ldrw P E.T d qf ops [] (if loose then [] else q.map (KI.key ν)) (put sl o.dst v) S' c' kk kp) kp
     else ∃ v, Qt.QV P E.T qf (heapOf ν F st S0) (ev sl) o.op v ∧ Qt.ldrw P E.T d qf ops [] (if loose then reads (ev sl) o.op ++ q.map (KI.key ν) else q.map (KI.key ν)) (put sl o.dst v) (heapOf ν F st S0) st.nx kk kp) := by
   intro st sl hok hs h
   obtain ⟨st1, hok1, hs1, eh, en, h⟩ := sresL_eq h hok hs
   rw [← eh, ← en]
   clear hok hs eh en
   revert h hok1 hs1
   generalize st1 = st
   intro hok hs h
   rw [hs.ev]
   split at h
   ·rename_i he
    rw [if_pos he]
    refine seff_sound hE hΦ hok h fun ν' v st' a0 a1 a2 a3 a4 => ?_
    split at a2 <;> try (cases a2; done)
    rename_i hc
    have hq : (if loose then [] else q).map (KI.key ν') = (if loose then [] else q.map (KI.key ν)) := by
     cases loose with
     | true => rfl
     | false => exact kok_key a0 (by simpa using hc)
    have := ih2 (held := []) (q := if loose then [] else q) (a0.fn.trans hΦ) (a1.put (dst := o.dst) (v := v)) (SlEq.put2 hs a3) a2
    rw [heapOf_put, nx_put, hq] at this
    refine ⟨?_, this⟩
    cases loose with
    | true => intro x hx; cases hx
    | false => exact kok_ok hok a4 (by simpa using hc)
   ·rename_i he
    rw [if_neg he]
    obtain ⟨v, hv, h3⟩ := squi_sound (S0 := S0) hE hΦ hok (by simpa using he) h
    refine ⟨_, hv, ?_⟩
    have hq : (if loose then kreads (st.ev F) o.op ++ q else q).map (KI.key ν) = (if loose then reads (fun x => (st.ev F x).av ν (st.H F)) o.op ++ q.map (KI.key ν) else q.map (KI.key ν)) := by
     rw [kreads_av]
     cases loose
     ·rfl
     ·simp
    have := ih (q := if loose then kreads (st.ev F) o.op ++ q else q) (hok.put (dst := o.dst) (v := v)) (SlEq.put hs Same.refl) h3
    rw [heapOf_put, nx_put, hq] at this
    exact this
  split at h
  ·rename_i hg
   simp only [hg]
   exact run hok hs h
  ·rename_i t b hg
   simp only [hg]
   split at h <;> try (cases h; done)
   ·rename_i g hat
    have hsg : sget sl t = .lit (.bool g) := by rw [hs t, hat]; simp only [SV.av]
    simp only [hsg]
    have hput : ∀ b' : Bool, SlEq ν F (st.put (some t) (.lit (.bool b'))) (sset sl t (.lit (.bool b'))) := by
     intro b'
     have := SlEq.put (F := F) hs (Same.refl (st := st)) (dst := some t) (v := .lit (.bool b'))
     simp only [SV.av, Al.put] at this
     exact this
    split at h
    ·rename_i hgb
     refine ⟨fun _ => ?_, fun hne => absurd hgb hne⟩
     have := run (hok.put (dst := some t) (v := .lit (.bool b))) (hput b) h
     rw [heapOf_put, nx_put] at this
     exact this
    ·rename_i hgb
     refine ⟨fun e => absurd e hgb, fun _ => ?_⟩
     have h1 := SlEq.put (F := F) (hput (!b)) (Same.refl (st := st.put (some t) (.lit (.bool (!b))))) (dst := o.dst) (v := .lit undef)
     have := ih (q := q) ((hok.put (dst := some t) (v := .lit (.bool (!b)))).put (dst := o.dst) (v := .lit undef)) h1 h
     rw [heapOf_put, nx_put, heapOf_put, nx_put] at this
     simp only [SV.av] at this
     exact this
   ·rename_i vs hat
    have hsg : sget sl t = .lit (.tuple vs) := by rw [hs t, hat]; simp only [SV.av]
    simp only [hsg]
    have h1 := SlEq.put (F := F) hs (Same.refl (st := st)) (dst := o.dst) (v := .lit undef)
    have := ih (q := q) (hok.put (dst := o.dst) (v := .lit undef)) h1 h
    rw [heapOf_put, nx_put] at this
    simp only [SV.av] at this
    exact this
end
end Go.Al
