import Derived.Test.YtolfnhebnennpaaAlP
set_option linter.unusedSimpArgs false
set_option linter.unusedVariables false
namespace Go.Al
open Go Go.RowKit
attribute [go_sem] List.drop_succ_cons List.drop_zero List.drop_nil List.take_succ_cons List.take_zero List.take_nil List.headD_cons List.headD_nil List.length_cons List.length_nil Option.map_some Option.map_none List.map_cons List.map_nil List.all_cons List.all_nil List.set_cons_zero List.set_cons_succ List.getElem?_cons_zero List.getElem?_cons_succ Bool.and_true Bool.true_and Bool.and_self List.cons_append List.nil_append List.append_nil and_true true_and and_false false_and not_true_eq_false not_false_eq_true if_true if_false ite_true ite_false Bool.not_true Bool.not_false List.replicate_succ List.replicate_zero List.flatten_cons List.flatten_nil List.toList_toArray forall_const Bool.false_eq_true Option.isSome_some eq_self
def gd {α : Type} (p : Prop) [Decidable p] (m : Option α) : Option α := if p then m else none
theorem gd_some {α : Type} {p : Prop} {_ : Decidable p} {m : Option α} {r : α} (h : gd p m = some r) : p ∧ m = some r := by
 unfold gd at h; split at h
 ·exact ⟨by assumption, h⟩
 ·cases h
def bd {α β : Type} (m : Option α) (f : α → Option β) : Option β := m.bind f
theorem bd_some {α β : Type} {m : Option α} {f : α → Option β} {r : β} (h : bd m f = some r) : ∃ v, m = some v ∧ f v = some r := Option.bind_eq_some_iff.1 h
def lt {α β : Type} (e : α) (f : α → Option β) : Option β := f e
def mr {σ A : Type} (m : Option A) : Option (σ ⊕ A) := m.map .inr
theorem mr_some {σ A : Type} {m : Option A} {r : σ ⊕ A} (h : mr m = some r) : ∃ a, r = .inr a ∧ m = some a := by
 unfold mr at h
 cases m with
 | none => cases h
 | some a => cases h; exact ⟨a, rfl, rfl⟩
def iter {σ A : Type} (body : σ → Option (σ ⊕ A)) : Nat → σ → Option A
 | 0, _ => none
 | n + 1, s => match body s with
  | none => none
  | some (.inl s') => iter body n s'
  | some (.inr a) => some a
theorem iter_mono {σ A : Type} {body : σ → Option (σ ⊕ A)} : ∀ {n m : Nat} {s : σ} {a : A}, iter body n s = some a → n ≤ m → iter body m s = some a
 | 0, _, _, _, h, _ => by cases h
 | n + 1, 0, _, _, _, hm => by omega
 | n + 1, m + 1, s, a, h, hm => by
  simp only [iter] at h ⊢
  split at h
  ·cases h
  ·exact iter_mono h (by omega)
  ·exact h
open Classical in
noncomputable def loop {σ A : Type} (body : σ → Option (σ ⊕ A)) (s : σ) : Option A :=
 if h : ∃ a n, iter body n s = some a then some h.choose else none
theorem loop_some {σ A : Type} {body : σ → Option (σ ⊕ A)} {s : σ} {a : A} : loop body s = some a ↔ ∃ n, iter body n s = some a := by
 constructor
 ·intro h
  unfold loop at h
  split at h
  ·rename_i hx
   cases h
   exact hx.choose_spec
  ·cases h
 ·rintro ⟨n, h⟩
  have hx : ∃ a n, iter body n s = some a := ⟨a, n, h⟩
  unfold loop
  rw [dif_pos hx]
  obtain ⟨m, hm⟩ := hx.choose_spec
  have h1 := iter_mono h (Nat.le_max_left n m)
  have h2 := iter_mono hm (Nat.le_max_right n m)
  rw [h1] at h2
  exact h2.symm
theorem loop_eq {σ A : Type} {body : σ → Option (σ ⊕ A)} (s : σ) : loop body s = match body s with
  | none => none
  | some (.inl s') => loop body s'
  | some (.inr a) => some a := by
 cases hb : body s with
 | none =>
  cases h : loop body s with
  | none => rfl
  | some a =>
   obtain ⟨n, hn⟩ := loop_some.1 h
   cases n with
   | zero => cases hn
   | succ n => simp only [iter, hb] at hn; cases hn
 | some r =>
  cases r with
  | inr a =>
   simp only
   exact loop_some.2 ⟨1, by simp only [iter, hb]⟩
  | inl s' =>
   simp only
   cases h : loop body s' with
   | some a =>
    obtain ⟨n, hn⟩ := loop_some.1 h
    exact loop_some.2 ⟨n + 1, by simp only [iter, hb]; exact hn⟩
   | none =>
    cases h2 : loop body s with
    | none => rfl
    | some a =>
     obtain ⟨n, hn⟩ := loop_some.1 h2
     cases n with
     | zero => cases hn
     | succ n =>
      simp only [iter, hb] at hn
      rw [loop_some.2 ⟨n, hn⟩] at h; cases h
structure Lay (α : Type) where
 sz : Nat
 cells : α → List AV
 dflt : α
 len : ∀ x, (cells x).length = sz
 pos : 0 < sz
 one : ∀ x, ∀ c ∈ cells x, c.one = true
def flat {α : Type} (L : Lay α) (xs : List α) : List AV := xs.flatMap L.cells
section
variable {α : Type} {L : Lay α} {xs ys : List α}
theorem flat_nil : flat L [] = [] := rfl
theorem flat_cons {x : α} : flat L (x :: xs) = L.cells x ++ flat L xs := rfl
theorem flat_append : flat L (xs ++ ys) = flat L xs ++ flat L ys := by simp [flat]
theorem flat_length : (flat L xs).length = xs.length * L.sz := by
 induction xs with
 | nil => simp [flat]
 | cons x xs ih => rw [flat_cons, List.length_append, ih, L.len, List.length_cons, Nat.add_mul]; omega
theorem flat_take (k : Nat) : (flat L xs).take (k * L.sz) = flat L (xs.take k) := by
 induction xs generalizing k with
 | nil => simp [flat]
 | cons x xs ih =>
  cases k with
  | zero => simp [flat]
  | succ k =>
   rw [flat_cons, List.take_succ_cons, flat_cons, ← ih, List.take_append, L.len, List.take_of_length_le (by rw [L.len, Nat.add_mul]; omega)]
   congr 2
   rw [Nat.add_mul]; omega
theorem flat_drop (k : Nat) : (flat L xs).drop (k * L.sz) = flat L (xs.drop k) := by
 induction xs generalizing k with
 | nil => simp [flat]
 | cons x xs ih =>
  cases k with
  | zero => simp [flat]
  | succ k =>
   rw [flat_cons, List.drop_succ_cons, ← ih, List.drop_append, L.len, List.drop_eq_nil_of_le (by rw [L.len, Nat.add_mul]; omega), List.nil_append]
   congr 1
   rw [Nat.add_mul]; omega
theorem flat_dropAt {i : Nat} (h : i < xs.length) : (flat L xs).drop (i * L.sz) = L.cells (xs.getD i L.dflt) ++ flat L (xs.drop (i + 1)) := by
 rw [flat_drop, List.drop_eq_getElem_cons h, flat_cons]
 simp [List.getD, h]
theorem flat_at {i : Nat} (h : i < xs.length) : ((flat L xs).drop (i * L.sz)).take L.sz = L.cells (xs.getD i L.dflt) := by
 rw [flat_dropAt h, List.take_append, L.len, Nat.sub_self, List.take_zero, List.append_nil, List.take_of_length_le (by rw [L.len]; exact Nat.le_refl _)]
theorem flat_one : ∀ c ∈ flat L xs, c.one = true := by
 intro c hc
 simp only [flat, List.mem_flatMap] at hc
 obtain ⟨x, _, hx⟩ := hc
 exact L.one x c hx
theorem splice_append {as bs cs : List AV} {k : Nat} (h : k = as.length) : splice k cs (as ++ bs) = as ++ splice 0 cs bs := by
 subst h
 have key : ∀ (cs bs : List AV) (j : Nat), splice (as.length + j) cs (as ++ bs) = as ++ splice j cs bs := by
  intro cs
  induction cs with
  | nil => intro bs j; rfl
  | cons c cs ih =>
   intro bs j
   simp only [splice]
   rw [List.set_append_right _ _ (by omega), show as.length + j - as.length = j by omega, show as.length + j + 1 = as.length + (j + 1) by omega]
   exact ih _ _
 exact key cs bs 0
theorem splice_all : ∀ (cs as : List AV) {bs : List AV}, cs.length = as.length → splice 0 cs (as ++ bs) = cs ++ bs := by
 have key : ∀ (cs as pre bs : List AV), cs.length = as.length → splice pre.length cs (pre ++ as ++ bs) = pre ++ cs ++ bs := by
  intro cs
  induction cs with
  | nil =>
   intro as pre bs h
   rw [List.eq_nil_of_length_eq_zero (l := as) (by simpa using h.symm)]; rfl
  | cons c cs ih =>
   intro as pre bs h
   cases as with
   | nil => cases h
   | cons a as =>
    simp only [splice]
    have h1 : (pre ++ a :: as ++ bs).set pre.length c = (pre ++ [c]) ++ as ++ bs := by
     rw [List.append_assoc, List.set_append_right _ _ (Nat.le_refl _)]
     simp
    rw [h1]
    have := ih as (pre ++ [c]) bs (by simpa using h)
    simpa using this
 intro cs as bs h
 simpa using key cs as [] bs h
end
def lI (k : IntKind) : Lay Int := ⟨1, fun n => [.lit (.int k n)], 0, fun _ => rfl, by decide, fun _ _ h => by simp at h; subst h; rfl⟩
def lB : Lay Bool := ⟨1, fun n => [.lit (.bool n)], false, fun _ => rfl, by decide, fun _ _ h => by simp at h; subst h; rfl⟩
def lStr : Lay ByteArray := ⟨1, fun n => [.lit (.string n)], ⟨#[]⟩, fun _ => rfl, by decide, fun _ _ h => by simp at h; subst h; rfl⟩
def eS {α : Type} (L : Lay α) (xs : List α) : AV := .slice .perm L.sz (flat L xs)
def lS {α : Type} (L : Lay α) : Lay (List α) := ⟨1, fun xs => [eS L xs], [], fun _ => rfl, by decide, fun _ _ h => by simp at h; subst h; rfl⟩
def eT {α : Type} (L : Lay α) (n : Name) (xs : List α) : AV := .slice (.tip n (xs.length * L.sz)) L.sz (flat L xs)
def oT {α : Type} (L : Lay α) (xs : List α) : AObj := .buf (xs.length * L.sz)
def bytesOf (s : ByteArray) : List Int := s.data.toList.map fun b => (b.toNat : Int)
section
variable {P : Program} {T : Tab} {d : Nat} {sl : Slots} {S : AHeap} {c : Nat} {kv : AV → AHeap → Nat → Prop} {kp : AV → AHeap → Prop} {α : Type} {L : Lay α} {xs ys : List α} {t tx : TypeId} {n : Name}
@[go_sem] theorem lI_cells {k m} : (lI k).cells m = [.lit (.int k m)] := rfl
theorem flat_div : (flat L xs).length / L.sz = xs.length := by rw [flat_length, Nat.mul_div_cancel _ L.pos]
theorem asrc_str {s : ByteArray} : asrc S 1 (.lit (.string s)) = some (1 = 1, flat (lI .u8) (bytesOf s)) := by
 simp only [asrc, flat, bytesOf, List.flatMap_map, lI_cells]
 congr 2
 induction s.data.toList with
 | nil => rfl
 | cons b bs ih => simp [List.flatMap_cons, ih]
theorem nums_flat : ∀ {ns : List Int}, nums (flat (lI .u8) ns) = some ns
 | [] => rfl
 | n :: ns => by
  have : flat (lI .u8) (n :: ns) = .lit (.int .u8 n) :: flat (lI .u8) ns := rfl
  rw [this]
  simp only [nums, AV.num, nums_flat (ns := ns)]
theorem append1_eT {e s1 s2 : Nat} {s3 : List Value} {tix ei : TI} {x : AV} {p : Prop} {cs : List AV} (ht : T t = some ⟨.slice e, s1, s2, s3⟩) (htx : T tx = some tix) (hei : T e = some ei) (hk : tix.d = .slice e ∨ tix.d = .string) (hsz : ei.size = L.sz)
  (hn : S n = some (oT L xs)) (hs : asrc S L.sz x = some (p, cs)) (hp : p) (hc : cs = flat L ys) (hb : (xs.length + ys.length) * ei.bytes ≤ 2 ^ 47 ∧ xs.length + ys.length < 2 ^ 63)
  (h : kv (eT L n (xs ++ ys)) (S.set n (oT L (xs ++ ys))) c) : append1 T d t tx (eT L n xs) x S c (k := ⟨kv⟩) := by
 subst hc
 have hdiv : ((flat L xs).length + (flat L ys).length) / L.sz = xs.length + ys.length := by rw [flat_length, flat_length, ← Nat.add_mul, Nat.mul_div_cancel _ L.pos]
 have e1 : xs.length * L.sz + (flat L ys).length = (xs ++ ys).length * L.sz := by rw [flat_length, List.length_append, Nat.add_mul]
 unfold append1 eT
 simp only [ht, htx, hei, hs, hdiv]
 refine .inr ⟨hk, hn, hsz, hp, flat_one, hb.1, hb.2, ?_⟩
 rw [e1, ← flat_append]
 exact h
theorem append1_new {e s1 s2 : Nat} {s3 : List Value} {tix ei : TI} {x : AV} {p : Prop} {cs : List AV} (ht : T t = some ⟨.slice e, s1, s2, s3⟩) (htx : T tx = some tix) (hei : T e = some ei) (hk : tix.d = .slice e ∨ tix.d = .string) (hsz : ei.size = L.sz)
  (hs : asrc S L.sz x = some (p, cs)) (hp : p) (hc : cs = flat L ys) (hb : ys.length * ei.bytes ≤ 2 ^ 47 ∧ ys.length < 2 ^ 63)
  (h : kv (eT L (d, c) ys) (S.set (d, c) (oT L ys)) (c + 1)) : append1 T d t tx .empt x S c (k := ⟨kv⟩) := by
 subst hc
 unfold append1
 simp only [ht, htx, hei, hsz, hs, flat_div]
 refine .inr ⟨hk, L.pos, hp, flat_one, hb.1, hb.2, true, ?_⟩
 have e1 : (flat L ys).length = ys.length * L.sz := flat_length
 rw [e1]; exact h
end
def Sub (a b : AV) : Prop := ∀ (K : Kn) (v : Value), SimV K a v → SimV K b v
theorem Sub.refl {a : AV} : Sub a a := fun _ _ h => h
theorem Sub.of_eq {a b : AV} (h : a = b) : Sub a b := h ▸ Sub.refl
theorem Sub.any {a : AV} : Sub a .any := fun _ _ _ => by simp only [SimV]
theorem Sub.young {α : Type} {L : Lay α} {xs : List α} : Sub (.slice .young L.sz (flat L xs)) (eS L xs) := by
 intro K v h
 simp only [eS, SimV] at h ⊢
 obtain ⟨a, len, cap, rfl, h1, h2, h3, h4⟩ := h
 refine ⟨a, len, cap, rfl, h1, h2, h3, ?_⟩
 rcases h4 with ⟨h5, h6⟩ | ⟨b, o, rfl, h5, _⟩
 ·exact .inl ⟨h5, h6⟩
 ·exact .inr ⟨b, o, rfl, h5, trivial⟩
theorem Sub.slice {own : Own} {sz : Nat} {cs : List AV} (ho : own.tag = .perm) (h0 : ∀ K cap a, NilOk K a cap own → cap = 0) : Sub (.slice own sz cs) (.slice .perm sz cs) := by
 intro K v h
 simp only [SimV] at h ⊢
 obtain ⟨a, len, cap, h1, h2, h3, h4, h5⟩ := h
 refine ⟨a, len, cap, h1, h2, h3, h4, ?_⟩
 rcases h5 with ⟨h5, h6⟩ | ⟨b, o, h5, h6, h7⟩
 ·exact .inl ⟨h5, fun _ => h0 _ _ _ h6⟩
 ·exact .inr ⟨b, o, h5, by rw [ho] at h6; exact h6, trivial⟩
theorem Sub.tip {α : Type} {L : Lay α} {n : Name} {xs : List α} : Sub (eT L n xs) (eS L xs) := Sub.slice rfl (fun _ _ _ h => h.1)
theorem Sub.empt {α : Type} {L : Lay α} : Sub .empt (eS L []) := by
 intro K v h
 simp only [SimV] at h
 obtain ⟨a, rfl⟩ := h
 simp only [eS, SimV]
 exact ⟨a, 0, 0, rfl, by simp [flat], Nat.le_refl _, L.pos, .inl ⟨rfl, fun _ => rfl⟩⟩
theorem Sub.nil {α : Type} {L : Lay α} : Sub (.lit (.slice none 0 0)) (eS L []) := by
 intro K v h
 simp only [SimV] at h
 subst h
 simp only [eS, SimV]
 exact ⟨none, 0, 0, rfl, by simp [flat], Nat.le_refl _, L.pos, .inl ⟨rfl, fun _ => rfl⟩⟩
theorem Sub.nil_empt : Sub (.lit (.slice none 0 0)) .empt := by
 intro K v h
 simp only [SimV] at h ⊢
 exact ⟨_, h⟩
def SlW (sl sl' : Slots) : Prop := ∀ i, Sub (sget sl i) (sget sl' i)
inductive SlAll (sl : Slots) : Slots → Prop
 | nil : SlAll sl []
 | cons {i : Nat} {b : AV} {r : Slots} : Sub (sget sl i) b → SlAll sl r → SlAll sl ((i, b) :: r)
theorem SlW.mk {sl sl' : Slots} (h : SlAll sl sl') : SlW sl sl' := by
 induction h with
 | nil => exact fun _ => Sub.any
 | cons h _ ih =>
  intro j
  simp only [sget]
  split
  ·rename_i e; subst e; exact h
  ·exact ih j
theorem SlW.sim {K : Kn} {sl sl' : Slots} {ts : Array Value} (h : SlW sl sl') (k : SimT K sl ts) : SimT K sl' ts := fun i => h i _ _ (k i)
def hp : List (Name × AObj) → AHeap → AHeap
 | [], S => S
 | (n, o) :: L, S => fun m => if m = n then some o else hp L S m
def hset : List (Name × AObj) → Name → AObj → List (Name × AObj)
 | [], n, o => [(n, o)]
 | (m, o') :: L, n, o => if m = n then (m, o) :: L else (m, o') :: hset L n o
@[go_sem] theorem hp_cons_apply {S : AHeap} {n m : Name} {o : AObj} {L : List (Name × AObj)} : hp ((n, o) :: L) S m = if m = n then some o else hp L S m := rfl
@[go_sem] theorem hset_nil {n : Name} {o : AObj} : hset [] n o = [(n, o)] := rfl
@[go_sem] theorem hset_cons {n m : Name} {o o' : AObj} {L : List (Name × AObj)} : hset ((m, o') :: L) n o = if m = n then (m, o) :: L else (m, o') :: hset L n o := rfl
@[go_sem] theorem hp_set {S : AHeap} {n : Name} {o : AObj} : ∀ {L : List (Name × AObj)}, (hp L S).set n o = hp (hset L n o) S
 | [] => rfl
 | (m, o') :: L => by
  have ih := hp_set (S := S) (n := n) (o := o) (L := L)
  simp only [hset]
  by_cases e : m = n
  ·subst e
   rw [if_pos rfl]
   funext k
   simp only [AHeap.set, hp]
   split <;> rfl
  ·rw [if_neg e]
   funext k
   have := congrFun ih k
   simp only [AHeap.set, hp] at this ⊢
   rw [← this]
   by_cases e1 : k = n
   ·subst e1; rw [if_pos rfl, if_neg (fun h => e h.symm), if_pos rfl]
   ·rw [if_neg e1, if_neg e1]
theorem hp_less {S : AHeap} {L D : List (Name × AObj)} (h : ∀ p ∈ D, S p.1 = none) : Less (hp L S) (hp (L ++ D) S) := by
 induction L with
 | nil =>
  intro n o hn
  induction D with
  | nil => exact hn
  | cons p D ih =>
   obtain ⟨m, q⟩ := p
   show (if n = m then some q else hp ([] ++ D) S n) = some o
   rw [if_neg]
   ·exact ih fun p hp => h p (by simp [hp])
   ·rintro rfl
    have := h (n, q) (by simp)
    simp only [hp] at hn
    rw [this] at hn; cases hn
 | cons p L ih =>
  obtain ⟨m, q⟩ := p
  intro n o hn
  simp only [List.cons_append, hp] at hn ⊢
  split at hn
  ·rename_i e; rw [if_pos e]; exact hn
  ·rename_i e; rw [if_neg e]; exact ih n o hn
theorem Ghost.slots {d : Nat} {sl sl' : Slots} {S : AHeap} {c : Nat} (h : SlW sl sl') : Ghost d sl S c sl' S c :=
 fun K _ _ hs ht hf => ⟨K, Step.refl d hs, h.sim ht, hf⟩
theorem Ghost.less {d : Nat} {sl : Slots} {S S' : AHeap} {c : Nat} (h : Less S' S) : Ghost d sl S c sl S' c :=
 fun K _ _ hs ht hf => ⟨K, (Step.refl d hs).sub h, ht, hf.1, fun i hi => ⟨(hf.2 i hi).1, h.none (hf.2 i hi).2⟩⟩
theorem Ghost.count {d : Nat} {sl : Slots} {S : AHeap} {c c' : Nat} (h : c ≤ c') : Ghost d sl S c sl S c' :=
 fun K _ _ hs ht hf => ⟨K, Step.refl d hs, ht, hf.1, fun i hi => hf.2 i (Nat.le_trans h hi)⟩
theorem Ghost.name {α : Type} {L : Lay α} {d : Nat} {sl sl' : Slots} {S : AHeap} {c i : Nat} (h : Sub (sget sl i) .empt) (hs : ∀ j, j ≠ i → sget sl' j = sget sl j) (hi : sget sl' i = eT L (d, c) []) : Ghost d sl S c sl' (S.set (d, c) (oT L [])) (c + 1) := by
 intro K w ts hs1 ht hf
 obtain ⟨hpn, hSn⟩ := fresh_pend hf
 have hv := h _ _ (ht i)
 simp only [SimV] at hv
 obtain ⟨ad, hv⟩ := hv
 obtain ⟨k1, s1, v1⟩ := hs1.openBuf hpn hf.1 (D := d) (Nat.le_refl _) (sz := L.sz) L.pos true ad
 refine ⟨K.unpend (d, c), ⟨k1, ?_, Below.refl _ _, set_names⟩, fun j => ?_, hf.next _ (Nat.le_refl _) (fun m hm hne => ⟨hm, hne⟩)⟩
 ·have : oT L ([] : List α) = .buf 0 := by simp [oT]
  rw [this]; exact s1
 ·by_cases e : j = i
  ·subst e
   rw [hi, hv]
   have : eT L (d, c) ([] : List α) = .slice (Own.at true (d, c) 0) L.sz [] := by simp [eT, flat, Own.at]
   rw [this]; exact v1
  ·rw [hs j e]; exact (ht j).mono k1
section
variable {P : Program} {T : Tab} {d : Nat} {sl : Slots} {S : AHeap} {c : Nat} {Q : Post} {kv : AV → AHeap → Nat → Prop} {kp : AV → AHeap → Prop}
@[go_sem] theorem forget_none : forget [] sl = sl := by simp [forget]
theorem xseq {ops : List LOp} {y : LC} (sl' : Slots) (S' : AHeap) (c' : Nat) (main : LW P T y d sl' S' c' Q) (h : ∀ (k : Slots → AHeap → Nat → Prop) (kp : AV → AHeap → Prop), (∀ sl S c, Ghost d sl S c sl' S' c' → k sl S c) → XOps P T d ops sl S c k kp) : LW P T (.seq (.reg ops []) y) d sl S c Q :=
 LW_seq_regX main fun k hk => h k _ fun sl S c hg => hk sl S c (by rw [forget_none]; exact hg)
theorem xcond {o : Operand} {x y : LC} (b : Bool) (hb : ev sl o = .lit (.bool b)) (h1 : b = true → LW P T x d sl S c Q) (h2 : b = false → LW P T y d sl S c Q) : LW P T (.cond o [] x y) d sl S c Q :=
 LW_cond hb (fun h => by rw [forget_none]; exact h1 h) (fun h => by rw [forget_none]; exact h2 h)
inductive SubL : List AV → List AV → Prop
 | nil : SubL [] []
 | cons {a b : AV} {as bs : List AV} : Sub a b → SubL as bs → SubL (a :: as) (b :: bs)
theorem SubL.refl : ∀ {as : List AV}, SubL as as
 | [] => .nil
 | _ :: _ => .cons Sub.refl SubL.refl
theorem SubL.sim {K : Kn} {as bs : List AV} (h : SubL as bs) : ∀ {vs : List Value}, SimL K as vs → SimL K bs vs := by
 induction h with
 | nil => exact fun h => h
 | cons h _ ih =>
  intro vs hv
  cases vs with
  | nil => simp [SimL] at hv
  | cons v vs => simp only [SimL] at hv ⊢; exact ⟨h _ _ hv.1, ih hv.2⟩
theorem Sub.agg {as bs : List AV} (h : SubL as bs) : Sub (.agg as) (.agg bs) := by
 intro K v hv
 simp only [SimV] at hv ⊢
 obtain ⟨vs, h1, h2⟩ := hv
 exact ⟨vs, h1, h.sim h2⟩
theorem AC.args {g : FuncId} {as bs : List AV} {R : AEnd → AHeap → Prop} (h : AC P g bs S R) (k : SubL as bs) : AC P g as S R :=
 ⟨h.1, fun K w vs hs hv => h.2 K w vs hs (k.sim hv)⟩
end
def KeepL : List AV → List AV → Prop
 | a :: as, b :: bs => (b.owns = false ∨ a = b) ∧ KeepL as bs
 | _, _ => True
theorem KeepL.get : ∀ {as bs : List AV} {i : Nat} {a b : AV}, KeepL as bs → as[i]? = some a → bs[i]? = some b → b.owns = false ∨ a = b
 | a :: as, b :: bs, 0, x, y, h, h1, h2 => by simp at h1 h2; subst h1 h2; exact h.1
 | a :: as, b :: bs, i + 1, x, y, h, h1, h2 => KeepL.get h.2 (by simpa using h1) (by simpa using h2)
 | [], _, _, _, _, _, h1, _ => by simp at h1
 | _ :: _, [], _, _, _, _, _, h2 => by simp at h2
inductive OSub : AObj → AObj → Prop
 | refl {o : AObj} : OSub o o
 | box {as bs : List AV} : SubL as bs → KeepL as bs → OSub (.box as) (.box bs)
theorem SubL.length {as bs : List AV} (h : SubL as bs) : as.length = bs.length := by
 induction h with
 | nil => rfl
 | cons _ _ ih => simp [ih]
theorem SubL.get {as bs : List AV} (h : SubL as bs) : ∀ (i : Nat) (b : AV), bs[i]? = some b → ∃ a, as[i]? = some a ∧ Sub a b := by
 induction h with
 | nil => intro i b hb; simp at hb
 | cons h _ ih =>
  intro i b hb
  cases i with
  | zero => simp at hb; subst hb; exact ⟨_, rfl, h⟩
  | succ i => simpa using ih i b (by simpa using hb)
theorem Sat.osub {K : Kn} {S S' : AHeap} {w : World} (hs : Sat K S w) (h : ∀ n o', S' n = some o' → ∃ o, S n = some o ∧ OSub o o') (h0 : ∀ n, S n = none → S' n = none) : Sat K S' w := by
 obtain ⟨owner, o1, o2, o3, o4, o5⟩ := hs.objs
 refine ⟨hs.perm, ⟨owner, o1, o2, fun b o n v hk ⟨len, hl⟩ => ?_, fun n obj hn => ?_, o5⟩, fun n hn => ⟨h0 n (hs.fresh n hn).1, (hs.fresh n hn).2⟩, hs.pend, hs.tk, hs.low, fun n cs hn => by
  obtain ⟨q, h1, h2⟩ := h n _ hn
  cases h2 with
  | refl => exact hs.based n _ h1
  | box => exact hs.based n _ h1, hs.fixd⟩
 ·obtain ⟨q, h1, h2⟩ := h n _ hl
  cases h2 with
  | refl => exact o3 b o n v hk ⟨len, h1⟩
 ·obtain ⟨q, h1, h2⟩ := h n _ hn
  cases h2 with
  | refl => exact o4 n _ h1
  | box hsub hkp =>
   have ho := o4 n _ h1
   simp only [ObjOk] at ho ⊢
   intro b f hb i c hc
   obtain ⟨a, g1, g2⟩ := hsub.get i c hc
   obtain ⟨q1, u, q2, q3, q4, q5⟩ := ho b f hb i a g1
   refine ⟨q1, u, q2, q3, g2 _ _ q4, ?_⟩
   rcases hkp.get g1 hc with h | rfl
   ·exact PartOk.of_not h
   ·exact q5
inductive HpW : List (Name × AObj) → List (Name × AObj) → Prop
 | nil : HpW [] []
 | cons {n : Name} {o o' : AObj} {L L' : List (Name × AObj)} : OSub o o' → HpW L L' → HpW ((n, o) :: L) ((n, o') :: L')
theorem HpW.refl : ∀ {L : List (Name × AObj)}, HpW L L
 | [] => .nil
 | (_, _) :: _ => .cons .refl HpW.refl
theorem HpW.get {S : AHeap} {L L' : List (Name × AObj)} (h : HpW L L') : (∀ n o', hp L' S n = some o' → ∃ o, hp L S n = some o ∧ OSub o o') ∧ (∀ n, hp L S n = none → hp L' S n = none) := by
 induction h with
 | nil => exact ⟨fun n o' h => ⟨o', h, .refl⟩, fun n h => h⟩
 | cons ho _ ih =>
  refine ⟨fun n o' h => ?_, fun n h => ?_⟩
  ·simp only [hp] at h ⊢
   split at h
   ·rename_i e; rw [if_pos e]; cases h; exact ⟨_, rfl, ho⟩
   ·rename_i e; rw [if_neg e]; exact ih.1 n o' h
  ·simp only [hp] at h ⊢
   split at h
   ·cases h
   ·rename_i e; rw [if_neg e]; exact ih.2 n h
theorem Ghost.heap {d : Nat} {sl : Slots} {S : AHeap} {c : Nat} {L L' : List (Name × AObj)} (h : HpW L L') : Ghost d sl (hp L S) c sl (hp L' S) c := by
 intro K w ts hs ht hf
 obtain ⟨h1, h2⟩ := h.get (S := S)
 exact ⟨K, ⟨Kle.refl _ _, hs.osub h1 h2, Below.refl _ _, fun n _ => h2 n⟩, ht, hf.1, fun i hi => ⟨(hf.2 i hi).1, h2 _ (hf.2 i hi).2⟩⟩
theorem xghost {d : Nat} {sl sl' : Slots} {S : AHeap} {c c' : Nat} {L L' D : List (Name × AObj)} (h1 : SlAll sl sl') (h2 : HpW L (L' ++ D)) (h3 : ∀ p ∈ D, S p.1 = none) (hc : c ≤ c') : Ghost d sl (hp L S) c sl' (hp L' S) c' :=
 (Ghost.slots (SlW.mk h1)).trans ((Ghost.heap h2).trans ((Ghost.less (hp_less h3)).trans (Ghost.count hc)))
theorem xname {α : Type} (L0 : Lay α) (i : Nat) {d : Nat} {sl : Slots} {S : AHeap} {c : Nat} {L : List (Name × AObj)} (h : Sub (sget sl i) .empt) : Ghost d sl (hp L S) c (sset sl i (eT L0 (d, c) [])) (hp (hset L (d, c) (oT L0 [])) S) (c + 1) := by
 rw [← hp_set]
 exact Ghost.name h (fun j hj => by rw [sget_sset, if_neg hj]) (by rw [sget_sset, if_pos rfl])
end Go.Al
