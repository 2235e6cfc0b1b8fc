import Derived.Below
import Derived.Orders
import Derived.WalkKit
import Derived.Laws.AppendOwn
namespace Go.Al
open Go.RowKit
abbrev Name := Nat × Nat
inductive Own where
 | perm
 | buf (n : Name) (e : Nat)
 | tip (n : Name) (e : Nat)
 | cut (n : Name) (e k : Nat)
 | young
 deriving DecidableEq
inductive AV where
 | any
 | empt
 | lit (v : Value)
 | ptr (n : Name) (o : Nat)
 | rptr (own : Own) (cs : List AV)
 | slice (own : Own) (sz : Nat) (cs : List AV)
 | sref (n : Name) (sz o len cap : Nat)
 | agg (cs : List AV)
 | tup (vs : List AV)
 | fn (f : Fn) (first cap : List AV)
 | ifc (t : TypeId) (x : AV)
 | map (n : Name)
 | iter (n : Name)
 | own (sz : Nat) (cs : List AV)
 deriving Inhabited
inductive AObj where
 | box (cs : List AV)
 | buf (len : Nat)
 | map (es : List (Value × AV))
 deriving Inhabited
abbrev AHeap := Name → Option AObj
def AHeap.set (S : AHeap) (n : Name) (o : AObj) : AHeap := fun m => if m = n then some o else S m
def AHeap.del (S : AHeap) (n : Name) : AHeap := fun m => if m = n then none else S m
inductive Tag where
 | perm
 | buf (n : Name)
 | young
 deriving DecidableEq
def Own.tag : Own → Tag
 | .perm => .perm
 | .buf n _ => .buf n
 | .tip _ _ => .perm
 | .cut n _ _ => .buf n
 | .young => .perm
structure Tip where
 b : Nat
 off : Nat
 e : Nat
 lim : Nat
 deriving DecidableEq
structure Kn where
 low : Nat
 dmax : Nat
 pend : Name → Prop
 base : Name → Option (Nat × Nat)
 tip : Name → Option Tip
 known : Nat → Nat → Tag → Value → Prop
 fixed : Nat → Obj → Prop
 ent : Nat
def noCells : Obj → Bool
 | .cells .. => false
 | _ => true
def TipOk (K : Kn) (b o n cap : Nat) : Own → Prop
 | .perm => True
 | .buf m e => n ≤ e ∧ ∃ t, K.tip m = some t ∧ e ≤ t.e ∧ (e = t.e → b = t.b ∧ o + n = t.off ∧ o + cap = t.lim)
 | .tip m e => n ≤ e ∧ ∃ t, K.tip m = some t ∧ e ≤ t.e ∧ (e = t.e → b = t.b ∧ o + n = t.off ∧ o + cap = t.lim)
 | .cut m e k => n ≤ e ∧ ∃ t, K.tip m = some t ∧ e + k ≤ t.e ∧ (e + k = t.e → b = t.b ∧ o + n + k = t.off ∧ o + cap = t.lim)
 | .young => ∃ q v, K.known b q .young v
def NilOk (K : Kn) (a : Option Addr) (cap : Nat) : Own → Prop
 | .perm => a = none → cap = 0
 | .buf n _ => cap = 0 ∧ n.1 < K.dmax ∧ ¬ K.pend n
 | .tip n _ => cap = 0 ∧ n.1 < K.dmax ∧ ¬ K.pend n
 | .cut _ _ _ => False
 | .young => a = none → cap = 0
mutual
def SimV (K : Kn) : AV → Value → Prop
 | .any, _ => True
 | .empt, v => ∃ a, v = .slice a 0 0
 | .lit u, v => v = u
 | .ptr n o, v => ∃ b f, K.base n = some (b, f) ∧ v = .pointer (some ⟨b, f + o, none⟩)
 | .rptr own cs, v => ∃ b o, v = .pointer (some ⟨b, o, none⟩) ∧ SimC K own.tag b o cs
 | .slice own sz cs, v => ∃ a len cap, v = .slice a len cap ∧ len * sz = cs.length ∧ len ≤ cap ∧ 0 < sz ∧
   ((cs = [] ∧ NilOk K a cap own) ∨ ∃ b o, a = some ⟨b, o, none⟩ ∧ SimC K own.tag b o cs ∧ TipOk K b o cs.length (cap * sz) own)
 | .sref n sz o len cap, v => ∃ b f cap', K.base n = some (b, f) ∧ v = .slice (some ⟨b, f + o, none⟩) len cap' ∧ len ≤ cap ∧ cap ≤ cap' ∧ 0 < sz
 | .agg cs, v => ∃ vs, v = .agg vs ∧ SimL K cs vs.toList
 | .tup cs, v => ∃ vs, v = .tuple vs ∧ SimL K cs vs.toList
 | .fn f first cap, v => ∃ v1 v2, v = .func f v1 v2 ∧ SimL K first v1.toList ∧ SimL K cap v2.toList
 | .ifc t x, v => ∃ u, v = .iface t u ∧ SimV K x u
 | .map n, v => ∃ b f, K.base n = some (b, f) ∧ v = .map (some b)
 | .iter n, v => ∃ b f, K.base n = some (b, f) ∧ v = .pointer (some ⟨b, 0, none⟩)
 | .own _ _, v => ∃ a len cap, v = .slice a len cap
def SimL (K : Kn) : List AV → List Value → Prop
 | [], [] => True
 | a :: as, v :: vs => SimV K a v ∧ SimL K as vs
 | _, _ => False
def SimC (K : Kn) (t : Tag) (b o : Nat) : List AV → Prop
 | [] => True
 | c :: cs => (∃ u, K.known b o t u ∧ SimV K c u) ∧ SimC K t b (o + 1) cs
end
structure Kle0 (D : Nat) (K K' : Kn) : Prop where
 low : K'.low = K.low
 dmax : K.dmax ≤ K'.dmax
 base : ∀ n p, K.base n = some p → K'.base n = some p
 tip : ∀ n t, K.tip n = some t → ∃ t', K'.tip n = some t' ∧ (t' = t ∨ t.e < t'.e)
 known : ∀ b o t v, K.known b o t v → K'.known b o t v
 shrink : ∀ n, n.1 < K.dmax → K'.pend n → K.pend n
 keep : ∀ n, n.1 < D → K.pend n → K'.pend n
structure Kle (D : Nat) (K K' : Kn) : Prop extends Kle0 D K K' where
 fixed : ∀ b o, K.fixed b o → K'.fixed b o
 ent : K'.ent = K.ent
theorem Kle.refl (D : Nat) (K : Kn) : Kle D K K :=
 ⟨⟨rfl, Nat.le_refl _, fun _ _ h => h, fun _ t h => ⟨t, h, .inl rfl⟩, fun _ _ _ _ h => h, fun _ _ h => h, fun _ _ h => h⟩, fun _ _ h => h, rfl⟩
theorem Kle.trans {D : Nat} {K K' K'' : Kn} (h : Kle D K K') (k : Kle D K' K'') : Kle D K K'' where
 low := k.low.trans h.low
 fixed b o q := k.fixed b o (h.fixed b o q)
 ent := k.ent.trans h.ent
 dmax := Nat.le_trans h.dmax k.dmax
 base n p hp := k.base n p (h.base n p hp)
 tip n t ht := by
  obtain ⟨t', h1, h2⟩ := h.tip n t ht
  obtain ⟨t'', h3, h4⟩ := k.tip n t' h1
  refine ⟨t'', h3, ?_⟩
  rcases h2 with rfl | h2
  ·exact h4
  ·rcases h4 with rfl | h4
   ·exact .inr h2
   ·exact .inr (Nat.lt_trans h2 h4)
 known b o t v hk := k.known b o t v (h.known b o t v hk)
 shrink n hn hp := h.shrink n hn (k.shrink n (Nat.lt_of_lt_of_le hn h.dmax) hp)
 keep n hn hp := k.keep n hn (h.keep n hn hp)
theorem Kle0.trans {D : Nat} {K K' K'' : Kn} (h : Kle0 D K K') (k : Kle0 D K' K'') : Kle0 D K K'' where
 low := k.low.trans h.low
 dmax := Nat.le_trans h.dmax k.dmax
 base n p hp := k.base n p (h.base n p hp)
 tip n t ht := by
  obtain ⟨t', h1, h2⟩ := h.tip n t ht
  obtain ⟨t'', h3, h4⟩ := k.tip n t' h1
  refine ⟨t'', h3, ?_⟩
  rcases h2 with rfl | h2
  ·exact h4
  ·rcases h4 with rfl | h4
   ·exact .inr h2
   ·exact .inr (Nat.lt_trans h2 h4)
 known b o t v hk := k.known b o t v (h.known b o t v hk)
 shrink n hn hp := h.shrink n hn (k.shrink n (Nat.lt_of_lt_of_le hn h.dmax) hp)
 keep n hn hp := k.keep n hn (h.keep n hn hp)
theorem Kle.mono {D D' : Nat} {K K' : Kn} (h : Kle D K K') (hd : D' ≤ D) : Kle D' K K' :=
 ⟨⟨h.low, h.dmax, h.base, h.tip, h.known, h.shrink, fun n hn => h.keep n (Nat.lt_of_lt_of_le hn hd)⟩, h.fixed, h.ent⟩
theorem NilOk.mono0 {D : Nat} {K K' : Kn} (h : Kle0 D K K') {a : Option Addr} {cap : Nat} : ∀ {own : Own}, NilOk K a cap own → NilOk K' a cap own
 | .perm, s => s
 | .buf n _, ⟨h2, h3, h4⟩ => ⟨h2, Nat.lt_of_lt_of_le h3 h.dmax, fun hp => h4 (h.shrink n h3 hp)⟩
 | .tip n _, ⟨h2, h3, h4⟩ => ⟨h2, Nat.lt_of_lt_of_le h3 h.dmax, fun hp => h4 (h.shrink n h3 hp)⟩
 | .cut _ _ _, s => s.elim
 | .young, s => s
theorem TipOk.mono0 {D : Nat} {K K' : Kn} (h : Kle0 D K K') {b o n cap : Nat} : ∀ {own : Own}, TipOk K b o n cap own → TipOk K' b o n cap own
 | .perm, _ => trivial
 | .buf m e, ⟨h0, t, h1, h2, h3⟩ => by
  obtain ⟨t', h4, h5⟩ := h.tip m t h1
  refine ⟨h0, t', h4, ?_, ?_⟩
  ·rcases h5 with rfl | h5 <;> omega
  ·rcases h5 with rfl | h5
   ·exact h3
   ·intro he; omega
 | .tip m e, ⟨h0, t, h1, h2, h3⟩ => by
  obtain ⟨t', h4, h5⟩ := h.tip m t h1
  refine ⟨h0, t', h4, ?_, ?_⟩
  ·rcases h5 with rfl | h5 <;> omega
  ·rcases h5 with rfl | h5
   ·exact h3
   ·intro he; omega
 | .cut m e k, ⟨h0, t, h1, h2, h3⟩ => by
  obtain ⟨t', h4, h5⟩ := h.tip m t h1
  refine ⟨h0, t', h4, ?_, ?_⟩
  ·rcases h5 with rfl | h5 <;> omega
  ·rcases h5 with rfl | h5
   ·exact h3
   ·intro he; omega
 | .young, ⟨q, v, h1⟩ => ⟨q, v, h.known _ _ _ _ h1⟩
mutual
theorem SimV.mono0 {D : Nat} {K K' : Kn} (h : Kle0 D K K') : ∀ {a : AV} {v : Value}, SimV K a v → SimV K' a v
 | .any, _, _ => trivial
 | .empt, _, s => s
 | .lit _, _, s => s
 | .ptr n o, v, s => by
  simp only [SimV] at s ⊢
  obtain ⟨b, f, h1, h2⟩ := s
  exact ⟨b, f, h.base _ _ h1, h2⟩
 | .rptr own cs, v, s => by
  simp only [SimV] at s ⊢
  obtain ⟨b, o, h1, h2⟩ := s
  exact ⟨b, o, h1, SimC.mono0 h h2⟩
 | .slice own sz cs, v, s => by
  simp only [SimV] at s ⊢
  obtain ⟨a, len, cap, h1, h2, h3, h0, h4⟩ := s
  refine ⟨a, len, cap, h1, h2, h3, h0, h4.imp (fun q => ⟨q.1, q.2.mono0 h⟩) ?_⟩
  rintro ⟨b, o, h5, h6, h7⟩
  exact ⟨b, o, h5, SimC.mono0 h h6, h7.mono0 h⟩
 | .sref n sz o len cap, v, s => by
  simp only [SimV] at s ⊢
  obtain ⟨b, f, c', h1, h2⟩ := s
  exact ⟨b, f, c', h.base _ _ h1, h2⟩
 | .agg cs, v, s => by
  simp only [SimV] at s ⊢
  obtain ⟨vs, h1, h2⟩ := s
  exact ⟨vs, h1, SimL.mono0 h h2⟩
 | .tup cs, v, s => by
  simp only [SimV] at s ⊢
  obtain ⟨vs, h1, h2⟩ := s
  exact ⟨vs, h1, SimL.mono0 h h2⟩
 | .fn f first cap, v, s => by
  simp only [SimV] at s ⊢
  obtain ⟨v1, v2, h1, h2, h3⟩ := s
  exact ⟨v1, v2, h1, SimL.mono0 h h2, SimL.mono0 h h3⟩
 | .ifc t x, v, s => by
  simp only [SimV] at s ⊢
  obtain ⟨u, h1, h2⟩ := s
  exact ⟨u, h1, SimV.mono0 h h2⟩
 | .map n, v, s => by
  simp only [SimV] at s ⊢
  obtain ⟨b, f, h1, h2⟩ := s
  exact ⟨b, f, h.base _ _ h1, h2⟩
 | .iter n, v, s => by
  simp only [SimV] at s ⊢
  obtain ⟨b, f, h1, h2⟩ := s
  exact ⟨b, f, h.base _ _ h1, h2⟩
 | .own sz cs, v, s => by simp only [SimV] at s ⊢; exact s
theorem SimL.mono0 {D : Nat} {K K' : Kn} (h : Kle0 D K K') : ∀ {as : List AV} {vs : List Value}, SimL K as vs → SimL K' as vs
 | [], [], _ => trivial
 | a :: as, v :: vs, s => by
  simp only [SimL] at s ⊢
  exact ⟨SimV.mono0 h s.1, SimL.mono0 h s.2⟩
 | [], _ :: _, s => by simp [SimL] at s
 | _ :: _, [], s => by simp [SimL] at s
theorem SimC.mono0 {D : Nat} {K K' : Kn} (h : Kle0 D K K') {t : Tag} {b o : Nat} : ∀ {cs : List AV}, SimC K t b o cs → SimC K' t b o cs
 | [], _ => trivial
 | c :: cs, s => by
  simp only [SimC] at s ⊢
  obtain ⟨⟨u, h1, h2⟩, h3⟩ := s
  exact ⟨⟨u, h.known _ _ _ _ h1, SimV.mono0 h h2⟩, SimC.mono0 h h3⟩
end
theorem SimC_get {K : Kn} {t : Tag} {b : Nat} : ∀ {cs : List AV} {o : Nat}, SimC K t b o cs → ∀ (i : Nat) (c : AV), cs[i]? = some c → ∃ u, K.known b (o + i) t u ∧ SimV K c u
 | [], _, _, i, c, h => by simp at h
 | x :: cs, o, s, 0, c, h => by
  simp only [SimC] at s
  simp at h; subst h
  exact s.1
 | x :: cs, o, s, i + 1, c, h => by
  simp only [SimC] at s
  have := SimC_get s.2 i c (by simpa using h)
  rw [show o + (i + 1) = o + 1 + i from by omega]
  exact this
theorem SimC_of {K : Kn} {t : Tag} {b : Nat} : ∀ {cs : List AV} {o : Nat}, (∀ (i : Nat) (c : AV), cs[i]? = some c → ∃ u, K.known b (o + i) t u ∧ SimV K c u) → SimC K t b o cs
 | [], _, _ => by simp [SimC]
 | x :: cs, o, h => by
  simp only [SimC]
  refine ⟨by simpa using h 0 x rfl, SimC_of fun i c hc => ?_⟩
  have := h (i + 1) c (by simpa using hc)
  rwa [show o + (i + 1) = o + 1 + i from by omega] at this
theorem SimC_append {K : Kn} {t : Tag} {b o : Nat} {xs ys : List AV} : SimC K t b o (xs ++ ys) ↔ SimC K t b o xs ∧ SimC K t b (o + xs.length) ys := by
 induction xs generalizing o with
 | nil => simp [SimC]
 | cons x xs ih =>
  simp only [List.cons_append, SimC, ih, List.length_cons, and_assoc]
  rw [show o + 1 + xs.length = o + (xs.length + 1) from by omega]
theorem SimC_drop {K : Kn} {t : Tag} {b o : Nat} {cs : List AV} (h : SimC K t b o cs) (k : Nat) (hk : k ≤ cs.length) : SimC K t b (o + k) (cs.drop k) := by
 have := List.take_append_drop k cs
 rw [← this] at h
 have := (SimC_append.1 h).2
 rwa [List.length_take, Nat.min_eq_left hk] at this
theorem SimC_take {K : Kn} {t : Tag} {b o : Nat} {cs : List AV} (h : SimC K t b o cs) (k : Nat) : SimC K t b o (cs.take k) := by
 have := List.take_append_drop k cs
 rw [← this] at h
 exact (SimC_append.1 h).1
theorem SimL_length {K : Kn} : ∀ {as : List AV} {vs : List Value}, SimL K as vs → as.length = vs.length
 | [], [], _ => rfl
 | a :: as, v :: vs, s => by simp only [SimL] at s; simp [SimL_length s.2]
 | [], _ :: _, s => by simp [SimL] at s
 | _ :: _, [], s => by simp [SimL] at s
theorem SimL_get {K : Kn} : ∀ {as : List AV} {vs : List Value}, SimL K as vs → ∀ (i : Nat) (a : AV), as[i]? = some a → ∃ v, vs[i]? = some v ∧ SimV K a v
 | [], [], _, i, a, h => by simp at h
 | x :: as, v :: vs, s, 0, a, h => by simp only [SimL] at s; simp at h; subst h; exact ⟨v, rfl, s.1⟩
 | x :: as, v :: vs, s, i + 1, a, h => by simp only [SimL] at s; exact SimL_get s.2 i a (by simpa using h)
 | [], _ :: _, s, _, _, _ => by simp [SimL] at s
 | _ :: _, [], s, _, _, _ => by simp [SimL] at s
theorem SimL_append {K : Kn} : ∀ {as : List AV} {vs : List Value} {as' : List AV} {vs' : List Value}, SimL K as vs → SimL K as' vs' → SimL K (as ++ as') (vs ++ vs')
 | [], [], _, _, _, h => h
 | a :: as, v :: vs, as', vs', s, h => by simp only [SimL, List.cons_append] at s ⊢; exact ⟨s.1, SimL_append s.2 h⟩
 | [], _ :: _, _, _, s, _ => by simp [SimL] at s
 | _ :: _, [], _, _, s, _ => by simp [SimL] at s
theorem SimL_take {K : Kn} : ∀ {as : List AV} {vs : List Value} (k : Nat), SimL K as vs → SimL K (as.take k) (vs.take k)
 | _, _, 0, _ => by simp [SimL]
 | [], [], k + 1, _ => by simp [SimL]
 | a :: as, v :: vs, k + 1, s => by simp only [SimL, List.take_succ_cons] at s ⊢; exact ⟨s.1, SimL_take k s.2⟩
 | [], _ :: _, _, s => by simp [SimL] at s
 | _ :: _, [], _, s => by simp [SimL] at s
theorem SimL_drop {K : Kn} : ∀ {as : List AV} {vs : List Value} (k : Nat), SimL K as vs → SimL K (as.drop k) (vs.drop k)
 | _, _, 0, h => by simpa using h
 | [], [], k + 1, _ => by simp [SimL]
 | a :: as, v :: vs, k + 1, s => by simp only [SimL, List.drop_succ_cons] at s ⊢; exact SimL_drop k s.2
 | [], _ :: _, _, s => by simp [SimL] at s
 | _ :: _, [], _, s => by simp [SimL] at s
def AV.cells : AV → List AV
 | .agg cs => cs
 | x => [x]
abbrev Plot := Name × Nat
def PartOk (K : Kn) (owner : Nat → Nat → Option Plot) (w : World) (p : Plot) : AV → Value → Prop
 | .own sz cs, u => ∃ a len cap, u = .slice a len cap ∧ len * sz = cs.length ∧ len ≤ cap ∧ 0 < sz ∧
   ((cs = [] ∧ cap = 0) ∨ ∃ b o, a = some ⟨b, o, none⟩ ∧ (∀ j, j < cap * sz → owner b (o + j) = some p ∧ (∃ x, w.cell? ⟨b, o + j, none⟩ = some x) ∧ w.frozen? ⟨b, o + j, none⟩ = false) ∧
    ∀ j c, cs[j]? = some c → ∃ x, w.cell? ⟨b, o + j, none⟩ = some x ∧ SimV K c x)
 | _, _ => True
def AV.owns : AV → Bool
 | .own _ _ => true
 | _ => false
theorem PartOk.of_not {K : Kn} {owner : Nat → Nat → Option Plot} {w : World} {p : Plot} {c : AV} {u : Value} (h : c.owns = false) : PartOk K owner w p c u := by
 cases c <;> first | trivial | cases h
theorem PartOk.turn0 {K K' : Kn} {owner owner' : Nat → Nat → Option Plot} {w w' : World} {p : Plot} {c : AV} {u : Value} (h : PartOk K owner w p c u) {D : Nat} (hk : Kle0 D K K')
  (ho : ∀ b o, owner b o = some p → owner' b o = some p ∧ w'.cell? ⟨b, o, none⟩ = w.cell? ⟨b, o, none⟩ ∧ w'.frozen? ⟨b, o, none⟩ = w.frozen? ⟨b, o, none⟩) : PartOk K' owner' w' p c u := by
 cases c <;> try trivial
 rename_i sz cs
 obtain ⟨a, len, cap, rfl, h1, h2, h3, h4⟩ := h
 refine ⟨a, len, cap, rfl, h1, h2, h3, h4.imp id ?_⟩
 rintro ⟨b, o, rfl, h5, h6⟩
 refine ⟨b, o, rfl, fun j hj => ?_, fun j c hc => ?_⟩
 ·obtain ⟨g1, ⟨x, g2⟩, g3⟩ := h5 j hj
  obtain ⟨q1, q2, q3⟩ := ho _ _ g1
  exact ⟨q1, ⟨x, by rw [q2]; exact g2⟩, by rw [q3]; exact g3⟩
 ·obtain ⟨x, g1, g2⟩ := h6 j c hc
  have hj : j < cs.length := (List.getElem?_eq_some_iff.1 hc).1
  have hj' : j < cap * sz := Nat.lt_of_lt_of_le (h1 ▸ hj) (Nat.mul_le_mul_right _ h2)
  obtain ⟨q1, q2, q3⟩ := ho _ _ (h5 j hj').1
  exact ⟨x, by rw [q2]; exact g1, g2.mono0 hk⟩
theorem SimV.mono {D : Nat} {K K' : Kn} (h : Kle D K K') {a : AV} {v : Value} (k : SimV K a v) : SimV K' a v := k.mono0 h.toKle0
theorem SimC.mono {D : Nat} {K K' : Kn} (h : Kle D K K') {t : Tag} {b o : Nat} {cs : List AV} (k : SimC K t b o cs) : SimC K' t b o cs := k.mono0 h.toKle0
theorem PartOk.turn {K K' : Kn} {owner owner' : Nat → Nat → Option Plot} {w w' : World} {p : Plot} {c : AV} {u : Value} (h : PartOk K owner w p c u) {D : Nat} (hk : Kle D K K')
  (ho : ∀ b o, owner b o = some p → owner' b o = some p ∧ w'.cell? ⟨b, o, none⟩ = w.cell? ⟨b, o, none⟩ ∧ w'.frozen? ⟨b, o, none⟩ = w.frozen? ⟨b, o, none⟩) : PartOk K' owner' w' p c u := h.turn0 hk.toKle0 ho
def ObjOk (K : Kn) (owner : Nat → Nat → Option Plot) (w : World) (n : Name) : AObj → Prop
 | .box cs => ∀ b f, K.base n = some (b, f) → ∀ i c, cs[i]? = some c → owner b (f + i) = some (n, 0) ∧ ∃ u, w.cell? ⟨b, f + i, none⟩ = some u ∧ w.frozen? ⟨b, f + i, none⟩ = false ∧ SimV K c u ∧ PartOk K owner w (n, i + 1) c u
 | .buf len => ∀ t, K.tip n = some t → t.e = len ∧ t.off ≤ t.lim ∧ ∀ i, t.off ≤ i → i < t.lim → owner t.b i = some (n, 0) ∧ (∃ u, w.cell? ⟨t.b, i, none⟩ = some u) ∧ w.frozen? ⟨t.b, i, none⟩ = false ∧ ∀ v, ¬ K.known t.b i (.buf n) v
 | .map es => ∃ b f, K.base n = some (b, f) ∧ (∀ o, owner b o = some (n, 0)) ∧ ∃ ents clock, w.heap[b]? = some (.map ents clock) ∧
   (∀ e ∈ ents.toList, ∃ x, (e.key, x) ∈ es ∧ SimV K x e.val) ∧ (∀ p ∈ es, ∃ e ∈ ents.toList, e.key = p.1) ∧ (ents.toList.map (·.born)).Nodup ∧ (∀ e ∈ ents.toList, e.born < clock)
structure Sat (K : Kn) (S : AHeap) (w : World) : Prop where
 perm : ∀ b o v, K.known b o .perm v → w.cell? ⟨b, o, none⟩ = some v
 objs : ∃ owner : Nat → Nat → Option Plot,
  (∀ b o p, owner b o = some p → K.low ≤ b ∧ b < w.heap.size) ∧
  (∀ b o v, K.known b o .perm v → owner b o = none) ∧
  (∀ b o n v, K.known b o (.buf n) v → (∃ len, S n = some (.buf len)) → owner b o = some (n, 0) ∧ w.cell? ⟨b, o, none⟩ = some v ∧ w.frozen? ⟨b, o, none⟩ = false) ∧
  (∀ n obj, S n = some obj → ObjOk K owner w n obj) ∧
  ∀ b o v, K.known b o .young v → K.low ≤ b ∧ b < w.heap.size ∧ ∀ q, owner b q = none
 fresh : ∀ n : Name, K.dmax ≤ n.1 → S n = none ∧ K.base n = none ∧ K.tip n = none ∧ ¬ K.pend n
 pend : ∀ n, K.pend n → K.base n = none ∧ K.tip n = none
 tk : ∀ n b o v, K.known b o (.buf n) v → K.tip n ≠ none
 low : K.low ≤ w.heap.size
 based : ∀ n cs, S n = some (.box cs) → K.base n ≠ none
 fixd : ∀ b o, K.fixed b o → w.heap[b]? = some o ∧ noCells o = true
end Go.Al
