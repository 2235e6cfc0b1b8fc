import Derived.Test.YtolfnhebnennpaaAlW
set_option linter.unusedSimpArgs false
set_option linter.unusedVariables false
namespace Go.Al
open Go Go.RowKit
section
variable {K K' : Kn} {S : AHeap} {w : World} {D : Nat}
theorem Sat.box_lt (hs : Sat K S w) {n : Name} {o : AObj} (hn : S n = some o) : n.1 < K.dmax := by
 rcases Nat.lt_or_ge n.1 K.dmax with h | h
 ·exact h
 ·have := (hs.fresh n h).1; rw [hn] at this; cases this
theorem Sat.opened (hs : Sat K S w) {n m : Name} {cs : List AV} {i e : Nat} {c' : AV} (hn : S n = some (.box cs)) (hm : K.pend m) (hSm : S m = none) (hk : Kle D K K') (hfe : K'.fixed = K.fixed) (hbase : K'.base = K.base) (htip : ∀ x, x ≠ m → K'.tip x = K.tip x)
  (hpend : ∀ x, K'.pend x → K.pend x ∧ x ≠ m) (hdm : K'.dmax = K.dmax) (hown : c'.owns = false)
  (key : ∀ owner : Nat → Nat → Option Plot, ObjOk K owner w n (.box cs) →
   (∀ b o t v, K'.known b o t v → K.known b o t v ∨ (t = .buf m ∧ owner b o = some (n, i + 1) ∧ w.cell? ⟨b, o, none⟩ = some v ∧ w.frozen? ⟨b, o, none⟩ = false)) ∧
   (∀ b f u, K.base n = some (b, f) → i < cs.length → w.cell? ⟨b, f + i, none⟩ = some u → SimV K' c' u) ∧
   (∀ t, K'.tip m = some t → t.e = e ∧ t.off ≤ t.lim ∧ ∀ j, t.off ≤ j → j < t.lim → owner t.b j = some (n, i + 1) ∧ (∃ u, w.cell? ⟨t.b, j, none⟩ = some u) ∧ w.frozen? ⟨t.b, j, none⟩ = false ∧ ∀ v, K'.known t.b j (.buf m) v → K.known t.b j (.buf m) v))
  (htk : ∀ b o v, K'.known b o (.buf m) v → K'.tip m ≠ none) :
  Sat K' ((S.set m (.buf e)).set n (.box (cs.set i c'))) w := by
 obtain ⟨owner, o1, o2, o3, o4, o5⟩ := hs.objs
 obtain ⟨hm1, hm2⟩ := hs.pend m hm
 have hmn : m ≠ n := by rintro rfl; exact hs.based _ _ hn hm1
 obtain ⟨k1, k2, k3⟩ := key owner (o4 n _ hn)
 have hnk : ∀ b o v, ¬ K.known b o (.buf m) v := fun b o v h => hs.tk m b o v h hm2
 have hS : ∀ x o, ((S.set m (.buf e)).set n (.box (cs.set i c'))) x = some o → (x = n ∧ o = .box (cs.set i c')) ∨ (x = m ∧ o = .buf e) ∨ (x ≠ n ∧ x ≠ m ∧ S x = some o) := by
  intro x o h
  simp only [AHeap.set] at h
  split at h
  ·rename_i h'; cases h; exact .inl ⟨h', rfl⟩
  ·split at h
   ·rename_i h'; cases h; exact .inr (.inl ⟨h', rfl⟩)
   ·rename_i h1 h2; exact .inr (.inr ⟨h1, h2, h⟩)
 refine ⟨?_, ⟨fun b o => if owner b o = some (n, i + 1) then some (m, 0) else owner b o, ?_, ?_, ?_, ?_, fun b o v h => ?_⟩, ?_, ?_, ?_, ?_, ?_, by rw [hfe]; exact hs.fixd⟩
 rotate_left 5
 ·rcases k1 b o _ v h with h | ⟨h, _⟩
  ·obtain ⟨q1, q2, q3⟩ := o5 b o v h
   exact ⟨by rw [hk.low]; exact q1, q2, fun q => by simp [q3 q]⟩
  ·cases h
 rotate_right 5
 ·intro b o v h
  rcases k1 b o _ v h with h | ⟨h, _⟩
  ·exact hs.perm b o v h
  ·cases h
 ·intro b o p h
  rw [hk.low]
  simp only at h
  split at h
  ·rename_i h'; exact o1 b o _ h'
  ·exact o1 b o _ h
 ·intro b o v h
  rcases k1 b o _ v h with h | ⟨h, _⟩
  ·have := o2 b o v h
   simp only
   rw [if_neg (by rw [this]; simp)]; exact this
  ·cases h
 ·intro b o x v h hx
  by_cases e1 : x = m
  ·subst e1
   rcases k1 b o _ v h with h | ⟨_, h1, h2, h3⟩
   ·exact absurd h (hnk b o v)
   ·simp only
    rw [if_pos h1]; exact ⟨rfl, h2, h3⟩
  ·rcases k1 b o _ v h with h | ⟨h1, _⟩
   ·obtain ⟨len, hl⟩ := hx
    rcases hS x _ hl with ⟨_, h2⟩ | ⟨h2, _⟩ | ⟨_, _, h2⟩
    ·cases h2
    ·exact absurd h2 e1
    ·obtain ⟨g1, g2, g3⟩ := o3 b o x v h ⟨len, h2⟩
     simp only
     rw [if_neg (by rw [g1]; simp)]
     exact ⟨g1, g2, g3⟩
   ·cases h1; exact absurd rfl e1
 ·intro x o hx
  rcases hS x o hx with ⟨rfl, rfl⟩ | ⟨rfl, rfl⟩ | ⟨e1, e2, h2⟩
  ·have hb := o4 _ _ hn
   simp only [ObjOk] at hb ⊢
   intro b f hbf j c hc
   rw [hbase] at hbf
   rw [List.getElem?_set] at hc
   split at hc
   ·rename_i hj; subst hj
    split at hc
    ·rename_i hlt
     cases hc
     obtain ⟨h1, u, h3, h4, h5, h6⟩ := hb b f hbf i cs[i] (by simp [hlt])
     refine ⟨by rw [if_neg (by rw [h1]; simp)]; exact h1, u, h3, h4, k2 b f u hbf hlt h3, PartOk.of_not hown⟩
    ·cases hc
   ·rename_i hj
    obtain ⟨h1, u, h3, h4, h5, h6⟩ := hb b f hbf j c hc
    refine ⟨by rw [if_neg (by rw [h1]; simp)]; exact h1, u, h3, h4, h5.mono hk, h6.turn hk fun b o ho => ⟨?_, rfl, rfl⟩⟩
    rw [if_neg (by rw [ho]; simp; omega)]; exact ho
  ·simp only [ObjOk]
   intro t ht
   obtain ⟨h1, h2, h3⟩ := k3 t ht
   refine ⟨h1, h2, fun j hj1 hj2 => ?_⟩
   obtain ⟨g1, g2, g3, g4⟩ := h3 j hj1 hj2
   exact ⟨if_pos g1, g2, g3, fun v hv => hnk _ _ _ (g4 v hv)⟩
  ·have ho := o4 x o h2
   have keep : ∀ b q j, owner b q = some (x, j) → (if owner b q = some (n, i + 1) then some (m, 0) else owner b q) = some (x, j) := by
    intro b q j h; rw [if_neg (by rw [h]; simp; intro h'; exact absurd h' e1)]; exact h
   cases o with
   | box cs' =>
    simp only [ObjOk] at ho ⊢
    intro b f hbf j c hc
    rw [hbase] at hbf
    obtain ⟨h1, u, h3, h4, h5, h6⟩ := ho b f hbf j c hc
    exact ⟨keep _ _ _ h1, u, h3, h4, h5.mono hk, h6.turn hk fun b o ho => ⟨keep _ _ _ ho, rfl, rfl⟩⟩
   | buf len =>
    simp only [ObjOk] at ho ⊢
    intro t ht
    rw [htip x e2] at ht
    obtain ⟨h1, h3, h4⟩ := ho t ht
    refine ⟨h1, h3, fun j hj1 hj2 => ?_⟩
    obtain ⟨g1, g2, g3, g4⟩ := h4 j hj1 hj2
    refine ⟨keep _ _ _ g1, g2, g3, fun v hv => ?_⟩
    rcases k1 _ _ _ v hv with h | ⟨h, _⟩
    ·exact g4 v h
    ·cases h; exact e2 rfl
   | map es =>
    simp only [ObjOk] at ho ⊢
    obtain ⟨b, f, hbf, h1, ents, clock, h3, h4, h5⟩ := ho
    rw [← hbase] at hbf
    refine ⟨b, f, hbf, fun q => keep _ _ _ (h1 q), ents, clock, h3, fun en hen => ?_, h5⟩
    obtain ⟨y, g1, g2⟩ := h4 en hen
    exact ⟨y, g1, g2.mono hk⟩
 ·intro x hx
  rw [hdm] at hx
  obtain ⟨h1, h2, h3, h4⟩ := hs.fresh x hx
  have hmd : m.1 < K.dmax := by
   rcases Nat.lt_or_ge m.1 K.dmax with h | h
   ·exact h
   ·exact absurd hm (hs.fresh m h).2.2.2
  have e1 : x ≠ m := by rintro rfl; omega
  have e2 : x ≠ n := by rintro rfl; have := hs.box_lt hn; omega
  refine ⟨by simp [AHeap.set, e1, e2, h1], by rw [hbase]; exact h2, by rw [htip x e1]; exact h3, fun h => h4 (hpend x h).1⟩
 ·intro x hx
  obtain ⟨h1, h2⟩ := hpend x hx
  rw [hbase, htip x h2]; exact hs.pend x h1
 ·intro x b o v h
  by_cases e1 : x = m
  ·subst e1; exact htk b o v h
  ·rw [htip x e1]
   rcases k1 b o _ v h with h | ⟨h, _⟩
   ·exact hs.tk x b o v h
   ·cases h; exact absurd rfl e1
 ·rw [hk.low]; exact hs.low
 ·intro x cs' hx
  rw [hbase]
  rcases hS x _ hx with ⟨rfl, _⟩ | ⟨_, h⟩ | ⟨_, _, h⟩
  ·exact hs.based _ _ hn
  ·cases h
  ·exact hs.based x _ h
theorem Sat.open (hs : Sat K S w) {n m : Name} {cs xs : List AV} {i sz : Nat} (hn : S n = some (.box cs)) (hi : cs[i]? = some (.own sz xs)) (hm : K.pend m) (hSm : S m = none) (hD : D ≤ m.1) :
  ∃ K', Kle D K K' ∧ K'.dmax = K.dmax ∧ (∀ x, K.pend x → x ≠ m → K'.pend x) ∧ Sat K' ((S.set m (.buf xs.length)).set n (.box (cs.set i (.slice (.buf m xs.length) sz xs)))) w := by
 obtain ⟨owner, o1, o2, o3, o4, o5⟩ := hs.objs
 obtain ⟨hm1, hm2⟩ := hs.pend m hm
 have hmd : m.1 < K.dmax := by
  rcases Nat.lt_or_ge m.1 K.dmax with h | h
  ·exact h
  ·exact absurd hm (hs.fresh m h).2.2.2
 cases hb : K.base n with
 | none => exact absurd hb (hs.based _ _ hn)
 | some p =>
  obtain ⟨b, f⟩ := p
  have hbox := o4 n _ hn
  simp only [ObjOk] at hbox
  obtain ⟨_, u, hc, _, _, a, len, cap, rfl, p1, p2, p3, p4⟩ := hbox b f hb i _ hi
  have hlt := (List.getElem?_eq_some_iff.1 hi).1
  rcases p4 with ⟨rfl, rfl⟩ | ⟨b', o', rfl, q1, q2⟩
  ·have hk : Kle D K (K.unpend m) := Kn.unpend_le hD
   refine ⟨K.unpend m, hk, rfl, fun x h1 h2 => ⟨h1, h2⟩, hs.opened hn hm hSm hk rfl rfl (fun _ _ => rfl) (fun x h => h) rfl rfl ?_ (fun b o v h => absurd hm2 (hs.tk m b o v h))⟩
   intro owner ho
   refine ⟨fun b o t v h => .inl h, ?_, ?_⟩
   ·intro b1 f1 u1 hb1 _ hu1
    rw [hb] at hb1; cases hb1
    rw [hc] at hu1; cases hu1
    simp only [SimV]
    exact ⟨a, len, 0, rfl, p1, p2, p3, .inl ⟨trivial, rfl, hmd, fun h => h.2 rfl⟩⟩
   ·intro t ht; rw [show (K.unpend m).tip m = K.tip m from rfl, hm2] at ht; cases ht
  ·have hl : Lies K w b' o' xs := fun j c hc => q2 j c hc
   obtain ⟨vs, v1, v2⟩ := hl.values
   have hvl := SimL_length v1
   have hlen : xs.length ≤ cap * sz := by rw [← p1]; exact Nat.mul_le_mul_right _ p2
   have hk : Kle D K (K.withBuf m (.buf m) ⟨b', o' + xs.length, xs.length, o' + cap * sz⟩ o' vs) := Kn.withBuf_le (fun t' h => by rw [hm2] at h; cases h) (fun _ => hD)
   refine ⟨_, hk, rfl, fun x h1 h2 => ⟨h1, h2⟩, hs.opened hn hm hSm hk rfl rfl (fun x e => by simp [Kn.withBuf, e]) (fun x h => h) rfl rfl ?_ (fun _ _ _ _ => by simp [Kn.withBuf])⟩
   intro owner2 ho
   simp only [ObjOk] at ho
   obtain ⟨_, u', hc', _, _, a', len', cap', hu', p1', p2', p3', p4'⟩ := ho b f hb i _ hi
   rw [hc] at hc'; cases hc'; cases hu'
   have q1' : ∀ j, j < cap * sz → owner2 b' (o' + j) = some (n, i + 1) ∧ (∃ x, w.cell? ⟨b', o' + j, none⟩ = some x) ∧ w.frozen? ⟨b', o' + j, none⟩ = false := by
    rcases p4' with ⟨_, h0⟩ | ⟨b2, o2, h1, h2, _⟩
    ·subst h0; intro j hj; omega
    ·cases h1; exact h2
   refine ⟨?_, ?_, ?_⟩
   ·rintro b1 o1 t v (h | ⟨rfl, rfl, h1, h2⟩)
    ·exact .inl h
    ·right
     have hj := (List.getElem?_eq_some_iff.1 h2).1
     obtain ⟨g1, _, g3⟩ := q1' (o1 - o') (by omega)
     have g2 := v2 _ _ h2
     simp only [show o' + (o1 - o') = o1 by omega] at g1 g2 g3
     exact ⟨rfl, g1, g2, g3⟩
   ·intro b1 f1 u1 hb1 _ hu1
    rw [hb] at hb1; cases hb1
    rw [hc] at hu1; cases hu1
    simp only [SimV]
    refine ⟨_, len, cap, rfl, p1, p2, p3, .inr ⟨b', o', rfl, Kn.withBuf_sim (t := ⟨b', o' + xs.length, xs.length, o' + cap * sz⟩) hk v1, Nat.le_refl _, _, Kn.withBuf_tip, Nat.le_refl _, fun _ => ⟨rfl, rfl, rfl⟩⟩⟩
   ·intro t ht
    rw [Kn.withBuf_tip] at ht; cases ht
    refine ⟨rfl, by simp only; omega, fun j hj1 hj2 => ?_⟩
    simp only at hj1 hj2
    obtain ⟨g1, g2, g3⟩ := q1' (j - o') (by omega)
    rw [show o' + (j - o') = j by omega] at g1 g2 g3
    refine ⟨g1, g2, g3, ?_⟩
    rintro v (h | ⟨_, _, _, h2⟩)
    ·exact h
    ·have := (List.getElem?_eq_some_iff.1 h2).1; omega
theorem Sat.closed (hs : Sat K S w) {n m : Name} {cs xs : List AV} {i sz e : Nat} (hn : S n = some (.box cs)) (hS : S m = some (.buf e))
  (key : ∀ owner : Nat → Nat → Option Plot, (∀ b o v, K.known b o (.buf m) v → owner b o = some (m, 0) ∧ w.cell? ⟨b, o, none⟩ = some v ∧ w.frozen? ⟨b, o, none⟩ = false) → ObjOk K owner w m (.buf e) → ∀ b f u, K.base n = some (b, f) → w.cell? ⟨b, f + i, none⟩ = some u → (∀ c, cs[i]? = some c → SimV K c u) → ∃ a len cap, u = .slice a len cap ∧ len * sz = xs.length ∧ len ≤ cap ∧ 0 < sz ∧
   ((xs = [] ∧ cap = 0) ∨ ∃ b o, a = some ⟨b, o, none⟩ ∧ (∀ j, j < cap * sz → owner b (o + j) = some (m, 0) ∧ (∃ x, w.cell? ⟨b, o + j, none⟩ = some x) ∧ w.frozen? ⟨b, o + j, none⟩ = false) ∧
    ∀ j c, xs[j]? = some c → ∃ x, w.cell? ⟨b, o + j, none⟩ = some x ∧ SimV K c x)) :
  Sat K ((S.del m).set n (.box (cs.set i (.own sz xs)))) w := by
 obtain ⟨owner, o1, o2, o3, o4, o5⟩ := hs.objs
 have hmn : m ≠ n := by rintro rfl; rw [hS] at hn; cases hn
 have key' := key owner (fun b o v h => o3 b o m v h ⟨_, hS⟩) (o4 m _ hS)
 have hSx : ∀ x o, ((S.del m).set n (.box (cs.set i (.own sz xs)))) x = some o → (x = n ∧ o = .box (cs.set i (.own sz xs))) ∨ (x ≠ n ∧ x ≠ m ∧ S x = some o) := by
  intro x o h
  simp only [AHeap.set, AHeap.del] at h
  split at h
  ·rename_i h'; cases h; exact .inl ⟨h', rfl⟩
  ·split at h
   ·cases h
   ·rename_i h1 h2; exact .inr ⟨h1, h2, h⟩
 have keep : ∀ x, x ≠ m → ∀ b q j, owner b q = some (x, j) → (if owner b q = some (m, 0) then some (n, i + 1) else owner b q) = some (x, j) := by
  intro x e1 b q j h; rw [if_neg (by rw [h]; simp; intro h'; exact absurd h' e1)]; exact h
 refine ⟨hs.perm, ⟨fun b o => if owner b o = some (m, 0) then some (n, i + 1) else owner b o, ?_, ?_, ?_, ?_, fun b o v h => ⟨(o5 b o v h).1, (o5 b o v h).2.1, fun q => by simp [(o5 b o v h).2.2 q]⟩⟩, ?_, hs.pend, hs.tk, hs.low, ?_, hs.fixd⟩
 ·intro b o p h
  simp only at h
  split at h
  ·rename_i h'; exact o1 b o _ h'
  ·exact o1 b o _ h
 ·intro b o v h
  have := o2 b o v h
  simp only
  rw [if_neg (by rw [this]; simp)]; exact this
 ·intro b o x v h hx
  obtain ⟨len, hl⟩ := hx
  rcases hSx x _ hl with ⟨_, h2⟩ | ⟨_, e1, h2⟩
  ·cases h2
  ·obtain ⟨g1, g2, g3⟩ := o3 b o x v h ⟨len, h2⟩
   exact ⟨keep x e1 _ _ _ g1, g2, g3⟩
 ·intro x o hx
  rcases hSx x o hx with ⟨rfl, rfl⟩ | ⟨e1, e2, h2⟩
  ·have hb := o4 _ _ hn
   simp only [ObjOk] at hb ⊢
   intro b f hbf j c hc
   rw [List.getElem?_set] at hc
   split at hc
   ·rename_i hj; subst hj
    split at hc
    ·rename_i hlt
     cases hc
     obtain ⟨h1, u, h3, h4, h5, h6⟩ := hb b f hbf i cs[i] (by simp [hlt])
     obtain ⟨a, len, cap, rfl, g1, g2, g3, g4⟩ := key' b f u hbf h3 (fun c hc => by simp [hlt] at hc; subst hc; exact h5)
     refine ⟨keep _ (Ne.symm hmn) _ _ _ h1, _, h3, h4, by simp only [SimV]; exact ⟨a, len, cap, rfl⟩, a, len, cap, rfl, g1, g2, g3, g4.imp id ?_⟩
     rintro ⟨b', o', rfl, g5, g6⟩
     refine ⟨b', o', rfl, fun j hj => ?_, g6⟩
     obtain ⟨k1, k2, k3⟩ := g5 j hj
     exact ⟨if_pos k1, k2, k3⟩
    ·cases hc
   ·obtain ⟨h1, u, h3, h4, h5, h6⟩ := hb b f hbf j c hc
    exact ⟨keep _ (Ne.symm hmn) _ _ _ h1, u, h3, h4, h5, h6.turn (Kle.refl 0 K) fun b o ho => ⟨keep _ (Ne.symm hmn) _ _ _ ho, rfl, rfl⟩⟩
  ·have ho := o4 x o h2
   cases o with
   | box cs' =>
    simp only [ObjOk] at ho ⊢
    intro b f hbf j c hc
    obtain ⟨h1, u, h3, h4, h5, h6⟩ := ho b f hbf j c hc
    exact ⟨keep x e2 _ _ _ h1, u, h3, h4, h5, h6.turn (Kle.refl 0 K) fun b o ho => ⟨keep x e2 _ _ _ ho, rfl, rfl⟩⟩
   | buf len =>
    simp only [ObjOk] at ho ⊢
    intro t ht
    obtain ⟨h1, h3, h4⟩ := ho t ht
    refine ⟨h1, h3, fun j hj1 hj2 => ?_⟩
    obtain ⟨g1, g2, g3, g4⟩ := h4 j hj1 hj2
    exact ⟨keep x e2 _ _ _ g1, g2, g3, g4⟩
   | map es =>
    simp only [ObjOk] at ho ⊢
    obtain ⟨b, f, hbf, h1, h3⟩ := ho
    exact ⟨b, f, hbf, fun q => keep x e2 _ _ _ (h1 q), h3⟩
 ·intro x hx
  obtain ⟨h1, h2, h3, h4⟩ := hs.fresh x hx
  have e2 : x ≠ n := by rintro rfl; have := hs.box_lt hn; omega
  refine ⟨?_, h2, h3, h4⟩
  simp only [AHeap.set, AHeap.del, if_neg e2]
  split
  ·rfl
  ·exact h1
 ·intro x cs' hx
  rcases hSx x _ hx with ⟨rfl, _⟩ | ⟨_, _, h⟩
  ·exact hs.based _ _ hn
  ·exact hs.based x _ h
theorem Sat.close (hs : Sat K S w) {n m : Name} {cs xs : List AV} {i sz e : Nat} (hn : S n = some (.box cs)) (hi : cs[i]? = some (.slice (.buf m e) sz xs)) (hS : S m = some (.buf e)) :
  Sat K ((S.del m).set n (.box (cs.set i (.own sz xs)))) w := by
 refine hs.closed hn hS ?_
 intro owner o3 ho b f u hb hu hsim
 have h5 := hsim _ hi
 simp only [SimV] at h5
 obtain ⟨a, len, cap, rfl, p1, p2, p3, p4⟩ := h5
 refine ⟨a, len, cap, rfl, p1, p2, p3, ?_⟩
 rcases p4 with ⟨rfl, hnil⟩ | ⟨b', o', rfl, q1, q0, t, ht, qe, q2⟩
 ·exact .inl ⟨rfl, hnil.1⟩
 ·right
  simp only [ObjOk] at ho
  obtain ⟨g1, g2, g3⟩ := ho t ht
  obtain ⟨rfl, r1, r2⟩ := q2 g1.symm
  refine ⟨_, o', rfl, fun j hj => ?_, fun j c hc => ?_⟩
  ·by_cases hjx : j < xs.length
   ·obtain ⟨v, s1, s2⟩ := SimC_get q1 j xs[j] (by simp [hjx])
    obtain ⟨k1, k2, k3⟩ := o3 _ _ _ s1
    exact ⟨k1, ⟨v, k2⟩, k3⟩
   ·obtain ⟨k1, k2, k3, _⟩ := g3 (o' + j) (by omega) (by omega)
    exact ⟨k1, k2, k3⟩
  ·obtain ⟨v, s1, s2⟩ := SimC_get q1 j c hc
   exact ⟨v, (o3 _ _ _ s1).2.1, s2⟩
theorem own_sub {m : Name} {e h : Nat} (hh : h ≤ e) : (Own.buf m e).sub 0 h e = if h = e then .buf m e else .cut m h (e - h) := by
 simp only [Own.sub]
 split
 ·simp
 ·rw [if_neg (by omega)]
  congr 1; omega
theorem Sat.closeCut (hs : Sat K S w) {n m : Name} {cs xs ys : List AV} {i sz h : Nat} (hn : S n = some (.box cs)) (hl : ys.length = h) (hh : h ≤ xs.length) (hi : cs[i]? = some (.slice ((Own.buf m xs.length).sub 0 h xs.length) sz (ys))) (hS : S m = some (.buf xs.length))
  {v : Value} (hv : SimV K (.slice (.buf m xs.length) sz xs) v) : Sat K ((S.del m).set n (.box (cs.set i (.own sz (ys))))) w := by
 rw [own_sub hh] at hi
 by_cases he : h = xs.length
 ·rw [if_pos he] at hi
  exact hs.close hn hi hS
 ·rw [if_neg he] at hi
  refine hs.closed hn hS ?_
  intro owner o3 ho b f u hb hu hsim
  have h5 := hsim _ hi
  simp only [SimV] at h5 hv
  obtain ⟨a, len, cap, rfl, p1, p2, p3, p4⟩ := h5
  refine ⟨a, len, cap, rfl, p1, p2, p3, ?_⟩
  rcases p4 with ⟨_, hnil⟩ | ⟨b', o', rfl, q1, q0, t, ht, qe, q2⟩
  ·exact hnil.elim
  ·right
   simp only [ObjOk] at ho
   obtain ⟨g1, g2, g3⟩ := ho t ht
   obtain ⟨rfl, r1, r2⟩ := q2 (by omega)
   obtain ⟨a2, len2, cap2, rfl, k1, k2, k3, k4⟩ := hv
   rcases k4 with ⟨h0, _⟩ | ⟨b2, o2, rfl, z1, z0, t2, ht2, ze, z2⟩
   ·subst h0; simp at hh; simp [hh] at he
   ·rw [ht] at ht2; cases ht2
    obtain ⟨rfl, y1, y2⟩ := z2 (by omega)
    have : o2 = o' := by omega
    subst this
    refine ⟨_, o2, rfl, fun j hj => ?_, fun j c hc => ?_⟩
    ·by_cases hjx : j < xs.length
     ·obtain ⟨v, s1, s2⟩ := SimC_get z1 j xs[j] (by simp [hjx])
      obtain ⟨k1, k2, k3⟩ := o3 _ _ _ s1
      exact ⟨k1, ⟨v, k2⟩, k3⟩
     ·obtain ⟨k1, k2, k3, _⟩ := g3 (o2 + j) (by omega) (by omega)
      exact ⟨k1, k2, k3⟩
    ·obtain ⟨v, s1, s2⟩ := SimC_get q1 j c hc
     exact ⟨v, (o3 _ _ _ s1).2.1, s2⟩
theorem Sat.ownNil (hs : Sat K S w) {n : Name} {cs : List AV} {i sz : Nat} {c : AV} (hn : S n = some (.box cs)) (hi : cs[i]? = some c) (hc : ∀ (K : Kn) (v : Value), SimV K c v → SimV K .empt v) (h0 : 0 < sz) :
  Sat K (S.set n (.box (cs.set i (.own sz [])))) w := by
 obtain ⟨owner, o1, o2, o3, o4, o5⟩ := hs.objs
 have hSx : ∀ x o, (S.set n (.box (cs.set i (.own sz [])))) x = some o → (x = n ∧ o = .box (cs.set i (.own sz []))) ∨ (x ≠ n ∧ S x = some o) := by
  intro x o h
  simp only [AHeap.set] at h
  split at h
  ·rename_i h'; cases h; exact .inl ⟨h', rfl⟩
  ·rename_i h1; exact .inr ⟨h1, h⟩
 refine ⟨hs.perm, ⟨owner, o1, o2, ?_, ?_, o5⟩, ?_, hs.pend, hs.tk, hs.low, ?_, hs.fixd⟩
 ·intro b o x v h ⟨len, hl⟩
  rcases hSx x _ hl with ⟨_, h2⟩ | ⟨_, h2⟩
  ·cases h2
  ·exact o3 b o x v h ⟨len, h2⟩
 ·intro x o hx
  rcases hSx x o hx with ⟨rfl, rfl⟩ | ⟨_, h2⟩
  ·have hb := o4 _ _ hn
   simp only [ObjOk] at hb ⊢
   intro b f hbf j c' hc'
   rw [List.getElem?_set] at hc'
   split at hc'
   ·rename_i hj; subst hj
    split at hc'
    ·cases hc'
     obtain ⟨h1, u, h3, h4, h5, h6⟩ := hb b f hbf i c hi
     have := hc _ _ h5
     simp only [SimV] at this
     obtain ⟨a, rfl⟩ := this
     exact ⟨h1, _, h3, h4, by simp only [SimV]; exact ⟨a, 0, 0, rfl⟩, a, 0, 0, rfl, by simp, Nat.le_refl _, h0, .inl ⟨rfl, rfl⟩⟩
    ·cases hc'
   ·exact hb b f hbf j c' hc'
  ·exact o4 x o h2
 ·intro x hx
  obtain ⟨h1, h2, h3, h4⟩ := hs.fresh x hx
  have e2 : x ≠ n := by rintro rfl; have := hs.box_lt hn; omega
  exact ⟨by simp only [AHeap.set, if_neg e2]; exact h1, h2, h3, h4⟩
 ·intro x cs' hx
  rcases hSx x _ hx with ⟨rfl, _⟩ | ⟨_, h⟩
  ·exact hs.based _ _ hn
  ·exact hs.based x _ h
structure SatH (K : Kn) (S : AHeap) (w : World) (m : Name) (sz : Nat) (xs : List AV) (u : Value) : Prop where
 perm : ∀ b o v, K.known b o .perm v → w.cell? ⟨b, o, none⟩ = some v
 objs : ∃ owner : Nat → Nat → Option Plot,
  (∀ b o p, owner b o = some p → K.low ≤ b ∧ b < w.heap.size) ∧
  (∀ b o v, K.known b o .perm v → owner b o = none) ∧
  (∀ b o n v, K.known b o (.buf n) v → (∃ len, S n = some (.buf len)) → owner b o = some (n, 0) ∧ w.cell? ⟨b, o, none⟩ = some v ∧ w.frozen? ⟨b, o, none⟩ = false) ∧
  (∀ n obj, S n = some obj → ObjOk K owner w n obj) ∧ (∀ b o v, K.known b o .young v → K.low ≤ b ∧ b < w.heap.size ∧ ∀ q, owner b q = none) ∧ PartOk K owner w (m, 0) (.own sz xs) u
 fresh : ∀ n : Name, K.dmax ≤ n.1 → S n = none ∧ K.base n = none ∧ K.tip n = none ∧ ¬ K.pend n
 pend : ∀ n, K.pend n → K.base n = none ∧ K.tip n = none
 tk : ∀ n b o v, K.known b o (.buf n) v → K.tip n ≠ none
 low : K.low ≤ w.heap.size
 based : ∀ n cs, S n = some (.box cs) → K.base n ≠ none
 fixd : ∀ b o, K.fixed b o → w.heap[b]? = some o ∧ noCells o = true
 gone : S m = none
theorem Sat.hold (hs : Sat K S w) {m : Name} {sz e : Nat} {xs : List AV} {u : Value} (hS : S m = some (.buf e)) (hu : SimV K (.slice (.buf m e) sz xs) u) : SatH K (S.del m) w m sz xs u := by
 obtain ⟨owner, o1, o2, o3, o4, o5⟩ := hs.objs
 have hSx : ∀ x o, (S.del m) x = some o → x ≠ m ∧ S x = some o := by
  intro x o h
  simp only [AHeap.del] at h
  split at h
  ·cases h
  ·rename_i h1; exact ⟨h1, h⟩
 refine ⟨hs.perm, ⟨owner, o1, o2, fun b o n v h ⟨len, hl⟩ => o3 b o n v h ⟨len, (hSx _ _ hl).2⟩, fun n obj hn => o4 n obj (hSx _ _ hn).2, o5, ?_⟩, fun n hn => ⟨?_, (hs.fresh n hn).2⟩, hs.pend, hs.tk, hs.low, fun n cs hn => hs.based n cs (hSx _ _ hn).2, hs.fixd, by simp [AHeap.del]⟩
 ·simp only [SimV] at hu
  obtain ⟨a, len, cap, rfl, p1, p2, p3, p4⟩ := hu
  refine ⟨a, len, cap, rfl, p1, p2, p3, ?_⟩
  rcases p4 with ⟨rfl, hnil⟩ | ⟨b', o', rfl, q1, q0, t, ht, qe, q2⟩
  ·exact .inl ⟨rfl, hnil.1⟩
  ·right
   have ho := o4 m _ hS
   simp only [ObjOk] at ho
   obtain ⟨g1, g2, g3⟩ := ho t ht
   obtain ⟨rfl, r1, r2⟩ := q2 g1.symm
   refine ⟨_, o', rfl, fun j hj => ?_, fun j c hc => ?_⟩
   ·by_cases hjx : j < xs.length
    ·obtain ⟨v, s1, s2⟩ := SimC_get q1 j xs[j] (by simp [hjx])
     obtain ⟨k1, k2, k3⟩ := o3 _ _ _ _ s1 ⟨_, hS⟩
     exact ⟨k1, ⟨v, k2⟩, k3⟩
    ·obtain ⟨k1, k2, k3, _⟩ := g3 (o' + j) (by omega) (by omega)
     exact ⟨k1, k2, k3⟩
   ·obtain ⟨v, s1, s2⟩ := SimC_get q1 j c hc
    exact ⟨v, (o3 _ _ _ _ s1 ⟨_, hS⟩).2.1, s2⟩
 ·simp only [AHeap.del]
  split
  ·rfl
  ·exact (hs.fresh n hn).1
theorem Sat.holdSub (hs : Sat K S w) {m : Name} {sz h : Nat} {xs : List AV} {u v : Value} (hS : S m = some (.buf xs.length)) (hh : h ≤ xs.length) (hu : SimV K (.slice ((Own.buf m xs.length).sub 0 h xs.length) sz (xs.take h)) u)
  (hv : SimV K (.slice (.buf m xs.length) sz xs) v) : SatH K (S.del m) w m sz (xs.take h) u := by
 rw [own_sub hh] at hu
 by_cases he : h = xs.length
 ·rw [if_pos he] at hu
  exact hs.hold hS hu
 rw [if_neg he] at hu
 obtain ⟨owner, o1, o2, o3, o4, o5⟩ := hs.objs
 have hSx : ∀ x o, (S.del m) x = some o → x ≠ m ∧ S x = some o := by
  intro x o h
  simp only [AHeap.del] at h
  split at h
  ·cases h
  ·rename_i h1; exact ⟨h1, h⟩
 refine ⟨hs.perm, ⟨owner, o1, o2, fun b o n v h ⟨len, hl⟩ => o3 b o n v h ⟨len, (hSx _ _ hl).2⟩, fun n obj hn => o4 n obj (hSx _ _ hn).2, o5, ?_⟩, fun n hn => ⟨?_, (hs.fresh n hn).2⟩, hs.pend, hs.tk, hs.low, fun n cs hn => hs.based n cs (hSx _ _ hn).2, hs.fixd, by simp [AHeap.del]⟩
 ·simp only [SimV] at hu hv
  obtain ⟨a, len, cap, rfl, p1, p2, p3, p4⟩ := hu
  refine ⟨a, len, cap, rfl, p1, p2, p3, ?_⟩
  rcases p4 with ⟨_, hnil⟩ | ⟨b', o', rfl, q1, q0, t, ht, qe, q2⟩
  ·exact hnil.elim
  ·right
   have ho := o4 m _ hS
   simp only [ObjOk] at ho
   obtain ⟨g1, g2, g3⟩ := ho t ht
   have hl : (xs.take h).length = h := by rw [List.length_take]; omega
   obtain ⟨rfl, r1, r2⟩ := q2 (by omega)
   obtain ⟨a2, len2, cap2, rfl, k1, k2, k3, k4⟩ := hv
   rcases k4 with ⟨h0, _⟩ | ⟨b2, o2, rfl, z1, z0, t2, ht2, ze, z2⟩
   ·subst h0; simp at hh; simp [hh] at he
   ·rw [ht] at ht2; cases ht2
    obtain ⟨rfl, y1, y2⟩ := z2 (by omega)
    have : o2 = o' := by omega
    subst this
    refine ⟨_, o2, rfl, fun j hj => ?_, fun j c hc => ?_⟩
    ·by_cases hjx : j < xs.length
     ·obtain ⟨v, s1, s2⟩ := SimC_get z1 j xs[j] (by simp [hjx])
      obtain ⟨k1, k2, k3⟩ := o3 _ _ _ _ s1 ⟨_, hS⟩
      exact ⟨k1, ⟨v, k2⟩, k3⟩
     ·obtain ⟨k1, k2, k3, _⟩ := g3 (o2 + j) (by omega) (by omega)
      exact ⟨k1, k2, k3⟩
    ·obtain ⟨v, s1, s2⟩ := SimC_get q1 j c hc
     exact ⟨v, (o3 _ _ _ _ s1 ⟨_, hS⟩).2.1, s2⟩
 ·simp only [AHeap.del]
  split
  ·rfl
  ·exact (hs.fresh n hn).1
theorem ObjOk.other {owner owner' : Nat → Nat → Option Plot} {n : Name} {o : AObj} (h : ObjOk K owner w n o) {D : Nat} (hk : Kle D K K') (hb : K'.base n = K.base n) (ht : K'.tip n = K.tip n) (hkn : ∀ b o v, K'.known b o (.buf n) v → K.known b o (.buf n) v)
  (keep : ∀ b q j, owner b q = some (n, j) → owner' b q = some (n, j)) : ObjOk K' owner' w n o := by
 cases o with
 | box cs' =>
  simp only [ObjOk] at h ⊢
  intro b f hbf j c hc
  rw [hb] at hbf
  obtain ⟨h1, u, h3, h4, h5, h6⟩ := h b f hbf j c hc
  exact ⟨keep _ _ _ h1, u, h3, h4, h5.mono hk, h6.turn hk fun b o ho => ⟨keep _ _ _ ho, rfl, rfl⟩⟩
 | buf len =>
  simp only [ObjOk] at h ⊢
  intro t ht'
  rw [ht] at ht'
  obtain ⟨h1, h3, h4⟩ := h t ht'
  refine ⟨h1, h3, fun j hj1 hj2 => ?_⟩
  obtain ⟨g1, g2, g3, g4⟩ := h4 j hj1 hj2
  exact ⟨keep _ _ _ g1, g2, g3, fun v hv => g4 v (hkn _ _ _ hv)⟩
 | map es =>
  simp only [ObjOk] at h ⊢
  obtain ⟨b, f, hbf, h1, ents, clock, h3, h4, h5⟩ := h
  rw [← hb] at hbf
  refine ⟨b, f, hbf, fun q => keep _ _ _ (h1 q), ents, clock, h3, fun en hen => ?_, h5⟩
  obtain ⟨y, g1, g2⟩ := h4 en hen
  exact ⟨y, g1, g2.mono hk⟩
theorem SatH.buf {m n : Name} {sz : Nat} {xs : List AV} {u : Value} (hs : SatH K S w m sz xs u) (hn : K.pend n) (hSn : S n = none) (hD : D ≤ n.1) :
  ∃ K', Kle D K K' ∧ K'.dmax = K.dmax ∧ (∀ x, K.pend x → x ≠ n → K'.pend x) ∧ Sat K' (S.set n (.buf xs.length)) w ∧ SimV K' (.slice (.buf n xs.length) sz xs) u := by
 obtain ⟨owner, o1, o2, o3, o4, o5, hp⟩ := hs.objs
 obtain ⟨hn1, hn2⟩ := hs.pend n hn
 have hnd : n.1 < K.dmax := by
  rcases Nat.lt_or_ge n.1 K.dmax with h | h
  ·exact h
  ·exact absurd hn (hs.fresh n h).2.2.2
 have hnk : ∀ b o v, ¬ K.known b o (.buf n) v := fun b o v h => hs.tk n b o v h hn2
 have hSx : ∀ x o, (S.set n (.buf xs.length)) x = some o → (x = n ∧ o = .buf xs.length) ∨ (x ≠ n ∧ S x = some o) := by
  intro x o h
  simp only [AHeap.set] at h
  split at h
  ·rename_i h'; cases h; exact .inl ⟨h', rfl⟩
  ·rename_i h1; exact .inr ⟨h1, h⟩
 have hfresh : ∀ x : Name, K.dmax ≤ x.1 → x ≠ n := by rintro x hx rfl; omega
 obtain ⟨a, len, cap, rfl, p1, p2, p3, p4⟩ := hp
 rcases p4 with ⟨rfl, rfl⟩ | ⟨b', o', rfl, q1, q2⟩
 ·have hk : Kle D K (K.unpend n) := Kn.unpend_le hD
  refine ⟨K.unpend n, hk, rfl, fun x h1 h2 => ⟨h1, h2⟩, ⟨hs.perm, ⟨owner, o1, o2, ?_, ?_, o5⟩, ?_, fun x hx => hs.pend x hx.1, hs.tk, hs.low, ?_, hs.fixd⟩, ?_⟩
  ·intro b o x v h ⟨l, hl⟩
   rcases hSx x _ hl with ⟨rfl, _⟩ | ⟨_, h2⟩
   ·exact absurd h (hnk b o v)
   ·exact o3 b o x v h ⟨l, h2⟩
  ·intro x o hx
   rcases hSx x o hx with ⟨rfl, rfl⟩ | ⟨_, h2⟩
   ·simp only [ObjOk]
    intro t ht; rw [show (K.unpend x).tip x = K.tip x from rfl, hn2] at ht; cases ht
   ·exact (o4 x o h2).other hk rfl rfl (fun _ _ _ h => h) (fun _ _ _ h => h)
  ·intro x hx
   obtain ⟨h1, h2, h3, h4⟩ := hs.fresh x hx
   exact ⟨by simp only [AHeap.set, if_neg (hfresh x hx)]; exact h1, h2, h3, fun h => h4 h.1⟩
  ·intro x cs' hx
   rcases hSx x _ hx with ⟨_, h⟩ | ⟨_, h⟩
   ·cases h
   ·exact hs.based x _ h
  ·simp only [SimV]
   exact ⟨a, len, 0, rfl, p1, p2, p3, .inl ⟨trivial, rfl, hnd, fun h => h.2 rfl⟩⟩
 ·have hl : Lies K w b' o' xs := fun j c hc => q2 j c hc
  obtain ⟨vs, v1, v2⟩ := hl.values
  have hvl := SimL_length v1
  have hlen : xs.length ≤ cap * sz := by rw [← p1]; exact Nat.mul_le_mul_right _ p2
  have hk : Kle D K (K.withBuf n (.buf n) ⟨b', o' + xs.length, xs.length, o' + cap * sz⟩ o' vs) := Kn.withBuf_le (fun t' h => by rw [hn2] at h; cases h) (fun _ => hD)
  have hmo : ∀ x o, S x = some o → x ≠ m := by rintro x o h rfl; rw [hs.gone] at h; cases h
  have keep : ∀ x, x ≠ m → ∀ b q j, owner b q = some (x, j) → (if owner b q = some (m, 0) then some (n, 0) else owner b q) = some (x, j) := by
   intro x e1 b q j h; rw [if_neg (by rw [h]; simp; intro h'; exact absurd h' e1)]; exact h
  refine ⟨_, hk, rfl, fun x h1 h2 => ⟨h1, h2⟩, ⟨?_, ⟨fun b o => if owner b o = some (m, 0) then some (n, 0) else owner b o, ?_, ?_, ?_, ?_, fun b o v h => by
   have h := h.resolve_right (fun q => by cases q.2.1)
   exact ⟨(o5 b o v h).1, (o5 b o v h).2.1, fun q => by simp [(o5 b o v h).2.2 q]⟩⟩, ?_, ?_, ?_, hs.low, ?_, hs.fixd⟩, ?_⟩
  ·rintro b o v (h | ⟨_, h, _⟩)
   ·exact hs.perm b o v h
   ·cases h
  ·intro b o p h
   simp only at h
   split at h
   ·rename_i h'; exact o1 b o _ h'
   ·exact o1 b o _ h
  ·rintro b o v (h | ⟨_, h, _⟩)
   ·have := o2 b o v h
    simp only
    rw [if_neg (by rw [this]; simp)]; exact this
   ·cases h
  ·rintro b o x v (h | ⟨rfl, h, h1, h2⟩) ⟨l, hl⟩
   ·rcases hSx x _ hl with ⟨rfl, _⟩ | ⟨_, h2⟩
    ·exact absurd h (hnk b o v)
    ·obtain ⟨g1, g2, g3⟩ := o3 b o x v h ⟨l, h2⟩
     exact ⟨keep x (hmo x _ h2) _ _ _ g1, g2, g3⟩
   ·cases h
    have hj := (List.getElem?_eq_some_iff.1 h2).1
    obtain ⟨g1, _, g3⟩ := q1 (o - o') (by omega)
    have g2 := v2 _ _ h2
    simp only [show o' + (o - o') = o by omega] at g1 g2 g3
    exact ⟨if_pos g1, g2, g3⟩
  ·intro x o hx
   rcases hSx x o hx with ⟨rfl, rfl⟩ | ⟨e1, h2⟩
   ·simp only [ObjOk]
    intro t ht
    rw [Kn.withBuf_tip] at ht; cases ht
    refine ⟨rfl, by simp only; omega, fun j hj1 hj2 => ?_⟩
    simp only at hj1 hj2
    obtain ⟨g1, g2, g3⟩ := q1 (j - o') (by omega)
    simp only [show o' + (j - o') = j by omega] at g1 g2 g3
    refine ⟨if_pos g1, g2, g3, ?_⟩
    rintro v (h | ⟨_, _, _, h2⟩)
    ·exact hnk _ _ _ h
    ·have := (List.getElem?_eq_some_iff.1 h2).1; omega
   ·refine (o4 x o h2).other hk rfl (by simp [Kn.withBuf, e1]) ?_ (fun b q j => keep x (hmo x _ h2) b q j)
    rintro b o v (h | ⟨_, h, _⟩)
    ·exact h
    ·cases h; exact absurd rfl e1
  ·intro x hx
   obtain ⟨h1, h2, h3, h4⟩ := hs.fresh x hx
   have e := hfresh x hx
   exact ⟨by simp only [AHeap.set, if_neg e]; exact h1, h2, by simp only [Kn.withBuf, if_neg e]; exact h3, fun h => h4 h.1⟩
  ·intro x hx
   simp only [Kn.withBuf] at hx ⊢
   rw [if_neg hx.2]; exact hs.pend x hx.1
  ·rintro x b o v (h | ⟨_, h, _⟩)
   ·by_cases e : x = n
    ·subst e; exact absurd h (hnk _ _ _)
    ·simp only [Kn.withBuf, if_neg e]; exact hs.tk x b o v h
   ·cases h; simp [Kn.withBuf]
  ·intro x cs' hx
   rcases hSx x _ hx with ⟨_, h⟩ | ⟨_, h⟩
   ·cases h
   ·exact hs.based x _ h
  ·simp only [SimV]
   exact ⟨_, len, cap, rfl, p1, p2, p3, .inr ⟨b', o', rfl, Kn.withBuf_sim (t := ⟨b', o' + xs.length, xs.length, o' + cap * sz⟩) hk v1, Nat.le_refl _, _, Kn.withBuf_tip, Nat.le_refl _, fun _ => ⟨rfl, rfl, rfl⟩⟩⟩
theorem SatH.freeze {m : Name} {sz : Nat} {xs : List AV} {u : Value} (hs : SatH K S w m sz xs u) (D : Nat) :
  ∃ K', Kle D K K' ∧ K'.dmax = K.dmax ∧ (∀ x, K.pend x → K'.pend x) ∧ Sat K' S w ∧ SimV K' (.slice .perm sz xs) u := by
 obtain ⟨owner, o1, o2, o3, o4, o5, hp⟩ := hs.objs
 obtain ⟨a, len, cap, rfl, p1, p2, p3, p4⟩ := hp
 rcases p4 with ⟨rfl, rfl⟩ | ⟨b', o', rfl, q1, q2⟩
 ·refine ⟨K, Kle.refl _ _, rfl, fun _ h => h, ⟨hs.perm, ⟨owner, o1, o2, o3, o4, o5⟩, hs.fresh, hs.pend, hs.tk, hs.low, hs.based, hs.fixd⟩, ?_⟩
  simp only [SimV]
  exact ⟨a, len, 0, rfl, p1, p2, p3, .inl ⟨trivial, fun _ => rfl⟩⟩
 ·have hl : Lies K w b' o' xs := fun j c hc => q2 j c hc
  obtain ⟨vs, v1, v2⟩ := hl.values
  have hvl := SimL_length v1
  have hlen : xs.length ≤ cap * sz := by rw [← p1]; exact Nat.mul_le_mul_right _ p2
  have hmo : ∀ x o, S x = some o → x ≠ m := by rintro x o h rfl; rw [hs.gone] at h; cases h
  have keep : ∀ x, x ≠ m → ∀ b q j, owner b q = some (x, j) → (if owner b q = some (m, 0) then none else owner b q) = some (x, j) := by
   intro x e1 b q j h; rw [if_neg (by rw [h]; simp; intro h'; exact absurd h' e1)]; exact h
  have hk : Kle D K { K with known := fun b i tg v => K.known b i tg v ∨ (b = b' ∧ tg = .perm ∧ o' ≤ i ∧ vs[i - o']? = some v) } :=
   ⟨⟨rfl, Nat.le_refl _, fun _ _ h => h, fun _ t h => ⟨t, h, .inl rfl⟩, fun _ _ _ _ h => .inl h, fun _ _ h => h, fun _ _ h => h⟩, fun _ _ h => h, rfl⟩
  have hcell : ∀ i v, o' ≤ i → vs[i - o']? = some v → owner b' i = some (m, 0) ∧ w.cell? ⟨b', i, none⟩ = some v := by
   intro i v h1 h2
   have hj := (List.getElem?_eq_some_iff.1 h2).1
   obtain ⟨g1, _, g3⟩ := q1 (i - o') (by omega)
   have g2 := v2 _ _ h2
   simp only [show o' + (i - o') = i by omega] at g1 g2 g3
   exact ⟨g1, g2⟩
  refine ⟨_, hk, rfl, fun _ h => h, ⟨?_, ⟨fun b o => if owner b o = some (m, 0) then none else owner b o, ?_, ?_, ?_, ?_, fun b o v h => by
   have h := h.resolve_right (fun q => by cases q.2.1)
   exact ⟨(o5 b o v h).1, (o5 b o v h).2.1, fun q => by simp [(o5 b o v h).2.2 q]⟩⟩, hs.fresh, hs.pend, ?_, hs.low, hs.based, hs.fixd⟩, ?_⟩
  ·rintro b o v (h | ⟨rfl, _, h1, h2⟩)
   ·exact hs.perm b o v h
   ·exact (hcell _ _ h1 h2).2
  ·intro b o p h
   simp only at h
   split at h
   ·cases h
   ·exact o1 b o _ h
  ·rintro b o v (h | ⟨rfl, _, h1, h2⟩)
   ·have := o2 b o v h
    simp only
    rw [if_neg (by rw [this]; simp)]; exact this
   ·exact if_pos (hcell _ _ h1 h2).1
  ·rintro b o x v (h | ⟨_, h, _⟩) ⟨l, hl⟩
   ·obtain ⟨g1, g2, g3⟩ := o3 b o x v h ⟨l, hl⟩
    exact ⟨keep x (hmo x _ hl) _ _ _ g1, g2, g3⟩
   ·cases h
  ·intro x o hx
   refine (o4 x o hx).other hk rfl rfl ?_ (fun b q j => keep x (hmo x _ hx) b q j)
   rintro b o v (h | ⟨_, h, _⟩)
   ·exact h
   ·cases h
  ·rintro x b o v (h | ⟨_, h, _⟩)
   ·exact hs.tk x b o v h
   ·cases h
  ·simp only [SimV]
   refine ⟨_, len, cap, rfl, p1, p2, p3, .inr ⟨b', o', rfl, ?_, trivial⟩⟩
   refine SimC_of fun i c hc => ?_
   obtain ⟨v, h1, h2⟩ := SimL_get v1 i c hc
   exact ⟨v, .inr ⟨rfl, rfl, by omega, by rwa [show o' + i - o' = i from by omega]⟩, h2.mono hk⟩
end
end Go.Al
