import Derived.Test.YtolfnhebnennpaaAlH
set_option linter.unusedSimpArgs false
set_option linter.unusedVariables false
namespace Go.Al
open Go.RowKit
theorem size_alloc (w : World) (o : Obj) : (w.alloc o).heap.size = w.heap.size + 1 := by
 show (w.heap.push o).size = _; simp
theorem heap_alloc_old (w : World) (o : Obj) {b : Nat} (h : b < w.heap.size) : (w.alloc o).heap[b]? = w.heap[b]? := Below.heap_alloc w o b h
def Kn.withBox (K : Kn) (n : Name) (b f : Nat) : Kn := { K with base := fun m => if m = n then some (b, f) else K.base m, pend := fun m => K.pend m ∧ m ≠ n }
theorem Kn.withBox_le {K : Kn} {n : Name} {b f D : Nat} (hb : K.base n = none) (hD : D ≤ n.1) : Kle D K (K.withBox n b f) where
 low := rfl
 fixed _ _ h := h
 ent := rfl
 dmax := Nat.le_refl _
 base m p h := by
  simp only [Kn.withBox]
  by_cases e : m = n
  ·subst e; rw [hb] at h; cases h
  ·rw [if_neg e]; exact h
 tip m t h := ⟨t, h, .inl rfl⟩
 known _ _ _ _ h := h
 shrink m _ h := h.1
 keep m hm h := ⟨h, by rintro rfl; omega⟩
theorem World.cell_new {w : World} {vs : Array Value} {t : TypeId} {i : Nat} : (w.alloc (.cells vs t)).cell? ⟨w.heap.size, i, none⟩ = vs[i]? := World.cell?_alloc_new ..
theorem World.frozen_new {w : World} {vs : Array Value} {t : TypeId} {i : Nat} : (w.alloc (.cells vs t)).frozen? ⟨w.heap.size, i, none⟩ = false := by
 rw [World.frozen?_alloc_new]
theorem fx_setCell {w : World} {a : Addr} {v : Value} {b : Nat} {o : Obj} (h : w.heap[b]? = some o) (hn : noCells o = true) : (w.setCell a v).heap[b]? = some o := by
 by_cases e : b = a.block
 ·subst e
  simp only [World.setCell, Array.getElem?_modify, if_true, h, Option.map_some]
  cases o <;> first | rfl | (simp [noCells] at hn)
 ·rw [Below.heap_setCell _ _ _ _ e]; exact h
theorem fx_setCells (b : Nat) : ∀ (vs : List Value) (f : Nat) (w : World) (k : Nat) (o : Obj), w.heap[k]? = some o → noCells o = true → (w.setCells b f vs).heap[k]? = some o
 | [], _, _, _, _, h, _ => h
 | v :: vs, f, w, k, o, h, hn => by rw [World.setCells]; exact fx_setCells b vs _ _ k o (fx_setCell h hn) hn
theorem fx_alloc {w : World} {x : Obj} (k : Nat) (o : Obj) (h : w.heap[k]? = some o) (_ : noCells o = true) : (w.alloc x).heap[k]? = some o := by
 rw [heap_alloc_old w _ (Array.getElem?_eq_some_iff.1 h).1]; exact h
theorem Sat.newBox {K : Kn} {S : AHeap} {w : World} (hs : Sat K S w) {n : Name} (hn : K.pend n) {D : Nat} (hD : D ≤ n.1) {cs : List AV} {vs : Array Value} {t : TypeId} (hv : SimL K cs vs.toList) (hown : ∀ c ∈ cs, c.owns = false) :
  Kle D K (K.withBox n w.heap.size 0) ∧ Sat (K.withBox n w.heap.size 0) (S.set n (.box cs)) (w.alloc (.cells vs t)) := by
 obtain ⟨hb, ht⟩ := hs.pend n hn
 have hd : n.1 < K.dmax := by
  rcases Nat.lt_or_ge n.1 K.dmax with h | h
  ·exact h
  ·exact absurd hn (hs.fresh n h).2.2.2
 have hk := Kn.withBox_le (b := w.heap.size) (f := 0) hb hD
 refine ⟨hk, hs.turn hk rfl fx_alloc (by rw [size_alloc]; omega) ?_ (fun _ _ _ _ _ h => h) (fun _ _ _ h => h) (fun m e => by simp [Kn.withBox, e]) (fun m e => rfl) (fun m h => h.1) (by simp [Kn.withBox]) rfl hd ?_ hs.low (fun _ _ => by simp [Kn.withBox])⟩
 ·intro owner o1 o2 o3 o4
  have hno : ∀ o, owner w.heap.size o = none := by
   intro o
   cases h : owner w.heap.size o with
   | none => rfl
   | some m => have := (o1 _ _ _ h).2; omega
  refine ⟨fun b o => if b = w.heap.size then some (n, 0) else owner b o, ?_, ?_, ?_, ?_, ?_, ?_, ?_⟩
  ·intro b o m h e
   simp only
   rw [if_neg (by rintro rfl; rw [hno] at h; cases h)]; exact h
  ·intro b o m h
   simp only at h
   split at h
   ·rename_i e; cases h; subst e
    exact .inr ⟨rfl, Nat.le_refl _, by rw [size_alloc]; omega⟩
   ·exact .inl h
  ·intro b o v h
   have hc := hs.perm b o v h
   have := cell_lt hc
   simp only
   rw [if_neg (by omega)]
   exact ⟨o2 b o v h, by rw [(cell_heap (heap_alloc_old w _ this) o).1]; exact hc⟩
  ·intro b o _ hlt
   exact cell_heap (heap_alloc_old w _ hlt) o
  ·intro b _ hlt
   exact heap_alloc_old w _ hlt
  ·rintro b o v _ ⟨len, h⟩; cases h
  ·simp only [ObjOk, Kn.withBox]
   intro b f hbf i c hc
   simp at hbf
   obtain ⟨rfl, rfl⟩ := hbf
   refine ⟨if_pos rfl, ?_⟩
   obtain ⟨u, h1, h2⟩ := SimL_get hv i c hc
   refine ⟨u, ?_, ?_, h2.mono hk, PartOk.of_not (hown c (List.mem_of_getElem? hc))⟩
   ·rw [Nat.zero_add, World.cell_new]; simpa using h1
   ·exact World.frozen_new
 ·rintro ⟨b, o, v, h⟩
  exact hs.tk n b o v h
theorem heap_setCells (b : Nat) : ∀ (vs : List Value) (o : Nat) (w : World) (k : Nat), k ≠ b → (w.setCells b o vs).heap[k]? = w.heap[k]?
 | [], _, _, _, _ => rfl
 | v :: vs, o, w, k, h => by rw [World.setCells, heap_setCells b vs _ _ k h, Below.heap_setCell _ _ _ _ h]
theorem size_setCells (b : Nat) : ∀ (vs : List Value) (o : Nat) (w : World), (w.setCells b o vs).heap.size = w.heap.size
 | [], _, _ => rfl
 | v :: vs, o, w => by rw [World.setCells, size_setCells b vs]; simp [World.setCell]
theorem splice_get : ∀ (xs cs : List AV) (off i : Nat), off + xs.length ≤ cs.length → (splice off xs cs)[i]? = if off ≤ i ∧ i < off + xs.length then xs[i - off]? else cs[i]?
 | [], cs, off, i, _ => by simp only [splice]; rw [if_neg (by simp)]
 | x :: xs, cs, off, i, h => by
  simp only [List.length_cons] at h ⊢
  simp only [splice]
  rw [splice_get xs (cs.set off x) (off + 1) i (by simp; omega)]
  by_cases h1 : i = off
  ·subst h1
   rw [if_neg (by omega), if_pos (by omega)]
   simp [show i < cs.length by omega]
  ·by_cases h2 : off + 1 ≤ i ∧ i < off + 1 + xs.length
   ·rw [if_pos h2, if_pos (by omega)]
    rw [show i - off = (i - (off + 1)) + 1 from by omega, List.getElem?_cons_succ]
   ·rw [if_neg h2, if_neg (by omega)]
    rw [List.getElem?_set_ne (Ne.symm h1)]
theorem Sat.store {K : Kn} {S : AHeap} {w : World} (hs : Sat K S w) {n : Name} {cs : List AV} (hn : S n = some (.box cs)) {b f : Nat} (hb : K.base n = some (b, f)) {off : Nat} {xs : List AV} {vs : List Value}
  (hl : off + xs.length ≤ cs.length) (hv : SimL K xs vs) (hown : ∀ c ∈ xs, c.owns = false) : Sat K (S.set n (.box (splice off xs cs))) (w.setCells b (f + off) vs) := by
 have hnp : ¬ K.pend n := fun h => by have := (hs.pend n h).1; rw [hb] at this; cases this
 have hd : n.1 < K.dmax := by
  rcases Nat.lt_or_ge n.1 K.dmax with h | h
  ·exact h
  ·have := (hs.fresh n h).2.1; rw [hb] at this; cases this
 have hvl := SimL_length hv
 refine hs.turn (Kle.refl 0 K) rfl (fx_setCells _ _ _ _) (by rw [size_setCells]; exact Nat.le_refl _) ?_ (fun _ _ _ _ _ h => h) (fun _ _ _ h => h) (fun _ _ => rfl) (fun _ _ => rfl) (fun _ h => h) hnp rfl hd (fun ⟨b, o, v, h⟩ => hs.tk n b o v h) hs.low (fun _ _ => by rw [hb]; simp)
 intro owner o1 o2 o3 o4
 have hcells := o4 n _ hn b f hb
 have hin : ∀ j, j < vs.length → owner b (f + off + j) = some (n, 0) ∧ (∃ u, w.cell? ⟨b, f + off + j, none⟩ = some u) ∧ w.frozen? ⟨b, f + off + j, none⟩ = false := by
  intro j hj
  obtain ⟨h0, u, h1, h2, _⟩ := hcells (off + j) cs[off + j] (by simp)
  rw [show f + off + j = f + (off + j) from by omega]
  exact ⟨h0, ⟨u, h1⟩, h2⟩
 have hout : ∀ (k o : Nat), owner k o ≠ some (n, 0) → (w.setCells b (f + off) vs).cell? ⟨k, o, none⟩ = w.cell? ⟨k, o, none⟩ := by
  intro k o hk
  refine World.cell?_setCells_out b vs (f + off) w ⟨k, o, none⟩ ?_
  intro hkb _
  simp only at hkb; subst hkb
  simp only
  rcases Nat.lt_or_ge o (f + off) with h3 | h3
  ·exact .inl h3
  ·rcases Nat.lt_or_ge o (f + off + vs.length) with h4 | h4
   ·exfalso; apply hk
    have := (hin (o - (f + off)) (by omega)).1
    rwa [show f + off + (o - (f + off)) = o from by omega] at this
   ·exact .inr h4
 refine ⟨owner, fun _ _ _ h _ => h, fun _ _ _ h => .inl h, fun b' o v h => ⟨o2 b' o v h, ?_⟩, ?_, ?_, ?_, ?_⟩
 ·rw [hout b' o (by rw [o2 b' o v h]; simp)]; exact hs.perm b' o v h
 ·intro k o hk _
  exact ⟨hout k o (hk 0), by rw [World.frozen?_setCells]⟩
 ·intro k hk _
  by_cases hvs : vs = []
  ·subst hvs; rfl
  ·refine heap_setCells b vs _ _ k ?_
   rintro rfl
   exact hk _ _ (hin 0 (List.length_pos_iff.2 hvs)).1
 ·rintro b o v _ ⟨len, h⟩; cases h
 ·simp only [ObjOk]
  intro b' f' hbf i c hc
  rw [hb] at hbf; cases hbf
  rw [splice_get _ _ _ _ hl] at hc
  split at hc
  ·rename_i hr
   obtain ⟨u, h1, h2⟩ := SimL_get hv _ _ hc
   have hj : i - off < vs.length := by omega
   obtain ⟨g0, g1, g2⟩ := hin (i - off) hj
   rw [show f + off + (i - off) = f + i from by omega] at g0 g1 g2
   refine ⟨g0, u, ?_, ?_, h2, PartOk.of_not (hown c (List.mem_of_getElem? hc))⟩
   ·have := World.cell?_setCells_in b vs (f + off) w (fun j hj => by obtain ⟨_, ⟨u, h⟩, _⟩ := hin j hj; rw [h]; rfl) (i - off) hj
    rw [show f + off + (i - off) = f + i from by omega] at this
    rw [this]
    simpa [List.getElem?_eq_getElem hj] using h1
   ·rw [World.frozen?_setCells]; exact g2
  ·rename_i hr
   obtain ⟨g0, u, h1, h2, h3, h4⟩ := hcells i c hc
   refine ⟨g0, u, ?_, by rw [World.frozen?_setCells]; exact h2, h3, h4.turn (Kle.refl 0 K) fun k o hk => ⟨hk, hout k o (by rw [hk]; simp), by rw [World.frozen?_setCells]⟩⟩
   rw [World.cell?_setCells_out b vs (f + off) w ⟨b, f + i, none⟩ (fun _ _ => by simp; omega)]
   exact h1
def Kn.withBuf (K : Kn) (n : Name) (tg : Tag) (t : Tip) (o : Nat) (vs : List Value) : Kn :=
 {K with tip := fun m => if m = n then some t else K.tip m, pend := fun m => K.pend m ∧ m ≠ n,
          known := fun b i tg' v => K.known b i tg' v ∨ (b = t.b ∧ tg' = tg ∧ o ≤ i ∧ vs[i - o]? = some v) }
theorem Kn.withBuf_tip {K : Kn} {n : Name} {tg : Tag} {t : Tip} {o : Nat} {vs : List Value} : (K.withBuf n tg t o vs).tip n = some t := if_pos rfl
theorem Kn.withBuf_le {K : Kn} {n : Name} {tg : Tag} {t : Tip} {o D : Nat} {vs : List Value} (h : ∀ t', K.tip n = some t' → t'.e < t.e) (hD : K.pend n → D ≤ n.1) : Kle D K (K.withBuf n tg t o vs) where
 low := rfl
 fixed _ _ h := h
 ent := rfl
 dmax := Nat.le_refl _
 base _ _ h := h
 tip m t' h' := by
  simp only [Kn.withBuf]
  by_cases e : m = n
  ·subst e; exact ⟨t, if_pos rfl, .inr (h t' h')⟩
  ·exact ⟨t', by rw [if_neg e]; exact h', .inl rfl⟩
 known _ _ _ _ h := .inl h
 shrink m _ h := h.1
 keep m hm hp := ⟨hp, by rintro rfl; have := hD hp; omega⟩
theorem Kn.withBuf_sim {K : Kn} {n : Name} {tg : Tag} {t : Tip} {o D : Nat} {vs : List Value} (hk : Kle D K (K.withBuf n tg t o vs)) {cs : List AV} (hv : SimL K cs vs) : SimC (K.withBuf n tg t o vs) tg t.b o cs := by
 refine SimC_of fun i c hc => ?_
 obtain ⟨v, h1, h2⟩ := SimL_get hv i c hc
 exact ⟨v, .inr ⟨rfl, rfl, by omega, by rwa [show o + i - o = i from by omega]⟩, h2.mono hk⟩
theorem Sat.newBuf {K : Kn} {S : AHeap} {w : World} (hs : Sat K S w) {n : Name} {tg : Tag} (htg : tg = .perm ∨ tg = .buf n) {D : Nat} (hD : K.pend n → D ≤ n.1) (hd : n.1 < K.dmax) {e : Nat} (hold : (∃ len, S n = some (.buf len)) ∨ K.tip n = none) (ht : ∀ t', K.tip n = some t' → t'.e < e)
  {cs : List AV} {vs rest : List Value} {ty : TypeId} (hv : SimL K cs vs) :
  Kle D K (K.withBuf n tg ⟨w.heap.size, vs.length, e, vs.length + rest.length⟩ 0 vs) ∧
  Sat (K.withBuf n tg ⟨w.heap.size, vs.length, e, vs.length + rest.length⟩ 0 vs) (S.set n (.buf e)) (w.alloc (.cells (vs ++ rest).toArray ty)) := by
 have hk := Kn.withBuf_le (tg := tg) (o := 0) (vs := vs) (t := ⟨w.heap.size, vs.length, e, vs.length + rest.length⟩) ht hD
 have hcell : ∀ i, (w.alloc (.cells (vs ++ rest).toArray ty)).cell? ⟨w.heap.size, i, none⟩ = (vs ++ rest)[i]? := fun i => by rw [World.cell_new]; simp
 refine ⟨hk, hs.turn hk rfl fx_alloc (by rw [size_alloc]; omega) ?_ ?_ (fun b o v h => h.resolve_right fun q => by rcases htg with rfl | rfl <;> cases q.2.1) (fun m e => rfl) (fun m e => by simp [Kn.withBuf, e]) (fun m h => h.1) (by simp [Kn.withBuf]) rfl hd ?_ hs.low (fun _ h => by cases h)⟩
 ·intro owner o1 o2 o3 o4
  have hno : ∀ o, owner w.heap.size o = none := by
   intro o
   cases h : owner w.heap.size o with
   | none => rfl
   | some m => have := (o1 _ _ _ h).2; omega
  refine ⟨fun b o => if b = w.heap.size then (if tg = .perm ∧ o < vs.length then none else some (n, 0)) else owner b o, ?_, ?_, ?_, ?_, ?_, ?_, ?_⟩
  ·intro b o m h e
   simp only
   rw [if_neg (by rintro rfl; rw [hno] at h; cases h)]; exact h
  ·intro b o m h
   simp only at h
   split at h
   ·rename_i e
    split at h
    ·cases h
    ·cases h; subst e
     exact .inr ⟨rfl, Nat.le_refl _, by rw [size_alloc]; omega⟩
   ·exact .inl h
  ·intro b o v h
   rcases h with h | ⟨rfl, htp, _, h⟩
   ·have hc := hs.perm b o v h
    have := cell_lt hc
    simp only
    rw [if_neg (by omega)]
    exact ⟨o2 b o v h, by rw [(cell_heap (heap_alloc_old w _ this) o).1]; exact hc⟩
   ·have hlt := (List.getElem?_eq_some_iff.1 h).1
    simp only [Nat.sub_zero] at h hlt
    simp only [if_true]
    rw [if_pos ⟨htp.symm, hlt⟩, hcell]
    exact ⟨rfl, by rw [List.getElem?_append_left hlt]; exact h⟩
  ·intro b o _ hlt
   exact cell_heap (heap_alloc_old w _ hlt) o
  ·intro b _ hlt
   exact heap_alloc_old w _ hlt
  ·intro b o v h _
   rcases h with h | ⟨rfl, htp, _, h⟩
   ·rcases hold with hold | hold
    ·obtain ⟨h1, h2, h3⟩ := o3 b o n v h hold
     have hlt := cell_lt h2
     simp only
     have hc := cell_heap (heap_alloc_old w (.cells (vs ++ rest).toArray ty) hlt) o
     exact ⟨by rw [if_neg (by omega)]; exact h1, by rw [hc.1]; exact h2, by rw [hc.2]; exact h3⟩
    ·exact absurd hold (hs.tk n b o v h)
   ·refine ⟨?_, ?_, World.frozen_new⟩
    ·simp only [if_true]
     rw [if_neg (by rw [← htp]; simp)]
    ·rw [hcell]
     have hlt := (List.getElem?_eq_some_iff.1 h).1
     simp only [Nat.sub_zero] at h hlt
     rw [List.getElem?_append_left hlt]; exact h
  ·simp only [ObjOk, Kn.withBuf, if_true, Option.some.injEq]
   rintro t rfl
   refine ⟨rfl, by simp, fun i h1 h2 => ⟨?_, ?_, World.frozen_new, ?_⟩⟩
   ·simp only at h1
    simp only [if_true]
    rw [if_neg (by omega)]
   ·simp only at h1 h2
    rw [hcell]
    exact ⟨(vs ++ rest)[i]'(by simp; omega), by simp [show i < vs.length + rest.length from h2]⟩
   ·rintro v (h | ⟨_, _, _, h⟩)
    ·rcases hold with hold | hold
     ·have := cell_lt (o3 _ _ _ _ h hold).2.1; simp only at this; omega
     ·exact hs.tk _ _ _ _ h hold
    ·have hlt := (List.getElem?_eq_some_iff.1 h).1
     simp only at h1; omega
 ·rintro b o m v hm (h | ⟨_, h, _⟩)
  ·exact h
  ·rcases htg with rfl | rfl
   ·cases h
   ·cases h; exact absurd rfl hm
 ·intro _; simp [Kn.withBuf]
theorem Sat.growBuf {K : Kn} {S : AHeap} {w : World} (hs : Sat K S w) {n : Name} {tg : Tag} (htg : tg = .perm ∨ tg = .buf n) {t : Tip} (ht : K.tip n = some t) (hn : S n = some (.buf t.e)) {cs : List AV} {vs : List Value} (hv : SimL K cs vs) (hpos : 0 < vs.length) (hroom : t.off + vs.length ≤ t.lim) (D : Nat) :
  Kle D K (K.withBuf n tg ⟨t.b, t.off + vs.length, t.e + vs.length, t.lim⟩ t.off vs) ∧
  Sat (K.withBuf n tg ⟨t.b, t.off + vs.length, t.e + vs.length, t.lim⟩ t.off vs) (S.set n (.buf (t.e + vs.length))) (w.setCells t.b t.off vs) := by
 have hnp : ¬ K.pend n := fun h => by have := (hs.pend n h).2; rw [ht] at this; cases this
 have hd : n.1 < K.dmax := by
  rcases Nat.lt_or_ge n.1 K.dmax with h | h
  ·exact h
  ·have := (hs.fresh n h).2.2.1; rw [ht] at this; cases this
 have hk := Kn.withBuf_le (K := K) (n := n) (tg := tg) (D := D) (o := t.off) (vs := vs) (t := ⟨t.b, t.off + vs.length, t.e + vs.length, t.lim⟩) (fun t' h => by rw [ht] at h; cases h; simp only; omega) (fun h => absurd h hnp)
 refine ⟨hk, hs.turn hk rfl (fx_setCells _ _ _ _) (by rw [size_setCells]; exact Nat.le_refl _) ?_ ?_ (fun b o v h => h.resolve_right fun q => by rcases htg with rfl | rfl <;> cases q.2.1) (fun m e => rfl) (fun m e => by simp [Kn.withBuf, e]) (fun m h => h.1) (by simp [Kn.withBuf]) rfl hd ?_ hs.low (fun _ h => by cases h)⟩
 ·intro owner o1 o2 o3 o4
  obtain ⟨_, _, hroomc⟩ := o4 n _ hn t ht
  have hin : ∀ j, j < vs.length → (w.cell? ⟨t.b, t.off + j, none⟩).isSome = true := by
   intro j hj
   obtain ⟨_, ⟨u, h⟩, _⟩ := hroomc (t.off + j) (by omega) (by omega)
   rw [h]; rfl
  have hinr : ∀ o, t.off ≤ o → o < t.off + vs.length → owner t.b o = some (n, 0) := fun o h1 h2 => (hroomc o h1 (by omega)).1
  have hout : ∀ (k o : Nat), ¬ (k = t.b ∧ t.off ≤ o ∧ o < t.off + vs.length) → (w.setCells t.b t.off vs).cell? ⟨k, o, none⟩ = w.cell? ⟨k, o, none⟩ := by
   intro k o hk
   refine World.cell?_setCells_out t.b vs t.off w ⟨k, o, none⟩ ?_
   intro hkb _
   simp only at hkb ⊢
   omega
  have hnew : ∀ o v, t.off ≤ o → vs[o - t.off]? = some v → o < t.off + vs.length ∧ (w.setCells t.b t.off vs).cell? ⟨t.b, o, none⟩ = some v := by
   intro o v h1 h
   have hj := (List.getElem?_eq_some_iff.1 h).1
   have := World.cell?_setCells_in t.b vs t.off w hin (o - t.off) hj
   rw [show t.off + (o - t.off) = o from by omega] at this
   exact ⟨by omega, by rw [this]; simpa [List.getElem?_eq_getElem hj] using h⟩
  refine ⟨fun b o => if tg = .perm ∧ b = t.b ∧ t.off ≤ o ∧ o < t.off + vs.length then none else owner b o, ?_, ?_, ?_, ?_, ?_, ?_, ?_⟩
  ·intro b o m h e
   simp only
   rw [if_neg]; · exact h
   rintro ⟨_, rfl, h1, h2⟩
   rw [hinr o h1 h2] at h; cases h; exact e rfl
  ·intro b o m h
   simp only at h
   split at h
   ·cases h
   ·exact .inl h
  ·intro b o v h
   rcases h with h | ⟨rfl, htp, h1, h⟩
   ·have hc := hs.perm b o v h
    have hno := o2 b o v h
    have hr : ¬ (b = t.b ∧ t.off ≤ o ∧ o < t.off + vs.length) := by
     rintro ⟨rfl, h1, h2⟩; rw [hinr o h1 h2] at hno; cases hno
    simp only
    rw [if_neg (fun q => hr q.2), hout b o hr]
    exact ⟨hno, hc⟩
   ·obtain ⟨h2, h3⟩ := hnew o v h1 h
    simp only
    rw [if_pos ⟨htp.symm, trivial, h1, h2⟩]
    exact ⟨rfl, h3⟩
  ·intro k o hk' _
   refine ⟨hout k o ?_, by rw [World.frozen?_setCells]⟩
   rintro ⟨rfl, h1, h2⟩; exact hk' 0 (hinr o h1 h2)
  ·intro k hk' _
   refine heap_setCells t.b vs _ _ k ?_
   rintro rfl
   exact hk' t.off 0 (hinr t.off (Nat.le_refl _) (by omega))
  ·intro b o v h _
   rcases h with h | ⟨rfl, htp, h1, h⟩
   ·obtain ⟨h1, h2, h3⟩ := o3 b o n v h ⟨_, hn⟩
    have hr : ¬ (b = t.b ∧ t.off ≤ o ∧ o < t.off + vs.length) := by
     rintro ⟨rfl, h4, h5⟩; exact (hroomc o h4 (by omega)).2.2.2 v h
    simp only
    rw [if_neg (fun q => hr q.2), hout b o hr, World.frozen?_setCells]
    exact ⟨h1, h2, h3⟩
   ·obtain ⟨h2, h3⟩ := hnew o v h1 h
    simp only
    rw [if_neg (by rw [← htp]; simp), World.frozen?_setCells]
    exact ⟨hinr o h1 h2, h3, (hroomc o h1 (by omega)).2.2.1⟩
  ·simp only [ObjOk, Kn.withBuf, if_true, Option.some.injEq]
   rintro t' rfl
   refine ⟨rfl, hroom, fun i h1 h2 => ?_⟩
   simp only at h1 h2
   obtain ⟨h0, ⟨u, h3⟩, h4, h5⟩ := hroomc i (by omega) h2
   refine ⟨?_, ⟨u, ?_⟩, by rw [World.frozen?_setCells]; exact h4, ?_⟩
   ·simp only
    rw [if_neg (by omega)]; exact h0
   ·rw [hout t.b i (by omega)]; exact h3
   ·rintro v (h | ⟨_, _, h6, h7⟩)
    ·exact h5 v h
    ·have hlt := (List.getElem?_eq_some_iff.1 h7).1
     omega
 ·rintro b o m v hm (h | ⟨_, h, _⟩)
  ·exact h
  ·rcases htg with rfl | rfl
   ·cases h
   ·cases h; exact absurd rfl hm
 ·intro _; simp [Kn.withBuf]
end Go.Al
