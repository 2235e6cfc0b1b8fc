import Derived.Test.YtolfnhebnennpaaAlI
import Derived.Deep.AppendSrc
set_option linter.unusedSimpArgs false
set_option linter.unusedVariables false
namespace Go.Al
open Go.RowKit
theorem Sat.heap {K : Kn} {S : AHeap} {w w' : World} (hs : Sat K S w) (h : w'.heap = w.heap) : Sat K S w' := by
 have hc : ∀ a, w'.cell? a = w.cell? a := fun a => World.cell?_of_block (by rw [h])
 have hf : ∀ a, w'.frozen? a = w.frozen? a := fun a => World.frozen?_of_block (by rw [h])
 obtain ⟨owner, o1, o2, o3, o4, o5⟩ := hs.objs
 refine ⟨fun b o v hk => by rw [hc]; exact hs.perm b o v hk, ⟨owner, by rw [h]; exact o1, o2, fun b o n v hk hb => by rw [hc, hf]; exact o3 b o n v hk hb, fun n obj hn => ?_, by rw [h]; exact o5⟩, hs.fresh, hs.pend, hs.tk, by rw [h]; exact hs.low, hs.based, by rw [h]; exact hs.fixd⟩
 have ho := o4 n obj hn
 cases obj with
 | box cs =>
  simp only [ObjOk] at ho ⊢
  intro b f hb i c hcc
  obtain ⟨h1, u, h2, h3, h4, h5⟩ := ho b f hb i c hcc
  exact ⟨h1, u, by rw [hc]; exact h2, by rw [hf]; exact h3, h4, h5.turn (Kle.refl 0 K) fun b o hb => ⟨hb, hc _, hf _⟩⟩
 | buf len =>
  simp only [ObjOk] at ho ⊢
  intro t ht
  obtain ⟨h1, h3, h4⟩ := ho t ht
  exact ⟨h1, h3, fun i hi1 hi2 => by rw [hc, hf]; exact h4 i hi1 hi2⟩
 | map es =>
  simp only [ObjOk] at ho ⊢
  obtain ⟨b, f, hb, h1, ents, clock, h2, h3⟩ := ho
  exact ⟨b, f, hb, h1, ents, clock, by rw [h]; exact h2, h3⟩
def asrc (S : AHeap) (sz : Nat) : AV → Option (Prop × List AV)
 | .slice own sz' cs => some (own.alive S ∧ sz' = sz, cs)
 | .lit (.slice none 0 0) => some (True, [])
 | .lit (.slice (some _) 0 _) => some (True, [])
 | .empt => some (True, [])
 | .lit (.string s) => some (sz = 1, s.data.toList.map fun b => .lit (.int .u8 b.toNat))
 | .sref m sz' o len _ => match S m with
  | some (.box ms) => some (sz' = sz ∧ o + len * sz ≤ ms.length, (ms.drop o).take (len * sz))
  | _ => none
 | _ => none
theorem Lies.one {K : Kn} {w : World} {cs : List AV} {vs : List Value} (h : SimL K cs vs) (h1 : ∀ c ∈ cs, c.one = true) : ∀ v ∈ vs, v.oneCell' = true := by
 induction cs generalizing vs with
 | nil => cases vs with
  | nil => intro v hv; cases hv
  | cons => simp [SimL] at h
 | cons c cs ih => cases vs with
  | nil => simp [SimL] at h
  | cons v vs =>
   simp only [SimL] at h
   intro u hu
   rcases List.mem_cons.1 hu with rfl | hu
   ·exact AV.one_sim h.1 (h1 c (by simp))
   ·exact ih h.2 (fun c hc => h1 c (by simp [hc])) u hu
theorem take_get {α : Type} {vs : List α} {k j : Nat} {u : α} (h : (vs.take k)[j]? = some u) : vs[j]? = some u := by
 rw [List.getElem?_take] at h
 split at h
 ·exact h
 ·cases h
theorem asrc_sound {P : Program} {T : Tab} (hT : TOk P T) {K : Kn} {S : AHeap} {w : World} (hs : Sat K S w) {sz : Nat} (hsz : 0 < sz) {x : AV} {v : Value} {p : Prop} {cs : List AV} {tx : TypeId} {tix : TI} (htx : T tx = some tix)
  (hk : (∃ e, tix.d = .slice e) ∨ tix.d = .string) (h : asrc S sz x = some (p, cs)) (hp : p) (h1 : ∀ c ∈ cs, c.one = true) (hx : SimV K x v) :
  ∃ n vs, n * sz = cs.length ∧ SimL K cs vs ∧ Src P sz tx v n vs w ∧ ∀ q, q ≤ n → (Builtin.firstCells sz q v).run P w = .ok (vs.take (q * sz)).toArray w := by
 obtain ⟨d, hd, hd2⟩ := (hT tx tix htx).und
 have hkind : (∃ e', P.underlying tx = some (.slice e')) ∨ P.underlying tx = some .string := by
  rcases hk with ⟨e, hk⟩ | hk <;> rw [hk] at hd2 <;> simp only [TD.fits] at hd2 <;> subst hd2
  ·exact .inl ⟨e, hd⟩
  ·exact .inr hd
 have none_ : ∀ (a : Option Addr) (cap : Nat) (w' : World), (Builtin.firstCells sz 0 (.slice a 0 cap)).run P w' = .ok #[] w' := by
  intro a cap w'
  cases a with
  | none => exact run_firstCells_none w' sz 0 0 cap
  | some a => exact run_firstCells_some w' sz 0 a 0 cap [] (by simp) (by simp)
 have nil_ : ∀ (a : Option Addr) (cap : Nat), ∃ n vs, n * sz = ([] : List AV).length ∧ SimL K [] vs ∧ Src P sz tx (.slice a 0 cap) n vs w ∧ ∀ q, q ≤ n → (Builtin.firstCells sz q (.slice a 0 cap)).run P w = .ok (vs.take (q * sz)).toArray w := by
  intro a cap
  refine ⟨0, [], by simp, by simp [SimL], ⟨hkind, fun _ => rfl, none_ a cap w, none_ a cap w.drew, by simp, fun _ h => by cases h⟩, fun q hq => ?_⟩
  obtain rfl : q = 0 := by omega
  simpa using none_ a cap w
 unfold asrc at h
 split at h <;> try (cases h; done)
 ·-- a slice
  rename_i own sz' cs'
  simp only [Option.some.injEq, Prod.mk.injEq] at h
  obtain ⟨rfl, rfl⟩ := h
  obtain ⟨ha, rfl⟩ := hp
  simp only [SimV] at hx
  obtain ⟨a, len, cap, rfl, h3, h4, h0, h5⟩ := hx
  rcases h5 with ⟨rfl, hnil⟩ | ⟨b, o, rfl, h6, h7⟩
  ·have hl0 : len = 0 := (Nat.mul_eq_zero.1 (by simpa using h3)).resolve_right (by omega)
   subst hl0
   exact nil_ a cap
  ·obtain ⟨vs, h8, h9⟩ := (SimC.lies hs ha h6).values
   have hvl := SimL_length h8
   refine ⟨len, vs, h3, h8, ⟨hkind, fun _ => rfl, ?_, ?_, by rw [← hvl, ← h3], Lies.one (w := w) h8 h1⟩, fun q hq => ?_⟩
   ·exact run_firstCells_some w sz' len _ len cap vs (by rw [← hvl, ← h3]) (fun j u hu => by rw [plainAdd]; exact h9 j u hu)
   ·exact run_firstCells_some w.drew sz' len _ len cap vs (by rw [← hvl, ← h3]) (fun j u hu => by rw [plainAdd]; exact h9 j u hu)
   ·have := Nat.mul_le_mul_right sz' hq
    exact run_firstCells_some w sz' q _ len cap (vs.take (q * sz')) (by rw [List.length_take]; omega) (fun j u hu => by rw [plainAdd]; exact h9 j u (take_get hu))
 ·simp only [Option.some.injEq, Prod.mk.injEq] at h
  obtain ⟨rfl, rfl⟩ := h
  simp only [SimV] at hx; subst hx
  exact nil_ none 0
 ·simp only [Option.some.injEq, Prod.mk.injEq] at h
  obtain ⟨rfl, rfl⟩ := h
  simp only [SimV] at hx; subst hx
  exact nil_ _ _
 ·simp only [Option.some.injEq, Prod.mk.injEq] at h
  obtain ⟨rfl, rfl⟩ := h
  simp only [SimV] at hx
  obtain ⟨a, rfl⟩ := hx
  exact nil_ a 0
 ·rename_i s
  simp only [Option.some.injEq, Prod.mk.injEq] at h
  obtain ⟨rfl, rfl⟩ := h
  subst hp
  simp only [SimV] at hx; subst hx
  refine ⟨s.size, byteCells s, ?_, ?_, ⟨hkind, fun _ => rfl, firstCells_string s w, firstCells_string s w.drew, by rw [byteCells_length, Nat.mul_one], ?_⟩, fun q hq => ?_⟩
  ·rw [List.length_map, Array.length_toList, Nat.mul_one]; rfl
  ·have := SimL_lit (K := K) (byteCells s)
   simpa [byteCells, List.map_map, Function.comp_def] using this
  ·intro u hu
   obtain ⟨_, _, rfl⟩ := List.mem_map.1 hu
   rfl
  ·simp only [Builtin.firstCells, Sem.run_pure, byteCells, Nat.mul_one]
   congr 1
   apply Array.ext'
   simp [List.map_take]
 ·rename_i m sz' o len cap
  split at h <;> try (cases h; done)
  rename_i ms hm
  simp only [Option.some.injEq, Prod.mk.injEq] at h
  obtain ⟨rfl, rfl⟩ := h
  obtain ⟨rfl, hlen⟩ := hp
  simp only [SimV] at hx
  obtain ⟨b, f, cap', hb, rfl, hlc, hcc, h0⟩ := hx
  obtain ⟨vs, h8, h9⟩ := ((hs.box hm hb o).take (len * sz')).values
  have hvl := SimL_length h8
  have hcl : ((ms.drop o).take (len * sz')).length = len * sz' := by simp; omega
  refine ⟨len, vs, hcl.symm, h8, ⟨hkind, fun _ => rfl, ?_, ?_, by rw [← hvl, hcl], Lies.one (w := w) h8 h1⟩, fun q hq => ?_⟩
  ·exact run_firstCells_some w sz' len _ len cap' vs (by rw [← hvl, hcl]) (fun j u hu => by rw [plainAdd]; exact h9 j u hu)
  ·exact run_firstCells_some w.drew sz' len _ len cap' vs (by rw [← hvl, hcl]) (fun j u hu => by rw [plainAdd]; exact h9 j u hu)
  ·have := Nat.mul_le_mul_right sz' hq
   exact run_firstCells_some w sz' q _ len cap' (vs.take (q * sz')) (by rw [List.length_take]; omega) (fun j u hu => by rw [plainAdd]; exact h9 j u (take_get hu))
theorem below_setCells {B : Nat} (b : Nat) : ∀ (vs : List Value) (o : Nat) {a w : World}, Below B a w → B ≤ b → Below B a (w.setCells b o vs)
 | [], _, _, _, h, _ => h
 | v :: vs, o, a, w, h, hb => by rw [World.setCells]; exact below_setCells b vs (o + 1) (h.setCell (p := ⟨b, o, none⟩) hb v) hb
def Own.at (pm : Bool) (n : Name) (e : Nat) : Own := if pm then .tip n e else .buf n e
def Tag.at (pm : Bool) (n : Name) : Tag := if pm then .perm else .buf n
theorem Own.at_tag {pm : Bool} {n : Name} {e : Nat} : (Own.at pm n e).tag = Tag.at pm n := by cases pm <;> rfl
theorem Tag.at_or {pm : Bool} {n : Name} : Tag.at pm n = .perm ∨ Tag.at pm n = .buf n := by cases pm <;> simp [Tag.at]
theorem NilOk_at {K : Kn} {a : Option Addr} {cap : Nat} {pm : Bool} {n : Name} {e : Nat} : NilOk K a cap (Own.at pm n e) ↔ cap = 0 ∧ n.1 < K.dmax ∧ ¬ K.pend n := by cases pm <;> exact Iff.rfl
theorem TipOk_at {K : Kn} {b o n cap : Nat} {pm : Bool} {m : Name} {e : Nat} : TipOk K b o n cap (Own.at pm m e) ↔ n ≤ e ∧ ∃ t, K.tip m = some t ∧ e ≤ t.e ∧ (e = t.e → b = t.b ∧ o + n = t.off ∧ o + cap = t.lim) := by cases pm <;> exact Iff.rfl
theorem alive_at {S : AHeap} {pm : Bool} {n : Name} {e l : Nat} (h : S n = some (.buf l)) : (Own.at pm n e).alive S := by
 cases pm
 ·exact ⟨l, h⟩
 ·trivial
theorem append_sound {P : Program} {T : Tab} (hT : TOk P T) {K : Kn} {S : AHeap} {w : World} (hs : Sat K S w) {n : Name} {e : Nat} (hn : S n = some (.buf e)) {sz : Nat} {cs ys : List AV} {v y : Value} {pm : Bool}
  {t tx ty : TypeId} {el : TypeId} {s1 s2 : Nat} {s3 : List Value} {ei tix : TI} (ht : T t = some ⟨.slice el, s1, s2, s3⟩) (hei : T el = some ei) (hsz : ei.size = sz) (htx : T tx = some tix) (hk : (∃ e, tix.d = .slice e) ∨ tix.d = .string)
  {yav : AV} {p : Prop} (hsrc : asrc S sz yav = some (p, ys)) (hp : p) (h1 : ∀ c ∈ ys, c.one = true) (hbound : ((cs.length + ys.length) / sz) * ei.bytes ≤ 2 ^ 47) (hb63 : (cs.length + ys.length) / sz < 2 ^ 63)
  (hv : SimV K (.slice (Own.at pm n e) sz cs) v) (hy : SimV K yav y) (D : Nat) :
  ∃ u w' K', (Builtin.append_ #[t, tx] ty #[v, y]).run P w = .ok u w' ∧ SimV K' (.slice (Own.at pm n (e + ys.length)) sz (cs ++ ys)) u ∧ Kle D K K' ∧ Sat K' (S.set n (.buf (e + ys.length))) w' ∧ Below K.low w w' := by
 simp only [SimV] at hv
 obtain ⟨a, len, cap, rfl, h3, h4, h0, h5⟩ := hv
 obtain ⟨m, vs, h6, h7, h8, _⟩ := asrc_sound (P := P) (T := T) hT hs h0 htx hk hsrc hp h1 hy
 obtain ⟨d, hd, hd2⟩ := (hT t _ ht).und
 simp only [TD.fits] at hd2; subst hd2
 obtain ⟨xi, hx1, hx2, hx3, z, hz1, hz2, _⟩ := (hT el _ hei).info
 have hxs : xi.size = sz := by rw [hx2, hsz]
 have hvl := SimL_length h7
 have hcount : (cs.length + ys.length) / sz = len + m := by rw [← h3, ← h6, ← Nat.add_mul, Nat.mul_div_cancel _ h0]
 rw [hcount] at hbound hb63
 obtain ⟨owner, o1, o2, o3, o4, o5⟩ := hs.objs
 have hobj := o4 n _ hn
 simp only [ObjOk] at hobj
 have hfront : ∃ olds, SimL K cs olds ∧ (Builtin.firstCells xi.size len (.slice a len cap)).run P w.drew = .ok olds.toArray w.drew := by
  rcases h5 with ⟨rfl, hnil⟩ | ⟨b, o, rfl, g6, g7⟩
  ·have hl0 : len = 0 := (Nat.mul_eq_zero.1 (by simpa using h3)).resolve_right (by omega)
   subst hl0
   obtain ⟨rfl, _⟩ := NilOk_at.1 hnil
   refine ⟨[], by simp [SimL], ?_⟩
   cases a with
   | none => exact run_firstCells_none w.drew _ 0 0 0
   | some a => exact run_firstCells_some w.drew _ 0 a 0 0 [] (by simp) (by simp)
  ·obtain ⟨olds, g8, g9⟩ := (SimC.lies hs (own := Own.at pm n e) (alive_at hn) g6).values
   refine ⟨olds, g8, ?_⟩
   have := SimL_length g8
   exact run_firstCells_some w.drew xi.size len _ len cap olds (by rw [← this, ← h3, hxs]) (fun j u hu => by rw [plainAdd]; exact g9 j u hu)
 obtain ⟨olds, hol, hor⟩ := hfront
 have holl := SimL_length hol
 by_cases hz0 : ys = []
 ·-- nothing is appended
  subst hz0
  have hm0 : m = 0 := (Nat.mul_eq_zero.1 (by simpa using h6)).resolve_right (by omega)
  subst hm0
  have hvs : vs = [] := List.eq_nil_of_length_eq_zero (by simpa using hvl.symm)
  subst hvs
  have hset : S.set n (.buf (e + ([] : List AV).length)) = S := by
   funext k; simp only [AHeap.set, List.length_nil, Nat.add_zero]; split
   ·rename_i hk'; subst hk'; exact hn.symm
   ·rfl
  refine ⟨.slice a len cap, w, K, ?_, ?_, Kle.refl _ _, by rw [hset]; exact hs, Below.refl _ _⟩
  ·cases a with
   | none =>
    have hroom : len + 0 ≤ cap := h4
    rcases h8.kind with ⟨e', hk⟩ | hk <;> simp [Builtin.append_, run_underlying hd, run_underlying hk, sizeOf, typeInfo, hx1, hxs, h8.len, hroom, h8.cells, h4]
   | some a =>
    have hroom : len + 0 ≤ cap := h4
    rcases h8.kind with ⟨e', hk⟩ | hk <;> simp [Builtin.append_, run_underlying hd, run_underlying hk, sizeOf, typeInfo, hx1, hxs, h8.len, hroom, h8.cells, h4, storeCells]
  ·simp only [SimV, List.append_nil, List.length_nil, Nat.add_zero]
   exact ⟨a, len, cap, rfl, h3, h4, h0, h5⟩
 ·have hpos : 0 < vs.length := by
   rw [← hvl]; exact List.length_pos_iff.2 hz0
  have hroomcase : (∃ b o tp, a = some ⟨b, o, none⟩ ∧ SimC K (Tag.at pm n) b o cs ∧ K.tip n = some tp ∧ tp.e = e ∧ b = tp.b ∧ o + cs.length = tp.off ∧ o + cap * sz = tp.lim ∧ cs.length ≤ e ∧ len + m ≤ cap) ∨ (cap < len + m ∧ (∀ tp, K.tip n = some tp → tp.e = e) ∧ (K.pend n → False) ∧ n.1 < K.dmax ∧ cs.length ≤ e) := by
   by_cases hr : len + m ≤ cap
   ·left
    rcases h5 with ⟨rfl, hnil⟩ | ⟨b, o, rfl, g6, g7⟩
    ·exfalso
     have hc := (NilOk_at.1 hnil).1
     have : m ≠ 0 := by rintro rfl; simp at h6; exact hz0 (List.eq_nil_of_length_eq_zero h6.symm)
     omega
    ·obtain ⟨g0, tp, g1, g2, g3⟩ := TipOk_at.1 g7
     rw [Own.at_tag] at g6
     have he := (hobj tp g1).1
     obtain ⟨q1, q2, q3⟩ := g3 he.symm
     exact ⟨b, o, tp, rfl, g6, g1, he, q1, q2, q3, g0, hr⟩
   ·right
    refine ⟨by omega, fun tp htp => (hobj tp htp).1, ?_, ?_, ?_⟩
    ·rcases h5 with ⟨rfl, hnil⟩ | ⟨b, o, rfl, g6, g7⟩
     ·exact (NilOk_at.1 hnil).2.2
     ·obtain ⟨g0, tp, g1, _⟩ := TipOk_at.1 g7
      intro hpn; have := (hs.pend n hpn).2; rw [g1] at this; cases this
    ·rcases h5 with ⟨rfl, hnil⟩ | ⟨b, o, rfl, g6, g7⟩
     ·exact (NilOk_at.1 hnil).2.1
     ·obtain ⟨g0, tp, g1, _⟩ := TipOk_at.1 g7
      rcases Nat.lt_or_ge n.1 K.dmax with h | h
      ·exact h
      ·have := (hs.fresh n h).2.2.1; rw [g1] at this; cases this
    ·rcases h5 with ⟨rfl, _⟩ | ⟨b, o, rfl, g6, g7⟩
     ·simp
     ·exact (TipOk_at.1 g7).1
  rcases hroomcase with ⟨b, o, tp, rfl, g6, g1, ge, gb, goff, glim, gle, hr⟩ | ⟨hr, htip, hnp, hdm, hle⟩
  ·-- there is room
   obtain ⟨q1, q3, q4⟩ := hobj tp g1
   have hoff : o + len * xi.size = tp.off := by rw [hxs, h3]; exact goff
   have hvs2 : vs.length = m * sz := by rw [← hvl, h6]
   have hlim : tp.off + vs.length ≤ tp.lim := by
    rw [← goff, ← glim, ← h3, hvs2, Nat.add_assoc, ← Nat.add_mul]
    exact Nat.add_le_add_left (Nat.mul_le_mul_right _ hr) _
   subst ge
   obtain ⟨hk', hs'⟩ := hs.growBuf (Tag.at_or (pm := pm)) g1 hn h7 hpos hlim D
   have hve : tp.e + vs.length = tp.e + ys.length := by rw [hvl]
   have hrun := run_append_room_src (P := P) w t tx ty el xi hd hx1 b o len cap y m vs (by rw [hxs]; exact h8) hr
    (fun j hj => by obtain ⟨_, ⟨u, hu⟩, _⟩ := q4 (tp.off + j) (by omega) (by omega); rw [hoff, gb, hu]; rfl)
    (fun j hj => by rw [hoff, gb]; exact (q4 (tp.off + j) (by omega) (by omega)).2.2.1)
   refine ⟨_, _, _, hrun, ?_, hk', by rw [hoff, gb, ← hve]; exact hs', ?_⟩
   ·simp only [SimV]
    refine ⟨_, len + m, cap, rfl, by rw [List.length_append, ← h3, ← h6, Nat.add_mul], hr, h0, .inr ⟨b, o, rfl, ?_, ?_⟩⟩
    ·rw [Own.at_tag]
     refine SimC_append.2 ⟨SimC.mono hk' g6, ?_⟩
     have := Kn.withBuf_sim hk' h7
     simp only at this
     rw [goff, gb]; exact this
    ·refine TipOk_at.2 ⟨by rw [List.length_append]; omega, ⟨tp.b, tp.off + vs.length, tp.e + vs.length, tp.lim⟩, by simp [Kn.withBuf], by simp only; omega, fun _ => ⟨gb, by simp only [List.length_append]; omega, glim⟩⟩
   ·rw [hoff, gb]
    exact below_setCells tp.b vs _ (Below.refl _ _) (o1 _ _ _ (q4 tp.off (Nat.le_refl _) (by omega)).1).1
  ·-- there is none
   have hfit : Builtin.nextslicecap (len + m) cap * xi.bytes ≤ 281474976710656 := growslice_fits hr (by rw [hx3]; simpa using hbound)
   have hrun := run_append_grow_src (P := P) w t tx ty el xi z hd hx1 hz1 a len cap olds hor y m vs (by rw [hxs]; exact h8) hr (by omega) hfit
   have hs1 : Sat K S w.drew := hs.heap rfl
   have hzlen : ∀ q, (Builtin.zeroCells z.cells q).toList.length = q * sz := by
    intro q
    rw [Array.length_toList, size_zeroCells, ← hsz, ← (hT el _ hei).len, ← hz2, Array.length_toList]
   have hnew := hs1.newBuf (n := n) (Tag.at_or (pm := pm)) (D := D) (fun h => absurd h hnp) hdm (e := e + ys.length) (.inl ⟨_, hn⟩) (fun tp htp => by rw [htip tp htp]; have := List.length_pos_iff.2 hz0; omega)
    (cs := cs ++ ys) (vs := olds ++ vs) (rest := (Builtin.zeroCells z.cells (grownCap w (len + m) cap el - (len + m))).toList) (ty := el) (SimL_append hol h7)
   obtain ⟨hk', hs'⟩ := hnew
   refine ⟨_, _, _, hrun, ?_, hk', ?_, ?_⟩
   ·have hgc := grownCap_ge w (len + m) cap el
    have hlen2 : (olds ++ vs).length = (len + m) * sz := by rw [List.length_append, ← holl, ← hvl, ← h3, ← h6, Nat.add_mul]
    simp only [SimV]
    refine ⟨_, len + m, _, rfl, by rw [List.length_append, ← h3, ← h6, Nat.add_mul], hgc, h0, .inr ⟨_, 0, rfl, ?_, ?_⟩⟩
    ·rw [Own.at_tag]; exact Kn.withBuf_sim hk' (SimL_append hol h7)
    ·refine TipOk_at.2 ⟨?_, _, Kn.withBuf_tip, Nat.le_refl _, fun _ => ⟨rfl, ?_, ?_⟩⟩
     ·rw [List.length_append]; omega
     ·simp only [Nat.zero_add]; rw [hlen2, List.length_append, ← h3, ← h6, Nat.add_mul]
     ·simp only [Nat.zero_add]; rw [hlen2, hzlen, ← Nat.add_mul]; congr 1; omega
   ·have : ((olds ++ vs) ++ (Builtin.zeroCells z.cells (grownCap w (len + m) cap el - (len + m))).toList).toArray = (olds ++ vs).toArray ++ Builtin.zeroCells z.cells (grownCap w (len + m) cap el - (len + m)) := by
     apply Array.ext'; simp
    rw [← this]; exact hs'
   ·exact (Below.refl _ _).drew.alloc hs.low _
theorem run_append_zeros {P : Program} (w : World) (t tx ty e : TypeId) (ki : IntKind) (i : TypeInfo) (z : Value) (ht : P.underlying t = some (.slice e)) (hx : P.underlying tx = some (.int ki)) (hi : P.info? e = some i) (hz : i.zero = some z) {q : Int}
  (h0 : 0 < q) (h63 : q < 9223372036854775808) (hfit : q.toNat * i.bytes ≤ 140737488355328) (hsz : 0 < i.size) :
  (Builtin.append_ #[t, tx] ty #[.slice none 0 0, .int .i64 q]).run P w =
   .ok (.slice (some ⟨w.heap.size, 0, none⟩) q.toNat (grownCap w q.toNat 0 e))
    (w.drew.alloc (.cells (Builtin.zeroCells z.cells q.toNat ++ Builtin.zeroCells z.cells (grownCap w q.toNat 0 e - q.toNat)) e)) := by
 have hw : IntKind.i64.wrap q = q := by rw [IntKind.wrap_i64]; omega
 have hq : 0 < q.toNat := by omega
 have hq' : ((q.toNat : Nat) : Int) = q := Int.toNat_of_nonneg (by omega)
 have h1 : ¬ q < 0 := by omega
 have h2 : ¬ (281474976710656 < q * (i.bytes : Int)) := by
  have e : q * (i.bytes : Int) = ((q.toNat * i.bytes : Nat) : Int) := by rw [Int.natCast_mul, hq']
  rw [e]
  generalize q.toNat * i.bytes = a at hfit
  omega
 have h3 : ¬ q.toNat ≤ 0 := by omega
 have h3' : ¬ q ≤ 0 := by omega
 have h4 : ¬ (9223372036854775807 < q) := by omega
 have h4' : ¬ (9223372036854775807 < max q 0) := by omega
 have h5 : Builtin.nextslicecap q.toNat 0 = q.toNat := by
  unfold Builtin.nextslicecap
  rw [if_pos (by omega)]
 have h6 : ¬ (281474976710656 < q.toNat * i.bytes) := by omega
 have h7 : ¬ (q.toNat * i.size = 0) := by
  have := Nat.mul_pos hq hsz
  omega
 simp [Builtin.append_, run_underlying ht, run_underlying hx, sizeOf, typeInfo, zeroValue, hi, hz, asInt, asIntOf, hw, h1, h2, h3, h3', h4, h4', h5, h6, h7, hq', Question.forced, newRow, grownCap, Builtin.firstCells]
theorem zeros_sound {P : Program} {T : Tab} (hT : TOk P T) {K : Kn} {S : AHeap} {w : World} (hs : Sat K S w) {n : Name} {D : Nat} (hpn : K.pend n) (hD : D ≤ n.1) (hnd : n.1 < K.dmax)
  {t tx ty : TypeId} {el : TypeId} {s1 s2 : Nat} {s3 : List Value} {ei tix : TI} (ht : T t = some ⟨.slice el, s1, s2, s3⟩) (hei : T el = some ei) (htx : T tx = some tix) {ki : IntKind} (hk : tix.d = .int ki)
  {q : Int} (h0 : 0 < q) (h63 : q < 2 ^ 63) (hb : q.toNat * ei.bytes ≤ 2 ^ 47) (hsz : 0 < ei.size) :
  ∃ u w' K', (Builtin.append_ #[t, tx] ty #[.slice none 0 0, .int .i64 q]).run P w = .ok u w' ∧ SimV K' (.slice (.buf n (q.toNat * ei.size)) ei.size ((Builtin.zeroCells ei.zero.toArray q.toNat).toList.map .lit)) u ∧ Kle D K K' ∧
   Sat K' (S.set n (.buf (q.toNat * ei.size))) w' ∧ Below K.low w w' ∧ K'.dmax = K.dmax ∧ ∀ x, K.pend x → x ≠ n → K'.pend x := by
 obtain ⟨d, hd, hd2⟩ := (hT t _ ht).und
 simp only [TD.fits] at hd2; subst hd2
 obtain ⟨dx, hdx, hdx2⟩ := (hT tx _ htx).und
 rw [hk] at hdx2
 simp only [TD.fits] at hdx2; subst hdx2
 obtain ⟨xi, hx1, hx2, hx3, z, hz1, hz2, _⟩ := (hT el _ hei).info
 have hrun := run_append_zeros (P := P) w t tx ty el ki xi z hd hdx hx1 hz1 h0 (by simpa using h63) (by rw [hx3]; simpa using hb) (by rw [hx2]; exact hsz)
 have hzc : z.cells = ei.zero.toArray := by rw [← hz2]
 have hs1 : Sat K S w.drew := hs.heap rfl
 have hzlen : ∀ q, (Builtin.zeroCells z.cells q).toList.length = q * ei.size := by
  intro q
  rw [Array.length_toList, size_zeroCells, ← (hT el _ hei).len, ← hz2, Array.length_toList]
 have htip := (hs.pend n hpn).2
 have hnew := hs1.newBuf (n := n) (tg := .buf n) (.inr rfl) (D := D) (fun _ => hD) hnd (e := q.toNat * ei.size) (.inr htip) (fun tp htp => by rw [htip] at htp; cases htp)
  (cs := (Builtin.zeroCells z.cells q.toNat).toList.map .lit) (vs := (Builtin.zeroCells z.cells q.toNat).toList) (rest := (Builtin.zeroCells z.cells (grownCap w q.toNat 0 el - q.toNat)).toList) (ty := el) (SimL_lit _)
 obtain ⟨hk', hs'⟩ := hnew
 refine ⟨_, _, _, hrun, ?_, hk', ?_, ?_, rfl, fun x h1 h2 => ⟨h1, h2⟩⟩
 ·have hgc := grownCap_ge w q.toNat 0 el
  simp only [SimV]
  rw [← hzc]
  refine ⟨_, q.toNat, _, rfl, by rw [List.length_map, hzlen], hgc, hsz, .inr ⟨_, 0, rfl, ?_, ?_⟩⟩
  ·exact Kn.withBuf_sim hk' (SimL_lit _)
  ·refine ⟨by rw [List.length_map, hzlen]; exact Nat.le_refl _, _, Kn.withBuf_tip, Nat.le_refl _, fun _ => ⟨rfl, ?_, ?_⟩⟩
   ·rw [List.length_map]; simp only [Nat.zero_add]
   ·simp only [Nat.zero_add]; rw [hzlen, hzlen, ← Nat.add_mul]; congr 1; omega
 ·have : ((Builtin.zeroCells z.cells q.toNat).toList ++ (Builtin.zeroCells z.cells (grownCap w q.toNat 0 el - q.toNat)).toList).toArray = Builtin.zeroCells z.cells q.toNat ++ Builtin.zeroCells z.cells (grownCap w q.toNat 0 el - q.toNat) := by
   apply Array.ext'; simp
  rw [← this]; exact hs'
 ·exact (Below.refl _ _).drew.alloc hs.low _
theorem copy_sound {P : Program} {T : Tab} (hT : TOk P T) {K : Kn} {S : AHeap} {w : World} (hs : Sat K S w) {n : Name} {cs ys : List AV} (hn : S n = some (.box cs)) {sz o len cap : Nat} {v y : Value}
  {t tx ty : TypeId} {el : TypeId} {s1 s2 : Nat} {s3 : List Value} {ei tix : TI} (ht : T t = some ⟨.slice el, s1, s2, s3⟩) (hei : T el = some ei) (hsz : ei.size = sz) (htx : T tx = some tix) (hk : (∃ e, tix.d = .slice e) ∨ tix.d = .string)
  {yav : AV} {p : Prop} (hsrc : asrc S sz yav = some (p, ys)) (hp : p) (h1 : ∀ c ∈ ys, c.one = true) (hl : o + len * sz ≤ cs.length)
  (hv : SimV K (.sref n sz o len cap) v) (hy : SimV K yav y) :
  ∃ w', (Builtin.copy_ #[t, tx] ty #[v, y]).run P w = .ok (.int .i64 ((min (ys.length / sz) len : Nat) : Int)) w' ∧ Sat K (S.set n (.box (splice o (ys.take (len * sz)) cs))) w' ∧ Below K.low w w' := by
 simp only [SimV] at hv
 obtain ⟨b, f, cap', hb, rfl, hlc, hcc, h0⟩ := hv
 obtain ⟨m, vs, h6, h7, h8, h9⟩ := asrc_sound (P := P) (T := T) hT hs h0 htx hk hsrc hp h1 hy
 obtain ⟨d, hd, hd2⟩ := (hT t _ ht).und
 simp only [TD.fits] at hd2; subst hd2
 have hvl := SimL_length h7
 have hm : ys.length / sz = m := by rw [← h6, Nat.mul_div_cancel _ h0]
 rw [hm]
 have hq := h9 (min m len) (Nat.min_le_left _ _)
 have htk : vs.take (min m len * sz) = vs.take (len * sz) := by
  rcases Nat.le_total m len with h | h
  ·have := Nat.mul_le_mul_right sz h
   rw [Nat.min_eq_left h, List.take_of_length_le (by omega), List.take_of_length_le (by omega)]
  ·rw [Nat.min_eq_right h]
 rw [htk] at hq
 have hsim := SimL_take (len * sz) h7
 have hfit : o + (ys.take (len * sz)).length ≤ cs.length := by rw [List.length_take]; omega
 have hs' := hs.store hn hb hfit hsim (fun c hc => AV.owns_one (h1 c (List.mem_of_mem_take hc)))
 obtain ⟨owner, o1, _, _, o4, _⟩ := hs.objs
 have hcells := o4 n _ hn b f hb
 have hlen2 := SimL_length hsim
 have hst := run_storeCells_cells (P := P) b (f + o) (vs.take (len * sz)) 0 w
  (fun j hj => by
   obtain ⟨_, u, hu, _⟩ := hcells (o + j) (cs[o + j]'(by omega)) (by simp)
   rw [show f + o + 0 + j = f + (o + j) from by omega, hu]; rfl)
  (fun j hj => by
   obtain ⟨_, u, _, hu, _⟩ := hcells (o + j) (cs[o + j]'(by omega)) (by simp)
   rw [show f + o + 0 + j = f + (o + j) from by omega, hu])
  (fun u hu => h8.one u (List.mem_of_mem_take hu))
 simp only [Nat.add_zero] at hst
 refine ⟨_, ?_, hs', ?_⟩
 ·have hsize := (hT.size hei)
  simp only [Builtin.copy_, Sem.run_bind, List.getElem?_toArray, List.getElem?_cons_zero, List.getElem?_cons_succ, run_underlying hd, Result.andThen_ok, h8.len, hsize, hsz]
  have : Nat.min m len = min m len := rfl
  rw [this, hq]
  simp only [Result.andThen_ok, hst, goInt]
  rfl
 ·by_cases hvs : vs.take (len * sz) = []
  ·rw [hvs]; exact Below.refl _ _
  ·have hpos := List.length_pos_iff.2 hvs
   obtain ⟨h2, _⟩ := hcells o (cs[o]'(by omega)) (by simp)
   exact below_setCells b _ _ (Below.refl _ _) (o1 _ _ _ h2).1
end Go.Al
