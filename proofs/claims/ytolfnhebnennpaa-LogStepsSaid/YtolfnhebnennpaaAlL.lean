import Derived.Test.YtolfnhebnennpaaAlK
import Derived.Laws.MakeOwn
set_option linter.unusedSimpArgs false
set_option linter.unusedVariables false
namespace Go.Al
open Go.RowKit
theorem run_callFunc {P : Program} {w : World} {g : FuncId} {vs : Array Value} (h : enters P g = true) : (callFunc g vs).run P w = .ok (.enter g vs) w := by
 unfold enters at h
 split at h <;> try (cases h; done)
 rename_i fn hfn
 simp only [Bool.and_eq_true, Bool.not_eq_true'] at h
 obtain ⟨h1, h2⟩ := h
 have h3 : fn.body.isNone = false := by cases hb : fn.body <;> simp_all
 simp only [callFunc, Sem.run_bind, run_program, Result.andThen_ok, hfn, h1, h3, Bool.false_eq_true, if_false, Sem.run_pure]
theorem zeros_sim {K : Kn} (z : Array Value) (n : Nat) (hz : n * z.size ≠ 0 ∨ n = 0 ∨ z.size = 0) : SimL K (zeros n z.toList) ((Array.range (n * z.size)).map (z[· % z.size]!)).toList := by
 have hlist : ((Array.range (n * z.size)).map (z[· % z.size]!)).toList = (List.replicate n z.toList).flatten := by
  apply List.ext_getElem?
  intro i
  by_cases hi : i < n * z.size
  ·have hzp : 0 < z.size := by
    rcases Nat.eq_zero_or_pos z.size with h | h
    ·rw [h] at hi; simp at hi
    ·exact h
   have hm : i % z.size < z.size := Nat.mod_lt _ hzp
   have : (List.replicate n z.toList).flatten[i]? = some (z[i % z.size]!) := by
    clear hz
    induction n generalizing i with
    | zero => simp at hi
    | succ n ih =>
     rw [List.replicate_succ, List.flatten_cons]
     by_cases h1 : i < z.size
     ·rw [List.getElem?_append_left (by simpa using h1)]
      rw [Nat.mod_eq_of_lt h1]
      simp [h1]
     ·rw [List.getElem?_append_right (by simpa using h1)]
      simp only [Array.length_toList]
      have := ih (i - z.size) (by rw [Nat.add_mul] at hi; omega) (Nat.mod_lt _ hzp)
      rw [this]
      rw [← Nat.mod_eq_sub_mod (by omega)]
   rw [this]
   simp [hi]
  ·have h2 : (List.replicate n z.toList).flatten.length = n * z.size := by simp
   rw [List.getElem?_eq_none (l := (List.replicate n z.toList).flatten) (by rw [h2]; omega)]
   exact List.getElem?_eq_none (by simp; omega)
 rw [hlist]
 unfold zeros
 have : (List.replicate n (z.toList.map AV.lit)).flatten = ((List.replicate n z.toList).flatten).map AV.lit := by
  rw [List.map_flatten, List.map_replicate]
 rw [this]
 exact SimL_lit _
theorem afill_length {place : Nat → Option (Nat × Nat)} : ∀ {xs : List (Nat × AV)} {cells out : List AV}, afill place cells xs = some out → out.length = cells.length
 | [], cells, out, h => by simp only [afill, Option.some.injEq] at h; rw [h]
 | (i, x) :: xs, cells, out, h => by
  simp only [afill] at h
  split at h <;> try (cases h; done)
  split at h <;> try (cases h; done)
  rw [afill_length h, splice_length]
theorem run_buildSlice {P : Program} {T : Tab} (hT : TOk P T) {K : Kn} {w : World} {t e : TypeId} {n : Nat} {s1 s2 : Nat} {s3 : List Value} {ei : TI} (ht : T t = some ⟨.slice e, s1, s2, s3⟩) (hei : T e = some ei)
  {xs : List (Nat × AV)} {vs : Array (Nat × Value)} {cs : List AV} (hf : afill (fun i => some (i * ei.size, ei.size)) (zeros n ei.zero) xs = some cs) (hx : SimP K xs vs.toList) (h0 : 0 < ei.size) (hsz : n * ei.size ≤ 2 ^ 24) :
  ∃ arr : Array Value, (Instr.buildSlice t n vs).run P w = .ok (.slice (some ⟨w.heap.size, 0, none⟩) n n) (w.alloc (.cells arr e)) ∧ SimL K cs arr.toList ∧ arr.size = n * ei.size := by
 obtain ⟨d, hd, hd2⟩ := hT.und ht
 simp only [TD.fits] at hd2; subst hd2
 obtain ⟨z, hz1, hz2, _⟩ := hT.zero hei w
 have hzs : z.cells.size = ei.size := by rw [← (hT e ei hei).len, ← hz2, Array.length_toList]
 have hlim : ¬ (n * ei.size > 2 ^ 24) := by omega
 by_cases hn : n * ei.size = 0
 ·have hn0 : n = 0 := (Nat.mul_eq_zero.1 hn).resolve_right (by omega)
  subst hn0
  have hz0 : zeros 0 ei.zero = [] := rfl
  rw [hz0] at hf
  obtain ⟨arr, h1, h2⟩ := afill_sim (arr := #[]) hx (by simp [SimL]) hf
  refine ⟨arr, ?_, h2, ?_⟩
  ·have hz : Array.map (fun _ => (default : Value)) (Array.range 0) = #[] := by apply Array.ext'; simp
   simp [Instr.buildSlice, hd, hT.size hei, newRow, hz, h1]
  ·have := SimL_length h2
   have hl := afill_length hf
   simp at hl; rw [hl] at this; simp at this ⊢; exact Array.eq_empty_of_size_eq_zero this.symm
 ·have hsim : SimL K (zeros n ei.zero) ((Array.range (n * ei.size)).map (z.cells[· % z.cells.size]!)).toList := by
   have := zeros_sim (K := K) z.cells n (.inl (by rw [hzs]; exact hn))
   rw [hz2, hzs] at this
   rw [hzs]; exact this
  obtain ⟨arr, h1, h2⟩ := afill_sim hx hsim hf
  refine ⟨arr, ?_, h2, ?_⟩
  ·simp only [Instr.buildSlice, Sem.run_bind, hd, Result.andThen_ok, hT.size hei, if_neg hlim, hn, if_false, hz1, Sem.run_pure, h1]
   rfl
  ·have := SimL_length h2
   have hl := afill_length hf
   have hl2 := SimL_length hsim
   rw [hl, hl2] at this
   simp at this ⊢; omega
def Kn.unpend (K : Kn) (n : Name) : Kn := { K with pend := fun m => K.pend m ∧ m ≠ n }
theorem Kn.unpend_le {K : Kn} {n : Name} {D : Nat} (h : D ≤ n.1) : Kle D K (K.unpend n) where
 low := rfl
 fixed _ _ h := h
 ent := rfl
 dmax := Nat.le_refl _
 base _ _ h := h
 tip _ t h := ⟨t, h, .inl rfl⟩
 known _ _ _ _ h := h
 shrink _ _ h := h.1
 keep m hm hp := ⟨hp, by rintro rfl; omega⟩
theorem Sat.openBuf {K : Kn} {S : AHeap} {w : World} (hs : Sat K S w) {n : Name} (hn : K.pend n) (hd : n.1 < K.dmax) {D : Nat} (hD : D ≤ n.1) {sz : Nat} (hsz : 0 < sz) (pm : Bool) (ad : Option Addr) :
  Kle D K (K.unpend n) ∧ Sat (K.unpend n) (S.set n (.buf 0)) w ∧ SimV (K.unpend n) (.slice (Own.at pm n 0) sz []) (.slice ad 0 0) := by
 have hk : Kle D K (K.unpend n) := Kn.unpend_le hD
 obtain ⟨hb, ht⟩ := hs.pend n hn
 refine ⟨hk, hs.turn hk rfl (fun _ _ h _ => h) (Nat.le_refl _) ?_ (fun _ _ _ _ _ h => h) (fun _ _ _ h => h) (fun _ _ => rfl) (fun _ _ => rfl) (fun _ h => h.1) (fun h => h.2 rfl) rfl hd (fun ⟨b, o, v, h⟩ => hs.tk n b o v h) hs.low (fun _ h => by cases h), ?_⟩
 ·intro owner o1 o2 o3 o4
  refine ⟨owner, fun _ _ _ h _ => h, fun _ _ _ h => .inl h, fun b o v h => ⟨o2 b o v h, hs.perm b o v h⟩, fun _ _ _ _ => ⟨rfl, rfl⟩, fun _ _ _ => rfl, fun b o v h _ => absurd ht (hs.tk n b o v h), ?_⟩
  simp only [ObjOk, Kn.unpend]
  intro t h; rw [ht] at h; cases h
 ·simp only [SimV]
  exact ⟨ad, 0, 0, rfl, by simp, Nat.le_refl _, hsz, .inl ⟨trivial, NilOk_at.2 ⟨rfl, hd, fun h => h.2 rfl⟩⟩⟩
theorem alive_set {S : AHeap} {own : Own} {n : Name} {o : AObj} (h : own.alive S) (hn : S n = none) : own.alive (S.set n o) := by
 cases own with
 | perm => trivial
 | tip m e => trivial
 | young => trivial
 | buf m e =>
  obtain ⟨len, hl⟩ := h
  refine ⟨len, ?_⟩
  simp only [AHeap.set]
  rw [if_neg (by rintro rfl; rw [hn] at hl; cases hl)]; exact hl
 | cut m e k =>
  obtain ⟨len, hl⟩ := h
  refine ⟨len, ?_⟩
  simp only [AHeap.set]
  rw [if_neg (by rintro rfl; rw [hn] at hl; cases hl)]; exact hl
def Kn.withPerm (K : Kn) (b : Nat) (vs : List Value) : Kn := { K with known := fun b' i tg v => K.known b' i tg v ∨ (b' = b ∧ tg = .perm ∧ vs[i]? = some v) ∨ (b' = b ∧ tg = .young) }
theorem Sat.newPerm {K : Kn} {S : AHeap} {w : World} (hs : Sat K S w) {cs : List AV} {vs : Array Value} {t : TypeId} (hv : SimL K cs vs.toList) (D : Nat) :
  Kle D K (K.withPerm w.heap.size vs.toList) ∧ Sat (K.withPerm w.heap.size vs.toList) S (w.alloc (.cells vs t)) ∧ SimC (K.withPerm w.heap.size vs.toList) .perm w.heap.size 0 cs := by
 have hk : Kle D K (K.withPerm w.heap.size vs.toList) := ⟨⟨rfl, Nat.le_refl _, fun _ _ h => h, fun _ t h => ⟨t, h, .inl rfl⟩, fun _ _ _ _ h => .inl h, fun _ _ h => h, fun _ _ h => h⟩, fun _ _ h => h, rfl⟩
 have hcell : ∀ b o, b < w.heap.size → (w.alloc (.cells vs t)).cell? ⟨b, o, none⟩ = w.cell? ⟨b, o, none⟩ ∧ (w.alloc (.cells vs t)).frozen? ⟨b, o, none⟩ = w.frozen? ⟨b, o, none⟩ := fun b o h => cell_heap (heap_alloc_old w _ h) o
 have hsz : (w.alloc (.cells vs t)).heap.size = w.heap.size + 1 := size_alloc w _
 obtain ⟨owner, o1, o2, o3, o4, o5⟩ := hs.objs
 have hno : ∀ o, owner w.heap.size o = none := by
  intro o
  cases h : owner w.heap.size o with
  | none => rfl
  | some m => have := (o1 _ _ _ h).2; omega
 refine ⟨hk, ⟨?_, ⟨owner, fun b o n h => ⟨(o1 b o n h).1, by rw [hsz]; have := (o1 b o n h).2; omega⟩, ?_, ?_, ?_, ?_⟩, hs.fresh, hs.pend, ?_, by rw [hsz]; have := hs.low; simp only [Kn.withPerm]; omega, hs.based, fun b o h => ⟨fx_alloc b o (hs.fixd b o h).1 (hs.fixd b o h).2, (hs.fixd b o h).2⟩⟩, ?_⟩
 ·rintro b o v (h | ⟨rfl, _, h⟩ | ⟨_, h⟩)
  ·have hc := hs.perm b o v h
   rw [(hcell b o (cell_lt hc)).1]; exact hc
  ·rw [World.cell_new]; simpa using h
  ·cases h
 ·rintro b o v (h | ⟨rfl, _, h⟩ | ⟨_, h⟩)
  ·exact o2 b o v h
  ·exact hno o
  ·cases h
 ·rintro b o n v (h | ⟨_, h, _⟩ | ⟨_, h⟩) hb
  ·obtain ⟨h1, h2, h3⟩ := o3 b o n v h hb
   have hlt := cell_lt h2
   exact ⟨h1, by rw [(hcell b o hlt).1]; exact h2, by rw [(hcell b o hlt).2]; exact h3⟩
  ·cases h
  ·cases h
 ·intro n obj hn
  have ho := o4 n obj hn
  cases obj with
  | box cs =>
   simp only [ObjOk] at ho ⊢
   intro b f hb i c hc
   obtain ⟨h1, u, h2, h3, h4, h5⟩ := ho b f hb i c hc
   have hlt := cell_lt h2
   exact ⟨h1, u, by rw [(hcell b _ hlt).1]; exact h2, by rw [(hcell b _ hlt).2]; exact h3, h4.mono hk, h5.turn hk fun b o hb => ⟨hb, hcell b o (o1 b o _ hb).2⟩⟩
  | buf len =>
   simp only [ObjOk] at ho ⊢
   intro tp ht
   obtain ⟨h1, h2, h3⟩ := ho tp ht
   refine ⟨h1, h2, fun i hi1 hi2 => ?_⟩
   obtain ⟨g1, ⟨u, g2⟩, g3, g4⟩ := h3 i hi1 hi2
   have hlt := cell_lt g2
   refine ⟨g1, ⟨u, by rw [(hcell _ _ hlt).1]; exact g2⟩, by rw [(hcell _ _ hlt).2]; exact g3, ?_⟩
   rintro v (h | ⟨_, h, _⟩ | ⟨_, h⟩)
   ·exact g4 v h
   ·cases h
   ·cases h
  | map es =>
   simp only [ObjOk] at ho ⊢
   obtain ⟨b, f, hb, h1, ents, clock, h2, h3, h4⟩ := ho
   have hlt : b < w.heap.size := (o1 b 0 _ (h1 0)).2
   refine ⟨b, f, hk.base _ _ hb, h1, ents, clock, by rw [heap_alloc_old w _ hlt]; exact h2, fun e he => ?_, h4⟩
   obtain ⟨x, h5, h6⟩ := h3 e he
   exact ⟨x, h5, h6.mono hk⟩
 ·rintro b o v (h | ⟨_, h, _⟩ | ⟨rfl, _⟩)
  ·obtain ⟨q1, q2, q3⟩ := o5 b o v h
   exact ⟨q1, by omega, q3⟩
  ·cases h
  ·exact ⟨hs.low, by omega, hno⟩
 ·rintro n b o v (h | ⟨_, h, _⟩ | ⟨_, h⟩)
  ·exact hs.tk n b o v h
  ·cases h
  ·cases h
 ·refine SimC_of fun i c hc => ?_
  obtain ⟨v, h1, h2⟩ := SimL_get hv i c hc
  exact ⟨v, .inr (.inl ⟨rfl, rfl, by rwa [Nat.zero_add]⟩), h2.mono hk⟩
theorem World.mark_other {w : World} {b n : Nat} {a : Addr} (h : a.block ≠ b) : (w.freeze ⟨b, n, none⟩ 1).cell? a = w.cell? a ∧ (w.freeze ⟨b, n, none⟩ 1).frozen? a = w.frozen? a := by
 have hh : (w.freeze ⟨b, n, none⟩ 1).heap[a.block]? = w.heap[a.block]? := by
  simp [World.freeze, Array.getElem?_modify, Ne.symm h]
 exact ⟨World.cell?_of_block hh, World.frozen?_of_block hh⟩
theorem World.mark_heap {w : World} {b n k : Nat} (h : k ≠ b) : (w.freeze ⟨b, n, none⟩ 1).heap[k]? = w.heap[k]? := by
 simp [World.freeze, Array.getElem?_modify, Ne.symm h]
theorem World.mark_size {w : World} {b n : Nat} : (w.freeze ⟨b, n, none⟩ 1).heap.size = w.heap.size := by
 simp [World.freeze]
theorem World.mark_cell {w : World} {b n : Nat} {a : Addr} : (w.freeze ⟨b, n, none⟩ 1).cell? a = w.cell? a := by
 by_cases h : a.block = b
 ·subst h
  simp only [World.cell?, World.freeze, Nat.one_ne_zero, if_false, Array.getElem?_modify, if_true]
  cases w.heap[a.block]? with
  | none => rfl
  | some o => cases o <;> rfl
 ·exact (World.mark_other h).1
theorem fx_freeze {w : World} {a : Addr} {n b : Nat} {o : Obj} (h : w.heap[b]? = some o) (hn : noCells o = true) : (w.freeze a n).heap[b]? = some o := by
 unfold World.freeze
 split
 ·exact h
 ·by_cases e : b = a.block
  ·subst e
   simp only [Array.getElem?_modify, if_true, h, Option.map_some]
   cases o <;> first | rfl | (simp [noCells] at hn)
  ·simp only [Array.getElem?_modify, if_neg (Ne.symm e)]; exact h
theorem Sat.mark {K : Kn} {S : AHeap} {w : World} (hs : Sat K S w) {b q n : Nat} {v : Value} (hy : K.known b q .young v) : Sat K S (w.freeze ⟨b, n, none⟩ 1) ∧ Below K.low w (w.freeze ⟨b, n, none⟩ 1) := by
 obtain ⟨owner, o1, o2, o3, o4, o5⟩ := hs.objs
 obtain ⟨y1, y2, y3⟩ := o5 b q v hy
 have ho : ∀ b' o p, owner b' o = some p → b' ≠ b := by rintro b' o p h rfl; rw [y3] at h; cases h
 have hw : ∀ b' o p, owner b' o = some p → owner b' o = some p ∧ (w.freeze ⟨b, n, none⟩ 1).cell? ⟨b', o, none⟩ = w.cell? ⟨b', o, none⟩ ∧ (w.freeze ⟨b, n, none⟩ 1).frozen? ⟨b', o, none⟩ = w.frozen? ⟨b', o, none⟩ :=
  fun b' o p h => ⟨h, World.mark_other (a := ⟨b', o, none⟩) (ho b' o p h)⟩
 refine ⟨⟨fun b' o v h => by rw [World.mark_cell]; exact hs.perm b' o v h, ⟨owner, by rw [World.mark_size]; exact o1, o2, ?_, ?_, by rw [World.mark_size]; exact o5⟩, hs.fresh, hs.pend, hs.tk, by rw [World.mark_size]; exact hs.low, hs.based, fun b' o h => ⟨fx_freeze (hs.fixd b' o h).1 (hs.fixd b' o h).2, (hs.fixd b' o h).2⟩⟩,
  ⟨rfl, rfl, rfl, by rw [World.mark_size]; exact Nat.le_refl _, fun k hk => World.mark_heap (by omega)⟩⟩
 ·intro b' o m v h hb
  obtain ⟨g1, g2, g3⟩ := o3 b' o m v h hb
  obtain ⟨_, q1, q2⟩ := hw _ _ _ g1
  exact ⟨g1, by rw [q1]; exact g2, by rw [q2]; exact g3⟩
 ·intro m obj hm
  have h := o4 m obj hm
  cases obj with
  | box cs =>
   simp only [ObjOk] at h ⊢
   intro b' f hb i c hc
   obtain ⟨h1, u, h2, h3, h4, h5⟩ := h b' f hb i c hc
   obtain ⟨_, q1, q2⟩ := hw _ _ _ h1
   exact ⟨h1, u, by rw [q1]; exact h2, by rw [q2]; exact h3, h4, h5.turn (Kle.refl 0 K) fun b o hb => hw b o _ hb⟩
  | buf len =>
   simp only [ObjOk] at h ⊢
   intro t ht
   obtain ⟨h1, h2, h3⟩ := h t ht
   refine ⟨h1, h2, fun i hi1 hi2 => ?_⟩
   obtain ⟨g1, ⟨u, g2⟩, g3, g4⟩ := h3 i hi1 hi2
   obtain ⟨_, q1, q2⟩ := hw _ _ _ g1
   exact ⟨g1, ⟨u, by rw [q1]; exact g2⟩, by rw [q2]; exact g3, g4⟩
  | map es =>
   simp only [ObjOk] at h ⊢
   obtain ⟨b', f, hb, h1, ents, clock, h2, h3⟩ := h
   exact ⟨b', f, hb, h1, ents, clock, by rw [World.mark_heap (ho _ _ _ (h1 0))]; exact h2, h3⟩
theorem nums_sim {K : Kn} : ∀ {cs : List AV} {ns : List Int} {vs : List Value}, nums cs = some ns → SimL K cs vs → vs = ns.map (Value.int .u8)
 | [], _, [], h, _ => by simp only [nums, Option.some.injEq] at h; subst h; rfl
 | c :: cs, ns, v :: vs, h, hs => by
  simp only [nums] at h
  split at h <;> try (cases h; done)
  rename_i n ns' h1 h2
  cases h
  simp only [SimL] at hs
  have h3 := nums_sim h2 hs.2
  have h4 := hs.1
  unfold AV.num at h1
  split at h1
  ·cases h1
   simp only [SimV] at h4
   rw [h3, h4]; rfl
  ·cases h1
 | [], _, _ :: _, _, hs => by simp [SimL] at hs
 | _ :: _, _, [], _, hs => by simp [SimL] at hs
theorem qconv_sound {P : Program} {T : Tab} (hT : TOk P T) {d : Nat} {K : Kn} {S : AHeap} {w : World} {c : Nat} (hs : Sat K S w) (hfr : Fresh K S d c) {s t : TypeId} {x r : AV} {v : Value} {p : Prop}
  (h : qconv T s t x = some (p, r)) (hp : p) (hx : SimV K x v) : ∃ u w', (convert s t v).run P w = .ok u w' ∧ SimV K r u ∧ Step d K S w K S w' := by
 unfold qconv at h
 split at h
 ·-- to its own type
  rename_i e s1 s2 s3 sz cs hi
  split at h <;> try (cases h; done)
  rename_i q1 q2 q3 hei
  cases h
  obtain ⟨rfl, hne⟩ := hp
  obtain ⟨dd, hd, hd2⟩ := (hT _ _ hi).und
  simp only [TD.fits] at hd2; subst hd2
  obtain ⟨de, he, he2⟩ := (hT _ _ hei).und
  simp only [TD.fits] at he2; subst he2
  have hx' := hx
  simp only [SimV] at hx
  obtain ⟨a, len, cap, rfl, h1, h2, h3, h4⟩ := hx
  rcases h4 with ⟨h0, _⟩ | ⟨b, o, rfl, h5, q, y, hy⟩
  ·exact absurd h0 hne
  ·cases hsh : w.shape? b with
   | none =>
    refine ⟨_, w, ?_, hx', Step.refl d hs⟩
    simp [convert, run_underlying hd, run_underlying he, markStringish, hsh]
   | some z =>
    obtain ⟨z1, z2⟩ := z
    obtain ⟨g1, g2⟩ := hs.mark (n := z2) hy
    refine ⟨_, w.freeze ⟨b, z2, none⟩ 1, ?_, hx', Kle.refl _ _, g1, g2, fun _ _ h => h⟩
    simp [convert, run_underlying hd, run_underlying he, markStringish, hsh]
 ·-- to a string
  rename_i s1 s2 s3 own sz cs hi
  split at h <;> try (cases h; done)
  rename_i e q1 q2 q3 hsi
  split at h <;> try (cases h; done)
  rename_i r1 r2 r3 ns hei hns
  cases h
  obtain ⟨rfl, htag⟩ := hp
  obtain ⟨dd, hd, hd2⟩ := (hT _ _ hi).und
  simp only [TD.fits] at hd2; subst hd2
  obtain ⟨ds, hsd, hs2⟩ := (hT _ _ hsi).und
  simp only [TD.fits] at hs2; subst hs2
  obtain ⟨de, he, he2⟩ := (hT _ _ hei).und
  simp only [TD.fits] at he2; subst he2
  simp only [SimV] at hx
  obtain ⟨a, len, cap, rfl, h1, h2, h3, h4⟩ := hx
  refine ⟨.string (strOfNums ns), w, ?_, by simp only [SimV], Step.refl d hs⟩
  rcases h4 with ⟨rfl, _⟩ | ⟨b, o, rfl, h5, _⟩
  ·have hl0 : len = 0 := by simpa using h1
   subst hl0
   simp only [nums, Option.some.injEq] at hns; subst hns
   cases a with
   | none => rw [run_convert_bytes_nil w s e hsd he 0 cap t hd]; rfl
   | some a =>
    rw [run_convert_bytes_string w s t e (some a) 0 cap hsd he hd, run_bytesToString w a 0 cap [] (by simpa using run_loadCells_list (P := P) w a [] (by simp))]
    rfl
  ·rw [htag] at h5
   have hl : Lies K w b o cs := fun i c hc => by
    obtain ⟨u, k1, k2⟩ := SimC_get h5 i c hc
    exact ⟨u, hs.perm _ _ _ k1, k2⟩
   obtain ⟨vs, v1, v2⟩ := hl.values
   have hv := nums_sim hns v1
   have hlen := SimL_length v1
   have hnl : ns.length = len := by rw [hv] at hlen; simp at hlen h1; omega
   exact run_convert_bytes_arg w s e hsd he b o len cap ns hnl (fun i hi => by
    have := v2 i (.int .u8 (ns.getD i 0)) (by rw [hv]; simp [List.getD, show i < ns.length by omega])
    exact this) t hd
 ·obtain ⟨u, h1, h2⟩ := aconvert_sound (P := P) hT (w := w) h hx
  exact ⟨u, w, h1, h2, Step.refl d hs⟩
theorem asrc_set {S : AHeap} {sz : Nat} {x : AV} {p : Prop} {ys : List AV} {n : Name} {o : AObj} (h : asrc S sz x = some (p, ys)) (hp : p) (hn : S n = none) : ∃ p', asrc (S.set n o) sz x = some (p', ys) ∧ p' := by
 unfold asrc at h ⊢
 split at h <;> try (cases h; done)
 ·cases h
  refine ⟨_, rfl, ?_, hp.2⟩
  rename_i own sz'
  exact alive_set hp.1 hn
 ·cases h; exact ⟨_, rfl, trivial⟩
 ·cases h; exact ⟨_, rfl, trivial⟩
 ·cases h; exact ⟨_, rfl, trivial⟩
 ·cases h; exact ⟨_, rfl, hp⟩
 ·rename_i m sz' o' len cap
  split at h <;> try (cases h; done)
  rename_i ms hm
  cases h
  have : (S.set n o) m = some (.box ms) := by
   simp only [AHeap.set]
   rw [if_neg (by rintro rfl; rw [hn] at hm; cases hm)]; exact hm
  simp only [this]
  exact ⟨_, rfl, hp⟩
theorem zeros_owns {n : Nat} {z : List Value} : ∀ c ∈ zeros n z, c.owns = false := by
 intro c hc
 simp only [zeros, List.mem_flatten, List.mem_replicate] at hc
 obtain ⟨l, ⟨_, rfl⟩, hc⟩ := hc
 obtain ⟨v, _, rfl⟩ := List.mem_map.1 hc
 rfl
theorem simV_ptr {K : Kn} {n : Name} {b : Nat} (h : K.base n = some (b, 0)) : SimV K (.ptr n 0) (.pointer (some ⟨b, 0, none⟩)) := by
 simp only [SimV]; exact ⟨b, 0, h, rfl⟩
theorem lopv_sound {P : Program} {T : Tab} (hT : TOk P T) {d : Nat} {K : Kn} {S : AHeap} {w : World} {c : Nat} {a : Act} {ρ : Operand → AV} (hs : Sat K S w) (hfr : Fresh K S d c)
  {o : Oper} (hρ : ∀ x, SimV K (ρ x) (a.eval x)) {k : AV → AHeap → Nat → Prop} {kp : AV → AHeap → Prop} (hl : lopv P T d o.op ρ S c k kp) {next : Act → World → Prop} {Q : Exit → Act → World → Prop}
  (hn : ∀ u w' v S' c' K', k v S' c' → SimV K' v u → Step d K S w K' S' w' → Fresh K' S' d c' → next (a.put o.dst u) w')
  (hp : ∀ x S' K' v w', SimV K' x v → kp x S' → Step d K S w K' S' w' → Q (.panic [{ v, recovered := false }]) a w') : o.wp P a w next Q := by
 obtain ⟨hpn, hSn⟩ := fresh_pend hfr
 have newbox' : ∀ {cs : List AV} {vs : Array Value} {t : TypeId} {x : AV} {u : Value}, SimL K cs vs.toList → (∀ c ∈ cs, c.owns = false) → SimV (K.withBox (d, c) w.heap.size 0) x u → k x (S.set (d, c) (.box cs)) (c + 1) →
   next (a.put o.dst u) (w.alloc (.cells vs t)) := by
  intro cs vs t x u hv ho hx hk
  obtain ⟨g1, g2⟩ := hs.newBox hpn (D := d) (Nat.le_refl _) (t := t) hv ho
  exact hn _ _ _ _ _ (K.withBox (d, c) w.heap.size 0) hk hx ⟨g1, g2, (Below.refl _ _).alloc hs.low _, set_names⟩ (hfr.next _ (Nat.le_refl _) (fun m hm hne => ⟨hm, hne⟩))
 have newbox : ∀ {cs : List AV} {vs : Array Value} {t : TypeId}, SimL K cs vs.toList → (∀ c ∈ cs, c.owns = false) → k (.ptr (d, c) 0) (S.set (d, c) (.box cs)) (c + 1) →
   next (a.put o.dst (.pointer (some ⟨w.heap.size, 0, none⟩))) (w.alloc (.cells vs t)) :=
  fun hv ho hk => newbox' hv ho (simV_ptr (by simp [Kn.withBox])) hk
 have newrow : ∀ {l : Nat} {ei : TI} {zc : Array Value} {e : TypeId}, 0 < ei.size → zc.toList = ei.zero → zc.size = ei.size → k (.sref (d, c) ei.size 0 l l) (S.set (d, c) (.box (zeros l ei.zero))) (c + 1) →
   next (a.put o.dst (.slice (some ⟨w.heap.size, 0, none⟩) l l)) (w.alloc (.cells (madeCells zc (l * ei.size)) e)) := by
  intro l ei zc e h0 hz hsz hk
  refine newbox' (cs := zeros l ei.zero) ?_ zeros_owns ?_ hk
  ·have := zeros_sim (K := K) zc l (by rw [hsz]; rcases Nat.eq_zero_or_pos l with h | h; · exact .inr (.inl h)
                                       · exact .inl (Nat.ne_of_gt (Nat.mul_pos h h0)))
   rw [hz, hsz] at this
   unfold madeCells
   rw [hsz]; exact this
  ·simp only [SimV, Kn.withBox]
   exact ⟨w.heap.size, 0, l, by simp, rfl, Nat.le_refl _, Nat.le_refl _, h0⟩
 have newbuf : ∀ {rest : List Value} {sz cap : Nat} {t : TypeId}, 0 < sz → cap * sz = rest.length → k (.slice (.tip (d, c) 0) sz []) (S.set (d, c) (.buf 0)) (c + 1) →
   next (a.put o.dst (.slice (some ⟨w.heap.size, 0, none⟩) 0 cap)) (w.alloc (.cells rest.toArray t)) := by
  intro rest sz cap t hsz hcs hk
  obtain ⟨hb0, ht0⟩ := hs.pend _ hpn
  obtain ⟨g1, g2⟩ := hs.newBuf (n := (d, c)) (tg := .perm) (.inl rfl) (D := d) (fun _ => Nat.le_refl _) hfr.1 (e := 0) (.inr ht0) (fun t' ht' => by rw [ht0] at ht'; cases ht') (rest := rest) (ty := t) (cs := []) (vs := []) (by simp [SimL])
  refine hn _ _ _ _ _ _ hk ?_ ⟨g1, g2, (Below.refl _ _).alloc hs.low _, set_names⟩ (hfr.next _ (Nat.le_refl _) (fun m hm hne => ⟨hm, hne⟩))
  simp only [SimV]
  refine ⟨_, 0, cap, rfl, by simp, Nat.zero_le _, hsz, .inr ⟨_, 0, rfl, by simp [SimC], Nat.le_refl _, _, Kn.withBuf_tip, Nat.le_refl _, fun _ => ⟨rfl, by simp, ?_⟩⟩⟩
  simp only [List.length_nil, Nat.zero_add]; exact hcs
 obtain ⟨dst, op, type, pos, after, guard⟩ := o
 simp only at newbox newbuf newrow hl hn
 clear newbox'
 unfold lopv at hl
 split at hl
 ·-- box
  rename_i t x
  obtain ⟨hl1, hl2⟩ := hl
  obtain ⟨hc1, hc2⟩ := AV.laid_cells (hρ x) hl1
  exact wp_value (u := .pointer (some ⟨w.heap.size, 0, none⟩)) (w' := w.alloc (.cells (a.eval x).cells t)) rfl (newbox hc1 (fun c hc => AV.owns_one (hc2 c hc)) hl2)
 ·-- alloc
  rename_i t
  split at hl <;> try exact hl.elim
  rename_i i hi
  obtain ⟨z, hz1, hz2, _⟩ := hT.zero hi w
  refine wp_value (u := .pointer (some ⟨w.heap.size, 0, none⟩)) (w' := w.alloc (.cells z.cells t)) ?_ (newbox (by rw [hz2]; exact SimL_lit _) (fun c hc => by obtain ⟨v, _, rfl⟩ := List.mem_map.1 hc; rfl) hl)
  simp only [execOp, Instr.alloc, Sem.run_bind, hz1, Result.andThen_ok]
  rfl
 ·-- buildSlice
  rename_i t n parts
  split at hl <;> try exact hl.elim
  rename_i e s1 s2 s3 hi
  split at hl <;> try exact hl.elim
  rename_i ei hei
  split at hl <;> try exact hl.elim
  rename_i cs hf
  obtain ⟨g0, g1, g2⟩ := hl
  obtain ⟨arr, q1, q2, q3⟩ := run_buildSlice (w := w) (vs := parts.map fun q => (q.1, a.eval q.2)) hT hi hei hf (by simpa using SimP_map hρ parts.toList) g0 g1
  have hcl := SimL_length q2
  obtain ⟨k1, k2, k3⟩ := hs.newPerm (t := e) q2 d
  refine wp_value (u := .slice (some ⟨w.heap.size, 0, none⟩) n n) (w' := w.alloc (.cells arr e)) ?_ (hn _ _ _ _ _ _ g2 ?_ ⟨k1, k2, (Below.refl _ _).alloc hs.low _, fun _ _ h => h⟩ ⟨hfr.1, hfr.2⟩)
  ·simp only [execOp, Sem.run_bind, q1, Result.andThen_ok, Sem.run_pure]
  ·split
   ·rename_i h0; subst h0; simp only [SimV]; exact ⟨_, rfl⟩
   ·simp only [SimV]
    exact ⟨_, n, n, rfl, by rw [hcl, Array.length_toList, q3], Nat.le_refl _, g0, .inr ⟨_, 0, rfl, k3, 0, undef, .inr (.inr ⟨rfl, rfl⟩)⟩⟩
 ·-- store
  rename_i t ad x
  split at hl <;> try exact hl.elim
  rename_i n off i had hi
  split at hl <;> try exact hl.elim
  rename_i cs hcs
  obtain ⟨g1, g2, g3, g4⟩ := hl
  have hq := hρ ad
  rw [had] at hq
  simp only [SimV] at hq
  obtain ⟨b, f, hb, hpe⟩ := hq
  obtain ⟨q1, q2⟩ := AV.laid_cells (hρ x) g1
  have hql := SimL_length q1
  have hs' := hs.store hcs hb g3 q1 (fun c hc => AV.owns_one (q2 c hc))
  obtain ⟨owner, o1, _, _, o4, _⟩ := hs.objs
  have hcells := o4 n _ hcs b f hb
  have hrun : (Instr.storeAt t (a.eval ad) (a.eval x)).run P w = .ok () (w.setCells b (f + off) (a.eval x).cells.toList) := by
   have hst := run_storeCells_cells (P := P) b (f + off) (a.eval x).cells.toList 0 w
    (fun j hj => by
     obtain ⟨_, u, hu, _⟩ := hcells (off + j) cs[off + j] (by simp)
     rw [show f + off + 0 + j = f + (off + j) from by omega, hu]; rfl)
    (fun j hj => by
     obtain ⟨_, u, _, hu, _⟩ := hcells (off + j) (cs[off + j]'(by omega)) (by simp)
     rw [show f + off + 0 + j = f + (off + j) from by omega, hu])
    (Lies.one (w := w) q1 q2)
   simp only [Nat.add_zero] at hst
   have hsz : ¬ ((a.eval x).cells.size ≠ i.size) := by
    have : (a.eval x).cells.size = i.size := by rw [← g2, hql, Array.length_toList]
    omega
   simp only [Instr.storeAt, hpe, Instr.sureAddr, storeVar, Sem.run_bind, Sem.run_pure, Result.andThen_ok, hT.size hi, if_neg hsz, hst]
  unfold Oper.wp
  have hex : (execOp a.eval (⟨dst, .store t ad x, type, pos, after, guard⟩ : Oper)).run P w = .ok .skip (w.setCells b (f + off) (a.eval x).cells.toList) := by
   simp only [execOp, Sem.run_bind, hrun, Result.andThen_ok, Sem.run_pure]
  rw [hex]
  simp only [Oper.upon]
  refine hn _ _ _ _ _ K g4 (by simp only [SimV]) ⟨Kle.refl _ _, hs', ?_, fun n _ => set_names' hcs n⟩ (hfr.set hcs)
  by_cases hvs : (a.eval x).cells.toList = []
  ·rw [hvs]; exact Below.refl _ _
  ·have hpos := List.length_pos_iff.2 hvs
   obtain ⟨h2, _⟩ := hcells off (cs[off]'(by omega)) (by simp)
   exact below_setCells b _ _ (Below.refl _ _) (o1 _ _ _ h2).1
 ·-- panic
  rename_i x
  split at hl <;> try exact hl.elim
  rename_i t v hx
  have hq := hρ x
  rw [hx] at hq
  have hq' := hq
  simp only [SimV] at hq
  obtain ⟨u, hu, hv⟩ := hq
  unfold Oper.wp
  have hex : (execOp a.eval (⟨dst, .panic x, type, pos, after, guard⟩ : Oper)).run P w = .halt (.panic (.iface t u)) w := by
   simp only [execOp, hu, Instr.panic, Sem.run_bind, run_goPanic, Result.andThen_halt]
  rw [hex]
  simp only [Oper.upon]
  exact hp _ S K _ _ (by rw [← hu]; exact hq') hl (Step.refl d hs)
 ·-- a new slice, of a length that is written out
  rename_i t kz z cp
  split at hl <;> try exact hl.elim
  rename_i e s1 s2 s3 km m hi hcp
  split at hl <;> try exact hl.elim
  rename_i ei hei
  have hq := hρ cp
  rw [hcp] at hq
  simp only [SimV] at hq
  obtain ⟨dd, hd, hd2⟩ := (hT t _ hi).und
  simp only [TD.fits] at hd2; subst hd2
  obtain ⟨xi, hx1, hx2, hx3, zv, hz1, hz2, _⟩ := (hT e _ hei).info
  have hzs : zv.cells.size = ei.size := by rw [← (hT e _ hei).len, ← hz2, Array.length_toList]
  have hrun : ∀ {l : Int}, 0 ≤ l → l ≤ m → m * ei.bytes ≤ 2 ^ 47 → m < 2 ^ 62 → (execOp a.eval (⟨dst, .makeSlice t (.const (.int kz l)) cp, type, pos, after, guard⟩ : Oper)).run P w = .ok (.value (.slice (some ⟨w.heap.size, 0, none⟩) l.toNat m.toNat)) (w.alloc (.cells (madeCells zv.cells (m.toNat * ei.size)) e)) := by
   intro l h1 h2 h3 h4
   have := run_make (P := P) w t e xi zv hd hx1 hz1 kz km l m h1 h2 (by rw [hx3, Int.mul_comm]; omega) (by omega)
   rw [hx2] at this
   have hc : a.eval (.const (.int kz l)) = .int kz l := rfl
   simp only [execOp, hc, hq, Sem.run_bind, this, Result.andThen_ok, Sem.run_pure]
  split at hl
  ·rename_i hz0
   subst hz0
   obtain ⟨g0, g1, g2, g3, g4⟩ := hl
   refine wp_value (hrun (Int.le_refl 0) g1 g2 g3) ?_
   have := newbuf (rest := (madeCells zv.cells (m.toNat * ei.size)).toList) (t := e) (cap := m.toNat) g0 (by rw [Array.length_toList, size_madeCells]) g4
   simpa using this
  ·obtain ⟨g0, g1, rfl, g2, g3, g4⟩ := hl
   exact wp_value (hrun g1 (Int.le_refl _) g2 g3) (newrow g0 hz2 hzs g4)
 ·-- a new slice
  rename_i t ln cp _
  split at hl <;> try exact hl.elim
  rename_i e s1 s2 s3 kl l km m hi hln hcp
  split at hl <;> try exact hl.elim
  rename_i ei hei
  have hq := hρ cp
  rw [hcp] at hq
  have hq2 := hρ ln
  rw [hln] at hq2
  simp only [SimV] at hq hq2
  obtain ⟨dd, hd, hd2⟩ := (hT t _ hi).und
  simp only [TD.fits] at hd2; subst hd2
  obtain ⟨xi, hx1, hx2, hx3, zv, hz1, hz2, _⟩ := (hT e _ hei).info
  have hzs : zv.cells.size = ei.size := by rw [← (hT e _ hei).len, ← hz2, Array.length_toList]
  obtain ⟨g0, g1, rfl, g2, g3, g4⟩ := hl
  refine wp_value ?_ (newrow (e := e) g0 hz2 hzs g4)
  have := run_make (P := P) w t e xi zv hd hx1 hz1 kl km l l g1 (Int.le_refl _) (by rw [hx3, Int.mul_comm]; omega) (by omega)
  rw [hx2] at this
  simp only [execOp, hq, hq2, Sem.run_bind, this, Result.andThen_ok, Sem.run_pure]
 ·-- a call
  rename_i f args ts
  split at hl <;> try exact hl.elim
  rename_i g first cap hf
  have hq := hρ f
  rw [hf] at hq
  simp only [SimV] at hq
  obtain ⟨v1, v2, hfe, hp1, hp2⟩ := hq
  obtain ⟨as', S1, c1, hgh, hl⟩ := hl
  unfold Oper.wp
  have hex : (execOp a.eval (⟨dst, .call ⟨.value f, args, ts⟩, type, pos, after, guard⟩ : Oper)).run P w = .ok (.enter g (v1 ++ args.map a.eval ++ v2)) w := by
   simp only [execOp, resolve, hfe, Deferred.ofValue, Sem.run_bind, Sem.run_pure, Result.andThen_ok, invoke, run_callFunc hl.1]
  rw [hex]
  simp only [Oper.upon]
  have hargs : SimL K (first ++ args.toList.map ρ ++ cap) (v1 ++ args.map a.eval ++ v2).toList := by
   rw [Array.toList_append, Array.toList_append, Array.toList_map]
   exact SimL_append (SimL_append hp1 (SimL_map hρ _)) hp2
  obtain ⟨K1, hst1, hargs1, hfr1⟩ := hgh K w _ hs hargs hfr
  refine (hl.2 K1 w _ hst1.sat hargs1).mono ?_
  rintro e w' ⟨r, S', K', g1, g2, g3⟩
  have hstep : Step d K S w K' S' w' := hst1.trans (g3.mono (Nat.le_of_lt hfr1.1))
  have hfr' : Fresh K' S' d c1 := ⟨Nat.lt_of_lt_of_le hfr1.1 g3.le.dmax, fun i hi => ⟨g3.le.keep _ hfr1.1 (hfr1.2 i hi).1, g3.names _ hfr1.1 (hfr1.2 i hi).2⟩⟩
  have g2 := g2 fun n hn h0 => g3.names n (Nat.lt_of_le_of_lt hn hfr1.1) h0
  cases r with
  | ret v =>
   cases e with
   | returned u =>
    obtain ⟨v', S2, c2, hg2, hk2⟩ := g2
    obtain ⟨K2, hst2, hv2, hfr2⟩ := hg2 K' w' [u] g3.sat (by simp only [SimL, and_true]; exact g1) hfr'
    simp only [SimL, and_true] at hv2
    exact hn _ _ _ _ _ K2 hk2 hv2 (hstep.trans hst2) hfr2
   | panicked ch => exact g1.elim
   | outgrown => exact g1.elim
  | pan v =>
   cases e with
   | returned u => exact g1.elim
   | panicked ch =>
    obtain ⟨u, rfl, hu⟩ := g1
    exact hp v S' K' u _ hu g2 hstep
   | outgrown => exact g1.elim
 ·-- copy
  rename_i args ts
  split at hl <;> try exact hl.elim
  rename_i s x t tx hargs hts
  split at hl <;> try exact hl.elim
  rename_i e s1 s2 s3 tix ht htx
  split at hl <;> try exact hl.elim
  rename_i ei hei
  obtain ⟨hk, hl⟩ := hl
  have hk' : (∃ e, tix.d = .slice e) ∨ tix.d = .string := hk.imp (fun h => ⟨_, h⟩) id
  have hargs' : args = #[s, x] := by apply Array.ext'; exact hargs
  have hts' : ts = #[t, tx] := by apply Array.ext'; exact hts
  subst hargs' hts'
  split at hl <;> try exact hl.elim
  rename_i n sz o len cap hsv
  split at hl <;> try exact hl.elim
  rename_i cs p ys hn2 hsrc
  obtain ⟨g1, g2, g3, g4, g5⟩ := hl
  have hq := hρ s
  rw [hsv] at hq
  obtain ⟨w', r1, r2, r3⟩ := copy_sound hT hs hn2 ht hei g1 htx hk' hsrc g2 g3 g4 hq (hρ x) (ty := type)
  have hm : (#[s, x] : Array Operand).map a.eval = #[a.eval s, a.eval x] := by simp
  refine wp_value (u := .int .i64 ((min (ys.length / sz) len : Nat) : Int)) (w' := w') ?_ (hn _ _ _ _ _ K g5 (by simp only [SimV]) ⟨Kle.refl _ _, r2, r3, fun m _ => set_names' hn2 m⟩ (hfr.set hn2))
  simp only [execOp, resolve, Sem.run_bind, Sem.run_pure, Result.andThen_ok, invoke, builtin, hm, r1]
 ·-- append
  rename_i args ts
  split at hl <;> try exact hl.elim
  rename_i s x t tx hargs hts
  split at hl <;> try exact hl.elim
  rename_i e s1 s2 s3 tix ht htx
  split at hl <;> try exact hl.elim
  rename_i ei hei
  have hargs' : args = #[s, x] := by apply Array.ext'; exact hargs
  have hts' : ts = #[t, tx] := by apply Array.ext'; exact hts
  subst hargs' hts'
  have hex : ∀ {u : Value} {w' : World}, (Builtin.append_ #[t, tx] type #[a.eval s, a.eval x]).run P w = .ok u w' →
    (execOp a.eval (⟨dst, .call ⟨.builtin .append, #[s, x], #[t, tx]⟩, type, pos, after, guard⟩ : Oper)).run P w = .ok (.value u) w' := by
   intro u w' hr
   have hm : (#[s, x] : Array Operand).map a.eval = #[a.eval s, a.eval x] := by simp
   simp only [execOp, resolve, Sem.run_bind, Sem.run_pure, Result.andThen_ok, invoke, builtin, hm, hr]
  rcases hl with ⟨hk, hl⟩ | ⟨hk, hl⟩
  ·unfold zapp at hl
   split at hl <;> try exact hl.elim
   rename_i q hsv hxv
   obtain ⟨g1, g2, g3, g4, g5⟩ := hl
   have e1 := hρ s
   have e2 := hρ x
   rw [hsv] at e1
   rw [hxv] at e2
   simp only [SimV] at e1 e2
   obtain ⟨u, w', K', r1, r2, r3, r4, r5, r6⟩ := zeros_sound hT hs hpn (Nat.le_refl _) hfr.1 ht hei htx hk g1 g2 g3 g4 (ty := type)
   rw [e1, e2] at hex
   refine wp_value (hex r1) ?_
   exact hn _ _ _ _ _ K' g5 r2 ⟨r3, r4, r5, set_names⟩ (hfr.next _ (Nat.le_of_eq r6.1.symm) r6.2)
  have hk' : (∃ e, tix.d = .slice e) ∨ tix.d = .string := hk.imp (fun h => ⟨_, h⟩) id
  have old : ∀ {pm : Bool} {n : Name} {l sz : Nat} {cs ys : List AV} {p : Prop}, ρ s = .slice (Own.at pm n l) sz cs → asrc S sz (ρ x) = some (p, ys) → S n = some (.buf l) → ei.size = sz → p → (∀ y ∈ ys, y.one = true) →
    ((cs.length + ys.length) / sz) * ei.bytes ≤ 2 ^ 47 → (cs.length + ys.length) / sz < 2 ^ 63 → k (.slice (Own.at pm n (l + ys.length)) sz (cs ++ ys)) (S.set n (.buf (l + ys.length))) c →
    (⟨dst, .call ⟨.builtin .append, #[s, x], #[t, tx]⟩, type, pos, after, guard⟩ : Oper).wp P a w next Q := by
   intro pm n l sz cs ys p hsv hsrc g1 g2 g3 g4 g5 g6 g7
   have hq := hρ s
   rw [hsv] at hq
   obtain ⟨u, w', K', r1, r2, r3, r4, r5⟩ := append_sound hT hs g1 ht hei g2 htx hk' hsrc g3 g4 g5 g6 hq (hρ x) (d + 1) (ty := type)
   refine wp_value (hex r1) ?_
   refine hn _ _ _ _ _ K' g7 r2 ⟨r3.mono (Nat.le_succ d), r4, r5, fun m _ => set_names' g1 m⟩ ?_
   have hfs := hfr.set (o' := .buf (l + ys.length)) g1
   exact ⟨Nat.lt_of_lt_of_le hfs.1 r3.dmax, fun i hi => ⟨r3.keep _ (Nat.lt_succ_self d) (hfs.2 i hi).1, (hfs.2 i hi).2⟩⟩
  have new : ∀ {pm : Bool} {ad : Option Addr} {ys : List AV} {p : Prop}, a.eval s = .slice ad 0 0 → asrc S ei.size (ρ x) = some (p, ys) → 0 < ei.size → p → (∀ y ∈ ys, y.one = true) →
    (ys.length / ei.size) * ei.bytes ≤ 2 ^ 47 → ys.length / ei.size < 2 ^ 63 → k (.slice (Own.at pm (d, c) ys.length) ei.size ys) (S.set (d, c) (.buf ys.length)) (c + 1) →
    (⟨dst, .call ⟨.builtin .append, #[s, x], #[t, tx]⟩, type, pos, after, guard⟩ : Oper).wp P a w next Q := by
   intro pm ad ys p hq hsrc g0 g3 g4 g5 g6 g7
   obtain ⟨k1, s1', v1⟩ := hs.openBuf hpn hfr.1 (D := d) (Nat.le_refl _) (sz := ei.size) g0 pm ad
   have hstep : Step d K S w (K.unpend (d, c)) (S.set (d, c) (.buf 0)) w := ⟨k1, s1', Below.refl _ _, set_names⟩
   have hf1 := hfr.next (K' := K.unpend (d, c)) (.buf 0) (Nat.le_refl _) (fun m hm hne => ⟨hm, hne⟩)
   have hS : (S.set (d, c) (.buf 0)) (d, c) = some (.buf 0) := by simp [AHeap.set]
   obtain ⟨p2, hsrc2, hp2⟩ := asrc_set hsrc g3 hSn
   obtain ⟨u, w', K', r1, r2, r3, r4, r5⟩ := append_sound hT s1' hS ht hei rfl htx hk' hsrc2 hp2 g4 (cs := []) (by simpa using g5) (by simpa using g6) v1 ((hρ x).mono k1) (d + 1) (ty := type)
   rw [hq] at hex
   refine wp_value (hex r1) ?_
   have hset : (S.set (d, c) (.buf 0)).set (d, c) (.buf (0 + ys.length)) = S.set (d, c) (.buf ys.length) := by
    funext m; simp only [AHeap.set, Nat.zero_add]; split <;> rfl
   rw [hset] at r4
   rw [Nat.zero_add, List.nil_append] at r2
   refine hn _ _ _ _ _ K' g7 r2 (hstep.trans ⟨r3.mono (Nat.le_succ d), r4, r5, fun m hm h0 => by
    have : m ≠ (d, c) := by rintro rfl; simp at hm
    simp only [AHeap.set, if_neg this] at h0 ⊢; exact h0⟩) ?_
   refine ⟨Nat.lt_of_lt_of_le hf1.1 r3.dmax, fun i hi => ⟨r3.keep _ (Nat.lt_succ_self d) (hf1.2 i hi).1, ?_⟩⟩
   have := (hf1.2 i hi).2
   simp only [AHeap.set] at this ⊢
   split at this
   ·cases this
   ·rename_i hne; rw [if_neg hne]; exact this
  split at hl <;> try exact hl.elim
  ·rename_i n l sz cs hsv
   split at hl <;> try exact hl.elim
   rename_i p ys hsrc
   obtain ⟨g1, g2, g3, g4, g5, g6, g7⟩ := hl
   exact old (pm := true) hsv hsrc g1 g2 g3 g4 g5 g6 g7
  ·rename_i hsv
   split at hl <;> try exact hl.elim
   rename_i p ys hsrc
   obtain ⟨g0, g3, g4, g5, g6, pm, g7⟩ := hl
   have hq := hρ s
   rw [hsv] at hq
   simp only [SimV] at hq
   obtain ⟨ad, hq⟩ := hq
   exact new (pm := pm) hq hsrc g0 g3 g4 g5 g6 g7
  ·rename_i n l sz cs hsv
   split at hl <;> try exact hl.elim
   rename_i p ys hsrc
   obtain ⟨g1, g2, g3, g4, g5, g6, g7⟩ := hl
   exact old (pm := false) hsv hsrc g1 g2 g3 g4 g5 g6 g7
  ·rename_i hsv
   split at hl <;> try exact hl.elim
   rename_i p ys hsrc
   obtain ⟨g0, g3, g4, g5, g6, g7⟩ := hl
   have hq := hρ s
   rw [hsv] at hq
   simp only [SimV] at hq
   exact new (pm := false) hq hsrc g0 g3 g4 g5 g6 g7
 ·-- a conversion
  rename_i s t x
  split at hl <;> try exact hl.elim
  rename_i p r hq
  obtain ⟨hp', hk⟩ := hl
  obtain ⟨u, w', g1, g2, g3⟩ := qconv_sound hT hs hfr hq hp' (hρ x)
  refine wp_value ?_ (hn _ _ _ _ _ K hk g2 g3 ⟨hfr.1, hfr.2⟩)
  simp only [execOp, Sem.run_bind, g1, Result.andThen_ok, Sem.run_pure]
 ·-- all else
  rename_i op' n1 n2 n3 n4 n5 n6 n7 n8 n9 n10
  split at hl <;> try exact hl.elim
  rename_i p r hop
  obtain ⟨hp', hk⟩ := hl
  obtain ⟨u, g1, g2⟩ := aop_sound hT hs hρ (o := ⟨dst, op, type, pos, after, guard⟩) hop hp'
  exact wp_value g1 (hn _ _ _ _ _ K hk g2 (Step.refl d hs) hfr)
theorem lop_sound {P : Program} {T : Tab} (hT : TOk P T) {N d : Nat} {K0 K : Kn} {S0 S : AHeap} {w0 w : World} {sl : Slots} {c : Nat} {a : Act} (h : Stt P N d K0 S0 w0 sl S c a w K)
  {o : Oper} {lo : LOp} (h1 : lo.dst = o.dst) (h2 : lo.op = o.op) (hd : ∀ i, o.dst = some i → i < N) {k : Slots → AHeap → Nat → Prop} {kp : AV → AHeap → Prop}
  (hl : lop P T d lo sl S c k kp) : o.wp P a w (OpPost P N d K0 S0 w0 k) (PanPost d K0 S0 w0 kp) := by
 unfold lop at hl
 rw [h1, h2] at hl
 refine lopv_sound hT h.step.sat h.fresh (fun x => h.sim.ev x) hl ?_ ?_
 ·intro u w' v S' c' K' hk hv hst hf
  exact ⟨_, _, _, K', hk, h.put hst hf hd hv⟩
 ·intro x S' K' v w' hx hk hst
  exact ⟨x, S', K', v, rfl, hx, hk, h.step.trans hst, h.defers.mono hst.le⟩
end Go.Al
