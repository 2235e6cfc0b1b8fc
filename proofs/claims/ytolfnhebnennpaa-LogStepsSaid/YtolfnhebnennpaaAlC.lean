import Derived.Test.YtolfnhebnennpaaAlB
set_option linter.unusedSimpArgs false
set_option linter.unusedVariables false
namespace Go.Al
open Go.RowKit
def aindexAddr (T : Tab) (t : TypeId) (x ix : AV) : Option (Prop × AV) :=
 match ix, T t with
 | .lit (.int _ i), some ⟨.slice e, _, _, _⟩ =>
  match T e, x with
  | some ei, .slice own sz cs => if sz = ei.size then some (0 ≤ i ∧ i.toNat * sz < cs.length, .rptr own ((cs.drop (i.toNat * sz)).take sz)) else none
  | some ei, .sref n sz o len _ => if sz = ei.size then some (0 ≤ i ∧ i.toNat < len, .ptr n (o + i.toNat * sz)) else none
  | _, _ => none
 | .lit (.int _ i), some ⟨.array m e, _, _, _⟩ =>
  match T e, x with
  | some ei, .ptr n o => some (0 ≤ i ∧ i.toNat < m, .ptr n (o + i.toNat * ei.size))
  | some ei, .rptr own cs => some (0 ≤ i ∧ i.toNat < m ∧ (i.toNat + 1) * ei.size ≤ cs.length, .rptr own ((cs.drop (i.toNat * ei.size)).take ei.size))
  | _, _ => none
 | _, _ => none
theorem aindexAddr_sound {P : Program} {T : Tab} (hT : TOk P T) {K : Kn} {w : World} {t : TypeId} {x ix r : AV} {v vi : Value} {p : Prop}
  (h : aindexAddr T t x ix = some (p, r)) (hp : p) (hx : SimV K x v) (hi : SimV K ix vi) : ∃ u, (Instr.indexAt t v vi).run P w = .ok u w ∧ SimV K r u := by
 unfold aindexAddr at h
 split at h <;> try (cases h; done)
 ·rename_i k i e s1 s2 s3 hti
  obtain ⟨d, h1, h2⟩ := hT.und hti
  simp only [TD.fits] at h2
  subst h2
  simp only [SimV] at hi
  subst hi
  split at h <;> try (cases h; done)
  ·rename_i ei own sz cs hei
   split at h <;> try (cases h; done)
   rename_i hsz
   cases h
   simp only [SimV] at hx
   obtain ⟨a, len, cap, rfl, h3, h4, h0, h5⟩ := hx
   obtain ⟨hp1, hp2⟩ := hp
   have hlen : i.toNat < len := by
    rw [← h3] at hp2
    exact Nat.lt_of_mul_lt_mul_right hp2
   rcases h5 with ⟨rfl, _⟩ | ⟨b, o, rfl, h6, h7⟩
   ·simp at hp2
   ·have hlen' : i < (len : Int) := by omega
    refine ⟨.pointer (some ⟨b, o + i.toNat * ei.size, none⟩), ?_, ?_⟩
    ·simp [Instr.indexAt, asIntOf, h1, hp1, hlen', hT.size hei, plainAdd]
    ·simp only [SimV]
     refine ⟨b, _, rfl, ?_⟩
     subst hsz
     exact SimC_take (SimC_drop h6 _ (by omega)) _
  ·rename_i ei n sz o len cap hei
   split at h <;> try (cases h; done)
   rename_i hsz
   cases h
   simp only [SimV] at hx
   obtain ⟨b, f, cap', hb, rfl, hlc, hcc, hz⟩ := hx
   obtain ⟨hp1, hp2⟩ := hp
   have hlen' : i < (len : Int) := by omega
   refine ⟨.pointer (some ⟨b, f + o + i.toNat * ei.size, none⟩), ?_, ?_⟩
   ·simp [Instr.indexAt, asIntOf, h1, hp1, hlen', hT.size hei, plainAdd]
   ·simp only [SimV]
    exact ⟨b, f, hb, by rw [hsz, Nat.add_assoc]⟩
 ·rename_i k i m e s1 s2 s3 hti
  obtain ⟨d, h1, h2⟩ := hT.und hti
  simp only [TD.fits] at h2
  subst h2
  simp only [SimV] at hi
  subst hi
  split at h <;> try (cases h; done)
  ·rename_i ei n o hei
   cases h
   simp only [SimV] at hx
   obtain ⟨b, f, hb, rfl⟩ := hx
   obtain ⟨hp1, hp2⟩ := hp
   have hlen' : i < (m : Int) := by omega
   refine ⟨.pointer (some ⟨b, f + o + i.toNat * ei.size, none⟩), ?_, ?_⟩
   ·simp [Instr.indexAt, asIntOf, h1, hp1, hlen', hT.size hei, plainAdd, Instr.sureAddr]
   ·simp only [SimV]
    exact ⟨b, f, hb, by rw [Nat.add_assoc]⟩
  ·rename_i ei own cs hei
   cases h
   simp only [SimV] at hx
   obtain ⟨b, o, rfl, h6⟩ := hx
   obtain ⟨hp1, hp2, hp3⟩ := hp
   have hlen' : i < (m : Int) := by omega
   refine ⟨.pointer (some ⟨b, o + i.toNat * ei.size, none⟩), ?_, ?_⟩
   ·simp [Instr.indexAt, asIntOf, h1, hp1, hlen', hT.size hei, plainAdd, Instr.sureAddr]
   ·simp only [SimV]
    refine ⟨b, _, rfl, ?_⟩
    exact SimC_take (SimC_drop h6 _ (by rw [Nat.add_mul] at hp3; omega)) _
def apart (T : Tab) (t : TypeId) (cs : List AV) (off : Nat) : Option (Prop × AV) :=
 match T t with
 | some i => if i.d.isAgg then some (off + i.size ≤ cs.length, .agg ((cs.drop off).take i.size)) else some (off < cs.length, (cs.drop off).headD .any)
 | none => none
theorem apart_sound {P : Program} {T : Tab} (hT : TOk P T) {K : Kn} {w : World} {t : TypeId} {cs : List AV} {vs : Array Value} {off : Nat} {r : AV} {p : Prop}
  (h : apart T t cs off = some (p, r)) (hp : p) (hx : SimL K cs vs.toList) : ∃ u, (part t vs off).run P w = .ok u w ∧ SimV K r u := by
 unfold apart at h
 split at h <;> try (cases h; done)
 rename_i i hi
 have hl := SimL_length hx
 split at h
 ·rename_i ha
  cases h
  refine ⟨.agg (vs.extract off (off + i.size)), by simp [part, hT.isAgg hi, ha, hT.size hi], ?_⟩
  simp only [SimV]
  refine ⟨_, rfl, ?_⟩
  have := SimL_take i.size (SimL_drop off hx)
  rw [Array.toList_extract]
  simp only [List.extract]
  rwa [show off + i.size - off = i.size from by omega]
 ·rename_i ha
  cases h
  have ha' : i.d.isAgg = false := by simpa using ha
  have hlt : off < vs.size := by simpa [hl] using hp
  obtain ⟨c, hc⟩ : ∃ c, cs[off]? = some c := ⟨cs[off], by simp [hp]⟩
  obtain ⟨v, h1, h2⟩ := SimL_get hx off c hc
  refine ⟨v, ?_, ?_⟩
  ·simp only [Array.getElem?_toList] at h1
   simp [part, hT.isAgg hi, ha', h1]
  ·have : (cs.drop off).headD .any = c := by
    rw [List.headD_eq_head?_getD, List.head?_drop, hc]; rfl
   rw [this]; exact h2
def afield (T : Tab) (t : TypeId) (f : Nat) (x : AV) : Option (Prop × AV) :=
 match T t, x with
 | some ⟨.struct fs, _, _, _⟩, .agg cs => match fs[f]? with
  | some (off, ft) => apart T ft cs off
  | none => none
 | _, _ => none
theorem afield_sound {P : Program} {T : Tab} (hT : TOk P T) {K : Kn} {w : World} {t : TypeId} {f : Nat} {x r : AV} {v : Value} {p : Prop}
  (h : afield T t f x = some (p, r)) (hp : p) (hx : SimV K x v) : ∃ u, (Instr.field t v f).run P w = .ok u w ∧ SimV K r u := by
 unfold afield at h
 split at h <;> try (cases h; done)
 rename_i fs s1 s2 s3 cs hi
 split at h <;> try (cases h; done)
 rename_i off ft hf
 obtain ⟨d, h1, h2⟩ := hT.und hi
 simp only [TD.fits] at h2
 obtain ⟨fields, rfl, h3⟩ := h2
 have h4 : ∃ fl, fields[f]? = some fl ∧ fl.offset = off ∧ fl.type = ft := by
  rw [← h3] at hf
  simp only [List.getElem?_map, Option.map_eq_some_iff, Array.getElem?_toList] at hf
  obtain ⟨fl, h5, h6⟩ := hf
  simp only [Prod.mk.injEq] at h6
  exact ⟨fl, h5, h6⟩
 obtain ⟨fl, h5, rfl, rfl⟩ := h4
 simp only [SimV] at hx
 obtain ⟨vs, rfl, hx⟩ := hx
 obtain ⟨u, h6, h7⟩ := apart_sound (w := w) hT h hp hx
 exact ⟨u, by simp [Instr.field, h1, h5, asAgg, h6], h7⟩
def aindex (T : Tab) (t : TypeId) (x ix : AV) : Option (Prop × AV) :=
 match ix, T t, x with
 | .lit (.int _ i), some ⟨.array m e, _, _, _⟩, .agg cs => match T e with
  | some ei => (apart T e cs (i.toNat * ei.size)).map fun (p, r) => (0 ≤ i ∧ i.toNat < m ∧ p, r)
  | none => none
 | .lit (.int _ i), some ⟨.string, _, _, _⟩, .lit (.string s) => some (0 ≤ i ∧ i.toNat < s.size, .lit (.int .u8 ((s.data.toList.getD i.toNat 0).toNat : Int)))
 | _, _, _ => none
theorem aindex_sound {P : Program} {T : Tab} (hT : TOk P T) {K : Kn} {w : World} {t : TypeId} {x ix r : AV} {v vi : Value} {p : Prop}
  (h : aindex T t x ix = some (p, r)) (hp : p) (hx : SimV K x v) (hi : SimV K ix vi) : ∃ u, (Instr.index t v vi).run P w = .ok u w ∧ SimV K r u := by
 unfold aindex at h
 split at h <;> try (cases h; done)
 ·rename_i k i m e s1 s2 s3 cs hti
  obtain ⟨d, h1, h2⟩ := hT.und hti
  simp only [TD.fits] at h2
  subst h2
  simp only [SimV] at hi hx
  subst hi
  obtain ⟨vs, rfl, hx⟩ := hx
  split at h <;> try (cases h; done)
  rename_i ei hei
  cases hr : apart T e cs (i.toNat * ei.size) with
  | none => simp [hr] at h
  | some q =>
   obtain ⟨p', x'⟩ := q
   simp only [hr, Option.map_some, Option.some.injEq, Prod.mk.injEq] at h
   obtain ⟨rfl, rfl⟩ := h
   obtain ⟨hp1, hp2, hp3⟩ := hp
   obtain ⟨u, h6, h7⟩ := apart_sound (w := w) hT hr hp3 hx
   have hlen' : i < (m : Int) := by omega
   exact ⟨u, by simp [Instr.index, asIntOf, h1, hp1, hlen', hT.size hei, h6], h7⟩
 ·rename_i k i s1 s2 s3 s hti
  obtain ⟨d, h1, h2⟩ := hT.und hti
  simp only [TD.fits] at h2
  subst h2
  simp only [SimV] at hi hx
  subst hi hx
  cases h
  obtain ⟨hp1, hp2⟩ := hp
  refine ⟨_, ?_, rfl⟩
  have hlt : i.toNat < s.data.size := hp2
  have : s[i.toNat]? = some (s.data[i.toNat]) := by
   rw [getElem?_pos s i.toNat hp2]; rfl
  simp [Instr.index, asIntOf, h1, hp1, this, List.getD, hlt, Array.getElem?_eq_getElem hlt]
end Go.Al
