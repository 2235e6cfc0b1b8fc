import Derived.Test.YtolfnhebnennpaaAlC
set_option linter.unusedSimpArgs false
set_option linter.unusedVariables false
namespace Go.Al
open Go.RowKit
def abound (d : Int) : Option AV → Option Int
 | none => some d
 | some (.lit (.int _ i)) => some i
 | _ => none
def Own.sub (own : Own) (l h n : Nat) : Own :=
 match own with
 | .perm => .perm
 | .buf m e => if h = n then (if l = 0 then .buf m e else if l = h then .perm else .buf m e) else if l = h ∧ l ≠ 0 then .perm else .cut m (e - (n - h)) (n - h)
 | .tip _ _ => .perm
 | .young => .perm
 | .cut m e k => if l = h ∧ l ≠ 0 then .perm else .cut m (e - (n - h)) (k + (n - h))
def aslice (T : Tab) (t : TypeId) (x : AV) (lo hi : Option AV) : Option (Prop × AV) :=
 match T t, x with
 | some ⟨.slice e, _, _, _⟩, .slice own sz cs =>
  match T e, abound 0 lo, abound (cs.length / sz : Nat) hi with
  | some ei, some l, some h => if sz = ei.size then
    some (0 ≤ l ∧ l ≤ h ∧ h.toNat * sz ≤ cs.length, .slice (own.sub (l.toNat * sz) (h.toNat * sz) cs.length) sz ((cs.take (h.toNat * sz)).drop (l.toNat * sz))) else none
  | _, _, _ => none
 | some ⟨.slice e, _, _, _⟩, .lit (.slice none 0 0) =>
  match T e, abound 0 lo, abound 0 hi with
  | some _, some l, some h => some (l = 0 ∧ h = 0, .lit (.slice none 0 0))
  | _, _, _ => none
 | some ⟨.slice e, _, _, _⟩, .empt =>
  match T e, abound 0 lo, abound 0 hi with
  | some _, some l, some h => some (l = 0 ∧ h = 0, .empt)
  | _, _, _ => none
 | some ⟨.slice e, _, _, _⟩, .sref n sz o len cap =>
  match T e, abound 0 lo, abound len hi with
  | some ei, some l, some h => if sz = ei.size then
    some (0 ≤ l ∧ l ≤ h ∧ h ≤ cap ∧ (l < cap ∨ l = 0), .sref n sz (o + l.toNat * sz) (h - l).toNat (cap - l.toNat)) else none
  | _, _, _ => none
 | some ⟨.array m e, _, _, _⟩, .ptr n o =>
  match T e, abound 0 lo, abound m hi with
  | some ei, some l, some h => some (0 ≤ l ∧ l ≤ h ∧ h ≤ m ∧ (l < m ∨ l = 0) ∧ 0 < ei.size, .sref n ei.size (o + l.toNat * ei.size) (h - l).toNat (m - l.toNat))
  | _, _, _ => none
 | some ⟨.string, _, _, _⟩, .lit (.string s) =>
  match abound 0 lo, abound s.size hi with
  | some l, some h => some (0 ≤ l ∧ l ≤ h ∧ h ≤ s.size, .lit (.string (s.extract l.toNat h.toNat)))
  | _, _ => none
 | _, _ => none
theorem sliceBounds_run {P : Program} {w : World} (isS : Bool) (len cap : Nat) (lo hi : Option Value) (l h : Int)
  (hlo : (lo = none ∧ l = 0) ∨ ∃ k, lo = some (.int k l)) (hhi : (hi = none ∧ h = len) ∨ ∃ k, hi = some (.int k h)) (h0 : 0 ≤ l) (h1 : l ≤ h) (h2 : h ≤ cap) :
  (Instr.sliceBounds isS len cap lo hi none).run P w = .ok (l.toNat, h.toNat, cap) w := by
 have hh : 0 ≤ h := by omega
 have hl2 : l ≤ (h.toNat : Int) := by omega
 rcases hlo with ⟨rfl, rfl⟩ | ⟨k, rfl⟩ <;> rcases hhi with ⟨rfl, rfl⟩ | ⟨k', rfl⟩
 ·simp [Instr.sliceBounds]
 ·simp [Instr.sliceBounds, Instr.sliceBound, asIntOf, hh, h2]
 ·simp [Instr.sliceBounds, Instr.sliceBound, asIntOf, h0, h1]
 ·have hm : max h 0 = h := by omega
  simp [Instr.sliceBounds, Instr.sliceBound, asIntOf, hh, h2, h0, hl2, hm, h1]
theorem abound_sim {K : Kn} {d l : Int} {x : Option AV} {v : Option Value} (h : abound d x = some l) (hx : (x = none ∧ v = none) ∨ ∃ a u, x = some a ∧ v = some u ∧ SimV K a u) :
  (v = none ∧ l = d) ∨ ∃ k, v = some (.int k l) := by
 rcases hx with ⟨rfl, rfl⟩ | ⟨a, u, rfl, rfl, hs⟩
 ·simp only [abound, Option.some.injEq] at h
  exact .inl ⟨rfl, h.symm⟩
 ·cases a <;> simp only [abound] at h <;> try (cases h; done)
  rename_i v
  cases v <;> simp only [abound] at h <;> try (cases h; done)
  rename_i k i
  cases h
  simp only [SimV] at hs
  exact .inr ⟨k, by rw [hs]⟩
def SimO (K : Kn) (x : Option AV) (v : Option Value) : Prop := (x = none ∧ v = none) ∨ ∃ a u, x = some a ∧ v = some u ∧ SimV K a u
theorem aslice_sound {P : Program} {T : Tab} (hT : TOk P T) {K : Kn} {w : World} {t : TypeId} {x r : AV} {v : Value} {lo hi : Option AV} {vlo vhi : Option Value} {p : Prop}
  (h : aslice T t x lo hi = some (p, r)) (hp : p) (hx : SimV K x v) (hlo : SimO K lo vlo) (hhi : SimO K hi vhi) : ∃ u, (Instr.sliceAt t v vlo vhi none).run P w = .ok u w ∧ SimV K r u := by
 unfold aslice at h
 split at h <;> try (cases h; done)
 ·-- a slice
  rename_i e s1 s2 s3 own sz cs hti
  obtain ⟨d, h1, h2⟩ := hT.und hti
  simp only [TD.fits] at h2
  subst h2
  split at h <;> try (cases h; done)
  rename_i ei l hh hei hl hhh
  split at h <;> try (cases h; done)
  rename_i hsz
  cases h
  obtain ⟨hp1, hp2, hp3⟩ := hp
  simp only [SimV] at hx
  obtain ⟨a, len, cap, rfl, h3, h4, h0, h5⟩ := hx
  have hdiv : cs.length / sz = len := by rw [← h3]; exact Nat.mul_div_cancel _ h0
  rw [hdiv] at hhh
  have hle : hh.toNat ≤ len := by rw [← h3] at hp3; exact Nat.le_of_mul_le_mul_right hp3 h0
  have hb := sliceBounds_run (P := P) (w := w) true len cap vlo vhi l hh (abound_sim hl hlo) (abound_sim hhh hhi) hp1 hp2 (by omega)
  refine ⟨_, by simp [Instr.sliceAt, Instr.slice, h1, hb, hT.size hei]; rfl, ?_⟩
  have hlh : l.toNat ≤ hh.toNat := by omega
  have hmul : l.toNat * sz ≤ hh.toNat * sz := Nat.mul_le_mul_right _ hlh
  have hclen : ((cs.take (hh.toNat * sz)).drop (l.toNat * sz)).length = hh.toNat * sz - l.toNat * sz := by
   rw [List.length_drop, List.length_take, Nat.min_eq_left hp3]
  simp only [SimV]
  refine ⟨_, hh.toNat - l.toNat, cap - l.toNat, rfl, by rw [hclen, Nat.sub_mul], by omega, h0, ?_⟩
  rcases h5 with ⟨rfl, hnil⟩ | ⟨b, o, rfl, h6, h7⟩
  ·left
   simp only [List.length_nil, Nat.le_zero_eq] at hp3 hclen h3
   have hh0 : hh.toNat = 0 := (Nat.mul_eq_zero.1 hp3).resolve_right (by omega)
   have hl0 : l.toNat = 0 := by omega
   refine ⟨by simp, ?_⟩
   cases own with
   | perm =>
    simp only [Own.sub, NilOk] at hnil ⊢
    split
    ·intro ha; have := hnil ha; omega
    ·intro ha
     simp only [Option.map_eq_none_iff] at ha
     have := hnil ha; omega
   | buf m e =>
    obtain ⟨rfl, hn1, hn2⟩ := hnil
    simp only [Own.sub, hl0, hh0, Nat.zero_mul, List.length_nil, if_true, NilOk]
    exact ⟨by simp, hn1, hn2⟩
   | cut m e k => exact hnil.elim
   | young =>
    simp only [Own.sub, NilOk] at hnil ⊢
    split
    ·intro ha; have := hnil ha; omega
    ·intro ha
     simp only [Option.map_eq_none_iff] at ha
     have := hnil ha; omega
   | tip m e =>
    obtain ⟨rfl, hn1, hn2⟩ := hnil
    simp only [Own.sub, NilOk]
    intro _; omega
  ·by_cases hm : cap - l.toNat = 0 ∧ l.toNat ≠ 0
   ·left
    have hll : l.toNat = hh.toNat := by omega
    have hcap : cap = l.toNat := by omega
    refine ⟨List.eq_nil_of_length_eq_zero (by rw [hclen, hll]; omega), ?_⟩
    have hsub : own.sub (l.toNat * sz) (hh.toNat * sz) cs.length = .perm := by
     cases own with
     | perm => rfl
     | young => rfl
     | buf m e =>
      have hpos : hh.toNat * sz ≠ 0 := by
       intro h; rcases Nat.mul_eq_zero.1 h with h | h <;> omega
      simp only [Own.sub, hll, if_true]
      split
      ·first | rfl | rw [if_neg hpos]
      ·first | rfl | rw [if_pos ⟨trivial, hpos⟩]
     | cut m e k =>
      have hpos : hh.toNat * sz ≠ 0 := by
       intro h; rcases Nat.mul_eq_zero.1 h with h | h <;> omega
      simp only [Own.sub, hll]
      rw [if_pos ⟨trivial, hpos⟩]
     | tip m e => rfl
    rw [hsub]
    intro _; omega
   ·right
    refine ⟨b, o + l.toNat * sz, ?_, ?_, ?_⟩
    ·split
     ·rename_i hc;
      have : l.toNat = 0 := by omega
      simp [this]
     ·simp [plainAdd, hsz]
    ·have htag : (own.sub (l.toNat * sz) (hh.toNat * sz) cs.length).tag = own.tag ∨ (own.sub (l.toNat * sz) (hh.toNat * sz) cs.length = .perm ∧ l.toNat * sz = hh.toNat * sz) := by
      cases own with
      | perm => exact .inl rfl
      | young => exact .inl rfl
      | buf m e =>
       simp only [Own.sub]
       split
       ·by_cases e1 : l.toNat * sz = 0
        ·rw [if_pos e1]; exact .inl rfl
        ·rw [if_neg e1]
         by_cases e2 : l.toNat * sz = hh.toNat * sz
         ·rw [if_pos e2]; exact .inr ⟨rfl, e2⟩
         ·rw [if_neg e2]; exact .inl rfl
       ·split
        ·rename_i e2; exact .inr ⟨rfl, e2.1⟩
        ·exact .inl rfl
      | cut m e k =>
       simp only [Own.sub]
       split
       ·rename_i e2; exact .inr ⟨rfl, e2.1⟩
       ·exact .inl rfl
      | tip m e => exact .inl rfl
     rcases htag with htag | ⟨htag, heq⟩
     ·rw [htag]
      exact SimC_drop (SimC_take h6 _) _ (by simp; omega)
     ·have : (cs.take (hh.toNat * sz)).drop (l.toNat * sz) = [] := by
       apply List.eq_nil_of_length_eq_zero; rw [hclen]; omega
      rw [this]; simp [SimC]
    ·cases own with
     | perm => trivial
     | young => trivial
     | buf m e =>
      obtain ⟨ht0, t, ht1, ht2, ht3⟩ := h7
      have hlc : l.toNat ≤ cap := by omega
      have hmc : l.toNat * sz ≤ cap * sz := Nat.mul_le_mul_right _ hlc
      have hfull : hh.toNat * sz = cs.length → TipOk K b (o + l.toNat * sz) ((cs.take (hh.toNat * sz)).drop (l.toNat * sz)).length ((cap - l.toNat) * sz) (.buf m e) := by
       intro hf
       refine ⟨by rw [hclen]; omega, t, ht1, by omega, ?_⟩
       intro he
       obtain ⟨g1, g2, g3⟩ := ht3 he
       rw [hclen, Nat.sub_mul]
       exact ⟨g1, by omega, by omega⟩
      have hcut : TipOk K b (o + l.toNat * sz) ((cs.take (hh.toNat * sz)).drop (l.toNat * sz)).length ((cap - l.toNat) * sz) (.cut m (e - (cs.length - hh.toNat * sz)) (cs.length - hh.toNat * sz)) := by
       refine ⟨by rw [hclen]; omega, t, ht1, by omega, ?_⟩
       intro he
       have he' : e = t.e := by omega
       obtain ⟨g1, g2, g3⟩ := ht3 he'
       rw [hclen, Nat.sub_mul]
       exact ⟨g1, by omega, by omega⟩
      simp only [Own.sub]
      split
      ·rename_i hf
       split
       ·exact hfull hf
       ·split
        ·trivial
        ·exact hfull hf
      ·split
       ·trivial
       ·exact hcut
     | cut m e k =>
      obtain ⟨ht0, t, ht1, ht2, ht3⟩ := h7
      have hlc : l.toNat ≤ cap := by omega
      have hmc : l.toNat * sz ≤ cap * sz := Nat.mul_le_mul_right _ hlc
      simp only [Own.sub]
      split
      ·trivial
      ·refine ⟨by rw [hclen]; omega, t, ht1, by omega, ?_⟩
       intro he
       have he' : e + k = t.e := by omega
       obtain ⟨g1, g2, g3⟩ := ht3 he'
       rw [hclen, Nat.sub_mul]
       exact ⟨g1, by omega, by omega⟩
     | tip m e => trivial
 ·-- nil
  rename_i e s1 s2 s3 hti
  obtain ⟨d, h1, h2⟩ := hT.und hti
  simp only [TD.fits] at h2
  subst h2
  split at h <;> try (cases h; done)
  rename_i ei l hh hei hl hhh
  cases h
  obtain ⟨rfl, rfl⟩ := hp
  simp only [SimV] at hx
  subst hx
  have hb := sliceBounds_run (P := P) (w := w) true 0 0 vlo vhi 0 0 (abound_sim hl hlo) (abound_sim hhh hhi) (by omega) (by omega) (by omega)
  exact ⟨_, by simp [Instr.sliceAt, Instr.slice, h1, hb, hT.size hei], rfl⟩
 ·-- an empty one
  rename_i e s1 s2 s3 hti
  obtain ⟨d, h1, h2⟩ := hT.und hti
  simp only [TD.fits] at h2
  subst h2
  split at h <;> try (cases h; done)
  rename_i ei l hh hei hl hhh
  cases h
  obtain ⟨rfl, rfl⟩ := hp
  simp only [SimV] at hx
  obtain ⟨a, rfl⟩ := hx
  have hb := sliceBounds_run (P := P) (w := w) true 0 0 vlo vhi 0 0 (abound_sim hl hlo) (abound_sim hhh hhi) (by omega) (by omega) (by omega)
  exact ⟨.slice a 0 0, by simp [Instr.sliceAt, Instr.slice, h1, hb, hT.size hei], by simp [SimV]⟩
 ·-- a slice of an object
  rename_i e s1 s2 s3 n sz o len cap hti
  obtain ⟨d, h1, h2⟩ := hT.und hti
  simp only [TD.fits] at h2
  subst h2
  split at h <;> try (cases h; done)
  rename_i ei l hh hei hl hhh
  split at h <;> try (cases h; done)
  rename_i hsz
  cases h
  obtain ⟨hp1, hp2, hp3, hp4⟩ := hp
  simp only [SimV] at hx
  obtain ⟨b, f, cap', hb0, rfl, hlc, hcc, hz⟩ := hx
  have hb := sliceBounds_run (P := P) (w := w) true len cap' vlo vhi l hh (abound_sim hl hlo) (abound_sim hhh hhi) hp1 hp2 (by omega)
  refine ⟨_, by simp [Instr.sliceAt, Instr.slice, h1, hb, hT.size hei]; rfl, ?_⟩
  simp only [SimV]
  refine ⟨b, f, cap' - l.toNat, hb0, ?_, by omega, by omega, hz⟩
  congr 1
  ·split
   ·have : l.toNat = 0 := by omega
    simp [this]
   ·simp [plainAdd, hsz, Nat.add_assoc]
  ·omega
 ·-- a slice of an array
  rename_i m e s1 s2 s3 n o hti
  obtain ⟨d, h1, h2⟩ := hT.und hti
  simp only [TD.fits] at h2
  subst h2
  split at h <;> try (cases h; done)
  rename_i ei l hh hei hl hhh
  cases h
  obtain ⟨hp1, hp2, hp3, hp4, hp5⟩ := hp
  simp only [SimV] at hx
  obtain ⟨b, f, hb0, rfl⟩ := hx
  have hb := sliceBounds_run (P := P) (w := w) false m m vlo vhi l hh (abound_sim hl hlo) (abound_sim hhh hhi) hp1 hp2 hp3
  refine ⟨_, by simp [Instr.sliceAt, h1, hb, hT.size hei, Instr.sureAddr]; rfl, ?_⟩
  simp only [SimV]
  refine ⟨b, f, m - l.toNat, hb0, ?_, by omega, by omega, hp5⟩
  congr 1
  ·split
   ·have : l.toNat = 0 := by omega
    simp [this]
   ·simp [plainAdd, Nat.add_assoc]
  ·omega
 ·-- a string
  rename_i s1 s2 s3 s hti
  obtain ⟨d, h1, h2⟩ := hT.und hti
  simp only [TD.fits] at h2
  subst h2
  split at h <;> try (cases h; done)
  rename_i l hh hl hhh
  cases h
  obtain ⟨hp1, hp2, hp3⟩ := hp
  simp only [SimV] at hx
  subst hx
  have hb := sliceBounds_run (P := P) (w := w) false s.size s.size vlo vhi l hh (abound_sim hl hlo) (abound_sim hhh hhi) hp1 hp2 hp3
  exact ⟨_, by simp [Instr.sliceAt, Instr.slice, h1, hb], rfl⟩
def AV.isSlice : AV → Bool
 | .slice .. | .empt | .sref .. | .lit (.slice ..) => true
 | _ => false
theorem AV.isSlice_sim {K : Kn} {x : AV} {v : Value} (h : x.isSlice = true) (hx : SimV K x v) : ∃ a l c, v = .slice a l c := by
 cases x <;> simp only [AV.isSlice] at h <;> (try (cases h; done)) <;> simp only [SimV] at hx
 case slice own sz cs => obtain ⟨a, l, c, rfl, _⟩ := hx; exact ⟨_, _, _, rfl⟩
 case empt => obtain ⟨a, rfl⟩ := hx; exact ⟨_, _, _, rfl⟩
 case sref n sz o len cap => obtain ⟨b, f, c', _, rfl, _⟩ := hx; exact ⟨_, _, _, rfl⟩
 case lit u => subst hx; cases v <;> first | exact ⟨_, _, _, rfl⟩ | (cases h; done)
def aslice3 (T : Tab) (t : TypeId) (x : AV) (lo hi m : Option AV) : Option (Prop × AV) :=
 match T t, hi, m with
 | some ⟨.slice e, _, _, _⟩, some (.lit (.int _ h)), some (.lit (.int _ mm)) =>
  match T e, abound 0 lo with
  | some _, some l => if x.isSlice then some (l = 0 ∧ h = 0 ∧ mm = 0, .empt) else none
  | _, _ => none
 | _, _, _ => none
theorem aslice3_sound {P : Program} {T : Tab} (hT : TOk P T) {K : Kn} {w : World} {t : TypeId} {x r : AV} {v : Value} {lo hi m : Option AV} {vlo vhi vm : Option Value} {p : Prop}
  (h : aslice3 T t x lo hi m = some (p, r)) (hp : p) (hx : SimV K x v) (hlo : SimO K lo vlo) (hhi : SimO K hi vhi) (hm : SimO K m vm) : ∃ u, (Instr.sliceAt t v vlo vhi vm).run P w = .ok u w ∧ SimV K r u := by
 unfold aslice3 at h
 split at h <;> try (cases h; done)
 rename_i e s1 s2 s3 k1 hh k2 mm hti
 obtain ⟨d, h1, h2⟩ := hT.und hti
 simp only [TD.fits] at h2
 subst h2
 split at h <;> try (cases h; done)
 rename_i ei l hei hl
 split at h <;> try (cases h; done)
 rename_i hs
 cases h
 obtain ⟨rfl, rfl, rfl⟩ := hp
 obtain ⟨a, n, c, rfl⟩ := AV.isSlice_sim hs hx
 rcases hhi with ⟨h0, _⟩ | ⟨a1, u1, h3, rfl, h4⟩
 ·cases h0
 rcases hm with ⟨h0, _⟩ | ⟨a2, u2, h5, rfl, h6⟩
 ·cases h0
 cases h3; cases h5
 simp only [SimV] at h4 h6
 subst h4 h6
 rcases abound_sim hl hlo with ⟨rfl, _⟩ | ⟨k, rfl⟩
 ·exact ⟨.slice a 0 0, by simp [Instr.sliceAt, Instr.slice, h1, Instr.sliceBounds, Instr.sliceBound, asIntOf, hT.size hei], by simp [SimV]⟩
 ·exact ⟨.slice a 0 0, by simp [Instr.sliceAt, Instr.slice, h1, Instr.sliceBounds, Instr.sliceBound, asIntOf, hT.size hei], by simp [SimV]⟩
end Go.Al
