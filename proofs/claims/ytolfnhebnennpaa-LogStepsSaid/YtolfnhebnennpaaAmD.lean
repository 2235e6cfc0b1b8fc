import Derived.Test.YtolfnhebnennpaaAmC
set_option linter.unusedSimpArgs false
set_option linter.unusedVariables false
namespace Go.Al
open Go Go.RowKit
section
variable {T : Tab} {ν : Nm} {H : SHp} {S : AHeap}
theorem sbytes_av {x : SV} {xs : List Int} (h : sbytes H x = some xs) : ∃ o : Own, x.av ν H = .slice o 1 (flat (lI .u8) xs) ∧ o.tag = .perm := by
 unfold sbytes at h
 split at h <;> (try (cases h; done)) <;> cases h <;> rename_i hl <;> exact ⟨_, lview_av hl, rfl⟩
theorem sconv_sound {s t : TypeId} {x : SV} {pr : Pr} (h : sconv T H s t x = some pr) : pr.all fun v => ∃ p, qconv T s t (x.av ν H) = some (p, v.av ν H) ∧ p := by
 unfold sconv at h
 split at h <;> try (cases h; done)
 ·rename_i hT
  split at h <;> try (cases h; done)
  split at h <;> try (cases h; done)
  rename_i hs
  cases h
  refine Pr.all_t ⟨True, ?_, trivial⟩
  simp only [SV.av, qconv, hT, aconvert, if_pos hs]
 ·rename_i hT
  split at h
  ·split at h <;> try (cases h; done)
   rename_i hs
   cases h
   refine Pr.all_t ⟨True, ?_, trivial⟩
   simp only [SV.av, qconv, hT, aconvert, if_pos hs]
  ·split at h <;> try (cases h; done)
   rename_i xs e s1 s2 s3 hb hs
   split at h <;> try (cases h; done)
   rename_i q1 q2 q3 he
   cases h
   obtain ⟨o, h1, h2⟩ := sbytes_av (ν := ν) hb
   refine Pr.all_t ⟨1 = 1 ∧ o.tag = .perm, ?_, rfl, h2⟩
   rw [h1]
   simp only [SV.av, qconv, hT, hs, he, nums_flat]
 ·rename_i hT
  split at h <;> try (cases h; done)
  rename_i sz c cs
  split at h <;> try (cases h; done)
  rename_i he
  split at h <;> try (cases h; done)
  rename_i hst
  cases h
  refine Pr.all_t ⟨s = t ∧ avs ν H (c :: cs) ≠ [], ?_, hst.1, ?_⟩
  ·simp only [SV.av, qconv, hT, he]
  ·rw [avs_one hst.2]; simp
theorem sfieldAddr_sound {t : TypeId} {f : Nat} {x v : SV} (h : sfieldAddr T t f x = some v) : afieldAddr T t f (x.av ν H) = some (v.av ν H) := by
 unfold sfieldAddr at h
 unfold afieldAddr
 split at h <;> try (cases h; done)
 rename_i hT
 simp only [hT]
 split at h <;> try (cases h; done)
 rename_i hf
 simp only [hf]
 split at h <;> try (cases h; done)
 rename_i hi
 simp only [hi]
 split at h <;> try (cases h; done)
 rename_i hz
 rw [if_neg hz]
 split at h <;> try (cases h; done)
 ·cases h; simp only [SV.av]
 ·rename_i o cs
  split at h <;> try (cases h; done)
  rename_i a c r hc
  cases h
  obtain ⟨h1, h2⟩ := cutAt_some hc
  simp only [SV.av]
  have hl := avs_length (ν := ν) (H := H) (l := a)
  have hc1 : 0 < (avs ν H (c :: r)).length := by
   rw [avs_length]; simp only [wsum]
   have : 0 < c.w := by cases c <;> simp only [SV.w] <;> first | decide | (rename_i e v; exact Nat.mul_pos (by omega) (by rw [← e.lay_sz]; exact e.lay.pos))
   omega
  rw [h1, avs_append, if_pos (by rw [List.length_append]; omega), List.drop_append, List.drop_eq_nil_of_le (by omega), List.nil_append, show _ - (avs ν H a).length = 0 by omega, List.drop_zero]
theorem sfield_sound {t : TypeId} {f : Nat} {x v : SV} (h : sfield T t f x = some v) : ∃ p, afield T t f (x.av ν H) = some (p, v.av ν H) ∧ p := by
 unfold sfield at h
 split at h <;> try (cases h; done)
 rename_i hT
 split at h <;> try (cases h; done)
 rename_i hf
 obtain ⟨p, h1, h2⟩ := sapart_av (ν := ν) (H := H) h
 exact ⟨p, by simp only [SV.av, afield, hT, hf]; exact h1, h2⟩
theorem sindexAddr_sound {t : TypeId} {x : SV} {io : Option Int} {ix : SV} {pr : Pr} (hio : ∀ j, io = some j → ∃ k, ix = .lit (.int k j)) (h : sindexAddr T H t x io ix = some pr) :
  pr.all fun v => ∃ p, aindexAddr T t (x.av ν H) (ix.av ν H) = some (p, v.av ν H) ∧ p := by
 unfold sindexAddr at h
 split at h <;> try (cases h; done)
 ·rename_i k i e s1 s2 s3 hT
  split at h <;> try (cases h; done)
  rename_i ei he
  split at h
  ·rename_i o y xs hl
   split at h <;> try (cases h; done)
   rename_i hz
   cases h
   refine Pr.all_g fun hp => ⟨0 ≤ i ∧ i.toNat * y.lay.sz < (flat y.lay xs).length, ?_, hp.1, ?_⟩
   ·rw [lview_av hl]
    simp only [SV.av, aindexAddr, hT, he, y.lay_sz, hz, if_true, Ty.un_cells]
    rw [← hz, ← y.lay_sz, flat_at hp.2, y.lay_dflt]
   ·rw [flat_length]; exact (Nat.mul_lt_mul_right y.lay.pos).2 hp.2
  ·split at h <;> try (cases h; done)
   split at h <;> try (cases h; done)
   rename_i hz
   cases h
   refine Pr.all_g fun hp => ⟨_, ?_, hp⟩
   simp only [SV.av, aindexAddr, hT, he, if_pos hz, vptr]
 ·rename_i k i n e s1 s2 s3 hT
  split at h <;> try (cases h; done)
  rename_i ei he
  split at h <;> try (cases h; done)
  ·rename_i m o
   split at h
   ·rename_i j
    obtain ⟨k', hk⟩ := hio j rfl
    cases hk
    split at h <;> try (cases h; done)
    rename_i hj
    split at h <;> cases h <;> refine Pr.all_t ⟨_, ?_, hj⟩ <;> simp only [SV.av, aindexAddr, hT, he, vptr]
   ·split at h
    ·cases h
     refine Pr.all_g fun hp => ⟨_, ?_, hp⟩
     simp only [SV.av, aindexAddr, hT, he, vptr]
    ·cases h
     intro j v hj hi
     simp only [List.getElem?_map, Option.map_eq_some_iff] at hj
     obtain ⟨q, hq, rfl⟩ := hj
     have hq' := List.getElem?_eq_some_iff.1 hq
     obtain ⟨hq1, hq2⟩ := hq'
     simp only [List.length_range] at hq1
     simp only [List.getElem_range] at hq2
     subst hq2; subst hi
     refine ⟨0 ≤ (j : Int) ∧ (j : Int).toNat < n, ?_, by omega⟩
     simp only [SV.av, aindexAddr, hT, he, Int.toNat_natCast]
  ·rename_i o cs
   split at h
   ·rename_i j
    obtain ⟨k', hk⟩ := hio j rfl
    cases hk
    split at h <;> try (cases h; done)
    rename_i hj
    split at h <;> try (cases h; done)
    rename_i a b c hp
    cases h
    refine Pr.all_t ⟨0 ≤ i ∧ i.toNat < n ∧ (i.toNat + 1) * ei.size ≤ (avs ν H cs).length, ?_, hj.1, hj.2, ?_⟩
    ·simp only [SV.av, aindexAddr, hT, he]
     rw [avs_take hp]
    ·have := (avs_part (ν := ν) (H := H) hp).2.2
     rw [Nat.add_mul, Nat.one_mul]; exact this
   ·split at h <;> try (cases h; done)
    rename_i n' y v
    split at h <;> try (cases h; done)
    rename_i hz
    obtain ⟨hn, hz⟩ := hz
    cases h
    refine Pr.all_g fun hp => ⟨0 ≤ i ∧ i.toNat < n ∧ (i.toNat + 1) * ei.size ≤ (avs ν H [.vec n' y v]).length, ?_, hp.1, hp.2, ?_⟩
    ·simp only [SV.av, aindexAddr, hT, he, Ty.un_cells]
     rw [avs_vec, avs_nil, List.append_nil, ← hz, ← y.lay_sz, flat_at (by rw [Vector.length_toList]; omega), y.lay_dflt]
    ·rw [avs_length]; simp only [wsum, SV.w, ← hz, Nat.add_zero]
     exact Nat.mul_le_mul_right _ (by omega)
theorem sone_part {e : TypeId} {ei : TI} {cs : List SV} {v : SV} (he : T e = some ei) (h : sone T e ei cs = some v) {all : List AV} {off : Nat} (h1 : (all.drop off).take ei.size = avs ν H cs) (h2 : off + ei.size ≤ all.length) (h3 : (avs ν H cs).length = ei.size)
  (h0 : 0 < ei.size) : ∃ p, apart T e all off = some (p, v.av ν H) ∧ p := by
 unfold sone at h
 unfold apart
 simp only [he]
 split at h
 ·rename_i ha
  cases h
  rw [if_pos ha]
  exact ⟨off + ei.size ≤ all.length, by rw [h1]; simp only [SV.av], h2⟩
 ·rename_i ha
  rw [if_neg ha]
  split at h <;> try (cases h; done)
  split at h <;> try (cases h; done)
  rename_i x hx
  cases h
  simp only [Bool.or_eq_true, not_or, Bool.not_eq_true] at hx
  refine ⟨off < all.length, ?_, by omega⟩
  rw [avs_one hx.1] at h1
  obtain ⟨k, hk⟩ : ∃ k, ei.size = k + 1 := ⟨ei.size - 1, by omega⟩
  rw [hk] at h1
  cases hd : all.drop off with
  | nil => rw [hd] at h1; simp at h1
  | cons a r => rw [hd] at h1; simp only [List.take_succ_cons, List.cons.injEq] at h1; rw [← h1.1]; rfl
theorem vec_part {n : Nat} {y : Ty} {v : Vector y.den (n + 1)} {j : Nat} (hj : j < n + 1) : ((avs ν H [.vec n y v]).drop (j * y.sz)).take y.sz = avs ν H (y.un (v.toList.getD j y.dflt)) ∧ j * y.sz + y.sz ≤ (avs ν H [.vec n y v]).length ∧ (avs ν H (y.un (v.toList.getD j y.dflt))).length = y.sz := by
 refine ⟨?_, ?_, by rw [Ty.un_cells, Lay.len, y.lay_sz]⟩
 ·rw [avs_vec, avs_nil, List.append_nil, ← y.lay_sz, flat_at (by rw [Vector.length_toList]; omega), Ty.un_cells, y.lay_dflt]
 ·rw [avs_length]; simp only [wsum, SV.w, Nat.add_zero]
  rw [← Nat.succ_mul]; exact Nat.mul_le_mul_right _ (by omega)
theorem sindex_sound {t : TypeId} {x : SV} {io : Option Int} {ix : SV} {pr : Pr} (hio : ∀ j, io = some j → ∃ k, ix = .lit (.int k j)) (h : sindex T t x io ix = some pr) :
  pr.all fun v => ∃ p, aindex T t (x.av ν H) (ix.av ν H) = some (p, v.av ν H) ∧ p := by
 unfold sindex at h
 split at h <;> try (cases h; done)
 ·rename_i k i n e s1 s2 s3 cs hT
  split at h <;> try (cases h; done)
  rename_i ei he
  have key : ∀ {j : Nat} {v : SV} {p : Prop}, j < n → apart T e (avs ν H cs) (j * ei.size) = some (p, v.av ν H) → p → i = (j : Int) → ∃ p, aindex T t ((SV.agg cs).av ν H) ((SV.lit (.int k i)).av ν H) = some (p, v.av ν H) ∧ p := by
   intro j v p hj ha hp hi
   subst hi
   refine ⟨0 ≤ (j : Int) ∧ (j : Int).toNat < n ∧ p, ?_, by omega, by omega, hp⟩
   simp only [SV.av, aindex, hT, he, Int.toNat_natCast, ha, Option.map_some]
  split at h
  ·rename_i j
   obtain ⟨k', hk⟩ := hio j rfl
   cases hk
   split at h <;> try (cases h; done)
   rename_i hj
   simp only [Option.map_eq_some_iff] at h
   obtain ⟨v, hv, rfl⟩ := h
   split at hv
   ·rename_i n' y w
    split at hv <;> try (cases hv; done)
    rename_i hz
    obtain ⟨hn, hz⟩ := hz
    obtain ⟨g1, g2, g3⟩ := vec_part (ν := ν) (H := H) (n := n') (y := y) (v := w) (j := i.toNat) (by omega)
    rw [hz] at g1 g2 g3
    have h0 : 0 < ei.size := by rw [← hz, ← y.lay_sz]; exact y.lay.pos
    obtain ⟨p, q1, q2⟩ := sone_part he hv g1 g2 g3 h0
    exact Pr.all_t (key hj.2 q1 q2 (by omega))
   ·obtain ⟨p, q1, q2⟩ := sapart_av (ν := ν) (H := H) hv
    exact Pr.all_t (key hj.2 q1 q2 (by omega))
  ·split at h
   ·rename_i n' y w
    split at h <;> try (cases h; done)
    rename_i hz
    obtain ⟨hn, hz⟩ := hz
    split at h <;> try (cases h; done)
    rename_i v hv
    cases h
    refine Pr.all_g fun hp => ?_
    rw [hv]
    simp only [Option.getD_some]
    obtain ⟨g1, g2, g3⟩ := vec_part (ν := ν) (H := H) (n := n') (y := y) (v := w) (j := i.toNat) (by omega)
    rw [hz] at g1 g2 g3
    have h0 : 0 < ei.size := by rw [← hz, ← y.lay_sz]; exact y.lay.pos
    obtain ⟨p, q1, q2⟩ := sone_part he hv g1 g2 g3 h0
    exact key hp.2 q1 q2 (by omega)
   ·split at h <;> try (cases h; done)
    rename_i hall
    cases h
    intro j v hj hi
    simp only [List.getElem?_map, Option.map_eq_some_iff] at hj
    obtain ⟨q, hq, rfl⟩ := hj
    obtain ⟨hq1, hq2⟩ := List.getElem?_eq_some_iff.1 hq
    simp only [List.length_range] at hq1
    simp only [List.getElem_range] at hq2
    subst hq2
    have := List.all_eq_true.1 hall j (by simp [hq1])
    obtain ⟨v, hv⟩ := Option.isSome_iff_exists.1 this
    rw [hv]
    obtain ⟨p, q1, q2⟩ := sapart_av (ν := ν) (H := H) hv
    exact key hq1 q1 q2 hi
 ·rename_i hT
  cases h
  refine Pr.all_g fun hp => ⟨_, ?_, hp⟩
  simp only [SV.av, aindex, hT]
theorem OwnI.cut_of {o : OwnI} {l h n : Nat} : (o.cut l h n).of ν = (o.of ν).sub l h n := by cases o <;> rfl
theorem sbound_av {d : Int} {x : Option SV} {i : Int} (h : sbound d x = some i) : abound d (x.map (SV.av ν H)) = some i := by
 unfold sbound at h
 split at h <;> (try (cases h; done)) <;> cases h <;> simp only [Option.map_none, Option.map_some, SV.av, abound]
theorem aslice_list {t e : TypeId} {s1 s2 : Nat} {s3 : List Value} {ei : TI} (hT : T t = some ⟨.slice e, s1, s2, s3⟩) (he : T e = some ei) {o : OwnI} {y : Ty} {xs : List y.den} (hz : y.sz = ei.size) {lo hi : Option AV} {l h : Int}
  (hl : abound 0 lo = some l) (hh : abound (xs.length : Nat) hi = some h) (g : 0 ≤ l ∧ l ≤ h ∧ h.toNat ≤ xs.length) :
  ∃ p, aslice T t (.slice (o.of ν) y.lay.sz (flat y.lay xs)) lo hi = some (p, .slice ((o.cut (l.toNat * y.sz) (h.toNat * y.sz) (xs.length * y.sz)).of ν) y.lay.sz (flat y.lay ((xs.take h.toNat).drop l.toNat))) ∧ p := by
 refine ⟨0 ≤ l ∧ l ≤ h ∧ h.toNat * y.lay.sz ≤ (flat y.lay xs).length, ?_, g.1, g.2.1, ?_⟩
 ·have hd : ((flat y.lay xs).length / y.lay.sz : Nat) = xs.length := flat_div
  simp only [aslice, hT, he, hl, hd, hh]
  rw [if_pos (by rw [y.lay_sz]; exact hz), flat_take, flat_drop, flat_length, OwnI.cut_of, y.lay_sz]
 ·rw [flat_length]; exact Nat.mul_le_mul_right _ g.2.2
theorem sslice_sound {t : TypeId} {x : SV} {lo hi : Option SV} {pr : Pr} (h : sslice T H t x lo hi = some pr) : pr.all fun v => ∃ p, aslice T t (x.av ν H) (lo.map (SV.av ν H)) (hi.map (SV.av ν H)) = some (p, v.av ν H) ∧ p := by
 unfold sslice at h
 split at h <;> try (cases h; done)
 ·rename_i e s1 s2 s3 hT
  split at h <;> try (cases h; done)
  rename_i ei he
  split at h
  ·rename_i o y xs hl
   split at h <;> try (cases h; done)
   rename_i hz
   rw [lview_av hl]
   split at h <;> try (cases h; done)
   ·cases h
    refine Pr.all_t ?_
    obtain ⟨p, h1, h2⟩ := aslice_list (ν := ν) hT he (o := o) (xs := xs) hz (lo := none) (hi := none) (l := 0) (h := (xs.length : Nat)) rfl rfl ⟨by omega, by omega, by omega⟩
    refine ⟨p, ?_, h2⟩
    rw [Option.map_none, h1]
    simp only [SV.av, Int.toNat_natCast, Int.toNat_zero, Nat.zero_mul, List.take_length, List.drop_zero]
   ·rename_i k l
    cases h
    refine Pr.all_g fun hp => ?_
    obtain ⟨p, h1, h2⟩ := aslice_list (ν := ν) hT he (o := o) (xs := xs) hz (lo := some (.lit (.int k l))) (hi := none) (l := l) (h := (xs.length : Nat)) rfl rfl ⟨by omega, by omega, by omega⟩
    refine ⟨p, ?_, h2⟩
    rw [Option.map_none, Option.map_some]
    simp only [SV.av]
    rw [h1]
    simp only [SV.av, Int.toNat_natCast, List.take_length]
   ·rename_i k hh
    cases h
    refine Pr.all_g fun hp => ?_
    obtain ⟨p, h1, h2⟩ := aslice_list (ν := ν) hT he (o := o) (xs := xs) hz (lo := none) (hi := some (.lit (.int k hh))) (l := 0) (h := hh) rfl rfl ⟨by omega, by omega, by omega⟩
    refine ⟨p, ?_, h2⟩
    rw [Option.map_none, Option.map_some]
    simp only [SV.av]
    rw [h1]
    simp only [SV.av, Int.toNat_zero, Nat.zero_mul, List.drop_zero]
   ·rename_i k l k' hh
    cases h
    refine Pr.all_g fun hp => ?_
    obtain ⟨p, h1, h2⟩ := aslice_list (ν := ν) hT he (o := o) (xs := xs) hz (lo := some (.lit (.int k l))) (hi := some (.lit (.int k' hh))) (l := l) (h := hh) rfl rfl hp
    refine ⟨p, ?_, h2⟩
    rw [Option.map_some, Option.map_some]
    simp only [SV.av]
    rw [h1]
  ·split at h <;> try (cases h; done)
   ·split at h <;> try (cases h; done)
    rename_i l hh hl hhh
    cases h
    refine Pr.all_g fun hp => ⟨_, ?_, hp⟩
    simp only [SV.av, aslice, hT, he, sbound_av hl, sbound_av hhh]
   ·split at h <;> try (cases h; done)
    rename_i l hh hl hhh
    cases h
    refine Pr.all_g fun hp => ⟨_, ?_, hp⟩
    simp only [SV.av, aslice, hT, he, sbound_av hl, sbound_av hhh]
   ·split at h <;> try (cases h; done)
    rename_i l hh hl hhh
    split at h <;> try (cases h; done)
    rename_i hz
    cases h
    refine Pr.all_g fun hp => ⟨_, ?_, hp⟩
    simp only [SV.av, aslice, hT, he, sbound_av hl, sbound_av hhh, if_pos hz]
 ·rename_i hT
  split at h <;> try (cases h; done)
  rename_i he
  split at h <;> try (cases h; done)
  rename_i l hh hl hhh
  cases h
  refine Pr.all_g fun hp => ⟨_, ?_, hp⟩
  simp only [SV.av, aslice, hT, he, sbound_av hl, sbound_av hhh]
 ·rename_i hT
  split at h <;> try (cases h; done)
  split at h <;> try (cases h; done)
  rename_i l hh hl hhh
  cases h
  refine Pr.all_g fun hp => ⟨_, ?_, hp⟩
  simp only [SV.av, aslice, hT, sbound_av hl, sbound_av hhh]
theorem lview_one {x : SV} (h : (lview H x).isSome = true) : (x.av ν H).one = true ∧ (x.av ν H).cells = [x.av ν H] ∧ (x.av ν H).laid = true := by
 obtain ⟨⟨o, e, xs⟩, hl⟩ := Option.isSome_iff_exists.1 h
 rw [lview_av hl]
 exact ⟨rfl, rfl, rfl⟩
theorem one_av {x : SV} (h : (x.one || (lview H x).isSome) = true) (hv : x.isVec = false) : (x.av ν H).one = true ∧ (x.av ν H).cells = [x.av ν H] ∧ (x.av ν H).laid = true := by
 rw [Bool.or_eq_true] at h
 rcases h with h | h
 ·cases x <;> simp only [SV.one] at h <;> (try (cases h; done)) <;> (try (cases hv; done)) <;> simp only [SV.av] <;> first
   | exact ⟨rfl, rfl, rfl⟩
   | (rename_i v; exact ⟨h, rfl, h⟩)
   | (split <;> exact ⟨rfl, rfl, rfl⟩)
 ·exact lview_one h
theorem leaves_av {x : SV} {ls : List SV} (h : x.leaves H = some ls) : (x.av ν H).laid = true ∧ (x.av ν H).cells = avs ν H ls := by
 unfold SV.leaves at h
 split at h
 ·split at h <;> try (cases h; done)
  rename_i cs hall
  cases h
  simp only [SV.av, AV.laid, AV.cells, and_true, List.all_eq_true]
  have key : ∀ l : List SV, (∀ x ∈ l, (x.one || (lview H x).isSome) = true) → ∀ y ∈ avs ν H l, y.one = true := by
   intro l
   induction l with
   | nil => intro _ y hy; rw [avs_nil] at hy; cases hy
   | cons x r ih =>
    intro hx y hy
    cases hv : x.isVec with
    | false =>
     rw [avs_one hv] at hy
     rcases List.mem_cons.1 hy with rfl | hy
     ·exact (one_av (hx x (by simp)) hv).1
     ·exact ih (fun z hz => hx z (by simp [hz])) y hy
    | true =>
     cases x <;> first | (simp [SV.isVec] at hv; done) | skip
     rw [avs_vec] at hy
     rcases List.mem_append.1 hy with hy | hy
     ·exact flat_one y hy
     ·exact ih (fun z hz => hx z (by simp [hz])) y hy
  exact key _ (List.all_eq_true.1 hall)
 ·split at h <;> try (cases h; done)
  rename_i hx
  cases h
  simp only [Bool.and_eq_true, Bool.not_eq_true'] at hx
  obtain ⟨h1, h2, h3⟩ := one_av (ν := ν) hx.1 hx.2
  exact ⟨h3, by rw [h2, avs_one hx.2, avs_nil]⟩
theorem splice_part {off n : Nat} {cs a b c ls : List SV} (h : part3 off n cs = some (a, b, c)) (hl : wsum ls = n) : splice off (avs ν H ls) (avs ν H cs) = avs ν H (a ++ ls ++ c) := by
 obtain ⟨e, h1, h2⟩ := part3_some h
 rw [e, avs_append, avs_append, List.append_assoc, splice_append (by rw [avs_length, h1]), splice_all _ _ (by rw [avs_length, avs_length, hl, h2]), avs_append, avs_append, List.append_assoc]
theorem sfill_av {place : Nat → Option (Nat × Nat)} : ∀ {ps : List (Nat × SV)} {cs out : List SV}, sfill H place cs ps = some out → afill place (avs ν H cs) (ps.map fun q => (q.1, q.2.av ν H)) = some (avs ν H out)
 | [], cs, out, h => by simp only [sfill, Option.some.injEq] at h; subst h; rfl
 | (i, x) :: r, cs, out, h => by
  simp only [sfill] at h
  split at h <;> try (cases h; done)
  rename_i off size hpl
  split at h <;> try (cases h; done)
  rename_i ls hls
  split at h <;> try (cases h; done)
  rename_i hw
  split at h <;> try (cases h; done)
  rename_i a b c hp
  obtain ⟨h1, h2⟩ := leaves_av (ν := ν) hls
  simp only [List.map_cons, afill, hpl]
  rw [if_pos ⟨h1, by rw [h2, avs_length]; exact hw, (avs_part (ν := ν) (H := H) hp).2.2⟩, h2, splice_part hp hw]
  exact sfill_av h
theorem avs_lits : ∀ {z : List Value}, avs ν H (z.map .lit) = z.map .lit
 | [] => avs_nil
 | v :: z => by rw [List.map_cons, avs_one rfl, avs_lits, List.map_cons]; simp only [SV.av]
theorem avs_zeros : ∀ {n : Nat} {z : List Value}, avs ν H ((List.replicate n (z.map SV.lit)).flatten) = zeros n z
 | 0, z => by simp [zeros, avs_nil]
 | n + 1, z => by
  rw [List.replicate_succ, List.flatten_cons, avs_append, avs_lits, avs_zeros]
  simp [zeros, List.replicate_succ]
def ZOk (T : Tab) (Z : TypeId → Option (List SV)) : Prop := ∀ t i cs, T t = some i → Z t = some cs → ∀ ν H, avs ν H cs = i.zero.map .lit
theorem szero_av {Z : TypeId → Option (List SV)} (hZ : ZOk T Z) {t : TypeId} {i : TI} (hi : T t = some i) : avs ν H (szero Z t i) = i.zero.map .lit := by
 unfold szero
 split
 ·rename_i cs hc; exact hZ _ _ _ hi hc ν H
 ·exact avs_lits
theorem sbuild_sound {Z : TypeId → Option (List SV)} (hZ : ZOk T Z) {t : TypeId} {ps : List (Nat × SV)} {v : SV} (h : sbuild T Z H t ps = some v) : abuild T t (ps.map fun q => (q.1, q.2.av ν H)) = some (v.av ν H) := by
 unfold sbuild at h
 unfold abuild
 split at h <;> try (cases h; done)
 rename_i i hi
 simp only [hi]
 split at h <;> try (cases h; done)
 ·rename_i fs hd
  simp only [hd]
  split at h <;> try (cases h; done)
  rename_i hf
  rw [if_pos hf]
  simp only [Option.map_eq_some_iff] at h
  obtain ⟨cs, h1, rfl⟩ := h
  have := sfill_av (ν := ν) h1
  rw [szero_av hZ hi, hd] at this
  rw [this]; simp only [Option.map_some, SV.av]
 ·rename_i n e hd
  simp only [hd]
  split at h <;> try (cases h; done)
  rename_i hf
  rw [if_pos hf]
  simp only [Option.map_eq_some_iff] at h
  obtain ⟨cs, h1, rfl⟩ := h
  have := sfill_av (ν := ν) h1
  cases ps with
  | nil =>
   simp only at this
   rw [szero_av hZ hi, hd] at this
   rw [this]; simp only [Option.map_some, SV.av]
  | cons q r =>
   simp only at this
   rw [avs_lits, hd] at this
   rw [this]; simp only [Option.map_some, SV.av]
theorem sbuildSlice_sound {t : TypeId} {n : Nat} {ps : Array (Nat × Operand)} {ρ : Operand → SV} {v : SV} (h : sbuildSlice T H t n (ps.toList.map fun q => (q.1, ρ q.2)) = some v) :
  ∃ p, qop T S (fun x => (ρ x).av ν H) (.buildSlice t n ps) = some (p, v.av ν H) ∧ p := by
 unfold sbuildSlice at h
 split at h <;> try (cases h; done)
 rename_i hT
 split at h <;> try (cases h; done)
 rename_i he
 split at h <;> try (cases h; done)
 rename_i cs hf
 split at h <;> try (cases h; done)
 rename_i hp
 cases h
 have := sfill_av (ν := ν) hf
 rw [avs_zeros, List.map_map] at this
 refine ⟨_, ?_, hp⟩
 simp only [qop, hT, he]
 have h2 : (ps.toList.map fun q => (q.1, (ρ q.2).av ν H)) = ps.toList.map ((fun q => (q.1, q.2.av ν H)) ∘ fun q => (q.1, ρ q.2)) := rfl
 rw [h2, this]
 by_cases h0 : n = 0
 ·simp only [h0, if_true, SV.av]
 ·simp only [h0, if_false, SV.av]
theorem slen_sound {t e : TypeId} {s1 s2 : Nat} {s3 : List Value} (hT : T t = some ⟨.slice e, s1, s2, s3⟩) {x v : SV} (h : slen H x = some v) : ∃ p, abuiltin T .len [t] [x.av ν H] = some (p, v.av ν H) ∧ p := by
 unfold slen at h
 split at h
 ·cases h; exact ⟨True, by simp only [SV.av, abuiltin, hT, alen], trivial⟩
 ·cases h; exact ⟨True, by simp only [SV.av, abuiltin, hT, alen], trivial⟩
 ·cases h; exact ⟨True, by simp only [SV.av, abuiltin, hT, alen], trivial⟩
 ·cases h; exact ⟨True, by simp only [SV.av, abuiltin, hT, alen, avs_length], trivial⟩
 ·split at h <;> try (cases h; done)
  rename_i o e xs hl
  cases h
  refine ⟨True, ?_, trivial⟩
  rw [lview_av hl]
  simp only [SV.av, abuiltin, hT, alen, flat_div]
theorem sbuiltin_sound {b : Builtin} {ts : List TypeId} {xs : List SV} {v : SV} (h : sbuiltin T H b ts xs = some v) : ∃ p, abuiltin T b ts (xs.map (SV.av ν H)) = some (p, v.av ν H) ∧ p := by
 unfold sbuiltin at h
 split at h <;> try (cases h; done)
 ·split at h <;> try (cases h; done)
  ·rename_i hT; exact slen_sound hT h
  ·rename_i hT
   split at h <;> try (cases h; done)
   cases h
   exact ⟨True, by simp only [List.map_cons, List.map_nil, SV.av, abuiltin, hT, alen], trivial⟩
  ·rename_i hT
   cases h
   exact ⟨True, by simp only [List.map_cons, List.map_nil, SV.av, abuiltin, hT], trivial⟩
 ·cases h
  exact ⟨True, by simp only [List.map_cons, List.map_nil, SV.av, abuiltin], trivial⟩
 ·cases h
  exact ⟨True, by simp only [List.map_cons, List.map_nil, SV.av, abuiltin], trivial⟩
def EvOk (ρ : Operand → SV) : Prop := ∀ v, ρ (.const v) = .lit v
theorem opConst_ok {ρ : Operand → SV} (hρ : EvOk ρ) {i : Operand} : ∀ j, opConst i = some j → ∃ k, ρ i = .lit (.int k j) := by
 intro j h
 unfold opConst at h
 split at h <;> try (cases h; done)
 cases h
 exact ⟨_, hρ _⟩
theorem sq_sound {Z : TypeId → Option (List SV)} (hZ : ZOk T Z) (hS : HOk ν H S) {ρ : Operand → SV} (hρ : EvOk ρ) {op : Op} {pr : Pr} (h : sq T Z H ρ op = some pr) :
  pr.all fun v => ∃ p, qop T S (fun x => (ρ x).av ν H) op = some (p, v.av ν H) ∧ p := by
 unfold sq at h
 split at h <;> try (cases h; done)
 ·cases h; exact Pr.all_t ⟨True, rfl, trivial⟩
 ·cases h; exact Pr.all_t ⟨True, rfl, trivial⟩
 ·split at h <;> try (cases h; done)
  rename_i c a b t hc
  cases h
  refine Pr.all_t ⟨True, ?_, trivial⟩
  simp only [qop, aop, hc, SV.av, spick_av]
 ·exact Pr.all_mono (sload_sound hS h) fun v ⟨p, h1, h2⟩ => ⟨p, by simp only [qop, aop]; exact h1, h2⟩
 ·rename_i x
  split at h <;> (try (cases h; done)) <;> rename_i hx <;> cases h <;> refine Pr.all_t ⟨True, ?_, trivial⟩ <;> simp only [qop, aop, hx, SV.av, vptr]
 ·exact Pr.all_mono (sbin_sound (ν := ν) h) fun v ⟨p, h1, h2⟩ => ⟨p, by simp only [qop, aop]; exact h1, h2⟩
 ·exact Pr.all_mono (sun_sound (ν := ν) (H := H) h) fun v ⟨p, h1, h2⟩ => ⟨p, by simp only [qop, aop]; exact h1, h2⟩
 ·exact Pr.all_mono (sconv_sound (ν := ν) h) fun v ⟨p, h1, h2⟩ => ⟨p, by simp only [qop]; exact h1, h2⟩
 ·rename_i t x
  split at h <;> try (cases h; done)
  rename_i i hi hT
  cases h
  refine Pr.all_t ⟨True, ?_, trivial⟩
  simp only [qop, aop, SV.av]
  rw [hT]
  obtain ⟨dd, s1, s2, s3⟩ := i
  cases dd <;> first | rfl | exact absurd rfl (hi _ _ _)
 ·cases h
  refine Pr.all_t ⟨True, ?_, trivial⟩
  simp only [qop, aop, SV.av, avl_map, List.map_map]; rfl
 ·simp only [Option.map_eq_some_iff] at h
  obtain ⟨v, h1, rfl⟩ := h
  refine Pr.all_t ⟨True, ?_, trivial⟩
  simp only [qop, aop, sfieldAddr_sound h1, Option.map_some]
 ·simp only [Option.map_eq_some_iff] at h
  obtain ⟨v, h1, rfl⟩ := h
  obtain ⟨p, h2, h3⟩ := sfield_sound (ν := ν) (H := H) h1
  exact Pr.all_t ⟨p, by simp only [qop, aop]; exact h2, h3⟩
 ·exact Pr.all_mono (sindexAddr_sound (ν := ν) (opConst_ok hρ) h) fun v ⟨p, h1, h2⟩ => ⟨p, by simp only [qop, aop]; exact h1, h2⟩
 ·exact Pr.all_mono (sindex_sound (ν := ν) (H := H) (opConst_ok hρ) h) fun v ⟨p, h1, h2⟩ => ⟨p, by simp only [qop, aop]; exact h1, h2⟩
 ·rename_i t x lo hi
  refine Pr.all_mono (sslice_sound (ν := ν) h) fun v ⟨p, h1, h2⟩ => ⟨p, ?_, h2⟩
  simp only [qop, aop]
  rw [Option.map_map, Option.map_map] at h1; exact h1
 ·rename_i x i
  split at h <;> try (cases h; done)
  rename_i vs hx
  split at h <;> try (cases h; done)
  rename_i v hv
  cases h
  refine Pr.all_t ⟨True, ?_, trivial⟩
  simp only [qop, aop, hx, SV.av, avl_map, List.getElem?_map, hv, Option.map_some]
 ·simp only [Option.map_eq_some_iff] at h
  obtain ⟨v, h1, rfl⟩ := h
  have := sbuild_sound (ν := ν) hZ h1
  rw [List.map_map] at this
  refine Pr.all_t ⟨True, ?_, trivial⟩
  simp only [qop, aop]
  have h2 : ∀ ps : Array (Nat × Operand), (ps.toList.map fun q => (q.1, (ρ q.2).av ν H)) = ps.toList.map ((fun q => (q.1, q.2.av ν H)) ∘ fun q => (q.1, ρ q.2)) := fun _ => rfl
  rw [h2, this]; rfl
 ·simp only [Option.map_eq_some_iff] at h
  obtain ⟨v, h1, rfl⟩ := h
  exact Pr.all_t (sbuildSlice_sound h1)
 ·simp only [Option.map_eq_some_iff] at h
  obtain ⟨v, h1, rfl⟩ := h
  obtain ⟨p, h2, h3⟩ := sbuiltin_sound (ν := ν) h1
  refine Pr.all_t ⟨p, ?_, h3⟩
  simp only [qop, aop]
  rw [List.map_map] at h2; exact h2
end
end Go.Al
