import Derived.Test.YtolfnhebnennpaaAmG
set_option linter.unusedSimpArgs false
set_option linter.unusedVariables false
namespace Go.Al
open Go Go.RowKit
section
variable {P : Program} {pr : List (Id × Name)} {df : Nat} {S0 : AHeap} {F : Fr} {st st' : SS} {ν : Nm} {d : Nat}
theorem heap_none (hok : Okk pr df S0 F st ν d) : heapOf ν F st S0 (d, st.nx) = none := by
 unfold heapOf
 rw [hp_miss (f := fun o => o.ob ν (st.H F)) (fun a ha => hok.fr a ha st.nx (Nat.le_refl _))]
 exact hok.none _ hok.low
theorem new_unt {o : SObj} {id : Id} (hok : Okk pr df S0 F st ν d) (h : st.new F o = some (id, st')) {tl : List Id} : Unt ν F S0 tl st st' := by
 obtain ⟨-, -, -, -, -, hh, -⟩ := new_ok hok h
 refine ⟨fun x hx _ => ?_, fun n len hn => ?_⟩
 ·rw [hh]; simp only [AHeap.set]; rw [if_neg (hok.fr x hx _ (Nat.le_refl _))]
 ·refine ⟨len, ?_⟩
  rw [hh]; simp only [AHeap.set]
  rw [if_neg]; · exact hn
  rintro rfl; rw [heap_none hok] at hn; cases hn
theorem upd_old {m : Id} {o : SObj} (h : st.upd F m o = some st') : ∃ q, hget st.hp m = some q ∧ (q.isTip = false ∧ q.isOb = false) ∧ o.isTip = false := by
 unfold SS.upd at h
 split at h <;> try (cases h; done)
 rename_i q hq
 split at h
 ·cases h
 rename_i hc
 simp only [Bool.or_eq_true, not_or, Bool.not_eq_true] at hc
 exact ⟨q, hq, hc.1.1, hc.1.2⟩
theorem hgetH {m : Id} {q : SObj} (h : hget st.hp m = some q) : hget (st.H F) m = some q := by rw [SS.H, hget_append, h]
theorem upd_unt {m : Id} {o : SObj} (hok : Okk pr df S0 F st ν d) (h : st.upd F m o = some st') : Unt ν F S0 [m] st st' := by
 obtain ⟨-, -, -, hh, -⟩ := upd_ok hok h
 obtain ⟨q, hq, h1, h2⟩ := upd_old h
 have hq' := hgetH (F := F) hq
 have hm := hget_mem hq'
 have hold := hok.hok m q hq'
 refine ⟨fun x hx hn => ?_, fun n len hn => ?_⟩
 ·rw [hh]; simp only [AHeap.set]
  rw [if_neg]
  intro e
  exact hn (by simp [hok.inj x hx m hm e])
 ·refine ⟨len, ?_⟩
  rw [hh]; simp only [AHeap.set]
  rw [if_neg]; · exact hn
  rintro rfl; rw [hold] at hn
  cases q <;> simp [SObj.isTip, SObj.isOb, SObj.ob] at h1 hn
theorem grow_unt {m : Id} {e : Ty} {xs : List e.den} (hok : Okk pr df S0 F st ν d) (h : st.grow F m e xs = some st') : Unt ν F S0 [m] st st' := by
 obtain ⟨-, -, hh, -, ⟨pm, hg1, ys, hg2⟩, -⟩ := grow_ok hok h
 have hm := hget_mem hg2
 refine ⟨fun x hx hn => ?_, fun n len hn => ?_⟩
 ·rw [hh]; simp only [AHeap.set]
  rw [if_neg]
  intro e
  exact hn (by simp [hok.inj x hx m hm e])
 ·by_cases e : n = ν m
  ·exact ⟨_, by rw [hh]; simp only [AHeap.set]; rw [if_pos e]; rfl⟩
  ·exact ⟨len, by rw [hh]; simp only [AHeap.set]; rw [if_neg e]; exact hn⟩
theorem vset_flat {e : Ty} {n : Nat} {v : Vector e.den (n + 1)} {j : Nat} {y : e.den} : flat e.lay (vset v j y).toList = flat e.lay (v.toList.set j y) := by rw [vset_toList]
theorem splice_at {α : Type} {L : Lay α} {as bs : List AV} {xs : List α} {j : Nat} {y : α} (hj : j < xs.length) : splice (as.length + j * L.sz) (L.cells y) (as ++ flat L xs ++ bs) = as ++ flat L (xs.set j y) ++ bs := by
 have h1 : xs = xs.take j ++ (xs.drop j).take 1 ++ xs.drop (j + 1) := by
  rw [← List.drop_drop, List.append_assoc, List.take_append_drop, List.take_append_drop]
 have hl : (xs.take j).length = j := by rw [List.length_take]; omega
 have h2 : (xs.drop j).take 1 = [xs[j]] := by
  rw [List.drop_eq_getElem_cons hj]; rfl
 have h3 : xs.set j y = xs.take j ++ [y] ++ xs.drop (j + 1) := by
  rw [List.set_eq_take_append_cons_drop, if_pos hj]; simp
 conv => lhs; rw [h1, h2]
 have e1 : as ++ flat L (xs.take j ++ [xs[j]] ++ xs.drop (j + 1)) ++ bs = (as ++ flat L (xs.take j)) ++ (L.cells xs[j] ++ (flat L (xs.drop (j + 1)) ++ bs)) := by
  rw [flat_append, flat_append, flat_cons, flat_nil]; simp [List.append_assoc]
 rw [e1, splice_append (by rw [List.length_append, flat_length, hl]), splice_all _ _ (by rw [L.len, L.len]), h3, flat_append, flat_append, flat_cons, flat_nil]
 simp [List.append_assoc]
theorem append1_nilB {T : Tab} {S : AHeap} {c : Nat} {kv : AV → AHeap → Nat → Prop} {α : Type} {L : Lay α} {ys : List α} {t tx : TypeId} {e : TypeId} {s1 s2 : Nat} {s3 : List Value} {tix ei : TI} {x : AV} {p : Prop} {cs : List AV} (ht : T t = some ⟨.slice e, s1, s2, s3⟩) (htx : T tx = some tix) (hei : T e = some ei) (hk : tix.d = .slice e ∨ tix.d = .string) (hsz : ei.size = L.sz)
  (hs : asrc S L.sz x = some (p, cs)) (hp : p) (hc : cs = flat L ys) (hb : ys.length * ei.bytes ≤ 2 ^ 47 ∧ ys.length < 2 ^ 63)
  (h : kv (eB L (d, c) ys) (S.set (d, c) (oT L ys)) (c + 1)) : append1 T d t tx (.lit (.slice none 0 0)) x S c (k := ⟨kv⟩) := by
 subst hc
 unfold append1
 simp only [ht, htx, hei, hsz, hs, flat_div]
 refine .inr ⟨hk, L.pos, hp, flat_one, hb.1, hb.2, ?_⟩
 have e1 : (flat L ys).length = ys.length * L.sz := flat_length
 rw [e1]; exact h
theorem seff_sound {E : Env P} (hE : EnvOk E) (hΦ : ν.fn = E.Φ) (hok : Okk pr df S0 F st ν d) {A : Type} {op : Op} {k : SV → SS → Option A} {r : A} {kv : AV → AHeap → Nat → Prop} {kp : AV → AHeap → Prop} (h : seff E F op st k = some r)
  (hk2 : ∀ ν' v st', Nx ν ν' F st → Okk pr df S0 F st' ν' d → k v st' = some r → Same2 ν ν' F st st' → Unt2 ν ν' F S0 (stouch E F op st) st st' → kv (v.av ν' (st'.H F)) (heapOf ν' F st' S0) st'.nx) :
  lopv P E.T d op (fun x => (st.ev F x).av ν (st.H F)) (heapOf ν F st S0) st.nx kv kp := by
 have hk : ∀ v st', Okk pr df S0 F st' ν d → k v st' = some r → Same ν F st st' → Unt ν F S0 (stouch E F op st) st st' → kv (v.av ν (st'.H F)) (heapOf ν F st' S0) st'.nx := fun v st' a1 a2 a3 a4 => hk2 ν v st' .refl a1 a2 a3 a4
 have hS := hok.hok
 unfold seff at h
 simp only at h
 split at h <;> try (cases h; done)
 ·-- box
  rename_i t x
  split at h <;> try (cases h; done)
  rename_i ls hls
  split at h <;> try (cases h; done)
  rename_i id st1 hn
  obtain ⟨rfl, h1, h2, h3, h4, h5, h6, h7, h8⟩ := new_ok hok hn
  obtain ⟨g1, g2⟩ := leaves_av (ν := ν) hls
  have := hk _ _ h4 h h6 (new_unt hok hn)
  rw [h5, h2] at this
  simp only [SV.av, h1, SObj.ob] at this
  exact ⟨g1, by rw [g2]; exact this⟩
 ·-- alloc
  rename_i t
  split at h <;> try (cases h; done)
  rename_i i hi
  split at h <;> try (cases h; done)
  rename_i id st1 hn
  obtain ⟨rfl, h1, h2, h3, h4, h5, h6, h7, h8⟩ := new_ok hok hn
  have := hk _ _ h4 h h6 (new_unt hok hn)
  rw [h5, h2] at this
  simp only [SV.av, h1, SObj.ob, szero_av hE.Z hi] at this
  simp only [lopv, hi]; exact this
 ·-- store
  rename_i t a x
  split at h <;> try (cases h; done)
  ·rename_i m o i ha hi
   split at h <;> try (cases h; done)
   rename_i cs hm
   split at h <;> try (cases h; done)
   rename_i ls hls
   split at h <;> try (cases h; done)
   rename_i hw
   split at h <;> try (cases h; done)
   rename_i a1 b1 c1 hp
   split at h <;> try (cases h; done)
   rename_i st1 hu
   obtain ⟨h1, h2, h3, h4, h5, h6, h7⟩ := upd_ok hok hu
   obtain ⟨g1, g2⟩ := leaves_av (ν := ν) hls
   have htl : stouch E F (.store t a x) st = [m] := by simp only [stouch, ha]
   have := hk _ _ h1 h h5 (by rw [htl]; exact upd_unt hok hu)
   rw [h4, h2] at this
   simp only [SV.av, SObj.ob] at this
   simp only [lopv, ha, SV.av, hi, hS _ _ (hgetH hm), SObj.ob]
   refine ⟨g1, by rw [g2, avs_length]; exact hw, ?_, ?_⟩
   ·rw [g2, avs_length, hw]; exact (avs_part (ν := ν) (H := st.H F) hp).2.2
   ·rw [g2, splice_part hp hw]; exact this
  ·rename_i m o j s i ha hi
   have htl : stouch E F (.store t a x) st = [m] := by simp only [stouch, ha]
   split at h <;> try (cases h; done)
   rename_i ls hls
   obtain ⟨g1, g2⟩ := leaves_av (ν := ν) hls
   split at h <;> try (cases h; done)
   ·rename_i cs hm
    split at h <;> try (cases h; done)
    rename_i a1 n e v rr hc
    split at h <;> try (cases h; done)
    rename_i hz
    split at h <;> try (cases h; done)
    rename_i y hpk
    obtain ⟨hj, h⟩ := gdd_some h
    split at h <;> try (cases h; done)
    rename_i st1 hu
    obtain ⟨u, hu1, hu2⟩ := Ty.pkx_eq (ν := ν) hpk
    rw [List.append_nil] at hu1; subst hu1
    obtain ⟨h1, h2, h3, h4, h5, h6, h7⟩ := upd_ok hok hu
    have := hk _ _ h1 h h5 (by rw [htl]; exact upd_unt hok hu)
    rw [h4, h2] at this
    simp only [SV.av, SObj.ob] at this
    obtain ⟨e1, e2⟩ := cutAt_some hc
    have hla : (avs ν (st.H F) a1).length = o := by rw [avs_length, e2]
    simp only [lopv, ha, SV.av, vptr, hi, hS _ _ (hgetH hm), SObj.ob]
    have hcs : avs ν (st.H F) cs = avs ν (st.H F) a1 ++ flat e.lay v.toList ++ avs ν (st.H F) rr := by rw [e1, avs_append, avs_vec, List.append_assoc]
    refine ⟨g1, by rw [g2, hu2, Lay.len, e.lay_sz, hz.1, hz.2], ?_, ?_⟩
    ·rw [g2, hu2, Lay.len, e.lay_sz, hz.1, hcs, List.length_append, List.length_append, hla, flat_length, Vector.length_toList, e.lay_sz, hz.1]
     have : (j + 1) * s ≤ (n + 1) * s := Nat.mul_le_mul_right _ hj
     rw [Nat.succ_mul] at this; omega
    ·rw [g2, hu2, hcs]
     have hsp := splice_at (L := e.lay) (as := avs ν (st.H F) a1) (bs := avs ν (st.H F) rr) (xs := v.toList) (j := j) (y := y) (by rw [Vector.length_toList]; exact hj)
     rw [hla, e.lay_sz, hz.1] at hsp
     rw [hsp]
     rw [avs_append, avs_vec, vset_flat] at this
     rw [List.append_assoc]; exact this
   ·rename_i e xs hm
    split at h <;> try (cases h; done)
    rename_i hz
    split at h <;> try (cases h; done)
    rename_i y hpk
    obtain ⟨hj, h⟩ := gdd_some h
    split at h <;> try (cases h; done)
    rename_i st1 hu
    obtain ⟨u, hu1, hu2⟩ := Ty.pkx_eq (ν := ν) hpk
    rw [List.append_nil] at hu1; subst hu1
    obtain ⟨h1, h2, h3, h4, h5, h6, h7⟩ := upd_ok hok hu
    have := hk _ _ h1 h h5 (by rw [htl]; exact upd_unt hok hu)
    rw [h4, h2] at this
    simp only [SV.av, SObj.ob] at this
    simp only [lopv, ha, SV.av, vptr, hi, hS _ _ (hgetH hm), SObj.ob]
    obtain ⟨hz0, hz1, hz2⟩ := hz
    subst hz0
    refine ⟨g1, by rw [g2, hu2, Lay.len, e.lay_sz, hz1, hz2], ?_, ?_⟩
    ·rw [g2, hu2, Lay.len, e.lay_sz, hz1, flat_length, e.lay_sz, hz1]
     have : (j + 1) * s ≤ xs.length * s := Nat.mul_le_mul_right _ hj
     rw [Nat.succ_mul] at this; omega
    ·rw [g2, hu2]
     have hsp := splice_at (L := e.lay) (as := []) (bs := []) (xs := xs) (j := j) (y := y) hj
     simp only [List.length_nil, List.nil_append, List.append_nil, e.lay_sz, hz1] at hsp
     rw [hsp]; exact this
 ·-- a new slice
  rename_i t ln cp
  split at h <;> try (cases h; done)
  rename_i te s1 s2 s3 hT
  split at h <;> try (cases h; done)
  rename_i ei y hei hy
  obtain ⟨hys, hyz⟩ := hE.Y _ _ _ hy hei
  split at h <;> try (cases h; done)
  ·rename_i z km m hoc hcp
   obtain ⟨kz, hln⟩ : ∃ kz, ln = .const (.int kz z) := by
    unfold opConst at hoc; split at hoc <;> (try (cases hoc; done)); cases hoc; exact ⟨_, rfl⟩
   subst hln
   split at h
   ·rename_i hz
    obtain ⟨hg, h⟩ := gdd_some h
    split at h <;> try (cases h; done)
    rename_i id st1 hn
    obtain ⟨rfl, h1, h2, h3, h4, h5, h6, h7, h8⟩ := new_ok hok hn
    have := hk _ _ h4 h h6 (new_unt hok hn)
    rw [h5, h2] at this
    simp only [SV.av, curAV, hgetH h7, eT, h1, SObj.ob, oT, List.length_nil, Nat.zero_mul, flat_nil] at this
    simp only [lopv, hT, hcp, SV.av, hei, if_pos hz]
    refine ⟨by rw [← hys, ← y.lay_sz]; exact y.lay.pos, hg.1, hg.2.1, hg.2.2, ?_⟩
    rw [← hys, ← y.lay_sz]; exact this
   ·rename_i hz
    split at h <;> try (cases h; done)
    rename_i hex
    obtain ⟨hg, h⟩ := gdd_some h
    split at h <;> try (cases h; done)
    rename_i id st1 hn
    obtain ⟨rfl, h1, h2, h3, h4, h5, h6, h7, h8⟩ := new_ok hok hn
    have := hk _ _ h4 h h6 (new_unt hok hn)
    rw [h5, h2] at this
    have hzl : zeros z.toNat ei.zero = flat y.lay (List.replicate z.toNat y.dflt) := by
     simp only [zeros, flat, List.flatMap_replicate, hyz hex]
    simp only [SV.av, h1, SObj.ob] at this
    simp only [lopv, hT, hcp, SV.av, hei, if_neg hz]
    refine ⟨by rw [← hys, ← y.lay_sz]; exact y.lay.pos, hg.1, hg.2.1, hg.2.2.1, hg.2.2.2, ?_⟩
    rw [hzl, ← hys]; exact this
  ·rename_i kl l km m hoc hln hcp
   split at h <;> try (cases h; done)
   rename_i hex
   obtain ⟨hg, h⟩ := gdd_some h
   split at h <;> try (cases h; done)
   rename_i id st1 hn
   obtain ⟨rfl, h1, h2, h3, h4, h5, h6, h7, h8⟩ := new_ok hok hn
   have := hk _ _ h4 h h6 (new_unt hok hn)
   rw [h5, h2] at this
   have hzl : zeros l.toNat ei.zero = flat y.lay (List.replicate l.toNat y.dflt) := by
    simp only [zeros, flat, List.flatMap_replicate, hyz hex]
   simp only [SV.av, h1, SObj.ob] at this
   have hgoal : ∀ (ρ : Operand → AV), ρ ln = .lit (.int kl l) → ρ cp = .lit (.int km m) → lopv P E.T d (.makeSlice t ln cp) ρ (heapOf ν F st S0) st.nx kv kp := by
    intro ρ e1 e2
    have hpos : 0 < ei.size := by rw [← hys, ← y.lay_sz]; exact y.lay.pos
    cases ln with
    | const v =>
     cases v <;> first | (simp [opConst] at hoc; done) | skip
     all_goals
      simp only [lopv, hT, hei, e1, e2]
      refine ⟨hpos, hg.1, hg.2.1, hg.2.2.1, hg.2.2.2, ?_⟩
      rw [hzl, ← hys]; exact this
    | tmp i =>
     simp only [lopv, hT, hei, e1, e2]
     refine ⟨hpos, hg.1, hg.2.1, hg.2.2.1, hg.2.2.2, ?_⟩
     rw [hzl, ← hys]; exact this
    | func f =>
     simp only [lopv, hT, hei, e1, e2]
     refine ⟨hpos, hg.1, hg.2.1, hg.2.2.1, hg.2.2.2, ?_⟩
     rw [hzl, ← hys]; exact this
    | global f =>
     simp only [lopv, hT, hei, e1, e2]
     refine ⟨hpos, hg.1, hg.2.1, hg.2.2.1, hg.2.2.2, ?_⟩
     rw [hzl, ← hys]; exact this
   exact hgoal _ (by rw [hln]; simp only [SV.av]) (by rw [hcp]; simp only [SV.av])
 ·-- append
  rename_i args ts
  split at h <;> try (cases h; done)
  rename_i sa xa ta txa hargs hts
  have hA : args = #[sa, xa] := by apply Array.ext'; exact hargs
  have hTs : ts = #[ta, txa] := by apply Array.ext'; exact hts
  subst hA hTs
  split at h <;> try (cases h; done)
  rename_i te s1 s2 s3 tix hT htx
  split at h <;> try (cases h; done)
  rename_i ei e hei hy
  split at h <;> try (cases h; done)
  rename_i hk'
  obtain ⟨hkd, hes⟩ := hk'
  have hsz : ei.size = e.lay.sz := by rw [e.lay_sz]; exact hes.symm
  split at h <;> try (cases h; done)
  rename_i ys hys
  rw [lopv_append]
  split at h <;> try (cases h; done)
  ·rename_i m hs
   have htl : stouch E F (.call ⟨.builtin .append, #[sa, xa], #[ta, txa]⟩) st = [m] := by simp only [stouch, hs]
   split at h <;> try (cases h; done)
   rename_i pm e' xs hm
   split at h <;> try (cases h; done)
   rename_i he
   subst he
   obtain ⟨hg, h⟩ := gdd_some h
   obtain ⟨hsrc, h⟩ := sgd_some h
   split at h <;> try (cases h; done)
   rename_i st1 hgr
   obtain ⟨h1, h2, h3, h4, ⟨pm', h5, xs0, h6⟩, h7⟩ := grow_ok hok hgr
   have := hk _ _ h1 h h4 (by rw [htl]; exact grow_unt hok hgr)
   rw [hgetH hm] at h6
   cases h6
   rw [h3, h2] at this
   obtain ⟨p, hp1, hp2⟩ := ssrc_av hS hys hsrc
   have hSm := hS _ _ (hgetH hm)
   simp only [SObj.ob] at hSm
   rw [hs]
   cases pm with
   | true =>
    simp only [SV.av, curAV, h5] at this
    simp only [SV.av, curAV, hgetH hm]
    exact append1_eT hT htx hei hkd hsz hSm hp1 hp2 rfl hg this
   | false =>
    simp only [SV.av, curAV, h5] at this
    simp only [SV.av, curAV, hgetH hm]
    exact append1_eB hT htx hei hkd hsz hSm hp1 hp2 rfl hg this
  ·rename_i hs
   obtain ⟨hg, h⟩ := gdd_some h
   obtain ⟨hsrc, h⟩ := sgd_some h
   split at h <;> try (cases h; done)
   rename_i id st1 hn
   obtain ⟨rfl, h1, h2, h3, h4, h5, h6, h7, h8⟩ := new_ok hok hn
   have := hk _ _ h4 h h6 (new_unt hok hn)
   rw [h5, h2] at this
   simp only [SV.av, curAV, hgetH h7, h1, SObj.ob] at this
   obtain ⟨p, hp1, hp2⟩ := ssrc_av hS hys hsrc
   rw [hs]
   simp only [SV.av]
   exact append1_nilB hT htx hei hkd hsz hp1 hp2 rfl hg this
  ·rename_i hs
   obtain ⟨hg, h⟩ := gdd_some h
   obtain ⟨hsrc, h⟩ := sgd_some h
   split at h <;> try (cases h; done)
   rename_i id st1 hn
   obtain ⟨rfl, h1, h2, h3, h4, h5, h6, h7, h8⟩ := new_ok hok hn
   have := hk _ _ h4 h h6 (new_unt hok hn)
   rw [h5, h2] at this
   obtain ⟨p, hp1, hp2⟩ := ssrc_av hS hys hsrc
   rw [hs]
   simp only [SV.av]
   cases he : E.eb with
   | false =>
    rw [he] at h7 this
    simp only [SV.av, curAV, hgetH h7, h1, SObj.ob] at this
    exact append1_new hT htx hei hkd hsz hp1 hp2 rfl hg this
   | true =>
    rw [he] at h7 this
    simp only [SV.av, curAV, hgetH h7, h1, SObj.ob] at this
    exact append1_newB hT htx hei hkd hsz hp1 hp2 rfl hg this
 ·-- copy
  rename_i args ts
  split at h <;> try (cases h; done)
  rename_i da xa ta txa hargs hts
  have hA : args = #[da, xa] := by apply Array.ext'; exact hargs
  have hTs : ts = #[ta, txa] := by apply Array.ext'; exact hts
  subst hA hTs
  split at h <;> try (cases h; done)
  rename_i te s1 s2 s3 tix hT htx
  split at h <;> try (cases h; done)
  rename_i ei e m sz o len cap hei hy hd
  split at h <;> try (cases h; done)
  rename_i hc
  obtain ⟨hkd, hes, hei1, hsz⟩ := hc
  subst hsz
  split at h <;> try (cases h; done)
  rename_i ys xs hys hxs
  obtain ⟨hg, h⟩ := gdd_some h
  obtain ⟨hsrc, h⟩ := sgd_some h
  split at h <;> try (cases h; done)
  rename_i ob hob
  split at h <;> try (cases h; done)
  rename_i st1 hu
  have htl : stouch E F (.call ⟨.builtin .copy, #[da, xa], #[ta, txa]⟩) st = [m] := by simp only [stouch, hd]
  obtain ⟨h1, h2, h3, h4, h5, h6, h7⟩ := upd_ok hok hu
  have := hk _ _ h1 h h5 (by rw [htl]; exact upd_unt hok hu)
  rw [h4, h2] at this
  obtain ⟨p, hp1, hp2⟩ := ssrc_av hS hys hsrc
  have hl1 : e.lay.sz = 1 := by rw [e.lay_sz]; exact hes
  rw [hl1] at hp1
  have hbox : heapOf ν F st S0 (ν m) = some (.box (flat e.lay xs)) ∧ ob.ob ν (st.H F) = .box (flat e.lay (spl o (ys.take len) xs)) := by
   unfold sdst at hxs
   unfold sdstObj at hob
   split at hxs <;> try (cases hxs; done)
   ·rename_i e' xs' hm
    split at hxs <;> try (cases hxs; done)
    rename_i he
    subst he
    cases hxs
    rw [hm] at hob
    cases hob
    exact ⟨hS _ _ (hgetH hm), rfl⟩
   ·rename_i n e' v hm
    split at hxs <;> try (cases hxs; done)
    rename_i he
    subst he
    cases hxs
    rw [hm] at hob
    simp only at hob
    cases hob
    have hl : (spl o (ys.take len) v.toList).length = n + 1 := by
     have h1 : v.toList.length = n + 1 := by simp
     simp only [spl, List.length_append, List.length_take, List.length_drop]
     have hg' : o + len ≤ v.toList.length := hg
     omega
    refine ⟨?_, ?_⟩
    ·rw [hS _ _ (hgetH hm)]; simp only [SObj.ob, avs_vec, avs_nil, List.append_nil]
    ·simp only [SObj.ob, avs_vec, avs_nil, List.append_nil]
     rw [vofl_toList hl]
  rw [hbox.2] at this
  rw [lopv_copy]
  simp only [copy1, hT, htx, hei, hd, SV.av, hbox.1, hp1]
  refine ⟨hkd, hei1, hp2, flat_one, by rw [flat_length, hl1]; omega, ?_⟩
  have hlen : (flat e.lay ys).length / 1 = ys.length := by rw [flat_length, hl1]; simp
  have htk : (flat e.lay ys).take (len * 1) = flat e.lay (ys.take len) := by
   have := flat_take (L := e.lay) (xs := ys) len
   rwa [hl1] at this
  rw [hlen, htk, flat_spl (by rw [List.length_take]; omega) hl1]
  simp only [SV.av] at this
  exact this
 ·-- call
  rename_i f args tys
  split at h <;> try (cases h; done)
  ·rename_i g first cap hf
   split at h <;> try (cases h; done)
   rename_i C hC
   have htl : stouch E F (.call ⟨.value f, args, tys⟩) st = C.touch (st.H F) (first ++ args.toList.map (st.ev F) ++ cap) := by simp only [stouch, hf, hC]
   have := C.ok (kv := kv) (kp := kp) hΦ hok h (fun ν' v st' a0 a1 a2 a3 a4 => hk2 ν' v st' a0 a1 a2 a3 (by rw [htl]; exact a4))
   simp only [lopv, hf, SV.av]
   have e1 : (avl ν (st.H F) first ++ (args.toList.map fun x => (st.ev F x).av ν (st.H F)) ++ avl ν (st.H F) cap) = id (avl ν (st.H F) (first ++ args.toList.map (st.ev F) ++ cap)) := by
    simp only [avl_map, List.map_append, List.map_map, id]; rfl
   rw [e1]; exact this
  ·rename_i i hf
   split at h <;> try (cases h; done)
   rename_i C hC
   have htl : stouch E F (.call ⟨.value f, args, tys⟩) st = C.touch (st.H F) (args.toList.map (st.ev F)) := by simp only [stouch, hf, hC]
   have := C.ok (kv := kv) (kp := kp) hΦ hok h (fun ν' v st' a0 a1 a2 a3 a4 => hk2 ν' v st' a0 a1 a2 a3 (by rw [htl]; exact a4))
   simp only [lopv, hf, SV.av]
   have e1 : ((ν.fn i).2.1 ++ (args.toList.map fun x => (st.ev F x).av ν (st.H F)) ++ (ν.fn i).2.2) = (E.Φ i).2.1 ++ avl ν (st.H F) (args.toList.map (st.ev F)) ++ (E.Φ i).2.2 := by
    rw [hΦ]; simp only [avl_map, List.map_map]; rfl
   rw [e1]
   have hg : (ν.fn i).1 = (E.Φ i).1 := by rw [hΦ]
   rw [hg]; exact this
end
end Go.Al
