import Derived.Test.YtolfnhebnennpaaAmK
set_option linter.unusedSimpArgs false
set_option linter.unusedVariables false
namespace Go.Al
open Go Go.RowKit
def ucl (m : Id) (q : Nat) (p : Nat × SV) : Nat × SV :=
 if p.1 = q then (p.1, .any) else match p.2 with
  | .cur m' => if ieq m' m then p else p
  | v => if v.mi (fun x => !ieq x m) (fun x => !ieq x m) then p else (p.1, .any)
def isC1 (T : Tab) (t : TypeId) : Bool := match T t with
 | some i => decide (i.size = 1)
 | none => false
def isSl1 (T : Tab) (t : TypeId) : Bool := match T t with
 | some ⟨.slice te, _, _, _⟩ => isC1 T te
 | _ => false
def supd {P : Program} (E : Env P) (F : Fr) (u : UOp) {A : Type} (st : SS) (k : SS → Option A) : Option A :=
 match st.at F u.s with
 | .cur m => match hget st.hp m with
  | some (.tip false (.int k0) xs) => match st.ev F u.i, st.ev F u.x with
   | .lit (.int _ j), .lit (.int k' n) =>
    if k' = k0 ∧ inIds F.pr m = false ∧ inIds (SHp.ids F.hp) m = false ∧ inSl F.sl u.q = false ∧ isSl1 E.T u.ti = true ∧ isC1 E.T u.tv = true ∧
      F.sl.all (fun p => p.2.mi (fun x => !ieq x m) (fun x => !ieq x m)) = true ∧ (st.hp ++ F.hp).all (fun p => ieq p.1 m || p.2.mi (fun x => !ieq x m) (fun x => !ieq x m)) = true then
     gdd (0 ≤ j ∧ j.toNat < xs.length) fun _ => k ⟨st.sl.map (ucl m u.q), hupd st.hp m (.tip false (.int k0) (xs.set j.toNat n)), st.nx + 1⟩
    else none
   | _, _ => none
  | _ => none
 | _ => none
theorem isC1_ok {T : Tab} {t : TypeId} (h : isC1 T t = true) : ∃ i, T t = some i ∧ i.size = 1 := by
 unfold isC1 at h
 split at h
 ·rename_i i hi; exact ⟨i, hi, of_decide_eq_true h⟩
 ·cases h
theorem isSl1_ok {T : Tab} {t : TypeId} (h : isSl1 T t = true) : ∃ te i1 i2 i3 ei, T t = some ⟨.slice te, i1, i2, i3⟩ ∧ T te = some ei ∧ ei.size = 1 := by
 unfold isSl1 at h
 split at h
 ·rename_i te i1 i2 i3 ht
  obtain ⟨ei, h1, h2⟩ := isC1_ok h
  exact ⟨te, i1, i2, i3, ei, ht, h1, h2⟩
 ·cases h
theorem lget_ucl {m : Id} {q t : Nat} {l : List (Nat × SV)} : lget (l.map (ucl m q)) t = .any ∨ (t ≠ q ∧ lget (l.map (ucl m q)) t = lget l t ∧ ((∃ m', lget l t = .cur m') ∨ (lget l t).mi (fun x => !ieq x m) (fun x => !ieq x m) = true)) := by
 induction l with
 | nil => exact .inl rfl
 | cons p r ih =>
  obtain ⟨j, v⟩ := p
  have hk : (ucl m q (j, v)).1 = j := by
   unfold ucl
   split
   ·rfl
   ·split <;> split <;> rfl
  have hl : lget ((ucl m q (j, v)) :: r.map (ucl m q)) t = if t = j then (ucl m q (j, v)).2 else lget (r.map (ucl m q)) t := by
   rcases hu : ucl m q (j, v) with ⟨a, b⟩
   rw [hu] at hk
   simp only at hk
   subst hk
   simp only [lget]
  rw [List.map_cons, hl]
  simp only [lget]
  by_cases e : t = j
  ·rw [if_pos e, if_pos e]
   unfold ucl
   by_cases eq : j = q
   ·rw [if_pos eq]; exact .inl rfl
   ·rw [if_neg eq]
    split
    ·rename_i m' hv
     simp only at hv
     subst hv
     right
     refine ⟨by rw [e]; exact eq, by split <;> rfl, .inl ⟨m', rfl⟩⟩
    ·rename_i v' hv
     split
     ·rename_i hm
      exact .inr ⟨by rw [e]; exact eq, rfl, .inr hm⟩
     ·exact .inl rfl
  ·rw [if_neg e, if_neg e]; exact ih
theorem inSl_ucl {m : Id} {q t : Nat} {l : List (Nat × SV)} : (l.map (ucl m q)).any (fun p => p.1 == t) = l.any (fun p => p.1 == t) := by
 have hk : ∀ p : Nat × SV, (ucl m q p).1 = p.1 := by
  rintro ⟨j, v⟩
  unfold ucl; split
  ·rfl
  ·split <;> split <;> rfl
 rw [List.any_map]
 congr 1
 funext p
 simp only [Function.comp, hk]
section
variable {P : Program} {pr : List (Id × Name)} {df : Nat} {S0 : AHeap} {F : Fr} {st : SS} {ν : Nm} {d : Nat}
theorem supd_ok {E : Env P} {u : UOp} {A : Type} {k : SS → Option A} {r : A} {kk : Slots → AHeap → Nat → Prop} (hok : Okk pr df S0 F st ν d) (h : supd E F u st k = some r)
  (hk : ∀ (ν' : Nm) st', ν'.fn = ν.fn → Okk pr df S0 F st' ν' d → k st' = some r → kk (slotsOf ν' F st') (heapOf ν' F st' S0) st'.nx) : UpdOk E.T d u kk (slotsOf ν F st) (heapOf ν F st S0) st.nx := by
 unfold supd at h
 split at h <;> try (cases h; done)
 rename_i m hs
 split at h <;> try (cases h; done)
 rename_i k00 xs hm
 split at h <;> try (cases h; done)
 rename_i k1 j k0 n hi hx
 split at h <;> try (cases h; done)
 rename_i hc
 obtain ⟨rfl, c1, c2, c3, c4, c5, c6, c7⟩ := hc
 obtain ⟨⟨hj0, hj1⟩, h⟩ := gdd_some h
 have hsz : ((Ty.int k0).lay).sz = 1 := rfl
 have hfl : (flat (Ty.int k0).lay xs).length = xs.length := by rw [flat_length, hsz, Nat.mul_one]
 have hH : hget (st.H F) m = some (.tip false (.int k0) xs) := by rw [SS.H, hget_append, hm]
 have hmem : m ∈ SHp.ids (st.H F) := hget_mem hH
 have hcur : ∀ (xs : List Int) (H : SHp), hget H m = some (.tip false (.int k0) xs) → ∀ ν : Nm, curAV ν H m = .slice (.buf (ν m) (flat (Ty.int k0).lay xs).length) 1 (flat (Ty.int k0).lay xs) := by
  intro xs H hg ν
  simp only [curAV, hg, eB]
  rw [flat_length]; rfl
 let ν' : Nm := ⟨fun x => if x = m then (d, st.nx) else ν x, ν.fn⟩
 have hν'm : ν' m = (d, st.nx) := if_pos rfl
 have hν' : ∀ x, x ≠ m → ν' x = ν x := fun x hx => if_neg hx
 let st' : SS := ⟨st.sl.map (ucl m u.q), hupd st.hp m (.tip false (.int k0) (xs.set j.toNat n)), st.nx + 1⟩
 have hids : SHp.ids (st'.H F) = SHp.ids (st.H F) := by
  show SHp.ids (hupd st.hp m _ ++ F.hp) = SHp.ids (st.hp ++ F.hp)
  rw [ids_append, ids_append, hupd_ids]
 have hgx : ∀ x, hget (st'.H F) x = if x = m then some (.tip false (.int k0) (xs.set j.toNat n)) else hget (st.H F) x := by
  intro x
  show hget (hupd st.hp m _ ++ F.hp) x = _
  rw [hget_append, hupd_get hm]
  by_cases e : x = m
  ·rw [if_pos e, if_pos e]
  ·rw [if_neg e, if_neg e, SS.H, hget_append]
 have hcx : ∀ x, (fun x => !ieq x m) x = true → curAV ν (st.H F) x = curAV ν' (st'.H F) x := by
  intro x hx
  simp only [Bool.not_eq_true', ieq_false] at hx
  unfold curAV
  rw [hgx x, if_neg hx, hν' x hx]
 have hnx : ∀ x, (fun x => !ieq x m) x = true → ν x = ν' x := by
  intro x hx
  simp only [Bool.not_eq_true', ieq_false] at hx
  exact (hν' x hx).symm
 have hpr : m ∉ F.pr := fun hc => by rw [inIds_iff.2 hc] at c1; cases c1
 have hnid : ∀ a ∈ SHp.ids (st.H F), ν a ≠ (d, st.nx) := fun a ha => hok.fr a ha st.nx (Nat.le_refl _)
 have hok' : Okk pr df S0 F st' ν' d := by
  refine ⟨?_, ?_, ?_, ?_, hok.low, hok.none, ?_, hok.prs⟩
  ·rw [hids]
   intro a ha b hb hab
   by_cases e1 : a = m <;> by_cases e2 : b = m
   ·rw [e1, e2]
   ·rw [e1, hν'm, hν' b e2] at hab; exact absurd hab.symm (hnid b hb)
   ·rw [e2, hν'm, hν' a e1] at hab; exact absurd hab (hnid a ha)
   ·rw [hν' a e1, hν' b e2] at hab; exact hok.inj a ha b hb hab
  ·rw [hids]
   intro a ha q hq
   have hq : st.nx + 1 ≤ q := hq
   by_cases e1 : a = m
   ·rw [e1, hν'm]; simp; omega
   ·rw [hν' a e1]; exact hok.fr a ha q (by omega)
  ·intro q hq
   have hq : st.nx + 1 ≤ q := hq
   have hne : ((F.lv, q) : Id) ≠ m := by
    rintro rfl
    exact hok.fr _ hmem q (by omega) (hok.lev q (by omega))
   rw [hν' _ hne]; exact hok.lev q (by omega)
  ·rw [hids]
   intro a ha hp
   by_cases e1 : a = m
   ·rw [e1, hν'm]; exact hok.low
   ·rw [hν' a e1]; exact hok.base a ha hp
  ·intro q hq
   have hne : q.1 ≠ m := by
    rintro rfl
    exact hpr (by rw [hok.prs]; exact List.mem_map.2 ⟨q, hq, rfl⟩)
   rw [hν' _ hne]; exact hok.par q hq
 refine ⟨_, _, _, Ghost.refl, ν m, flat (Ty.int k0).lay xs, k1, j, k0, n, slotsOf ν' F st', ?_, ?_, ?_, hj0, by rw [hfl]; exact hj1, isSl1_ok c4, isC1_ok c5, ?_, ?_, ?_⟩
 ·rw [sget_slotsOf, hs]
  simp only [SV.av]
  exact hcur xs _ hH ν
 ·have := hok.hok m _ hH
  rw [this]
  simp only [SObj.ob, oT]
  rw [flat_length]
 ·rw [ev_slotsOf, hi]; simp only [SV.av]
 ·rw [ev_slotsOf, hx]; simp only [SV.av]
 ·intro t
  rw [sget_slotsOf, sget_slotsOf]
  have hset : (flat (Ty.int k0).lay xs).set j.toNat (.lit (.int k0 n)) = flat (Ty.int k0).lay (xs.set j.toNat n) := by
   apply List.ext_getElem?
   intro i
   have hg : ∀ (l : List Int) (i : Nat), (flat (Ty.int k0).lay l)[i]? = (l[i]?).map fun n => AV.lit (.int k0 n) := by
    intro l
    induction l with
    | nil => intro i; simp [flat]
    | cons a l ih =>
     intro i
     have : flat (Ty.int k0).lay (a :: l) = AV.lit (.int k0 a) :: flat (Ty.int k0).lay l := rfl
     rw [this]
     cases i with
     | zero => rfl
     | succ i => simpa using ih i
   rw [List.getElem?_set, hg, hg, List.getElem?_set, hfl]
   by_cases e : j.toNat = i
   ·rw [if_pos e, if_pos e]
    by_cases e2 : j.toNat < xs.length
    ·rw [if_pos e2, if_pos e2]; rfl
    ·rw [if_neg e2, if_neg e2]; rfl
   ·rw [if_neg e, if_neg e]
  have hav : ∀ v : SV, v.mi (fun x => !ieq x m) (fun x => !ieq x m) = true → v.av ν' (st'.H F) = v.av ν (st.H F) := fun v hv => (SV.mi_congr hnx hcx rfl hv).symm
  have hdone : ∀ v : SV, ((∃ m', v = .cur m') ∨ v.mi (fun x => !ieq x m) (fun x => !ieq x m) = true) → (v.av ν' (st'.H F) = v.av ν (st.H F) ∨
    v.av ν (st.H F) = .slice (.buf (ν m) (flat (Ty.int k0).lay xs).length) 1 (flat (Ty.int k0).lay xs) ∧ v.av ν' (st'.H F) = .slice (.buf (d, st.nx) (flat (Ty.int k0).lay xs).length) 1 ((flat (Ty.int k0).lay xs).set j.toNat (.lit (.int k0 n)))) := by
   rintro v (⟨m', rfl⟩ | hv)
   ·by_cases e : m' = m
    ·subst e
     right
     simp only [SV.av]
     rw [hcur xs _ hH ν, hcur (xs.set j.toNat n) (st'.H F) (by rw [hgx, if_pos rfl]) ν', hν'm, hset]
     refine ⟨rfl, ?_⟩
     rw [flat_length, flat_length, List.length_set]
    ·left
     simp only [SV.av]
     exact (hcx m' (by simp only [Bool.not_eq_true', ieq_false]; exact e)).symm
   ·exact .inl (hav v hv)
  simp only [SS.at]
  rw [lget_append, lget_append]
  show (if (st.sl.map (ucl m u.q)).any (fun p => p.1 == t) = true then _ else _ : SV).av _ _ = _ ∨ _
  rw [inSl_ucl]
  by_cases hin : (st.sl.any fun p => p.1 == t) = true
  ·rw [if_pos hin, if_pos hin]
   rcases lget_ucl (m := m) (q := u.q) (t := t) (l := st.sl) with e | ⟨e1, e2, e3⟩
   ·left; rw [e]; simp only [SV.av]
   ·right; rw [e2]; exact ⟨e1, hdone _ e3⟩
  ·rw [if_neg hin, if_neg hin]
   by_cases hq : t = u.q
   ·left
    have : lget F.sl t = .any := lget_notin' (by rw [hq]; exact c3)
    rw [this]; simp only [SV.av]
   ·right
    exact ⟨hq, hdone _ (.inr (by
     have : ∀ l : List (Nat × SV), (l.all fun p => p.2.mi (fun x => !ieq x m) (fun x => !ieq x m)) = true → (lget l t).mi (fun x => !ieq x m) (fun x => !ieq x m) = true := by
      intro l hl
      induction l with
      | nil => rfl
      | cons r l ih =>
       obtain ⟨i, v⟩ := r
       simp only [List.all_cons, Bool.and_eq_true] at hl
       simp only [lget]
       split
       ·exact hl.1
       ·exact ih hl.2
     exact this _ c6))⟩
 ·have hheap : heapOf ν' F st' S0 = ((heapOf ν F st S0).del (ν m)).set (d, st.nx) (.buf (flat (Ty.int k0).lay xs).length) := by
   have hob : ∀ q ∈ st.H F, q.1 ≠ m → q.2.ob ν' (st'.H F) = q.2.ob ν (st.H F) := by
    intro q hq hne
    have := List.all_eq_true.1 c7 q hq
    have hf : ieq q.1 m = false := by rw [ieq_false]; exact hne
    rw [hf, Bool.false_or] at this
    exact (SObj.mi_congr hnx hcx rfl this).symm
   funext x
   simp only [AHeap.set, AHeap.del]
   by_cases e1 : x = (d, st.nx)
   ·rw [if_pos e1, e1, ← hν'm]
    have := hok'.hok m (.tip false (.int k0) (xs.set j.toNat n)) (by rw [hgx, if_pos rfl])
    rw [this]
    simp only [SObj.ob, oT]
    rw [flat_length, List.length_set]
   ·rw [if_neg e1]
    by_cases e2 : x = ν m
    ·rw [if_pos e2, e2]
     unfold heapOf
     rw [hp_miss (f := fun o => o.ob ν' (st'.H F))]
     ·exact hok.none _ (hok.base m hmem hpr)
     ·intro a ha e3
      rw [hids] at ha
      by_cases e4 : a = m
      ·rw [e4, hν'm] at e3
       rw [e2, ← e3] at e1; exact e1 rfl
      ·rw [hν' a e4] at e3; exact e4 (hok.inj a ha m hmem e3)
    ·rw [if_neg e2]
     by_cases hex : ∃ a ∈ SHp.ids (st.H F), ν a = x
     ·obtain ⟨a, ha, rfl⟩ := hex
      have ham : a ≠ m := fun e => e2 (by rw [e])
      obtain ⟨o, ho⟩ := ids_get' ha
      have h1 := hok.hok a o ho
      have h2 := hok'.hok a o (by rw [hgx, if_neg ham]; exact ho)
      rw [hν' a ham] at h2
      rw [h2, h1]
      have : (a, o) ∈ st.H F := by
       obtain ⟨j', h5, h6⟩ : ∃ j', (j', o) ∈ st.H F ∧ j' = a := by
        have : ∀ l : SHp, hget l a = some o → ∃ j', (j', o) ∈ l ∧ j' = a := by
         intro l hl
         induction l with
         | nil => cases hl
         | cons p r ih =>
          obtain ⟨i, q⟩ := p
          simp only [hget] at hl
          split at hl
          ·rename_i e; cases hl; exact ⟨i, by simp, (ieq_iff.1 e).symm⟩
          ·obtain ⟨j', g1, g2⟩ := ih hl; exact ⟨j', by simp [g1], g2⟩
        exact this _ ho
       rw [← h6]; exact h5
      exact congrArg some (hob (a, o) this ham)
     ·unfold heapOf
      rw [hp_miss (f := fun o => o.ob ν (st.H F)) (fun a ha e => hex ⟨a, ha, e⟩), hp_miss (f := fun o => o.ob ν' (st'.H F))]
      intro a ha e3
      rw [hids] at ha
      by_cases e4 : a = m
      ·rw [e4, hν'm] at e3; exact e1 e3.symm
      ·rw [hν' a e4] at e3; exact hex ⟨a, ha, e3⟩
  rw [← hheap]
  exact hk ν' st' rfl hok' h
def sbld {P : Program} (E : Env P) (F : Fr) (b : BOp) {A : Type} (st : SS) (k : SS → Option A) : Option A :=
 match sbuildSlice E.T (st.H F) b.t b.n (b.ps.toList.map fun q => (q.1, st.ev F q.2)) with
 | some (.row sz cs) => match E.T b.t with
  | some ⟨.slice e, _, _, _⟩ => match E.Y e with
   | some y => if sz = y.sz then match pks (fun l => y.pkx (st.H F) l) cs.length cs with
     | some xs => match st.new F (.tip false y xs) with
      | some (id, st') => k (st'.put (some b.r) (.cur id))
      | none => none
     | none => none else none
   | none => none
  | _ => none
 | _ => none
theorem sbld_ok {E : Env P} {b : BOp} {A : Type} {k : SS → Option A} {r : A} {kk : Slots → AHeap → Nat → Prop} (hok : Okk pr df S0 F st ν d) (h : sbld E F b st k = some r)
  (hk : ∀ st' sl', Okk pr df S0 F st' ν d → SlEq ν F st' sl' → k st' = some r → kk sl' (heapOf ν F st' S0) st'.nx) : BldOk E.T d b kk (slotsOf ν F st) (heapOf ν F st S0) st.nx := by
 unfold sbld at h
 split at h <;> try (cases h; done)
 rename_i sz cs hb
 split at h <;> try (cases h; done)
 rename_i e i1 i2 i3 hT
 split at h <;> try (cases h; done)
 rename_i y hy
 split at h <;> try (cases h; done)
 rename_i hsz
 split at h <;> try (cases h; done)
 rename_i xs hxs
 split at h <;> try (cases h; done)
 rename_i id st' hn
 subst hsz
 unfold sbuildSlice at hb
 rw [hT] at hb
 simp only at hb
 split at hb <;> try (cases hb; done)
 rename_i ei he
 split at hb <;> try (cases hb; done)
 rename_i cs' hf
 split at hb <;> try (cases hb; done)
 rename_i hp
 by_cases h0 : b.n = 0
 ·rw [if_pos h0] at hb; cases hb
 rw [if_neg h0] at hb
 simp only [Option.some.injEq, SV.row.injEq] at hb
 obtain ⟨hz, rfl⟩ := hb
 have hav := sfill_av (ν := ν) hf
 rw [avs_zeros, List.map_map] at hav
 have hcs : avs ν (st.H F) cs' = flat y.lay xs := pks_eq (ν := ν) (L := y.lay) (fun l x r h => Ty.pkx_eq h) _ _ _ hxs
 rw [hcs] at hav
 obtain ⟨rfl, n2, n3, n4, n5, n6, n7, n8, n9⟩ := new_ok hok hn
 have hlay : y.lay.sz = y.sz := y.lay_sz
 have hcur : (SV.cur (F.lv, st.nx)).av ν (st'.H F) = .slice (.buf (d, st.nx) (flat y.lay xs).length) ei.size (flat y.lay xs) := by
  have hg : hget (st'.H F) (F.lv, st.nx) = some (.tip false y xs) := by rw [SS.H, hget_append, n8]
  simp only [SV.av, curAV, hg, eB, n2]
  rw [flat_length, hz, ← hlay]
 refine ⟨_, _, _, Ghost.refl, e, i1, i2, i3, ei, flat y.lay xs, hT, he, ?_, hp.1, hp.2, by omega, ?_⟩
 ·have h2 : (b.ps.toList.map fun q => (q.1, ev (slotsOf ν F st) q.2)) = b.ps.toList.map ((fun q => (q.1, q.2.av ν (st.H F))) ∘ fun q => (q.1, st.ev F q.2)) := List.map_congr_left fun q _ => by simp only [Function.comp, ev_slotsOf]
  rw [h2]
  exact hav
 ·have hheap : heapOf ν F (st'.put (some b.r) (.cur (F.lv, st.nx))) S0 = (heapOf ν F st S0).set (d, st.nx) (.buf (flat y.lay xs).length) := by
   rw [heapOf_put, n6]
   simp only [SObj.ob, oT]
   rw [flat_length]
  have hnx : (st'.put (some b.r) (.cur (F.lv, st.nx))).nx = st.nx + 1 := n3
  have := hk _ (put (slotsOf ν F st) (some b.r) ((SV.cur (F.lv, st.nx)).av ν (st'.H F))) (n5.put (dst := some b.r) (v := .cur (F.lv, st.nx))) (SlEq.of.put n7) h
  rw [hheap, hnx, hcur] at this
  exact this
end
end Go.Al
