import Derived.Test.YtolfnhebnennpaaAmH
set_option linter.unusedSimpArgs false
set_option linter.unusedVariables false
namespace Go.Al
open Go Go.RowKit
theorem Sat.resay {K : Kn} {S : AHeap} {w : World} (hs : Sat K S w) {n : Name} {cs : List AV} {i : Nat} {c c' : AV} (hn : S n = some (.box cs)) (hi : cs[i]? = some c) (hc : ∀ v, SimV K c v → SimV K c' v) (ho : c'.owns = false) :
  Sat K (S.set n (.box (cs.set i c'))) w := by
 obtain ⟨owner, o1, o2, o3, o4, o5⟩ := hs.objs
 have hSx : ∀ x o, (S.set n (.box (cs.set i c'))) x = some o → (x = n ∧ o = .box (cs.set i c')) ∨ (x ≠ n ∧ S x = some o) := by
  intro x o h
  simp only [AHeap.set] at h
  split at h
  ·rename_i h'; cases h; exact .inl ⟨h', rfl⟩
  ·rename_i h1; exact .inr ⟨h1, h⟩
 refine ⟨hs.perm, ⟨owner, o1, o2, ?_, ?_, o5⟩, ?_, hs.pend, hs.tk, hs.low, ?_, hs.fixd⟩
 ·intro b o x v h ⟨len, hl⟩
  rcases hSx x _ hl with ⟨_, h2⟩ | ⟨_, h2⟩
  ·cases h2
  ·exact o3 b o x v h ⟨len, h2⟩
 ·intro x o hx
  rcases hSx x o hx with ⟨rfl, rfl⟩ | ⟨_, h2⟩
  ·have hb := o4 _ _ hn
   simp only [ObjOk] at hb ⊢
   intro b f hbf j c2 hc2
   rw [List.getElem?_set] at hc2
   split at hc2
   ·rename_i hj; subst hj
    split at hc2
    ·cases hc2
     obtain ⟨h1, u, h3, h4, h5, h6⟩ := hb b f hbf i c hi
     exact ⟨h1, u, h3, h4, hc _ h5, PartOk.of_not ho⟩
    ·cases hc2
   ·exact hb b f hbf j c2 hc2
  ·exact o4 x o h2
 ·intro x hx
  obtain ⟨h1, h2, h3, h4⟩ := hs.fresh x hx
  refine ⟨?_, h2, h3, h4⟩
  simp only [AHeap.set]
  rw [if_neg (by rintro rfl; rw [hn] at h1; cases h1)]; exact h1
 ·intro x cs2 hx
  rcases hSx x _ hx with ⟨rfl, _⟩ | ⟨_, h2⟩
  ·exact hs.based _ _ hn
  ·exact hs.based x _ h2
theorem Sat.nameCell {K : Kn} {S : AHeap} {w : World} (hs : Sat K S w) {n m : Name} {cs : List AV} {i sz : Nat} {c : AV} (hn : S n = some (.box cs)) (hi : cs[i]? = some c) (hc : Sub c .empt) (hm : K.pend m) (hSm : S m = none) (hd : m.1 < K.dmax) {D : Nat} (hD : D ≤ m.1) (hsz : 0 < sz) :
  Kle D K (K.unpend m) ∧ Sat (K.unpend m) ((S.set m (.buf 0)).set n (.box (cs.set i (.slice (Own.at true m 0) sz [])))) w := by
 obtain ⟨k1, s1, -⟩ := hs.openBuf hm hd hD hsz true none
 have hnm : n ≠ m := by rintro rfl; rw [hn] at hSm; cases hSm
 refine ⟨k1, s1.resay (by simp only [AHeap.set]; rw [if_neg hnm]; exact hn) hi (fun v hv => ?_) rfl⟩
 have h1 := hc _ _ hv
 simp only [SimV] at h1
 obtain ⟨ad, rfl⟩ := h1
 exact (hs.openBuf hm hd hD hsz true ad).2.2
def Kn.froz (K : Kn) (w : World) (b f n : Nat) : Kn := { K with known := fun b' o t v => K.known b' o t v ∨ (t = .perm ∧ b' = b ∧ f ≤ o ∧ o < f + n ∧ w.cell? ⟨b, o, none⟩ = some v) }
theorem Kn.froz_le (K : Kn) (w : World) (b f n D : Nat) : Kle D K (K.froz w b f n) :=
 ⟨⟨rfl, Nat.le_refl _, fun _ _ h => h, fun _ t h => ⟨t, h, .inl rfl⟩, fun _ _ _ _ h => .inl h, fun _ _ h => h, fun _ _ h => h⟩, fun _ _ h => h, rfl⟩
theorem Sat.froz {K : Kn} {S : AHeap} {w : World} (hs : Sat K S w) {n : Name} {cs : List AV} (hn : S n = some (.box cs)) {b f : Nat} (hb : K.base n = some (b, f)) :
  Sat (K.froz w b f cs.length) (S.del n) w ∧ SimC (K.froz w b f cs.length) .perm b f cs := by
 obtain ⟨owner, o1, o2, o3, o4, o5⟩ := hs.objs
 have hk := K.froz_le w b f cs.length 0
 have hbox := o4 n _ hn
 simp only [ObjOk] at hbox
 have hbox := hbox b f hb
 have hin : ∀ o, f ≤ o → o < f + cs.length → owner b o = some (n, 0) := by
  intro o h1 h2
  have hc : cs[o - f]? = some (cs[o - f]'(by omega)) := List.getElem?_eq_getElem (by omega)
  have := (hbox _ _ hc).1
  rwa [show f + (o - f) = o by omega] at this
 have hSx : ∀ x o, S.del n x = some o → x ≠ n ∧ S x = some o := by
  intro x o h
  simp only [AHeap.del] at h
  split at h
  ·cases h
  ·rename_i h1; exact ⟨h1, h⟩
 let owner' : Nat → Nat → Option Plot := fun b' o => if b' = b ∧ f ≤ o ∧ o < f + cs.length then none else owner b' o
 have keep : ∀ {x : Name}, x ≠ n → ∀ {b' o j}, owner b' o = some (x, j) → owner' b' o = some (x, j) := by
  intro x hx b' o j h
  show (if _ then _ else _ : Option Plot) = _
  rw [if_neg]; · exact h
  rintro ⟨rfl, h1, h2⟩
  rw [hin o h1 h2] at h
  cases h; exact hx rfl
 have sub : ∀ {b' o p}, owner' b' o = some p → owner b' o = some p := by
  intro b' o p h
  have h' : (if b' = b ∧ f ≤ o ∧ o < f + cs.length then none else owner b' o : Option Plot) = some p := h
  split at h'
  ·cases h'
  ·exact h'
 refine ⟨⟨?_, ⟨owner', fun b' o p h => o1 b' o p (sub h), ?_, ?_, ?_, ?_⟩, ?_, hs.pend, ?_, hs.low, ?_, hs.fixd⟩, ?_⟩
 ·rintro b' o v (h | ⟨-, rfl, -, -, h⟩)
  ·exact hs.perm b' o v h
  ·exact h
 ·rintro b' o v (h | ⟨-, rfl, h1, h2, -⟩)
  ·show (if _ then _ else _ : Option Plot) = _
   split
   ·rfl
   ·exact o2 b' o v h
  ·show (if _ then _ else _ : Option Plot) = _
   rw [if_pos ⟨rfl, h1, h2⟩]
 ·rintro b' o x v h ⟨len, hl⟩
  obtain ⟨hx, hl⟩ := hSx _ _ hl
  rcases h with h | ⟨h, -⟩
  ·obtain ⟨q1, q2, q3⟩ := o3 b' o x v h ⟨len, hl⟩
   exact ⟨keep hx q1, q2, q3⟩
  ·cases h
 ·intro x o hx
  obtain ⟨hxn, hx⟩ := hSx _ _ hx
  have ho := o4 x o hx
  refine ho.other hk rfl rfl (fun b' o v h => ?_) (fun b' q j h => keep hxn h)
  rcases h with h | ⟨h, -⟩
  ·exact h
  ·cases h
 ·rintro b' o v (h | ⟨h, -⟩)
  ·obtain ⟨q1, q2, q3⟩ := o5 b' o v h
   refine ⟨q1, q2, fun q => ?_⟩
   show (if _ then _ else _ : Option Plot) = _
   split
   ·rfl
   ·exact q3 q
  ·cases h
 ·intro x hx
  obtain ⟨h1, h2⟩ := hs.fresh x hx
  refine ⟨?_, h2⟩
  simp only [AHeap.del]
  split
  ·rfl
  ·exact h1
 ·rintro x b' o v (h | ⟨h, -⟩)
  ·exact hs.tk x b' o v h
  ·cases h
 ·intro x cs' hx
  exact hs.based x cs' (hSx _ _ hx).2
 ·refine SimC_of fun i c hc => ?_
  obtain ⟨h1, u, h2, h3, h4, h5⟩ := hbox i c hc
  have hi : i < cs.length := (List.getElem?_eq_some_iff.1 hc).1
  exact ⟨u, .inr ⟨rfl, rfl, by omega, by omega, h2⟩, h4.mono hk⟩
def SlEq (ν : Nm) (F : Fr) (st : SS) (sl : Slots) : Prop := ∀ i, sget sl i = (st.at F i).av ν (st.H F)
section
variable {P : Program} {pr : List (Id × Name)} {df : Nat} {S0 : AHeap} {F : Fr} {st st' : SS} {ν : Nm} {d : Nat} {sl sl' : Slots}
theorem SlEq.of : SlEq ν F st (slotsOf ν F st) := fun _ => sget_slotsOf
theorem SlEq.ev (h : SlEq ν F st sl) : Al.ev sl = fun x => (st.ev F x).av ν (st.H F) := by
 funext o
 cases o with
 | tmp t => exact h t
 | const v => simp [Al.ev, SS.ev, SV.av]
 | func f => simp [Al.ev, SS.ev, SV.av, avl]
 | global g => simp [Al.ev, SS.ev, SV.av]
theorem evok : EvOk (st.ev F) := fun _ => rfl
theorem SlEq.put2 {ν' : Nm} (h : SlEq ν F st sl) (hs : Same2 ν ν' F st st') {dst : Option Nat} {v : SV} : SlEq ν' F (st'.put dst v) (Al.put sl dst (v.av ν' (st'.H F))) := by
 intro i
 have hH : (st'.put dst v).H F = st'.H F := by cases dst <;> rfl
 rw [sget_put, at_put, hH]
 split
 ·rfl
 ·rw [h i]; exact (hs i).symm
theorem SlEq.put (h : SlEq ν F st sl) (hs : Same ν F st st') {dst : Option Nat} {v : SV} : SlEq ν F (st'.put dst v) (Al.put sl dst (v.av ν (st'.H F))) := SlEq.put2 h hs
theorem Same.refl : Same ν F st st := fun _ => rfl
theorem SlEq.ghost (h : SlEq ν F st sl) (k : SlEq ν F st sl') {S : AHeap} {c : Nat} : Ghost d sl S c sl' S c := Ghost.slots fun i => by rw [h i, k i]; exact Sub.refl
theorem Okk.put (h : Okk pr df S0 F st ν d) {dst : Option Nat} {v : SV} : Okk pr df S0 F (st.put dst v) ν d := by
 cases dst with
 | none => exact h
 | some i => exact ⟨h.inj, h.fr, h.lev, h.base, h.low, h.none, h.par, h.prs⟩
theorem heapOf_put {dst : Option Nat} {v : SV} : heapOf ν F (st.put dst v) S0 = heapOf ν F st S0 := by cases dst <;> rfl
theorem nx_put {dst : Option Nat} {v : SV} : (st.put dst v).nx = st.nx := by cases dst <;> rfl
def GhS (pr : List (Id × Name)) (df : Nat) (S0 : AHeap) (F : Fr) (st st' : SS) : Prop :=
 ∀ {ν : Nm} {d : Nat} {sl : Slots}, Okk pr df S0 F st ν d → SlEq ν F st sl → Okk pr df S0 F st' ν d ∧ Ghost d sl (heapOf ν F st S0) st.nx (slotsOf ν F st') (heapOf ν F st' S0) st'.nx
theorem GhS.refl : GhS pr df S0 F st st := fun hok hs => ⟨hok, hs.ghost SlEq.of⟩
theorem GhS.trans {s1 s2 s3 : SS} (h : GhS pr df S0 F s1 s2) (k : GhS pr df S0 F s2 s3) : GhS pr df S0 F s1 s3 := fun hok hs => by
 obtain ⟨h1, h2⟩ := h hok hs
 obtain ⟨k1, k2⟩ := k h1 SlEq.of
 exact ⟨k1, h2.trans k2⟩
def inSl (l : List (Nat × SV)) (i : Nat) : Bool := l.any fun p => p.1 == i
def gnam (F : Fr) (t : Nat) (pm : Bool) (e : Ty) (st : SS) : Option SS :=
 match st.at F t with
 | .lit (.slice none 0 0) => match st.new F (.tip pm e []) with
  | some (id, st') => some (st'.put (some t) (.cur id))
  | none => none
 | .empt => match st.new F (.tip pm e []) with
  | some (id, st') => some (st'.put (some t) (.cur id))
  | none => none
 | _ => none
theorem gnam_aux {t : Nat} {pm : Bool} {e : Ty} {id : Id} (hok : Okk pr df S0 F st ν d) (hs : SlEq ν F st sl) (h0 : Sub ((st.at F t).av ν (st.H F)) .empt) (hn : st.new F (.tip pm e []) = some (id, st')) :
  Okk pr df S0 F (st'.put (some t) (.cur id)) ν d ∧ Ghost d sl (heapOf ν F st S0) st.nx (slotsOf ν F (st'.put (some t) (.cur id))) (heapOf ν F (st'.put (some t) (.cur id)) S0) (st'.put (some t) (.cur id)).nx := by
 obtain ⟨rfl, h1, h2, h3, h4, h5, h6, h7, h8⟩ := new_ok hok hn
 refine ⟨h4.put, ?_⟩
 rw [heapOf_put, nx_put, h5, h2]
 have hj : ∀ j, j ≠ t → sget (slotsOf ν F (st'.put (some t) (.cur (F.lv, st.nx)))) j = sget sl j := by
  intro j hj
  rw [sget_slotsOf, at_put, if_neg (by simp; omega)]
  rw [hs j]; exact h6 j
 have ht : sget (slotsOf ν F (st'.put (some t) (.cur (F.lv, st.nx)))) t = curAV ν (st'.H F) (F.lv, st.nx) := by
  rw [sget_slotsOf, at_put, if_pos rfl]; simp only [SV.av]; rfl
 simp only [curAV, hgetH h7] at ht
 simp only [SObj.ob]
 cases pm with
 | true => exact Ghost.name (L := e.lay) (i := t) (by rw [hs t]; exact h0) hj (by rw [ht, h1])
 | false => exact Ghost.nameB (L := e.lay) (i := t) (by rw [hs t]; exact h0) hj (by rw [ht, h1])
theorem gnam_ok {t : Nat} {pm : Bool} {e : Ty} (h : gnam F t pm e st = some st') : GhS pr df S0 F st st' := by
 intro ν d sl hok hs
 unfold gnam at h
 split at h <;> try (cases h; done)
 ·rename_i ha
  split at h <;> try (cases h; done)
  rename_i hn
  cases h
  exact gnam_aux hok hs (by rw [ha]; simp only [SV.av]; exact Sub.nil_empt) hn
 ·rename_i ha
  split at h <;> try (cases h; done)
  rename_i hn
  cases h
  exact gnam_aux hok hs (by rw [ha]; simp only [SV.av]; exact Sub.refl) hn
def gcan (F : Fr) (t : Nat) (y : Ty) (st : SS) : Option SS :=
 match st.at F t with
 | .agg cs => match y.pk (st.H F) cs with
  | some (x, []) => some (st.put (some t) (.agg (y.un x)))
  | _ => none
 | v => if v.isVec then none else match y.pk (st.H F) [v] with
  | some (x, []) => match y.un x with
   | [u] => if u.isVec then none else some (st.put (some t) u)
   | _ => none
  | _ => none
theorem gcan_ok {t : Nat} {y : Ty} (h : gcan F t y st = some st') : GhS pr df S0 F st st' := by
 intro ν d sl hok hs
 have key : ∀ v, Sub ((st.at F t).av ν (st.H F)) (v.av ν (st.H F)) → Okk pr df S0 F (st.put (some t) v) ν d ∧ Ghost d sl (heapOf ν F st S0) st.nx (slotsOf ν F (st.put (some t) v)) (heapOf ν F (st.put (some t) v) S0) (st.put (some t) v).nx := by
  intro v hv
  refine ⟨hok.put, ?_⟩
  rw [heapOf_put, nx_put]
  refine Ghost.slots fun i => ?_
  rw [sget_slotsOf, at_put, hs i]
  split
  ·rename_i e; cases e; exact hv
  ·exact Sub.refl
 unfold gcan at h
 split at h
 ·rename_i cs ha
  split at h <;> try (cases h; done)
  rename_i x hp
  cases h
  refine key _ ?_
  rw [ha]
  simp only [SV.av]
  obtain ⟨u, e1, e2⟩ := Ty.pk_sub (ν := ν) hp
  rw [List.append_nil] at e1; subst e1
  rw [Ty.un_cells]
  exact Sub.agg e2
 ·rename_i v
  split at h <;> try (cases h; done)
  rename_i hv
  split at h <;> try (cases h; done)
  rename_i x hp
  split at h <;> try (cases h; done)
  rename_i u hu
  split at h <;> try (cases h; done)
  rename_i huv
  cases h
  refine key _ ?_
  obtain ⟨w, e1, e2⟩ := Ty.pk_sub (ν := ν) hp
  rw [List.append_nil] at e1; subst e1
  rw [← Ty.un_cells (ν := ν) (H := st.H F), hu, avs_one (by simpa using hv), avs_one (by simpa using huv), avs_nil] at e2
  cases e2 with
  | cons h1 _ => exact h1
def ldel (l : List (Nat × SV)) (ts : List Nat) : List (Nat × SV) := l.filter fun p => !ts.contains p.1
theorem lget_ldel {l m : List (Nat × SV)} {ts : List Nat} (h : ts.all (fun t => !inSl m t) = true) (i : Nat) : lget (ldel l ts ++ m) i = lget (l ++ m) i ∨ lget (ldel l ts ++ m) i = .any := by
 induction l with
 | nil => exact .inl rfl
 | cons p r ih =>
  obtain ⟨j, v⟩ := p
  simp only [ldel, List.filter_cons]
  split
  ·rename_i hc
   simp only [List.cons_append, lget]
   split
   ·exact .inl rfl
   ·exact ih
  ·rename_i hc
   simp only [Bool.not_eq_true', Bool.not_eq_false] at hc
   simp only [List.cons_append, lget]
   by_cases e : i = j
   ·subst e
    rw [if_pos rfl]
    right
    have hm : ts.contains i = true := by simpa using hc
    have h1 : ∀ l' : List (Nat × SV), (∀ p ∈ l', p.1 ≠ i) → lget (l' ++ m) i = lget m i := by
     intro l' hl'
     induction l' with
     | nil => rfl
     | cons q r' ih' =>
      obtain ⟨k, u⟩ := q
      simp only [List.cons_append, lget]
      rw [if_neg (fun e => hl' (k, u) (by simp) e.symm)]
      exact ih' fun q hq => hl' q (by simp [hq])
    rw [h1 _ (fun p hp => by
     rintro rfl
     simp only [List.mem_filter] at hp
     simp only [Bool.not_eq_true'] at hp
     rw [hm] at hp; exact absurd hp.2 (by decide))]
    have h2 := List.all_eq_true.1 h i (by simpa using hm)
    simp only [Bool.not_eq_true', inSl] at h2
    have h3 : ∀ m : List (Nat × SV), (m.any fun p => p.1 == i) = false → lget m i = .any := by
     intro m hm
     induction m with
     | nil => rfl
     | cons q r' ih' =>
      obtain ⟨k, u⟩ := q
      simp only [List.any_cons, Bool.or_eq_false_iff] at hm
      simp only [lget]
      rw [if_neg (by have := hm.1; simp at this; omega)]
      exact ih' hm.2
    exact h3 m h2
   ·rw [if_neg e]; exact ih
def gdrop (F : Fr) (ts : List Nat) (st : SS) : Option SS :=
 if ts.all (fun t => !inSl F.sl t) then some { st with sl := ldel st.sl ts } else none
theorem gdrop_ok {ts : List Nat} (h : gdrop F ts st = some st') : GhS pr df S0 F st st' := by
 intro ν d sl hok hs
 unfold gdrop at h
 split at h <;> try (cases h; done)
 rename_i hc
 cases h
 refine ⟨⟨hok.inj, hok.fr, hok.lev, hok.base, hok.low, hok.none, hok.par, hok.prs⟩, ?_⟩
 refine Ghost.slots fun i => ?_
 rw [sget_slotsOf, hs i]
 rcases lget_ldel (l := st.sl) hc i with h1 | h1
 ·have : SS.at F { st with sl := ldel st.sl ts } i = st.at F i := h1
  rw [this]; exact Sub.refl
 ·have : SS.at F { st with sl := ldel st.sl ts } i = .any := h1
  rw [this]; simp only [SV.av]; exact Sub.any
def unc (m : Id) (e : Ty) (xs : List e.den) : SV → SV
 | .cur m' => if ieq m' m then .sl (.tip m (xs.length * e.lay.sz)) e xs else .cur m'
 | v => v
def uncO (m : Id) (e : Ty) (xs : List e.den) : SObj → SObj
 | .box cs => .box (cs.map (unc m e xs))
 | o => o
def guncur (t : Nat) (m : Id) (st : SS) : Option SS :=
 match hget st.hp m with
 | some (.tip true e xs) => some { st with sl := st.sl.map fun q => if q.1 == t then q else (q.1, unc m e xs q.2), hp := st.hp.map fun q => (q.1, uncO m e xs q.2) }
 | _ => none
theorem unc_vec {m : Id} {e : Ty} {xs : List e.den} {v : SV} : (unc m e xs v).isVec = v.isVec := by
 cases v <;> try rfl
 simp only [unc]; split <;> rfl
theorem unc_av {H : SHp} {m : Id} {e : Ty} {xs : List e.den} (h : hget H m = some (.tip true e xs)) (v : SV) : (unc m e xs v).av ν H = v.av ν H := by
 cases v <;> try rfl
 rename_i m'
 simp only [unc]
 split
 ·rename_i hm
  rw [ieq_iff.1 hm]
  simp only [SV.av, curAV, h, OwnI.of, eT]
 ·rfl
theorem unc_avs {H : SHp} {m : Id} {e : Ty} {xs : List e.den} (h : hget H m = some (.tip true e xs)) : ∀ (l : List SV), avs ν H (l.map (unc m e xs)) = avs ν H l
 | [] => rfl
 | x :: r => by
  rw [List.map_cons]
  cases hv : x.isVec with
  | false => rw [avs_one hv, avs_one (unc_vec.trans hv), unc_av h, unc_avs h r]
  | true =>
   cases x <;> first | (simp [SV.isVec] at hv; done) | skip
   simp only [unc]
   rw [avs_vec, avs_vec, unc_avs h r]
mutual
theorem ac_tt : ∀ v : SV, v.ac (fun _ => true) = true
 | .any => by simp only [SV.ac]
 | .lit _ => by simp only [SV.ac]
 | .empt => by simp only [SV.ac]
 | .sl .. => by simp only [SV.ac]
 | .cur _ => by simp only [SV.ac]
 | .own .. => by simp only [SV.ac]
 | .row _ cs => by simp only [SV.ac]; exact acl_tt cs
 | .ptr .. => by simp only [SV.ac]
 | .vp .. => by simp only [SV.ac]
 | .rp _ cs => by simp only [SV.ac]; exact acl_tt cs
 | .vec .. => by simp only [SV.ac]
 | .sref .. => by simp only [SV.ac]
 | .agg cs => by simp only [SV.ac]; exact acl_tt cs
 | .tup vs => by simp only [SV.ac]; exact acl_tt vs
 | .fn _ a b => by simp only [SV.ac, Bool.and_eq_true]; exact ⟨acl_tt a, acl_tt b⟩
 | .fx _ => by simp only [SV.ac]
 | .ifc _ x => by simp only [SV.ac]; exact ac_tt x
 | .map _ => by simp only [SV.ac]
 | .opt .. => by simp only [SV.ac]
theorem acl_tt : ∀ l : List SV, acl (fun _ => true) l = true
 | [] => by simp only [acl]
 | x :: r => by simp only [acl, Bool.and_eq_true]; exact ⟨ac_tt x, acl_tt r⟩
end
theorem guncur_ok {t : Nat} {m : Id} (h : guncur t m st = some st') : GhS pr df S0 F st st' := by
 intro ν d sl hok hs
 unfold guncur at h
 split at h <;> try (cases h; done)
 rename_i e xs hm
 cases h
 generalize hst : ({ st with sl := st.sl.map fun q => if q.1 == t then q else (q.1, unc m e xs q.2), hp := st.hp.map fun q => (q.1, uncO m e xs q.2) } : SS) = s2
 have e_hp : s2.hp = st.hp.map fun q => (q.1, uncO m e xs q.2) := by rw [← hst]
 have e_sl : s2.sl = st.sl.map fun q => if q.1 == t then q else (q.1, unc m e xs q.2) := by rw [← hst]
 have e_nx : s2.nx = st.nx := by rw [← hst]
 have hids : SHp.ids (s2.H F) = SHp.ids (st.H F) := by
  simp only [SS.H, e_hp, SHp.ids, List.map_append, List.map_map, Function.comp_def]
 have hg : ∀ x, hget (s2.H F) x = (hget st.hp x).elim (hget F.hp x) fun o => some (uncO m e xs o) := by
  intro x
  rw [SS.H, e_hp, hget_append]
  have : ∀ l : SHp, hget (l.map fun q => (q.1, uncO m e xs q.2)) x = (hget l x).map (uncO m e xs) := by
   intro l
   induction l with
   | nil => rfl
   | cons q r ih =>
    obtain ⟨j, o⟩ := q
    simp only [List.map_cons, hget]
    split
    ·rfl
    ·exact ih
  rw [this]
  cases hget st.hp x <;> rfl
 have hcur : ∀ x, curAV ν (st.H F) x = curAV ν (s2.H F) x := by
  intro x
  unfold curAV
  rw [hg, SS.H, hget_append]
  cases hget st.hp x with
  | none => rfl
  | some o => cases o <;> rfl
 have hav : ∀ v : SV, v.av ν (s2.H F) = v.av ν (st.H F) := fun v => (SV.av_congr (p := fun _ => true) (fun x _ => hcur x) (ac_tt v)).symm
 have hmH : hget (st.H F) m = some (.tip true e xs) := hgetH hm
 have hob : ∀ o : SObj, (uncO m e xs o).ob ν (s2.H F) = o.ob ν (st.H F) := by
  intro o
  cases o with
  | box cs =>
   simp only [uncO, SObj.ob]
   rw [← unc_avs hmH cs]
   exact congrArg AObj.box (avs_congr (p := fun _ => true) (fun x _ => hcur x) (acl_tt _)).symm
  | tip pm e xs => rfl
  | arr e xs => rfl
  | obox b cs =>
   simp only [uncO, SObj.ob]
   rw [(avs_congr (p := fun _ => true) (fun x _ => hcur x) (acl_tt cs)).symm]
 have hob2 : ∀ o : SObj, o.ob ν (s2.H F) = o.ob ν (st.H F) := by
  intro o
  cases o with
  | box cs => exact congrArg AObj.box (avs_congr (p := fun _ => true) (fun x _ => hcur x) (acl_tt _)).symm
  | tip pm e xs => rfl
  | arr e xs => rfl
  | obox b cs =>
   simp only [SObj.ob]
   rw [(avs_congr (p := fun _ => true) (fun x _ => hcur x) (acl_tt cs)).symm]
 have hheap : heapOf ν F s2 S0 = heapOf ν F st S0 := by
  unfold heapOf
  congr 1
  simp only [SS.H, e_hp, List.map_append, List.map_map, Function.comp_def]
  congr 1
  ·refine List.map_congr_left fun q _ => ?_
   have := hob q.2
   simp only [SS.H, e_hp] at this
   rw [this]
  ·refine List.map_congr_left fun q _ => ?_
   have := hob2 q.2
   simp only [SS.H, e_hp] at this
   rw [this]
 refine ⟨⟨by rw [hids]; exact hok.inj, by rw [hids, e_nx]; exact hok.fr, by rw [e_nx]; exact hok.lev, by rw [hids]; exact hok.base, hok.low, hok.none, hok.par, hok.prs⟩, ?_⟩
 rw [hheap, e_nx]
 refine Ghost.slots fun i => ?_
 rw [sget_slotsOf, hs i, hav]
 have hat : (s2.at F i).av ν (st.H F) = (st.at F i).av ν (st.H F) := by
  simp only [SS.at, e_sl]
  rw [lget_append, lget_append]
  have h1 : (st.sl.map fun q => if q.1 == t then q else (q.1, unc m e xs q.2)).any (fun p => p.1 == i) = st.sl.any (fun p => p.1 == i) := by
   rw [List.any_map]
   congr 1
   funext q
   simp only [Function.comp]
   split <;> rfl
  rw [h1]
  split
  ·clear h1 hst e_sl
   induction st.sl with
   | nil => rfl
   | cons q r ih =>
    obtain ⟨j, v⟩ := q
    simp only [List.map_cons]
    by_cases hj : (j == t) = true
    ·rw [if_pos hj]
     simp only [lget]
     split
     ·rfl
     ·exact ih
    ·rw [if_neg hj]
     simp only [lget]
     split
     ·exact unc_av hmH v
     ·exact ih
  ·rfl
 rw [hat]; exact Sub.refl
def gnamB (F : Fr) (m : Id) (i : Nat) (e : Ty) (st : SS) : Option SS :=
 match hget st.hp m with
 | some (.box cs) => match cutAt i cs with
  | some (a, .lit (.slice none 0 0) :: r) => match st.new F (.tip true e []) with
   | some (id, st1) => if ieq id m then none else st1.upd F m (.box (a ++ .cur id :: r))
   | none => none
  | _ => none
 | _ => none
theorem gnamB_ok {m : Id} {i : Nat} {e : Ty} (h : gnamB F m i e st = some st') : GhS pr df S0 F st st' := by
 intro ν d sl hok hs
 unfold gnamB at h
 split at h <;> try (cases h; done)
 rename_i cs hm
 split at h <;> try (cases h; done)
 rename_i a r hcut
 split at h <;> try (cases h; done)
 rename_i id st1 hn
 split at h <;> try (cases h; done)
 rename_i hne
 obtain ⟨rfl, h1, h2, h3, h4, h5, h6, h7, h8⟩ := new_ok hok hn
 obtain ⟨g1, g2, g3, g4, g5, g6, g7⟩ := upd_ok h4 h
 obtain ⟨e1, e2⟩ := cutAt_some hcut
 have hmS := hok.hok m _ (hgetH hm)
 simp only [SObj.ob] at hmS
 have hav : avs ν (st.H F) cs = avs ν (st.H F) a ++ .lit (.slice none 0 0) :: avs ν (st.H F) r := by
  rw [e1, avs_append, avs_one rfl]; simp only [SV.av]
 have hlen : (avs ν (st.H F) a).length = i := by rw [avs_length]; exact e2
 refine ⟨g1, ?_⟩
 intro K w ts hs1 ht hf
 obtain ⟨hpn, hSn⟩ := fresh_pend hf
 obtain ⟨k1, s1⟩ := hs1.nameCell (i := i) (sz := e.lay.sz) (c := .lit (.slice none 0 0)) hmS (by rw [hav, List.getElem?_append_right (by omega), hlen]; simp) (fun K v hv => by simp only [SimV] at hv ⊢; exact ⟨none, hv⟩) hpn hSn hf.1 (D := d) (Nat.le_refl _) e.lay.pos
 have hheap : heapOf ν F st' S0 = ((heapOf ν F st S0).set (d, st.nx) (.buf 0)).set (ν m) (.box ((avs ν (st.H F) cs).set i (.slice (Own.at true (d, st.nx) 0) e.lay.sz []))) := by
  rw [g4, h5]
  have q1 : (SObj.tip true e []).ob ν (st.H F) = .buf 0 := by simp [SObj.ob, oT]
  rw [q1]
  congr 1
  simp only [SObj.ob]
  congr 1
  have hcur : curAV ν (st1.H F) (F.lv, st.nx) = .slice (Own.at true (d, st.nx) 0) e.lay.sz [] := by
   simp only [curAV, hgetH h7, h1, eT, flat, Own.at]
   simp
  have hold : ∀ l : List SV, acl (fun m => !ieq m (F.lv, st.nx)) l = true → avs ν (st1.H F) l = avs ν (st.H F) l := by
   intro l
   induction l with
   | nil => intro _; simp only [avs]
   | cons x l ih =>
    intro hl
    simp only [acl, Bool.and_eq_true] at hl
    cases hv : x.isVec with
    | false => rw [avs_one hv, avs_one hv, h8 x hl.1, ih hl.2]
    | true =>
     cases x <;> first | (simp [SV.isVec] at hv; done) | skip
     rw [avs_vec, avs_vec, ih hl.2]
  have hac : acl (fun m => !ieq m (F.lv, st.nx)) cs = true := by
   have := hn
   unfold SS.new at this
   simp only at this
   split at this <;> try (cases this; done)
   rename_i hc
   simp only [Bool.and_eq_true] at hc
   obtain ⟨⟨⟨⟨_, _⟩, c3⟩, _⟩, _⟩ := hc
   have key2 : ∀ l : SHp, hget l m = some (.box cs) → ∃ q ∈ l, q.2 = .box cs := by
    intro l
    induction l with
    | nil => intro h; cases h
    | cons p r ih =>
     obtain ⟨j, o⟩ := p
     intro h
     simp only [hget] at h
     split at h
     ·cases h; exact ⟨(j, .box cs), by simp, rfl⟩
     ·obtain ⟨q, h1, h2⟩ := ih h; exact ⟨q, by simp [h1], h2⟩
   obtain ⟨q, hq, he⟩ := key2 _ hm
   have := List.all_eq_true.1 c3 q hq
   rw [he] at this
   exact this
  have haca : acl (fun m => !ieq m (F.lv, st.nx)) a = true ∧ acl (fun m => !ieq m (F.lv, st.nx)) r = true := by
   rw [e1] at hac
   have key : ∀ (x y : List SV), acl (fun m => !ieq m (F.lv, st.nx)) (x ++ y) = true → acl (fun m => !ieq m (F.lv, st.nx)) x = true ∧ acl (fun m => !ieq m (F.lv, st.nx)) y = true := by
    intro x y
    induction x with
    | nil => intro h; exact ⟨by simp only [acl], h⟩
    | cons z x ih =>
     intro h
     simp only [List.cons_append, acl, Bool.and_eq_true] at h ⊢
     exact ⟨⟨h.1, (ih h.2).1⟩, (ih h.2).2⟩
   obtain ⟨p1, p2⟩ := key _ _ hac
   simp only [acl, Bool.and_eq_true] at p2
   exact ⟨p1, p2.2⟩
  rw [avs_append, avs_one rfl]
  simp only [SV.av]
  rw [hold a haca.1, hold r haca.2, hcur, hav, List.set_append_right _ _ (by omega), hlen]
  simp
 rw [hheap, g2, h2]
 refine ⟨_, ⟨k1, s1, Below.refl _ _, fun n hn0 h0 => ?_⟩, fun j => ?_, ?_⟩
 ·simp only [AHeap.set]
  rw [if_neg (by rintro rfl; rw [hmS] at h0; cases h0), if_neg (by rintro rfl; simp at hn0)]
  exact h0
 ·rw [sget_slotsOf]
  have := ht j
  rw [hs j] at this
  rw [g5 j, h6 j]
  exact this.mono k1
 ·have := hf.next (.buf 0) (Nat.le_refl _) (K' := K.unpend (d, st.nx)) (fun m hm hne => ⟨hm, hne⟩)
  refine ⟨this.1, fun k hk => ⟨(this.2 k hk).1, ?_⟩⟩
  have h0 := (this.2 k hk).2
  simp only [AHeap.set] at h0 ⊢
  rw [if_neg]; · exact h0
  intro e0
  have h9 := (hf.2 k (by omega)).2
  rw [e0, hmS] at h9; cases h9
def inIds (l : List Id) (m : Id) : Bool := l.any fun x => ieq x m
theorem inIds_iff {l : List Id} {m : Id} : inIds l m = true ↔ m ∈ l := by
 simp only [inIds, List.any_eq_true, ieq_iff, exists_eq_right]
theorem ac_all : ∀ (v : SV), v.ac (fun _ => true) = true := fun v =>
 SV.rec (motive_1 := fun v => v.ac (fun _ => true) = true) (motive_2 := fun l => acl (fun _ => true) l = true)
    rfl (fun _ => rfl) rfl (fun _ _ _ => rfl) (fun _ => rfl) (fun _ _ => rfl) (fun _ _ h => by simp only [SV.ac]; exact h) (fun _ _ => rfl) (fun _ _ _ _ => rfl)
    (fun _ _ h => by simp only [SV.ac]; exact h) (fun _ _ _ => rfl) (fun _ _ _ _ _ => rfl) (fun _ h => by simp only [SV.ac]; exact h) (fun _ h => by simp only [SV.ac]; exact h)
    (fun _ _ _ h1 h2 => by simp only [SV.ac, Bool.and_eq_true]; exact ⟨h1, h2⟩) (fun _ => rfl) (fun _ _ h => by simp only [SV.ac]; exact h) (fun _ => rfl) (fun _ _ => rfl)
    rfl (fun _ _ h1 h2 => by simp only [acl, Bool.and_eq_true]; exact ⟨h1, h2⟩) v
theorem hget_filter {H : SHp} {q : Id → Bool} {m : Id} : hget (H.filter fun p => q p.1) m = if q m then hget H m else none := by
 induction H with
 | nil => simp [hget]
 | cons p r ih =>
  obtain ⟨j, o⟩ := p
  simp only [List.filter_cons]
  by_cases hq : q j = true
  ·rw [if_pos hq]
   simp only [hget]
   by_cases e : ieq m j = true
   ·rw [if_pos e, if_pos e, ieq_iff.1 e, hq]; rfl
   ·rw [if_neg e, if_neg e]; exact ih
  ·rw [if_neg hq]
   simp only [hget]
   by_cases e : ieq m j = true
   ·rw [if_pos e]
    rw [ieq_iff] at e; subst e
    rw [ih]; simp [hq]
   ·rw [if_neg e]; exact ih
theorem ids_get' {H : SHp} {m : Id} (h : m ∈ SHp.ids H) : ∃ o, hget H m = some o := by
 cases hg : hget H m with
 | some o => exact ⟨o, rfl⟩
 | none => exact absurd h (hget_none hg)
theorem lget_notin' {l : List (Nat × SV)} {i : Nat} (h : inSl l i = false) : lget l i = .any := by
 induction l with
 | nil => rfl
 | cons p r ih =>
  obtain ⟨j, v⟩ := p
  simp only [inSl, List.any_cons, Bool.or_eq_false_iff] at h
  simp only [lget]
  rw [if_neg (fun e => by rw [e] at h; simp at h)]
  exact ih (by simpa [inSl] using h.2)
def fcl (m : Id) (p : Nat × SV) : Nat × SV := match p.2 with
 | .cur _ => p
 | v => if v.ac (fun x => !ieq x m) then p else (p.1, .any)
def gfrz (F : Fr) (t : Nat) (st : SS) : Option SS :=
 match lget st.sl t with
 | .cur m => match hget st.hp m with
  | some (.tip false e xs) => if inIds F.pr m = false ∧ inIds (SHp.ids F.hp) m = false ∧ allAc (fun x => !ieq x m) F.sl = true ∧ ((st.hp.filter fun q => !ieq q.1 m) ++ F.hp).all (fun q => q.2.ac (fun x => !ieq x m)) = true then
    some { st with sl := lput (st.sl.map (fcl m)) t (.sl .perm e xs), hp := st.hp.filter fun q => !ieq q.1 m } else none
  | _ => none
 | _ => none
theorem lget_fcl {m : Id} {t : Nat} {l : List (Nat × SV)} : lget (l.map (fcl m)) t = .any ∨ (lget (l.map (fcl m)) t = lget l t ∧ ((∃ m', lget l t = .cur m') ∨ (lget l t).ac (fun x => !ieq x m) = true)) := by
 induction l with
 | nil => exact .inl rfl
 | cons p r ih =>
  obtain ⟨j, v⟩ := p
  have hl : lget (fcl m (j, v) :: r.map (fcl m)) t = if t = j then (fcl m (j, v)).2 else lget (r.map (fcl m)) t := by
   have hk : (fcl m (j, v)).1 = j := by
    unfold fcl
    split
    ·rfl
    ·split <;> rfl
   rcases hu : fcl m (j, v) with ⟨a, b⟩
   rw [hu] at hk
   simp only at hk
   subst hk
   simp only [lget]
  rw [List.map_cons, hl]
  simp only [lget]
  by_cases e : t = j
  ·rw [if_pos e, if_pos e]
   unfold fcl
   split
   ·rename_i m' hv
    simp only at hv
    subst hv
    exact .inr ⟨rfl, .inl ⟨m', rfl⟩⟩
   ·split
    ·rename_i hm; exact .inr ⟨rfl, .inr hm⟩
    ·exact .inl rfl
  ·rw [if_neg e, if_neg e]; exact ih
theorem inSl_fcl {m : Id} {t : Nat} {l : List (Nat × SV)} : (l.map (fcl m)).any (fun p => p.1 == t) = l.any (fun p => p.1 == t) := by
 have hk : ∀ p : Nat × SV, (fcl m p).1 = p.1 := by
  rintro ⟨j, v⟩
  unfold fcl; split
  ·rfl
  ·split <;> rfl
 rw [List.any_map]
 congr 1
 funext p
 simp only [Function.comp, hk]
theorem gfrz_ok {t : Nat} (h : gfrz F t st = some st') : GhS pr df S0 F st st' := by
 intro ν d sl hok hs
 unfold gfrz at h
 split at h <;> try (cases h; done)
 rename_i m hl
 split at h <;> try (cases h; done)
 rename_i e xs hm
 split at h <;> try (cases h; done)
 rename_i hc
 obtain ⟨hpr, hF, c1, c2⟩ := hc
 cases h
 have hmF : hget F.hp m = none := by
  cases hg : hget F.hp m with
  | none => rfl
  | some o => rw [inIds_iff.2 (hget_mem hg)] at hF; cases hF
 have hgx : ∀ x, hget ((st.hp.filter fun q => !ieq q.1 m) ++ F.hp) x = if x = m then none else hget (st.hp ++ F.hp) x := by
  intro x
  rw [hget_append, hget_append, hget_filter (q := fun i => !ieq i m)]
  by_cases e : x = m
  ·subst e; simp [ieq_self, hmF]
  ·have : ieq x m = false := by rw [ieq_false]; exact e
   rw [if_neg e]; simp [this]
 have hH : hget (st.hp ++ F.hp) m = some (.tip false e xs) := by rw [hget_append, hm]
 have hmem : m ∈ SHp.ids (st.H F) := hget_mem hH
 have hsubm : ∀ a, a ∈ SHp.ids ((st.hp.filter fun q => !ieq q.1 m) ++ F.hp) → a ∈ SHp.ids (st.hp ++ F.hp) ∧ a ≠ m := by
  intro a ha
  obtain ⟨o, ho⟩ := ids_get' ha
  rw [hgx] at ho
  split at ho
  ·cases ho
  ·rename_i e; exact ⟨hget_mem ho, e⟩
 have hcur : ∀ x, (fun x => !ieq x m) x = true → curAV ν (st.hp ++ F.hp) x = curAV ν ((st.hp.filter fun q => !ieq q.1 m) ++ F.hp) x := by
  intro x hx
  simp only [Bool.not_eq_true', ieq_false] at hx
  simp only [curAV]
  rw [hgx x, if_neg hx]
 have hob : ∀ p ∈ ((st.hp.filter fun q => !ieq q.1 m) ++ F.hp), p.2.ob ν ((st.hp.filter fun q => !ieq q.1 m) ++ F.hp) = p.2.ob ν (st.hp ++ F.hp) := fun p hp => (SObj.ob_congr hcur (List.all_eq_true.1 c2 p hp)).symm
 have hheap : heapOf ν F ⟨lput (st.sl.map (fcl m)) t (.sl .perm e xs), st.hp.filter (fun q => !ieq q.1 m), st.nx⟩ S0 = (heapOf ν F st S0).del (ν m) := by
  funext n
  simp only [AHeap.del]
  by_cases e1 : n = ν m
  ·rw [if_pos e1, e1]
   unfold heapOf
   rw [hp_miss (f := fun o => o.ob ν _)]
   ·exact hok.none _ (hok.base m hmem (fun hc => by rw [inIds_iff.2 hc] at hpr; cases hpr))
   ·intro a ha e2
    obtain ⟨h1, h2⟩ := hsubm a ha
    exact h2 (hok.inj a h1 m hmem e2)
  ·rw [if_neg e1]
   by_cases hex : ∃ a ∈ SHp.ids (st.H F), ν a = n
   ·obtain ⟨a, ha, rfl⟩ := hex
    obtain ⟨o, ho⟩ := ids_get' ha
    have ham : a ≠ m := fun h => e1 (by rw [h])
    have ho' : hget ((st.hp.filter fun q => !ieq q.1 m) ++ F.hp) a = some o := by rw [hgx, if_neg ham]; exact ho
    unfold heapOf
    show hp (((st.hp.filter fun q => !ieq q.1 m) ++ F.hp).map fun p => (ν p.1, p.2.ob ν ((st.hp.filter fun q => !ieq q.1 m) ++ F.hp))) S0 (ν a) = _
    rw [hp_get (f := fun o => o.ob ν (st.H F)) hok.inj ho, hp_get (H := (st.hp.filter fun q => !ieq q.1 m) ++ F.hp) (f := fun o => o.ob ν ((st.hp.filter fun q => !ieq q.1 m) ++ F.hp)) (fun a ha b hb => hok.inj a (hsubm a ha).1 b (hsubm b hb).1) (m := a) (o := o) ho']
    have hin : ∀ l : SHp, hget l a = some o → ∃ j', (j', o) ∈ l := by
     intro l hl
     induction l with
     | nil => cases hl
     | cons p r ih =>
      obtain ⟨i, q⟩ := p
      simp only [hget] at hl
      split at hl
      ·cases hl; exact ⟨i, by simp⟩
      ·obtain ⟨j', g1⟩ := ih hl; exact ⟨j', by simp [g1]⟩
    obtain ⟨j', hj⟩ := hin _ ho'
    exact congrArg some (hob (j', o) hj)
   ·unfold heapOf
    rw [hp_miss (f := fun o => o.ob ν (st.H F)) (fun a ha e => hex ⟨a, ha, e⟩), hp_miss (f := fun o => o.ob ν _)]
    exact fun a ha e => hex ⟨a, (hsubm a ha).1, e⟩
 refine ⟨⟨fun a ha b hb => hok.inj a (hsubm a ha).1 b (hsubm b hb).1, fun a ha => hok.fr a (hsubm a ha).1, hok.lev, fun a ha => hok.base a (hsubm a ha).1, hok.low, hok.none, hok.par, hok.prs⟩, ?_⟩
 rw [hheap]
 intro K w ts hsat ht hfr
 have hat : st.at F t = .cur m := by
  simp only [SS.at]
  rw [lget_append]
  split
  ·exact hl
  ·rename_i hn
   have : lget st.sl t = .any := lget_notin' (by rw [Bool.not_eq_true] at hn; exact hn)
   rw [this] at hl; cases hl
 have h1 := ht t
 rw [hs t, hat] at h1
 have hcm : curAV ν (st.H F) m = eB e.lay (ν m) xs := by
  show curAV ν (st.hp ++ F.hp) m = _
  simp only [curAV, hH]
 simp only [SV.av] at h1
 rw [hcm] at h1
 have hS : heapOf ν F st S0 (ν m) = some (.buf (xs.length * e.lay.sz)) := hok.hok m (.tip false e xs) hH
 obtain ⟨K', k1, k2, k3, k4, k5⟩ := (hsat.hold hS h1).freeze d
 have hweak : ∀ v : SV, ((∃ m', v = .cur m') ∨ v.ac (fun x => !ieq x m) = true) → ∀ u, SimV K (v.av ν (st.H F)) u → SimV K' (v.av ν ((st.hp.filter fun q => !ieq q.1 m) ++ F.hp)) u := by
  rintro v hv u hu
  have key : v.ac (fun x => !ieq x m) = true → SimV K' (v.av ν ((st.hp.filter fun q => !ieq q.1 m) ++ F.hp)) u := fun hac => by
   have := SV.av_congr (ν := ν) hcur hac
   rw [← this]; exact hu.mono k1
  rcases hv with ⟨m', rfl⟩ | hv
  ·by_cases e1 : m' = m
   ·subst e1
    have : (SV.cur m').av ν ((st.hp.filter fun q => !ieq q.1 m') ++ F.hp) = .any := by
     simp only [SV.av, curAV]
     rw [hgx, if_pos rfl]
    rw [this]; simp only [SimV]
   ·exact key (by simp only [SV.ac, Bool.not_eq_true', ieq_false]; exact e1)
  ·exact key hv
 refine ⟨K', ⟨k1, k4, Below.refl _ _, fun n _ hn => ?_⟩, fun i => ?_, by rw [k2]; exact hfr.1, fun i hi => ⟨k3 _ (hfr.2 i hi).1, ?_⟩⟩
 ·simp only [AHeap.del]; split
  ·rfl
  ·exact hn
 ·rw [sget_slotsOf]
  have : SS.at F ⟨lput (st.sl.map (fcl m)) t (.sl .perm e xs), st.hp.filter (fun q => !ieq q.1 m), st.nx⟩ i = if i = t then .sl .perm e xs else lget (st.sl.map (fcl m) ++ F.sl) i := lget_put
  rw [this]
  by_cases e1 : i = t
  ·subst e1
   rw [if_pos rfl]
   simp only [SV.av, OwnI.of]
   exact k5
  ·rw [if_neg e1]
   have h2 := ht i
   rw [hs i] at h2
   show SimV K' (SV.av ν ((st.hp.filter fun q => !ieq q.1 m) ++ F.hp) _) _
   simp only [SS.at] at h2
   rw [lget_append] at h2 ⊢
   rw [inSl_fcl]
   by_cases hin : (st.sl.any fun p => p.1 == i) = true
   ·rw [if_pos hin] at h2 ⊢
    rcases lget_fcl (m := m) (t := i) (l := st.sl) with e2 | ⟨e2, e3⟩
    ·rw [e2]; simp only [SV.av, SimV]
    ·rw [e2]; exact hweak _ e3 _ h2
   ·rw [if_neg hin] at h2 ⊢
    exact hweak _ (.inr (allAc_get c1 i)) _ h2
 ·simp only [AHeap.del]; split
  ·rfl
  ·exact (hfr.2 i hi).2
def gfra (F : Fr) (t : Nat) (st : SS) : Option ((Nat × Nat) × SS) :=
 match lget st.sl t with
 | .sref m sz 0 len _ => match hget st.hp m with
  | some (.arr e xs) => if sz = e.sz ∧ inIds F.pr m = false ∧ inIds (SHp.ids F.hp) m = false then some ((xs.length, len), { st with sl := lput st.sl t (.sl .perm e xs), hp := st.hp.filter fun q => !ieq q.1 m }) else none
  | _ => none
 | _ => none
theorem gfra_ok {t : Nat} {p : Nat × Nat} (h : gfra F t st = some (p, st')) (hpe : p.1 = p.2) : GhS pr df S0 F st st' := by
 intro ν d sl hok hs
 unfold gfra at h
 split at h <;> try (cases h; done)
 rename_i m' sz len cap hl
 split at h <;> try (cases h; done)
 rename_i e xs hm
 split at h <;> try (cases h; done)
 rename_i hc
 obtain ⟨rfl, hpr, hF⟩ := hc
 cases h
 simp only at hpe
 have hmF : hget F.hp m' = none := by
  cases hg : hget F.hp m' with
  | none => rfl
  | some o => rw [inIds_iff.2 (hget_mem hg)] at hF; cases hF
 have hgx : ∀ x, hget ((st.hp.filter fun q => !ieq q.1 m') ++ F.hp) x = if x = m' then none else hget (st.hp ++ F.hp) x := by
  intro x
  rw [hget_append, hget_append, hget_filter (q := fun i => !ieq i m')]
  by_cases e : x = m'
  ·subst e; simp [ieq_self, hmF]
  ·have : ieq x m' = false := by rw [ieq_false]; exact e
   rw [if_neg e]; simp [this]
 have hH : hget (st.hp ++ F.hp) m' = some (.arr e xs) := by rw [hget_append, hm]
 have hmem : m' ∈ SHp.ids (st.H F) := hget_mem hH
 have hsubm : ∀ a, a ∈ SHp.ids ((st.hp.filter fun q => !ieq q.1 m') ++ F.hp) → a ∈ SHp.ids (st.hp ++ F.hp) ∧ a ≠ m' := by
  intro a ha
  obtain ⟨o, ho⟩ := ids_get' ha
  rw [hgx] at ho
  split at ho
  ·cases ho
  ·rename_i e; exact ⟨hget_mem ho, e⟩
 have hcur : ∀ x, (fun _ => true) x = true → curAV ν (st.hp ++ F.hp) x = curAV ν ((st.hp.filter fun q => !ieq q.1 m') ++ F.hp) x := by
  intro x _
  simp only [curAV]
  rw [hgx x]
  by_cases e : x = m'
  ·subst e; rw [if_pos rfl, hH]
  ·rw [if_neg e]
 have hav : ∀ v : SV, v.av ν ((st.hp.filter fun q => !ieq q.1 m') ++ F.hp) = v.av ν (st.hp ++ F.hp) := fun v => (SV.av_congr hcur (ac_all v)).symm
 have hob : ∀ o : SObj, o.ob ν ((st.hp.filter fun q => !ieq q.1 m') ++ F.hp) = o.ob ν (st.hp ++ F.hp) := by
  intro o
  cases o with
  | box l =>
   have := hav (.agg l)
   simp only [SV.av, AV.agg.injEq] at this
   simp only [SObj.ob, this]
  | tip => rfl
  | arr => rfl
  | obox b l =>
   have := hav (.agg l)
   simp only [SV.av, AV.agg.injEq] at this
   simp only [SObj.ob, this]
 have hheap : heapOf ν F ⟨lput st.sl t (.sl .perm e xs), st.hp.filter (fun q => !ieq q.1 m'), st.nx⟩ S0 = (heapOf ν F st S0).del (ν m') := by
  funext n
  simp only [AHeap.del]
  by_cases e : n = ν m'
  ·rw [if_pos e, e]
   unfold heapOf
   rw [hp_miss (f := fun o => o.ob ν _)]
   ·exact hok.none _ (hok.base m' hmem (fun hc => by rw [inIds_iff.2 hc] at hpr; cases hpr))
   ·intro a ha e2
    obtain ⟨h1, h2⟩ := hsubm a ha
    exact h2 (hok.inj a h1 m' hmem e2)
  ·rw [if_neg e]
   by_cases hex : ∃ a ∈ SHp.ids (st.H F), ν a = n
   ·obtain ⟨a, ha, rfl⟩ := hex
    obtain ⟨o, ho⟩ := ids_get' ha
    have ham : a ≠ m' := fun h => e (by rw [h])
    unfold heapOf
    show hp (((st.hp.filter fun q => !ieq q.1 m') ++ F.hp).map fun p => (ν p.1, p.2.ob ν ((st.hp.filter fun q => !ieq q.1 m') ++ F.hp))) S0 (ν a) = _
    rw [hp_get (f := fun o => o.ob ν (st.H F)) hok.inj ho, hp_get (H := (st.hp.filter fun q => !ieq q.1 m') ++ F.hp) (f := fun o => o.ob ν ((st.hp.filter fun q => !ieq q.1 m') ++ F.hp)) (fun a ha b hb => hok.inj a (hsubm a ha).1 b (hsubm b hb).1) (m := a) (o := o) (by rw [hgx, if_neg ham]; exact ho)]
    rw [hob]; rfl
   ·unfold heapOf
    rw [hp_miss (f := fun o => o.ob ν (st.H F)) (fun a ha e => hex ⟨a, ha, e⟩), hp_miss (f := fun o => o.ob ν _)]
    exact fun a ha e => hex ⟨a, (hsubm a ha).1, e⟩
 refine ⟨⟨fun a ha b hb => hok.inj a (hsubm a ha).1 b (hsubm b hb).1, fun a ha => hok.fr a (hsubm a ha).1, hok.lev, fun a ha => hok.base a (hsubm a ha).1, hok.low, hok.none, hok.par, hok.prs⟩, ?_⟩
 rw [hheap]
 intro K w ts hsat ht hfr
 have hat : st.at F t = .sref m' e.sz 0 len cap := by
  simp only [SS.at]
  rw [lget_append]
  split
  ·exact hl
  ·rename_i hn
   have : lget st.sl t = .any := lget_notin' (by rw [Bool.not_eq_true] at hn; exact hn)
   rw [this] at hl; cases hl
 have h1 := ht t
 rw [hs t, hat] at h1
 simp only [SV.av, SimV] at h1
 obtain ⟨b, f, cap', hb, hv, hc1, hc2, hz⟩ := h1
 have hS : heapOf ν F st S0 (ν m') = some (.box (flat e.lay xs)) := hok.hok m' (.arr e xs) hH
 obtain ⟨k1, k2⟩ := hsat.froz hS hb
 refine ⟨_, ⟨K.froz_le w b f _ d, k1, Below.refl _ _, fun n _ hn => ?_⟩, fun i => ?_, hfr.1, fun i hi => ⟨(hfr.2 i hi).1, ?_⟩⟩
 ·simp only [AHeap.del]; split
  ·rfl
  ·exact hn
 ·rw [sget_slotsOf]
  have : SS.at F ⟨lput st.sl t (.sl .perm e xs), st.hp.filter (fun q => !ieq q.1 m'), st.nx⟩ i = if i = t then .sl .perm e xs else st.at F i := lget_put
  rw [this]
  by_cases e : i = t
  ·subst e
   rw [if_pos rfl]
   simp only [SV.av, SimV]
   have hlen : (flat e.lay xs).length = len * e.lay.sz := by rw [flat_length, hpe]
   exact ⟨_, _, _, hv, hlen.symm, Nat.le_trans hc1 hc2, e.lay.pos, .inr ⟨b, f + 0, rfl, k2, trivial⟩⟩
  ·rw [if_neg e]
   have h2 := ht i
   rw [hs i] at h2
   have h3 := hav (st.at F i)
   show SimV _ (SV.av ν ((st.hp.filter fun q => !ieq q.1 m') ++ F.hp) (st.at F i)) _
   rw [h3]
   exact h2.mono (K.froz_le w b f _ 0)
 ·simp only [AHeap.del]; split
  ·rfl
  ·exact (hfr.2 i hi).2
theorem cell_cur {m : Id} {i : Nat} {a r cs : List SV} {c0 : SV} {pm : Bool} {e : Ty} {xs : List e.den} {id : Id} {st1 st' : SS} (hok : Okk pr df S0 F st ν d) (hm : hget st.hp m = some (.box cs)) (hcut : cutAt i cs = some (a, c0 :: r)) (hc0 : c0.isVec = false)
  (hn : st.new F (.tip pm e xs) = some (id, st1)) (h : st1.upd F m (.box (a ++ .cur id :: r)) = some st') :
  Okk pr df S0 F st' ν d ∧ st'.nx = st.nx + 1 ∧ heapOf ν F st S0 (ν m) = some (.box (avs ν (st.H F) cs)) ∧ (avs ν (st.H F) cs)[i]? = some (c0.av ν (st.H F)) ∧
  heapOf ν F st' S0 = ((heapOf ν F st S0).set (d, st.nx) (oT e.lay xs)).set (ν m) (.box ((avs ν (st.H F) cs).set i (if pm then eT e.lay (d, st.nx) xs else eB e.lay (d, st.nx) xs))) ∧
  ∀ j, sget (slotsOf ν F st') j = (st.at F j).av ν (st.H F) := by
 obtain ⟨rfl, h1, h2, h3, h4, h5, h6, h7, h8⟩ := new_ok hok hn
 obtain ⟨g1, g2, g3, g4, g5, g6, g7⟩ := upd_ok h4 h
 obtain ⟨e1, e2⟩ := cutAt_some hcut
 have hmS := hok.hok m _ (hgetH hm)
 simp only [SObj.ob] at hmS
 have hav : avs ν (st.H F) cs = avs ν (st.H F) a ++ c0.av ν (st.H F) :: avs ν (st.H F) r := by
  rw [e1, avs_append, avs_one hc0]
 have hlen : (avs ν (st.H F) a).length = i := by rw [avs_length]; exact e2
 refine ⟨g1, by rw [g2, h2], hmS, by rw [hav, List.getElem?_append_right (by omega), hlen]; simp, ?_, fun j => by rw [sget_slotsOf, g5 j, h6 j]⟩
 rw [g4, h5]
 have q1 : (SObj.tip pm e xs).ob ν (st.H F) = oT e.lay xs := by simp [SObj.ob]
 rw [q1]
 congr 1
 simp only [SObj.ob]
 congr 1
 have hcur : curAV ν (st1.H F) (F.lv, st.nx) = if pm then eT e.lay (d, st.nx) xs else eB e.lay (d, st.nx) xs := by
  simp only [curAV, hgetH h7, h1]
  cases pm <;> rfl
 have hold : ∀ l : List SV, acl (fun m => !ieq m (F.lv, st.nx)) l = true → avs ν (st1.H F) l = avs ν (st.H F) l := by
  intro l
  induction l with
  | nil => intro _; simp only [avs]
  | cons x l ih =>
   intro hl
   simp only [acl, Bool.and_eq_true] at hl
   cases hv : x.isVec with
   | false => rw [avs_one hv, avs_one hv, h8 x hl.1, ih hl.2]
   | true =>
    cases x <;> first | (simp [SV.isVec] at hv; done) | skip
    rw [avs_vec, avs_vec, ih hl.2]
 have hac : acl (fun m => !ieq m (F.lv, st.nx)) cs = true := by
  have := hn
  unfold SS.new at this
  simp only at this
  split at this <;> try (cases this; done)
  rename_i hc
  simp only [Bool.and_eq_true] at hc
  obtain ⟨⟨⟨⟨_, _⟩, c3⟩, _⟩, _⟩ := hc
  have key2 : ∀ l : SHp, hget l m = some (.box cs) → ∃ q ∈ l, q.2 = .box cs := by
   intro l
   induction l with
   | nil => intro h; cases h
   | cons p r ih =>
    obtain ⟨j, o⟩ := p
    intro h
    simp only [hget] at h
    split at h
    ·cases h; exact ⟨(j, .box cs), by simp, rfl⟩
    ·obtain ⟨q, h1, h2⟩ := ih h; exact ⟨q, by simp [h1], h2⟩
  obtain ⟨q, hq, he⟩ := key2 _ hm
  have := List.all_eq_true.1 c3 q hq
  rw [he] at this
  exact this
 have haca : acl (fun m => !ieq m (F.lv, st.nx)) a = true ∧ acl (fun m => !ieq m (F.lv, st.nx)) r = true := by
  rw [e1] at hac
  have key : ∀ (x y : List SV), acl (fun m => !ieq m (F.lv, st.nx)) (x ++ y) = true → acl (fun m => !ieq m (F.lv, st.nx)) x = true ∧ acl (fun m => !ieq m (F.lv, st.nx)) y = true := by
   intro x y
   induction x with
   | nil => intro h; exact ⟨by simp only [acl], h⟩
   | cons z x ih =>
    intro h
    simp only [List.cons_append, acl, Bool.and_eq_true] at h ⊢
    exact ⟨⟨h.1, (ih h.2).1⟩, (ih h.2).2⟩
  obtain ⟨p1, p2⟩ := key _ _ hac
  simp only [acl, Bool.and_eq_true] at p2
  exact ⟨p1, p2.2⟩
 rw [avs_append, avs_one rfl]
 simp only [SV.av]
 rw [hold a haca.1, hold r haca.2, hcur, hav, List.set_append_right _ _ (by omega), hlen]
 simp
def gopn (F : Fr) (m : Id) (i : Nat) (st : SS) : Option SS :=
 match hget st.hp m with
 | some (.box cs) => match cutAt i cs with
  | some (a, .own e xs :: r) => match st.new F (.tip false e xs) with
   | some (id, st1) => if ieq id m then none else st1.upd F m (.box (a ++ .cur id :: r))
   | none => none
  | _ => none
 | _ => none
theorem gopn_ok {m : Id} {i : Nat} (h : gopn F m i st = some st') : GhS pr df S0 F st st' := by
 intro ν d sl hok hs
 unfold gopn at h
 split at h <;> try (cases h; done)
 rename_i cs hm
 split at h <;> try (cases h; done)
 rename_i a e xs r hcut
 split at h <;> try (cases h; done)
 rename_i id st1 hn
 split at h <;> try (cases h; done)
 obtain ⟨k1, k2, k3, k4, k5, k6⟩ := cell_cur hok hm hcut rfl hn h
 simp only [SV.av] at k4
 refine ⟨k1, ?_⟩
 rw [k5, k2]
 simp only [Bool.false_eq_true, if_false]
 intro K w ts hs1 ht hf
 obtain ⟨hpn, hSn⟩ := fresh_pend hf
 obtain ⟨K', s1, s2, s3, s4⟩ := hs1.open (D := d) k3 k4 hpn hSn (Nat.le_refl _)
 rw [flat_length] at s4
 have hne : ∀ k, st.nx ≤ k → ν m ≠ (d, k) := by
  intro k hk e0
  have h9 := (hf.2 k hk).2
  rw [← e0, k3] at h9; cases h9
 refine ⟨K', ⟨s1, s4, Below.refl _ _, fun n hn0 h0 => ?_⟩, fun j => ?_, by rw [s2]; exact hf.1, fun k hk => ⟨s3 _ (hf.2 k (by omega)).1 (by simp; omega), ?_⟩⟩
 ·simp only [AHeap.set]
  rw [if_neg (by rintro rfl; rw [k3] at h0; cases h0), if_neg (by rintro rfl; simp at hn0)]
  exact h0
 ·rw [k6 j, ← hs j]
  exact (ht j).mono s1
 ·simp only [AHeap.set]
  rw [if_neg (fun e => hne k (by omega) e.symm), if_neg (by simp; omega)]
  exact (hf.2 k (by omega)).2
def goni (F : Fr) (m : Id) (i : Nat) (e : Ty) (st : SS) : Option SS :=
 match hget st.hp m with
 | some (.box cs) => match cutAt i cs with
  | some (a, .lit (.slice none 0 0) :: r) => st.upd F m (.box (a ++ .own e [] :: r))
  | some (a, .empt :: r) => st.upd F m (.box (a ++ .own e [] :: r))
  | _ => none
 | _ => none
theorem goni_aux {m : Id} {i : Nat} {e : Ty} {cs a r : List SV} {c0 : SV} (hok : Okk pr df S0 F st ν d) (hs : SlEq ν F st sl) (hm : hget st.hp m = some (.box cs)) (hcut : cutAt i cs = some (a, c0 :: r)) (hc0 : c0.isVec = false) (hsub : Sub (c0.av ν (st.H F)) .empt)
  (h : st.upd F m (.box (a ++ .own e [] :: r)) = some st') : Okk pr df S0 F st' ν d ∧ Ghost d sl (heapOf ν F st S0) st.nx (slotsOf ν F st') (heapOf ν F st' S0) st'.nx := by
 obtain ⟨g1, g2, g3, g4, g5, g6, g7⟩ := upd_ok hok h
 obtain ⟨e1, e2⟩ := cutAt_some hcut
 have hmS := hok.hok m _ (hgetH hm)
 simp only [SObj.ob] at hmS
 have hav : avs ν (st.H F) cs = avs ν (st.H F) a ++ c0.av ν (st.H F) :: avs ν (st.H F) r := by
  rw [e1, avs_append, avs_one hc0]
 have hlen : (avs ν (st.H F) a).length = i := by rw [avs_length]; exact e2
 have hi : (avs ν (st.H F) cs)[i]? = some (c0.av ν (st.H F)) := by rw [hav, List.getElem?_append_right (by omega), hlen]; simp
 have hnew : (SObj.box (a ++ .own e [] :: r)).ob ν (st.H F) = .box ((avs ν (st.H F) cs).set i (.own e.lay.sz [])) := by
  simp only [SObj.ob]
  congr 1
  rw [avs_append, avs_one rfl, hav, List.set_append_right _ _ (by omega), hlen]
  simp [SV.av, eO, flat]
 refine ⟨g1, ?_⟩
 rw [g4, hnew, g2]
 intro K w ts hs1 ht hf
 refine ⟨K, ⟨Kle.refl _ _, hs1.ownNil (sz := e.lay.sz) hmS hi hsub e.lay.pos, Below.refl _ _, fun n hn0 h0 => ?_⟩, fun j => ?_, hf.1, fun k hk => ⟨(hf.2 k hk).1, ?_⟩⟩
 ·simp only [AHeap.set]
  rw [if_neg (by rintro rfl; rw [hmS] at h0; cases h0)]
  exact h0
 ·rw [sget_slotsOf, g5 j, ← hs j]; exact ht j
 ·simp only [AHeap.set]
  rw [if_neg (by rintro e0; have h9 := (hf.2 k hk).2; rw [e0, hmS] at h9; cases h9)]
  exact (hf.2 k hk).2
theorem goni_ok {m : Id} {i : Nat} {e : Ty} (h : goni F m i e st = some st') : GhS pr df S0 F st st' := by
 intro ν d sl hok hs
 unfold goni at h
 split at h <;> try (cases h; done)
 rename_i cs hm
 split at h <;> try (cases h; done)
 ·rename_i a r hcut
  exact goni_aux hok hs hm hcut rfl (by simp only [SV.av]; exact Sub.nil_empt) h
 ·rename_i a r hcut
  exact goni_aux hok hs hm hcut rfl (by simp only [SV.av]; exact Sub.refl) h
def gfgo (F : Fr) (m : Id) (st : SS) : Option SS :=
 match hget st.hp m with
 | some o => if o.isTip = false ∧ inIds F.pr m = false ∧ inIds (SHp.ids F.hp) m = false then some { st with hp := st.hp.filter fun q => !ieq q.1 m } else none
 | none => none
theorem gfgo_ok {m' : Id} (h : gfgo F m' st = some st') : GhS pr df S0 F st st' := by
 intro ν d sl hok hs
 unfold gfgo at h
 split at h <;> try (cases h; done)
 rename_i o0 hm
 split at h <;> try (cases h; done)
 rename_i hc
 obtain ⟨ht0, hpr, hF⟩ := hc
 cases h
 have hmF : hget F.hp m' = none := by
  cases hg : hget F.hp m' with
  | none => rfl
  | some o => rw [inIds_iff.2 (hget_mem hg)] at hF; cases hF
 have hgx : ∀ x, hget ((st.hp.filter fun q => !ieq q.1 m') ++ F.hp) x = if x = m' then none else hget (st.hp ++ F.hp) x := by
  intro x
  rw [hget_append, hget_append, hget_filter (q := fun i => !ieq i m')]
  by_cases e : x = m'
  ·subst e; simp [ieq_self, hmF]
  ·have : ieq x m' = false := by rw [ieq_false]; exact e
   rw [if_neg e]; simp [this]
 have hH : hget (st.hp ++ F.hp) m' = some o0 := by rw [hget_append, hm]
 have hmem : m' ∈ SHp.ids (st.H F) := hget_mem hH
 have hsubm : ∀ a, a ∈ SHp.ids ((st.hp.filter fun q => !ieq q.1 m') ++ F.hp) → a ∈ SHp.ids (st.hp ++ F.hp) ∧ a ≠ m' := by
  intro a ha
  obtain ⟨o, ho⟩ := ids_get' ha
  rw [hgx] at ho
  split at ho
  ·cases ho
  ·rename_i e; exact ⟨hget_mem ho, e⟩
 have hcur : ∀ x, (fun _ => true) x = true → curAV ν (st.hp ++ F.hp) x = curAV ν ((st.hp.filter fun q => !ieq q.1 m') ++ F.hp) x := by
  intro x _
  simp only [curAV]
  rw [hgx x]
  by_cases e : x = m'
  ·subst e; rw [if_pos rfl, hH]
   cases o0 <;> first | rfl | (simp [SObj.isTip] at ht0)
  ·rw [if_neg e]
 have hav : ∀ v : SV, v.av ν ((st.hp.filter fun q => !ieq q.1 m') ++ F.hp) = v.av ν (st.hp ++ F.hp) := fun v => (SV.av_congr hcur (ac_all v)).symm
 have hob : ∀ o : SObj, o.ob ν ((st.hp.filter fun q => !ieq q.1 m') ++ F.hp) = o.ob ν (st.hp ++ F.hp) := by
  intro o
  cases o with
  | box l =>
   have := hav (.agg l)
   simp only [SV.av, AV.agg.injEq] at this
   simp only [SObj.ob, this]
  | tip => rfl
  | arr => rfl
  | obox b l =>
   have := hav (.agg l)
   simp only [SV.av, AV.agg.injEq] at this
   simp only [SObj.ob, this]
 have hheap : heapOf ν F { st with hp := st.hp.filter fun q => !ieq q.1 m' } S0 = (heapOf ν F st S0).del (ν m') := by
  funext n
  simp only [AHeap.del]
  by_cases e : n = ν m'
  ·rw [if_pos e, e]
   unfold heapOf
   rw [hp_miss (f := fun o => o.ob ν _)]
   ·exact hok.none _ (hok.base m' hmem (fun hc => by rw [inIds_iff.2 hc] at hpr; cases hpr))
   ·intro a ha e2
    obtain ⟨h1, h2⟩ := hsubm a ha
    exact h2 (hok.inj a h1 m' hmem e2)
  ·rw [if_neg e]
   by_cases hex : ∃ a ∈ SHp.ids (st.H F), ν a = n
   ·obtain ⟨a, ha, rfl⟩ := hex
    obtain ⟨o, ho⟩ := ids_get' ha
    have ham : a ≠ m' := fun h => e (by rw [h])
    unfold heapOf
    show hp (((st.hp.filter fun q => !ieq q.1 m') ++ F.hp).map fun p => (ν p.1, p.2.ob ν ((st.hp.filter fun q => !ieq q.1 m') ++ F.hp))) S0 (ν a) = _
    rw [hp_get (f := fun o => o.ob ν (st.H F)) hok.inj ho, hp_get (H := (st.hp.filter fun q => !ieq q.1 m') ++ F.hp) (f := fun o => o.ob ν ((st.hp.filter fun q => !ieq q.1 m') ++ F.hp)) (fun a ha b hb => hok.inj a (hsubm a ha).1 b (hsubm b hb).1) (m := a) (o := o) (by rw [hgx, if_neg ham]; exact ho)]
    rw [hob]; rfl
   ·unfold heapOf
    rw [hp_miss (f := fun o => o.ob ν (st.H F)) (fun a ha e => hex ⟨a, ha, e⟩), hp_miss (f := fun o => o.ob ν _)]
    exact fun a ha e => hex ⟨a, (hsubm a ha).1, e⟩
 refine ⟨⟨fun a ha b hb => hok.inj a (hsubm a ha).1 b (hsubm b hb).1, fun a ha => hok.fr a (hsubm a ha).1, hok.lev, fun a ha => hok.base a (hsubm a ha).1, hok.low, hok.none, hok.par, hok.prs⟩, ?_⟩
 rw [hheap]
 refine (Ghost.slots fun i => ?_ : Ghost d sl (heapOf ν F st S0) st.nx (slotsOf ν F { st with hp := st.hp.filter fun q => !ieq q.1 m' }) (heapOf ν F st S0) st.nx).trans (Ghost.less fun n o hn => ?_)
 ·rw [sget_slotsOf, hs i]
  have h3 := hav (st.at F i)
  show Sub _ (SV.av ν ((st.hp.filter fun q => !ieq q.1 m') ++ F.hp) (st.at F i))
  rw [h3]; exact Sub.refl
 ·simp only [AHeap.del] at hn
  split at hn
  ·cases hn
  ·exact hn
def gdum (F : Fr) (o : SObj) (st : SS) : Option SS := match st.new F o with
 | some (_, st') => some st'
 | none => none
theorem gdum_ok {o : SObj} (ho : ∀ (ν : Nm) H, o.ob ν H = .buf 0) (h : gdum F o st = some st') : GhS pr df S0 F st st' := by
 intro ν d sl hok hs
 unfold gdum at h
 split at h <;> try (cases h; done)
 rename_i id s1 hn
 cases h
 obtain ⟨rfl, h1, h2, h3, h4, h5, h6, h7, h8⟩ := new_ok hok hn
 refine ⟨h4, ?_⟩
 rw [h5, h2, ho]
 intro K w ts hs1 ht hf
 obtain ⟨hpn, hSn⟩ := fresh_pend hf
 obtain ⟨k1, s1, -⟩ := hs1.openBuf hpn hf.1 (D := d) (Nat.le_refl _) (sz := 1) (Nat.lt_succ_self 0) true none
 refine ⟨K.unpend (d, st.nx), ⟨k1, s1, Below.refl _ _, set_names⟩, fun j => ?_, hf.next _ (Nat.le_refl _) (fun m hm hne => ⟨hm, hne⟩)⟩
 rw [sget_slotsOf, h6 j, ← hs j]
 exact (ht j).mono k1
def fgoOf (F : Fr) (H : SHp) (k m : Id) : List Gs := H.filterMap fun p => if ieq p.1 k || ieq p.1 m || inIds F.pr p.1 || p.2.ac (fun x => !ieq x k) then none else some (.fgo p.1)
def kcl (k : Id) (v : SV) : SV := if v.ac (fun x => !ieq x k) then v else .any
def clsSt (F : Fr) (m k : Id) (st : SS) (cs' : List SV) : Option SS :=
 if ieq k m = false ∧ inIds F.pr k = false ∧ inIds (SHp.ids F.hp) k = false ∧ inIds (SHp.ids F.hp) m = false ∧ acl (fun x => !ieq x k) cs' = true ∧ allAc (fun x => !ieq x k) F.sl = true ∧
   ((st.hp.filter fun q => !ieq q.1 k) ++ F.hp).all (fun q => ieq q.1 m || q.2.ac (fun x => !ieq x k)) = true then
  some { st with sl := st.sl.map fun p => (p.1, kcl k p.2), hp := hupd (st.hp.filter fun q => !ieq q.1 k) m (.box cs') }
 else none
theorem cls_ok {m k : Id} {cs cs' : List SV} {e : Ty} {xs : List e.den} {pm : Bool} (hok : Okk pr df S0 F st ν d) (hm : hget st.hp m = some (.box cs)) (hk : hget st.hp k = some (.tip pm e xs)) (h : clsSt F m k st cs' = some st') :
  Okk pr df S0 F st' ν d ∧ st'.nx = st.nx ∧ heapOf ν F st S0 (ν m) = some (.box (avs ν (st.H F) cs)) ∧ heapOf ν F st S0 (ν k) = some (oT e.lay xs) ∧
  heapOf ν F st' S0 = ((heapOf ν F st S0).del (ν k)).set (ν m) (.box (avs ν (st.H F) cs')) ∧ ∀ j, sget (slotsOf ν F st') j = .any ∨ sget (slotsOf ν F st') j = (st.at F j).av ν (st.H F) := by
 unfold clsSt at h
 split at h <;> try (cases h; done)
 rename_i hc
 obtain ⟨c0, hpr, hF, hFm, c1, c2, c3⟩ := hc
 cases h
 have hne : k ≠ m := by rintro rfl; rw [ieq_self] at c0; cases c0
 have hnF : ∀ {x : Id}, inIds (SHp.ids F.hp) x = false → hget F.hp x = none := by
  intro x hx
  cases hg : hget F.hp x with
  | none => rfl
  | some o => rw [inIds_iff.2 (hget_mem hg)] at hx; cases hx
 have hfm : hget (st.hp.filter fun q => !ieq q.1 k) m = some (.box cs) := by
  rw [hget_filter (q := fun i => !ieq i k), show ieq m k = false from by rw [ieq_false]; exact hne.symm]; exact hm
 have hgx : ∀ x, hget (hupd (st.hp.filter fun q => !ieq q.1 k) m (.box cs') ++ F.hp) x = if x = k then none else if x = m then some (.box cs') else hget (st.hp ++ F.hp) x := by
  intro x
  rw [hget_append, hget_append, hupd_get hfm, hget_filter (q := fun i => !ieq i k)]
  by_cases e : x = k
  ·subst e; rw [if_neg hne]; simp [ieq_self, hnF hF]
  ·have : ieq x k = false := by rw [ieq_false]; exact e
   rw [if_neg e]
   by_cases e2 : x = m
   ·rw [if_pos e2, if_pos e2]
   ·rw [if_neg e2, if_neg e2]; simp [this]
 have hHm : hget (st.hp ++ F.hp) m = some (.box cs) := by rw [hget_append, hm]
 have hHk : hget (st.hp ++ F.hp) k = some (.tip pm e xs) := by rw [hget_append, hk]
 have hmem : k ∈ SHp.ids (st.H F) := hget_mem hHk
 have hsubm : ∀ a, a ∈ SHp.ids (hupd (st.hp.filter fun q => !ieq q.1 k) m (.box cs') ++ F.hp) → a ∈ SHp.ids (st.hp ++ F.hp) ∧ a ≠ k := by
  intro a ha
  obtain ⟨o, ho⟩ := ids_get' ha
  rw [hgx] at ho
  split at ho
  ·cases ho
  ·rename_i e
   refine ⟨?_, e⟩
   split at ho
   ·rename_i e2; rw [e2]; exact hget_mem hHm
   ·exact hget_mem ho
 have hcur : ∀ x, (fun x => !ieq x k) x = true → curAV ν (st.hp ++ F.hp) x = curAV ν (hupd (st.hp.filter fun q => !ieq q.1 k) m (.box cs') ++ F.hp) x := by
  intro x hx
  simp only [Bool.not_eq_true', ieq_false] at hx
  simp only [curAV]
  rw [hgx x, if_neg hx]
  by_cases e2 : x = m
  ·rw [if_pos e2, e2, hHm]
  ·rw [if_neg e2]
 have hinj' : ∀ a ∈ SHp.ids (hupd (st.hp.filter fun q => !ieq q.1 k) m (.box cs') ++ F.hp), ∀ b ∈ SHp.ids (hupd (st.hp.filter fun q => !ieq q.1 k) m (.box cs') ++ F.hp), ν a = ν b → a = b := fun a ha b hb => hok.inj a (hsubm a ha).1 b (hsubm b hb).1
 refine ⟨⟨hinj', fun a ha => hok.fr a (hsubm a ha).1, hok.lev, fun a ha => hok.base a (hsubm a ha).1, hok.low, hok.none, hok.par, hok.prs⟩, rfl, hok.hok m _ hHm, hok.hok k _ hHk, ?_, fun j => ?_⟩
 ·funext n
  simp only [AHeap.set, AHeap.del]
  by_cases e0 : n = ν m
  ·rw [if_pos e0, e0]
   unfold heapOf
   show hp ((hupd (st.hp.filter fun q => !ieq q.1 k) m (.box cs') ++ F.hp).map fun p => (ν p.1, p.2.ob ν (hupd (st.hp.filter fun q => !ieq q.1 k) m (.box cs') ++ F.hp))) S0 (ν m) = _
   rw [hp_get (f := fun o => o.ob ν (hupd (st.hp.filter fun q => !ieq q.1 k) m (.box cs') ++ F.hp)) hinj' (m := m) (o := .box cs') (by rw [hgx, if_neg hne.symm, if_pos rfl])]
   simp only [SObj.ob]
   rw [← avs_congr hcur c1]; rfl
  ·rw [if_neg e0]
   by_cases e1 : n = ν k
   ·rw [if_pos e1, e1]
    unfold heapOf
    rw [hp_miss (f := fun o => o.ob ν _)]
    ·exact hok.none _ (hok.base k hmem (fun hc => by rw [inIds_iff.2 hc] at hpr; cases hpr))
    ·intro a ha e2
     obtain ⟨h1, h2⟩ := hsubm a ha
     exact h2 (hok.inj a h1 k hmem e2)
   ·rw [if_neg e1]
    by_cases hex : ∃ a ∈ SHp.ids (st.H F), ν a = n
    ·obtain ⟨a, ha, rfl⟩ := hex
     obtain ⟨o, ho⟩ := ids_get' ha
     have hak : a ≠ k := fun h => e1 (by rw [h])
     have ham : a ≠ m := fun h => e0 (by rw [h])
     have ho' : hget (hupd (st.hp.filter fun q => !ieq q.1 k) m (.box cs') ++ F.hp) a = some o := by rw [hgx, if_neg hak, if_neg ham]; exact ho
     unfold heapOf
     show hp ((hupd (st.hp.filter fun q => !ieq q.1 k) m (.box cs') ++ F.hp).map fun p => (ν p.1, p.2.ob ν (hupd (st.hp.filter fun q => !ieq q.1 k) m (.box cs') ++ F.hp))) S0 (ν a) = _
     rw [hp_get (f := fun o => o.ob ν (st.H F)) hok.inj ho, hp_get (f := fun o => o.ob ν (hupd (st.hp.filter fun q => !ieq q.1 k) m (.box cs') ++ F.hp)) hinj' ho']
     congr 1
     refine (SObj.ob_congr hcur ?_).symm
     have hin : ∃ q ∈ (st.hp.filter fun q => !ieq q.1 k) ++ F.hp, q.1 = a ∧ q.2 = o := by
      have key : ∀ l : SHp, hget l a = some o → ∃ q ∈ l, q.1 = a ∧ q.2 = o := by
       intro l
       induction l with
       | nil => intro h; cases h
       | cons p r ih =>
        obtain ⟨j, o'⟩ := p
        intro h
        simp only [hget] at h
        split at h
        ·rename_i ej; cases h; exact ⟨(j, o), by simp, (ieq_iff.1 ej).symm, rfl⟩
        ·obtain ⟨q, h1, h2⟩ := ih h; exact ⟨q, by simp [h1], h2⟩
      refine key _ ?_
      rw [hget_append, hget_filter (q := fun i => !ieq i k), show ieq a k = false from by rw [ieq_false]; exact hak]
      simp only [SS.H, hget_append] at ho
      exact ho
     obtain ⟨q, hq, rfl, rfl⟩ := hin
     have := List.all_eq_true.1 c3 q hq
     rw [Bool.or_eq_true, ieq_iff] at this
     rcases this with h9 | h9
     ·exact absurd h9 ham
     ·exact h9
    ·unfold heapOf
     rw [hp_miss (f := fun o => o.ob ν (st.H F)) (fun a ha e => hex ⟨a, ha, e⟩), hp_miss (f := fun o => o.ob ν _)]
     exact fun a ha e => hex ⟨a, (hsubm a ha).1, e⟩
 ·rw [sget_slotsOf]
  have hat : SS.at F { st with sl := st.sl.map fun p => (p.1, kcl k p.2), hp := hupd (st.hp.filter fun q => !ieq q.1 k) m (.box cs') } j = .any ∨ (SS.at F { st with sl := st.sl.map fun p => (p.1, kcl k p.2), hp := hupd (st.hp.filter fun q => !ieq q.1 k) m (.box cs') } j = st.at F j ∧ (st.at F j).ac (fun x => !ieq x k) = true) := by
   simp only [SS.at]
   rw [lget_append, lget_append]
   have hk' : ((st.sl.map fun p => (p.1, kcl k p.2)).any fun p => p.1 == j) = st.sl.any fun p => p.1 == j := by
    rw [List.any_map]; rfl
   rw [hk']
   split
   ·rw [lget_map (f := kcl k) (by unfold kcl; split <;> rfl)]
    unfold kcl
    split
    ·rename_i hv; exact .inr ⟨rfl, hv⟩
    ·exact .inl rfl
   ·exact .inr ⟨rfl, allAc_get c2 j⟩
  rcases hat with h1 | ⟨h1, h2⟩
  ·left; rw [h1]; simp only [SV.av]
  ·right; rw [h1]; exact (SV.av_congr hcur h2).symm
def gcls (F : Fr) (m : Id) (i : Nat) (st : SS) : Option SS :=
 match hget st.hp m with
 | some (.box cs) => match cutAt i cs with
  | some (a, .cur k :: r) => match hget st.hp k with
   | some (.tip false e xs) => clsSt F m k st (a ++ .own e xs :: r)
   | _ => none
  | _ => none
 | _ => none
theorem gcls_ok {m : Id} {i : Nat} (h : gcls F m i st = some st') : GhS pr df S0 F st st' := by
 intro ν d sl hok hs
 unfold gcls at h
 split at h <;> try (cases h; done)
 rename_i cs hm
 split at h <;> try (cases h; done)
 rename_i a k r hcut
 split at h <;> try (cases h; done)
 rename_i e xs hk
 obtain ⟨k1, k2, k3, k4, k5, k6⟩ := cls_ok hok hm hk h
 obtain ⟨e1, e2⟩ := cutAt_some hcut
 have hcu : (SV.cur k).av ν (st.H F) = eB e.lay (ν k) xs := by simp only [SV.av, curAV, hgetH hk]
 have hav : avs ν (st.H F) cs = avs ν (st.H F) a ++ eB e.lay (ν k) xs :: avs ν (st.H F) r := by
  rw [e1, avs_append, avs_one rfl, hcu]
 have hlen : (avs ν (st.H F) a).length = i := by rw [avs_length]; exact e2
 have hi : (avs ν (st.H F) cs)[i]? = some (eB e.lay (ν k) xs) := by rw [hav, List.getElem?_append_right (by omega), hlen]; simp
 have hnew : avs ν (st.H F) (a ++ .own e xs :: r) = (avs ν (st.H F) cs).set i (eO e.lay xs) := by
  rw [avs_append, avs_one rfl, hav, List.set_append_right _ _ (by omega), hlen]
  simp [SV.av]
 refine ⟨k1, ?_⟩
 rw [k5, hnew, k2]
 intro K w ts hs1 ht hf
 have s1 := hs1.close k3 hi k4
 refine ⟨K, ⟨Kle.refl _ _, s1, Below.refl _ _, fun n hn0 h0 => ?_⟩, fun j => ?_, hf.1, fun q hq => ⟨(hf.2 q hq).1, ?_⟩⟩
 ·simp only [AHeap.set, AHeap.del]
  rw [if_neg (by rintro rfl; rw [k3] at h0; cases h0)]
  split
  ·rfl
  ·exact h0
 ·rcases k6 j with h1 | h1
  ·rw [h1]; trivial
  ·rw [h1, ← hs j]; exact ht j
 ·simp only [AHeap.set, AHeap.del]
  rw [if_neg (by rintro e0; have h9 := (hf.2 q hq).2; rw [e0, k3] at h9; cases h9)]
  split
  ·rfl
  ·exact (hf.2 q hq).2
def sgh (F : Fr) : Gs → SS → Option SS
 | .nam t pm e, st => gnam F t pm e st
 | .can t y, st => gcan F t y st
 | .drop ts, st => gdrop F ts st
 | .uncur t m, st => guncur t m st
 | .namB m i e, st => gnamB F m i e st
 | .frz t, st => gfrz F t st
 | .opn m i, st => gopn F m i st
 | .cls m i, st => gcls F m i st
 | .fgo m, st => gfgo F m st
 | .dum cs, st => gdum F (.obox false cs) st
 | .dumT pm e, st => gdum F (.tip pm e []) st
 | .oni m i e, st => goni F m i e st
theorem sgh_ok {g : Gs} (h : sgh F g st = some st') : GhS pr df S0 F st st' := by
 cases g with
 | nam t pm e => exact gnam_ok h
 | can t y => exact gcan_ok h
 | drop ts => exact gdrop_ok h
 | uncur t m => exact guncur_ok h
 | namB m i e => exact gnamB_ok h
 | frz t => exact gfrz_ok h
 | opn m i => exact gopn_ok h
 | cls m i => exact gcls_ok h
 | fgo m => exact gfgo_ok h
 | dum cs => exact gdum_ok (fun ν H => rfl) h
 | dumT pm e => exact gdum_ok (fun ν H => by simp [SObj.ob, oT]) h
 | oni m i e => exact goni_ok h
def sghs (F : Fr) : List Gs → SS → Option SS
 | [], st => some st
 | g :: r, st => match sgh F g st with
  | some st' => sghs F r st'
  | none => none
theorem sghs_ok : ∀ {gs : List Gs} {st st' : SS}, sghs F gs st = some st' → GhS pr df S0 F st st'
 | [], st, st', h => by cases h; exact GhS.refl
 | g :: r, st, st', h => by
  simp only [sghs] at h
  split at h <;> try (cases h; done)
  rename_i s1 h1
  exact GhS.trans (sgh_ok h1) (sghs_ok h)
def SV.noVec : SV → Bool
 | .agg cs => !(cs.any SV.isVec)
 | _ => false
def Ty.hasArr : Ty → Bool
 | .arr _ _ => true
 | .pair a b => a.hasArr || b.hasArr
 | _ => false
def sfixA (E : Env P) (F : Fr) (t : TypeId) (x : Operand) (st : SS) : List Gs :=
 match x with
 | .tmp i => if (st.at F i).noVec then match E.Y t with
  | some y => if y.hasArr then [.can i y] else []
  | none => [] else []
 | _ => []
def ownAt (lo hi : Nat) : Nat → List SV → List Nat
 | _, [] => []
 | p, .own _ _ :: r => if lo ≤ p ∧ p < hi then p :: ownAt lo hi (p + 1) r else ownAt lo hi (p + 1) r
 | p, x :: r => ownAt lo hi (p + x.w) r
def curAt (H : SHp) : Nat → List SV → List (Nat × Id)
 | _, [] => []
 | p, .cur k :: r => match hget H k with
  | some (.tip false _ _) => (p, k) :: curAt H (p + 1) r
  | _ => curAt H (p + 1) r
 | p, x :: r => curAt H (p + x.w) r
def ptrsOf : List SV → List Id
 | [] => []
 | .ptr m _ :: r => m :: ptrsOf r
 | .agg cs :: r => (cs.filterMap fun x => match x with | .ptr m _ => some m | _ => none) ++ ptrsOf r
 | _ :: r => ptrsOf r
def clsOf (F : Fr) (H : SHp) : Nat → List Id → List Gs
 | 0, _ => []
 | n + 1, l => l.flatMap fun m => match hget H m with
  | some (.box cs) => (curAt H 0 cs).flatMap (fun q => fgoOf F H q.2 m ++ [.cls m q.1]) ++ clsOf F H n (ptrsOf cs)
  | _ => []
def sfix (E : Env P) (F : Fr) (op : Op) (st : SS) : List Gs :=
 match op with
 | .load t a => match st.ev F a with
  | .ptr m o => match hget st.hp m, E.T t with
   | some (.box cs), some i => (ownAt o (o + i.size) 0 cs).map (.opn m ·)
   | _, _ => []
  | _ => []
 | .call ⟨.value _, args, _⟩ => clsOf F st.hp 3 (ptrsOf (args.toList.map (st.ev F)))
 | .box t x => sfixA E F t x st
 | .store t a x => match st.ev F a, x with
  | .vp _ _ _ _, .tmp i => match st.at F i with
   | .cur k => match hget st.hp k, E.Y t with
    | some (.tip true _ _), some y => [.can i y]
    | some (.tip false _ _), some _ => [.frz i]
    | _, _ => []
   | _ => sfixA E F t x st
  | _, _ => sfixA E F t x st
 | .call ⟨.builtin .append, args, ts⟩ => match args.toList, ts.toList with
  | [s, x], [t, _] => match E.T t with
   | some ⟨.slice te, _, _, _⟩ => match E.Y te with
    | some e => (match s with
      | .tmp i => match st.at F i with
       | .lit (.slice none 0 0) => [.nam i (!E.eb) e]
       | .empt => [.nam i (!E.eb) e]
       | .cur m => match hget st.hp m with
        | some (.tip true _ _) => [.uncur i m]
        | _ => []
       | _ => []
      | _ => []) ++ (match x with
      | .tmp i => match st.at F i with
       | .row sz cs => match ssrc (st.H F) e (.row sz cs) with
        | some _ => []
        | none => [.can i (.list e)]
       | _ => []
      | _ => [])
    | none => []
   | _ => []
  | _, _ => []
 | _ => []
def sop (E : Env P) (F : Fr) {A : Type} (op : Op) (st : SS) (k : SV → SS → Option A) : Option A :=
 match sq E.T E.Z (st.H F) (st.ev F) op with
 | some p => p.run fun v => k v st
 | none => seff E F op st k
theorem lopv_qop {T : Tab} {op : Op} {ρ : Operand → AV} {S : AHeap} {c : Nat} {kv : AV → AHeap → Nat → Prop} {kp : AV → AHeap → Prop} {p : Prop} {v : AV} (h : qop T S ρ op = some (p, v)) (hp : p) (hk : kv v S c) : lopv P T d op ρ S c kv kp := by
 cases op <;> (try (simp only [qop] at h; simp only [lopv, h]; exact ⟨hp, hk⟩)) <;> (try (simp only [qop, aop] at h; cases h; done))
 case buildSlice t n ps =>
  simp only [qop] at h
  simp only [lopv]
  split at h <;> try (cases h; done)
  rename_i hT
  split at h <;> try (cases h; done)
  rename_i he
  split at h <;> try (cases h; done)
  rename_i cs hf
  cases h
  simp only [hT, he, hf]
  exact ⟨hp.1, hp.2, hk⟩
 case call cc =>
  obtain ⟨f, args, ts⟩ := cc
  cases f with
  | builtin b =>
   cases b <;> (try (simp only [qop] at h; simp only [lopv, h]; exact ⟨hp, hk⟩))
   all_goals
    simp only [qop, aop, abuiltin] at h
    first | (cases h; done) | (split at h <;> cases h)
  | value f => simp only [qop, aop] at h; cases h
  | _ => simp only [qop, aop] at h; cases h
theorem sop_sound {E : Env P} (hE : EnvOk E) (hΦ : ν.fn = E.Φ) (hok : Okk pr df S0 F st ν d) {A : Type} {op : Op} {k : SV → SS → Option A} {r : A} {kv : AV → AHeap → Nat → Prop} {kp : AV → AHeap → Prop} (h : sop E F op st k = some r)
  (hk : ∀ ν' v st', Nx ν ν' F st → Okk pr df S0 F st' ν' d → k v st' = some r → Same2 ν ν' F st st' → kv (v.av ν' (st'.H F)) (heapOf ν' F st' S0) st'.nx) :
  lopv P E.T d op (fun x => (st.ev F x).av ν (st.H F)) (heapOf ν F st S0) st.nx kv kp := by
 unfold sop at h
 split at h
 ·rename_i p hp
  obtain ⟨v, ⟨q, h1, h2⟩, h3⟩ := Pr.run_some (sq_sound hE.Z hok.hok evok hp) h
  exact lopv_qop h1 h2 (hk ν v st .refl hok h3 Same.refl)
 ·exact seff_sound hE hΦ hok h fun ν' v st' a0 a1 a2 a3 _ => hk ν' v st' a0 a1 a2 a3
def resC : Op → List Operand
 | .nilCheck x => [x]
 | .load _ a => [a]
 | .fieldAddr _ x _ => [x]
 | .store _ a _ => [a]
 | .call ⟨.value _, args, _⟩ => args.toList
 | _ => []
def resL (F : Fr) (st : SS) : List Operand → List Nat
 | [] => []
 | .tmp i :: r => match st.at F i with
  | .opt _ _ => i :: resL F st r
  | _ => resL F st r
 | _ :: r => resL F st r
def srsv (F : Fr) (t : Nat) (st : SS) : Option (Bool × SS) :=
 match st.at F t with
 | .opt b m => match hget st.hp m with
  | some (.obox b' cs) => some (b && b', ⟨lput st.sl t (.ptr m 0), hupd st.hp m (.box cs), st.nx⟩)
  | some (.box _) => some (b, ⟨lput st.sl t (.ptr m 0), st.hp, st.nx⟩)
  | _ => none
 | .ptr _ _ => some (true, st)
 | _ => none
def sresL (F : Fr) {A : Type} : List Nat → SS → (SS → Option A) → Option A
 | [], st, k => k st
 | t :: r, st, k => match srsv F t st with
  | some (g, st') => gdd (g = true) fun _ => sresL F r st' k
  | none => none
theorem srsv_ok {t : Nat} (h : srsv F t st = some (true, st')) : GhS pr df S0 F st st' := by
 intro ν d sl hok hs
 have slot : ∀ {s2 : SS} {m : Id}, st.at F t = .opt true m → (∀ v : SV, v.av ν (s2.H F) = v.av ν (st.H F)) → s2.sl = lput st.sl t (.ptr m 0) → SlW sl (slotsOf ν F s2) := by
  intro s2 m ha hav hsl i
  rw [sget_slotsOf, hav, hs i]
  have : s2.at F i = if i = t then .ptr m 0 else st.at F i := by
   simp only [SS.at, hsl]; exact lget_put
  rw [this]
  by_cases e : i = t
  ·rw [if_pos e, e, ha]; simp only [SV.av, if_true]; exact Sub.refl
  ·rw [if_neg e]; exact Sub.refl
 unfold srsv at h
 split at h
 ·rename_i b m ha
  split at h
  ·rename_i b' cs hm
   simp only [Option.some.injEq, Prod.mk.injEq, Bool.and_eq_true] at h
   obtain ⟨⟨rfl, rfl⟩, rfl⟩ := h
   have hgx : ∀ x, hget (hupd st.hp m (.box cs) ++ F.hp) x = if x = m then some (.box cs) else hget (st.hp ++ F.hp) x := by
    intro x
    rw [hget_append, hget_append, hupd_get hm]
    by_cases e : x = m
    ·rw [if_pos e, if_pos e]
    ·rw [if_neg e, if_neg e]
   have hHm : hget (st.hp ++ F.hp) m = some (.obox true cs) := by rw [hget_append, hm]
   have hcur : ∀ x, (fun _ => true) x = true → curAV ν (st.hp ++ F.hp) x = curAV ν (hupd st.hp m (.box cs) ++ F.hp) x := by
    intro x _
    simp only [curAV]
    rw [hgx x]
    by_cases e : x = m
    ·subst e; rw [if_pos rfl, hHm]
    ·rw [if_neg e]
   have hav : ∀ v : SV, v.av ν (hupd st.hp m (.box cs) ++ F.hp) = v.av ν (st.hp ++ F.hp) := fun v => (SV.av_congr hcur (ac_all v)).symm
   have hids : SHp.ids (hupd st.hp m (.box cs) ++ F.hp) = SHp.ids (st.hp ++ F.hp) := by rw [ids_append, ids_append, hupd_ids]
   have hok' : Okk pr df S0 F ⟨lput st.sl t (.ptr m 0), hupd st.hp m (.box cs), st.nx⟩ ν d := hok.upd (by exact hids) (Nat.le_refl _)
   have hob : ∀ o : SObj, o.ob ν (hupd st.hp m (.box cs) ++ F.hp) = o.ob ν (st.hp ++ F.hp) := fun o => (SObj.ob_congr hcur (by
    cases o with
    | box l => have := ac_all (.agg l); simpa only [SV.ac, SObj.ac] using this
    | tip => rfl
    | arr => rfl
    | obox b l => have := ac_all (.agg l); simpa only [SV.ac, SObj.ac] using this)).symm
   have hheap : heapOf ν F ⟨lput st.sl t (.ptr m 0), hupd st.hp m (.box cs), st.nx⟩ S0 = heapOf ν F st S0 := by
    funext n
    by_cases hex : ∃ a ∈ SHp.ids (st.H F), ν a = n
    ·obtain ⟨a, ha', rfl⟩ := hex
     obtain ⟨o, ho⟩ := ids_get' ha'
     unfold heapOf
     rw [hp_get (f := fun o => o.ob ν (st.H F)) hok.inj ho]
     by_cases e : a = m
     ·subst e
      have : o = .obox true cs := by
       have := ho.symm.trans hHm
       exact Option.some.inj this
      subst this
      rw [hp_get (H := SS.H F ⟨lput st.sl t (.ptr a 0), hupd st.hp a (.box cs), st.nx⟩) (f := fun o => o.ob ν (SS.H F ⟨lput st.sl t (.ptr a 0), hupd st.hp a (.box cs), st.nx⟩)) hok'.inj (m := a) (o := .box cs) (by show hget (hupd st.hp a (.box cs) ++ F.hp) a = _; rw [hgx, if_pos rfl])]
      have := hob (.box cs)
      show some ((SObj.box cs).ob ν (hupd st.hp a (.box cs) ++ F.hp)) = _
      rw [this]; rfl
     ·rw [hp_get (H := SS.H F ⟨lput st.sl t (.ptr m 0), hupd st.hp m (.box cs), st.nx⟩) (f := fun o => o.ob ν (SS.H F ⟨lput st.sl t (.ptr m 0), hupd st.hp m (.box cs), st.nx⟩)) hok'.inj (m := a) (o := o) (by show hget (hupd st.hp m (.box cs) ++ F.hp) a = _; rw [hgx, if_neg e]; exact ho)]
      show some (o.ob ν (hupd st.hp m (.box cs) ++ F.hp)) = _
      rw [hob]; rfl
    ·unfold heapOf
     rw [hp_miss (f := fun o => o.ob ν (st.H F)) (fun a ha e => hex ⟨a, ha, e⟩), hp_miss (f := fun o => o.ob ν _)]
     exact fun a ha e => hex ⟨a, hids ▸ ha, e⟩
   refine ⟨hok', ?_⟩
   rw [hheap]
   exact Ghost.slots (slot ha hav rfl)
  ·rename_i cs hm
   simp only [Option.some.injEq, Prod.mk.injEq] at h
   obtain ⟨rfl, rfl⟩ := h
   refine ⟨hok.upd (by rfl) (Nat.le_refl _), ?_⟩
   exact Ghost.slots (slot ha (fun _ => rfl) rfl)
  ·cases h
 ·simp only [Option.some.injEq, Prod.mk.injEq, true_and] at h
  subst h
  exact ⟨hok, hs.ghost SlEq.of⟩
 ·cases h
theorem sresL_ok {A : Type} {k : SS → Option A} {r : A} : ∀ {l : List Nat} {st : SS}, sresL F l st k = some r → ∃ st1, GhS pr df S0 F st st1 ∧ k st1 = some r
 | [], st, h => ⟨st, GhS.refl, h⟩
 | t :: l, st, h => by
  simp only [sresL] at h
  split at h <;> try (cases h; done)
  rename_i g st' hr
  obtain ⟨hg, h⟩ := gdd_some h
  subst hg
  obtain ⟨st1, h1, h2⟩ := sresL_ok h
  exact ⟨st1, GhS.trans (srsv_ok hr) h1, h2⟩
theorem srsv_eq {t : Nat} (h : srsv F t st = some (true, st')) (hok : Okk pr df S0 F st ν d) (hs : SlEq ν F st sl) : Okk pr df S0 F st' ν d ∧ SlEq ν F st' sl ∧ heapOf ν F st' S0 = heapOf ν F st S0 ∧ st'.nx = st.nx := by
 have slot : ∀ {s2 : SS} {m : Id}, st.at F t = .opt true m → (∀ v : SV, v.av ν (s2.H F) = v.av ν (st.H F)) → s2.sl = lput st.sl t (.ptr m 0) → SlEq ν F s2 sl := by
  intro s2 m ha hav hsl i
  rw [hav, hs i]
  have : s2.at F i = if i = t then .ptr m 0 else st.at F i := by
   simp only [SS.at, hsl]; exact lget_put
  rw [this]
  by_cases e : i = t
  ·rw [if_pos e, e, ha]; simp only [SV.av, if_true]
  ·rw [if_neg e]
 unfold srsv at h
 split at h
 ·rename_i b m ha
  split at h
  ·rename_i b' cs hm
   simp only [Option.some.injEq, Prod.mk.injEq, Bool.and_eq_true] at h
   obtain ⟨⟨rfl, rfl⟩, rfl⟩ := h
   have hgx : ∀ x, hget (hupd st.hp m (.box cs) ++ F.hp) x = if x = m then some (.box cs) else hget (st.hp ++ F.hp) x := by
    intro x
    rw [hget_append, hget_append, hupd_get hm]
    by_cases e : x = m
    ·rw [if_pos e, if_pos e]
    ·rw [if_neg e, if_neg e]
   have hHm : hget (st.hp ++ F.hp) m = some (.obox true cs) := by rw [hget_append, hm]
   have hcur : ∀ x, (fun _ => true) x = true → curAV ν (st.hp ++ F.hp) x = curAV ν (hupd st.hp m (.box cs) ++ F.hp) x := by
    intro x _
    simp only [curAV]
    rw [hgx x]
    by_cases e : x = m
    ·subst e; rw [if_pos rfl, hHm]
    ·rw [if_neg e]
   have hav : ∀ v : SV, v.av ν (hupd st.hp m (.box cs) ++ F.hp) = v.av ν (st.hp ++ F.hp) := fun v => (SV.av_congr hcur (ac_all v)).symm
   have hids : SHp.ids (hupd st.hp m (.box cs) ++ F.hp) = SHp.ids (st.hp ++ F.hp) := by rw [ids_append, ids_append, hupd_ids]
   have hok' : Okk pr df S0 F ⟨lput st.sl t (.ptr m 0), hupd st.hp m (.box cs), st.nx⟩ ν d := hok.upd (by exact hids) (Nat.le_refl _)
   have hob : ∀ o : SObj, o.ob ν (hupd st.hp m (.box cs) ++ F.hp) = o.ob ν (st.hp ++ F.hp) := fun o => (SObj.ob_congr hcur (by
    cases o with
    | box l => have := ac_all (.agg l); simpa only [SV.ac, SObj.ac] using this
    | tip => rfl
    | arr => rfl
    | obox b l => have := ac_all (.agg l); simpa only [SV.ac, SObj.ac] using this)).symm
   have hheap : heapOf ν F ⟨lput st.sl t (.ptr m 0), hupd st.hp m (.box cs), st.nx⟩ S0 = heapOf ν F st S0 := by
    funext n
    by_cases hex : ∃ a ∈ SHp.ids (st.H F), ν a = n
    ·obtain ⟨a, ha', rfl⟩ := hex
     obtain ⟨o, ho⟩ := ids_get' ha'
     unfold heapOf
     rw [hp_get (f := fun o => o.ob ν (st.H F)) hok.inj ho]
     by_cases e : a = m
     ·subst e
      have : o = .obox true cs := by
       have := ho.symm.trans hHm
       exact Option.some.inj this
      subst this
      rw [hp_get (H := SS.H F ⟨lput st.sl t (.ptr a 0), hupd st.hp a (.box cs), st.nx⟩) (f := fun o => o.ob ν (SS.H F ⟨lput st.sl t (.ptr a 0), hupd st.hp a (.box cs), st.nx⟩)) hok'.inj (m := a) (o := .box cs) (by show hget (hupd st.hp a (.box cs) ++ F.hp) a = _; rw [hgx, if_pos rfl])]
      have := hob (.box cs)
      show some ((SObj.box cs).ob ν (hupd st.hp a (.box cs) ++ F.hp)) = _
      rw [this]; rfl
     ·rw [hp_get (H := SS.H F ⟨lput st.sl t (.ptr m 0), hupd st.hp m (.box cs), st.nx⟩) (f := fun o => o.ob ν (SS.H F ⟨lput st.sl t (.ptr m 0), hupd st.hp m (.box cs), st.nx⟩)) hok'.inj (m := a) (o := o) (by show hget (hupd st.hp m (.box cs) ++ F.hp) a = _; rw [hgx, if_neg e]; exact ho)]
      show some (o.ob ν (hupd st.hp m (.box cs) ++ F.hp)) = _
      rw [hob]; rfl
    ·unfold heapOf
     rw [hp_miss (f := fun o => o.ob ν (st.H F)) (fun a ha e => hex ⟨a, ha, e⟩), hp_miss (f := fun o => o.ob ν _)]
     exact fun a ha e => hex ⟨a, hids ▸ ha, e⟩
   exact ⟨hok', slot ha hav rfl, hheap, rfl⟩
  ·rename_i cs hm
   simp only [Option.some.injEq, Prod.mk.injEq] at h
   obtain ⟨rfl, rfl⟩ := h
   exact ⟨hok.upd (by rfl) (Nat.le_refl _), slot ha (fun _ => rfl) rfl, rfl, rfl⟩
  ·cases h
 ·simp only [Option.some.injEq, Prod.mk.injEq, true_and] at h
  subst h
  exact ⟨hok, hs, rfl, rfl⟩
 ·cases h
theorem sresL_eq {A : Type} {k : SS → Option A} {r : A} : ∀ {l : List Nat} {st : SS}, sresL F l st k = some r → Okk pr df S0 F st ν d → SlEq ν F st sl → ∃ st1, Okk pr df S0 F st1 ν d ∧ SlEq ν F st1 sl ∧ heapOf ν F st1 S0 = heapOf ν F st S0 ∧ st1.nx = st.nx ∧ k st1 = some r
 | [], st, h, hok, hs => ⟨st, hok, hs, rfl, rfl, h⟩
 | t :: l, st, h, hok, hs => by
  simp only [sresL] at h
  split at h <;> try (cases h; done)
  rename_i g st' hr
  obtain ⟨hg, h⟩ := gdd_some h
  subst hg
  obtain ⟨h1, h2, h3, h4⟩ := srsv_eq hr hok hs
  obtain ⟨st1, k1, k2, k3, k4, k5⟩ := sresL_eq h h1 h2
  exact ⟨st1, k1, k2, k3.trans h3, k4.trans h4, k5⟩
def slotOf (k : Id) : List (Nat × SV) → Option Nat
 | [] => none
 | (t, v) :: r => match v with
  | .cur k' => if ieq k' k then some t else slotOf k r
  | _ => slotOf k r
def cutPos : Nat → List SV → Option (Nat × Id)
 | _, [] => none
 | p, v :: r => match v with
  | .sl (.sub (.buf k _) 0 _ _) _ _ => some (p, k)
  | _ => cutPos (p + v.w) r
def cutFind (sl : List (Nat × SV)) : SHp → Option (Id × Nat × Nat)
 | [] => none
 | (m, o) :: r => match o with
  | .box cs => match cutPos 0 cs with
   | some (p, k) => match slotOf k sl with
    | some t => some (m, p, t)
    | none => cutFind sl r
   | none => cutFind sl r
  | _ => cutFind sl r
def scut (F : Fr) {A : Type} (m : Id) (i t : Nat) (st : SS) (k : SS → Option A) : Option A :=
 match hget st.hp m with
 | some (.box cs) => match cutAt i cs with
  | some (a, .sl (.sub (.buf b n1) 0 hh n2) e ys :: r) => match hget st.hp b with
   | some (.tip false e' xs) => match st.at F t with
    | .cur b' => if ieq b' b = true ∧ e.sz = e'.sz then
      gdd (n1 = xs.length * e'.sz ∧ n2 = xs.length * e'.sz ∧ hh = ys.length * e'.sz ∧ ys.length * e'.sz ≤ xs.length * e'.sz) fun _ => match clsSt F m b st (a ++ .own e ys :: r) with
       | some st' => k st'
       | none => none
     else none
    | _ => none
   | _ => none
  | _ => none
 | _ => none
theorem scut_ok {A : Type} {k : SS → Option A} {r : A} {m : Id} {i t : Nat} (h : scut F m i t st k = some r) : ∃ st1, GhS pr df S0 F st st1 ∧ k st1 = some r := by
 unfold scut at h
 split at h <;> try (cases h; done)
 rename_i cs hm
 split at h <;> try (cases h; done)
 rename_i a b n1 hh n2 e ys r hcut
 split at h <;> try (cases h; done)
 rename_i e' xs hb
 split at h <;> try (cases h; done)
 rename_i b' hat
 split at h <;> try (cases h; done)
 rename_i hc
 obtain ⟨hbb, hsz⟩ := hc
 obtain ⟨hg, h⟩ := gdd_some h
 obtain ⟨hn1, hn2, hhh, hle⟩ := hg
 split at h <;> try (cases h; done)
 rename_i st' hcl
 refine ⟨st', ?_, h⟩
 rw [ieq_iff] at hbb
 subst hbb hn1 hn2 hhh
 intro ν d sl hok hs
 have hkH : hget (st.H F) b' = some (.tip false e' xs) := hgetH hb
 obtain ⟨k1, k2, k3, k4, k5, k6⟩ := cls_ok hok hm hb hcl
 obtain ⟨e1, e2⟩ := cutAt_some hcut
 have hfx : (flat e'.lay xs).length = xs.length * e'.sz := by rw [flat_length, e'.lay_sz]
 have hfy : (flat e.lay ys).length = ys.length * e'.sz := by rw [flat_length, e.lay_sz, hsz]
 have hcu : (SV.sl (.sub (.buf b' (xs.length * e'.sz)) 0 (ys.length * e'.sz) (xs.length * e'.sz)) e ys).av ν (st.H F) = .slice ((Own.buf (ν b') (flat e'.lay xs).length).sub 0 (ys.length * e'.sz) (flat e'.lay xs).length) e.lay.sz (flat e.lay ys) := by
  rw [hfx]; rfl
 have hav : avs ν (st.H F) cs = avs ν (st.H F) a ++ .slice ((Own.buf (ν b') (flat e'.lay xs).length).sub 0 (ys.length * e'.sz) (flat e'.lay xs).length) e.lay.sz (flat e.lay ys) :: avs ν (st.H F) r := by
  rw [e1, avs_append, avs_one rfl, hcu]
 have hlen : (avs ν (st.H F) a).length = i := by rw [avs_length]; exact e2
 have hi : (avs ν (st.H F) cs)[i]? = some (.slice ((Own.buf (ν b') (flat e'.lay xs).length).sub 0 (ys.length * e'.sz) (flat e'.lay xs).length) e.lay.sz (flat e.lay ys)) := by rw [hav, List.getElem?_append_right (by omega), hlen]; simp
 have hnew : avs ν (st.H F) (a ++ .own e ys :: r) = (avs ν (st.H F) cs).set i (eO e.lay ys) := by
  rw [avs_append, avs_one rfl, hav, List.set_append_right _ _ (by omega), hlen]
  simp [SV.av]
 refine ⟨k1, ?_⟩
 rw [k5, hnew, k2]
 intro K w ts hs1 ht hf
 have hv := ht t
 rw [hs t, hat] at hv
 simp only [SV.av, curAV, hkH, eB, e'.lay_sz] at hv
 have hszL : e'.lay.sz = e.lay.sz := by rw [e'.lay_sz, e.lay_sz, hsz]
 have s1 := hs1.closeCut (h := ys.length * e'.sz) (xs := flat e'.lay xs) (ys := flat e.lay ys) (m := ν b') k3 hfy (by rw [hfx]; exact hle) hi (by rw [k4]; simp only [oT, flat_length])
  (v := ts.getD t undef) (by rw [hfx, ← hszL, e'.lay_sz]; exact hv)
 refine ⟨K, ⟨Kle.refl _ _, s1, Below.refl _ _, fun n hn0 h0 => ?_⟩, fun j => ?_, hf.1, fun q hq => ⟨(hf.2 q hq).1, ?_⟩⟩
 ·simp only [AHeap.set, AHeap.del]
  rw [if_neg (by rintro rfl; rw [k3] at h0; cases h0)]
  split
  ·rfl
  ·exact h0
 ·rcases k6 j with h1 | h1
  ·rw [h1]; trivial
  ·rw [h1, ← hs j]; exact ht j
 ·simp only [AHeap.set, AHeap.del]
  rw [if_neg (by rintro e0; have h9 := (hf.2 q hq).2; rw [e0, k3] at h9; cases h9)]
  split
  ·rfl
  ·exact (hf.2 q hq).2
def scuts (F : Fr) {A : Type} : Nat → SS → (SS → Option A) → Option A
 | 0, st, k => k st
 | n + 1, st, k => match cutFind st.sl st.hp with
  | some (m, i, t) => scut F m i t st fun st' => scuts F n st' k
  | none => k st
theorem scuts_ok {A : Type} {k : SS → Option A} {r : A} : ∀ {n : Nat} {st : SS}, scuts F n st k = some r → ∃ st1, GhS pr df S0 F st st1 ∧ k st1 = some r
 | 0, st, h => ⟨st, GhS.refl, h⟩
 | n + 1, st, h => by
  simp only [scuts] at h
  split at h
  ·obtain ⟨s1, h1, h2⟩ := scut_ok (pr := pr) (df := df) (S0 := S0) h
   obtain ⟨s2, h3, h4⟩ := scuts_ok h2
   exact ⟨s2, h1.trans h3, h4⟩
  ·exact ⟨st, GhS.refl, h⟩
def sops (E : Env P) (F : Fr) {A : Type} : List LOp → SS → (SS → Option A) → Option A
 | [], st, k => k st
 | o :: r, st, k => match o.guard with
  | none => sresL F (resL F st (resC o.op)) st fun st => match sghs F (sfix E F o.op st) st with
   | none => none
   | some st => sop E F o.op st fun v st => sops E F r (st.put o.dst v) k
  | some (t, b) => match st.at F t with
   | .lit (.bool g) => if g = b then sresL F (resL F (st.put (some t) (.lit (.bool b))) (resC o.op)) (st.put (some t) (.lit (.bool b))) fun st => match sghs F (sfix E F o.op st) st with
     | none => none
     | some st => match st.at F t with
      | .lit (.bool g2) => if g2 = b then sop E F o.op st fun v st => sops E F r (st.put o.dst v) k else none
      | _ => none
    else sops E F r ((st.put (some t) (.lit (.bool (!b)))).put o.dst (.lit undef)) k
   | .lit (.tuple _) => sops E F r (st.put o.dst (.lit undef)) k
   | _ => none
theorem sops_sound {E : Env P} (hE : EnvOk E) {A : Type} {k : SS → Option A} {r : A} {kk : Slots → AHeap → Nat → Prop} {kp : AV → AHeap → Prop}
  (hk : ∀ (ν : Nm) st', ν.fn = E.Φ → Okk pr df S0 F st' ν d → k st' = some r → kk (slotsOf ν F st') (heapOf ν F st' S0) st'.nx) :
  ∀ {ops : List LOp} {ν : Nm} {st : SS} {sl : Slots}, ν.fn = E.Φ → Okk pr df S0 F st ν d → SlEq ν F st sl → sops E F ops st k = some r → lopsG P E.T d ops sl (heapOf ν F st S0) st.nx kk kp
 | [], ν, st, sl, hΦ, hok, hs, h => ⟨_, _, _, hs.ghost SlEq.of, hk ν st hΦ hok h⟩
 | o :: ops, ν, st, sl, hΦ, hok, hs, h => by
  simp only [sops] at h
  have run : ∀ {st2 : SS} {sl2 : Slots}, Okk pr df S0 F st2 ν d → SlEq ν F st2 sl2 → sop E F o.op st2 (fun v st => sops E F ops (st.put o.dst v) k) = some r →
    lop P E.T d o sl2 (heapOf ν F st2 S0) st2.nx (fun sl S c => lopsG P E.T d ops sl S c kk kp) kp := by
   intro st2 sl2 hok2 hs2 h
   unfold lop
   rw [hs2.ev]
   refine sop_sound hE hΦ hok2 h fun ν' v st' a0 a1 a2 a3 => ?_
   have := sops_sound hE (kp := kp) hk (ν := ν') (st := st'.put o.dst v) (sl := put sl2 o.dst (v.av ν' (st'.H F))) (a0.fn.trans hΦ) a1.put (SlEq.put2 hs2 a3) a2
   rw [heapOf_put, nx_put] at this
   exact this
  have skip : ∀ {st2 : SS} {sl2 : Slots}, Okk pr df S0 F st2 ν d → SlEq ν F st2 sl2 → sops E F ops (st2.put o.dst (.lit undef)) k = some r → lopsG P E.T d ops (put sl2 o.dst (.lit undef)) (heapOf ν F st2 S0) st2.nx kk kp := by
   intro st2 sl2 hok2 hs2 h
   have := sops_sound hE (kp := kp) hk (ν := ν) (st := st2.put o.dst (.lit undef)) (sl := put sl2 o.dst ((SV.lit undef).av ν (st2.H F))) hΦ hok2.put (SlEq.put hs2 Same.refl) h
   rw [heapOf_put, nx_put] at this
   simp only [SV.av] at this
   exact this
  split at h
  ·rename_i hgd
   obtain ⟨st0, hg0, h⟩ := sresL_ok (pr := pr) (df := df) (S0 := S0) h
   split at h <;> try (cases h; done)
   rename_i st1 hg
   obtain ⟨hok1, hgh⟩ := (GhS.trans hg0 (sghs_ok (pr := pr) (df := df) (S0 := S0) hg)) hok hs
   refine ⟨_, _, _, hgh, ?_⟩
   simp only [hgd]
   exact run hok1 SlEq.of h
  ·rename_i t b hgd
   split at h <;> try (cases h; done)
   ·rename_i g hat
    have hput : ∀ b' : Bool, st.at F t = .lit (.bool b') → SlEq ν F (st.put (some t) (.lit (.bool b'))) sl := by
     intro b' hb i
     have hH : (st.put (some t) (.lit (.bool b'))).H F = st.H F := rfl
     rw [hs i, at_put, hH]
     split
     ·rename_i e
      rw [← Option.some.inj e, hb]
     ·rfl
    split at h
    ·rename_i hgb
     obtain ⟨st0, hg0, h⟩ := sresL_ok (pr := pr) (df := df) (S0 := S0) h
     split at h <;> try (cases h; done)
     rename_i st1 hg
     split at h <;> try (cases h; done)
     rename_i g2 hat2
     split at h <;> try (cases h; done)
     rename_i hg2
     obtain ⟨hok1, hgh⟩ := (GhS.trans hg0 (sghs_ok (pr := pr) (df := df) (S0 := S0) hg)) (hok.put (dst := some t) (v := .lit (.bool b))) (hput b (by rw [hat, hgb]))
     rw [heapOf_put, nx_put] at hgh
     refine ⟨_, _, _, hgh, ?_⟩
     have : sget (slotsOf ν F st1) t = .lit (.bool g2) := by rw [sget_slotsOf, hat2]; simp only [SV.av]
     simp only [hgd, this]
     refine ⟨fun _ => ?_, fun hne => absurd hg2 hne⟩
     have hput1 : SlEq ν F (st1.put (some t) (.lit (.bool b))) (slotsOf ν F st1) := by
      intro i
      have hH : (st1.put (some t) (.lit (.bool b))).H F = st1.H F := rfl
      rw [sget_slotsOf, at_put, hH]
      split
      ·rename_i e
       rw [← Option.some.inj e, hat2, hg2]
      ·rfl
     exact run hok1 SlEq.of h
    ·rename_i hgb
     refine ⟨_, _, _, hs.ghost SlEq.of, ?_⟩
     have : sget (slotsOf ν F st) t = .lit (.bool g) := by rw [sget_slotsOf, hat]; simp only [SV.av]
     simp only [hgd, this]
     refine ⟨fun e => absurd e hgb, fun _ => ?_⟩
     have := skip (hok.put (dst := some t) (v := .lit (.bool (!b)))) (sl2 := slotsOf ν F st) (by
      have hb : st.at F t = .lit (.bool (!b)) := by rw [hat]; cases g <;> cases b <;> first | rfl | exact absurd rfl hgb
      intro i
      have hH : (st.put (some t) (.lit (.bool (!b)))).H F = st.H F := rfl
      rw [sget_slotsOf, at_put, hH]
      split
      ·rename_i e
       rw [← Option.some.inj e, hb]
      ·rfl) h
     rw [heapOf_put, nx_put] at this
     exact this
   ·rename_i vs hat
    refine ⟨_, _, _, hs.ghost SlEq.of, ?_⟩
    have : sget (slotsOf ν F st) t = .lit (.tuple vs) := by rw [sget_slotsOf, hat]; simp only [SV.av]
    simp only [hgd, this]
    exact skip hok SlEq.of h
end
end Go.Al
