import Derived.Test.YtolfnhebnennpaaAmP
set_option linter.unusedSimpArgs false
set_option linter.unusedVariables false
namespace Go.Al
open Go Go.RowKit
def OwnI.ren (f : Id → Id) : OwnI → OwnI
 | .perm => .perm
 | .young => .young
 | .tip m e => .tip (f m) e
 | .buf m e => .buf (f m) e
 | .sub o l h n => .sub (o.ren f) l h n
mutual
def SV.ren (f : Id → Id) : SV → SV
 | .any => .any
 | .lit v => .lit v
 | .empt => .empt
 | .sl o e xs => .sl (o.ren f) e xs
 | .cur m => .cur (f m)
 | .own e xs => .own e xs
 | .row sz cs => .row sz (renl f cs)
 | .ptr m o => .ptr (f m) o
 | .vp m o i s => .vp (f m) o i s
 | .rp o cs => .rp (o.ren f) (renl f cs)
 | .vec n e v => .vec n e v
 | .sref m sz o len cap => .sref (f m) sz o len cap
 | .agg cs => .agg (renl f cs)
 | .tup vs => .tup (renl f vs)
 | .fn g a b => .fn g (renl f a) (renl f b)
 | .fx i => .fx i
 | .ifc t x => .ifc t (x.ren f)
 | .map m => .map (f m)
 | .opt b m => .opt b (f m)
def renl (f : Id → Id) : List SV → List SV
 | [] => []
 | x :: r => x.ren f :: renl f r
end
def SObj.ren (f : Id → Id) : SObj → SObj
 | .box cs => .box (renl f cs)
 | .tip pm e xs => .tip pm e xs
 | .arr e xs => .arr e xs
 | .obox b cs => .obox b (renl f cs)
theorem SV.ren_vec {f : Id → Id} {v : SV} : (v.ren f).isVec = v.isVec := by cases v <;> simp [SV.ren, SV.isVec]
section
variable {ν ν' : Nm} {H H' : SHp} {p q : Id → Bool} {f : Id → Id}
theorem OwnI.ren_of (hp : ∀ m, p m = true → ν' (f m) = ν m) : ∀ {o : OwnI}, o.mi p = true → (o.ren f).of ν' = o.of ν
 | .perm, _ => rfl
 | .young, _ => rfl
 | .tip m e, h => by simp only [OwnI.mi] at h; simp only [OwnI.ren, OwnI.of]; rw [hp m h]
 | .buf m e, h => by simp only [OwnI.mi] at h; simp only [OwnI.ren, OwnI.of]; rw [hp m h]
 | .sub o l k n, h => by simp only [OwnI.mi] at h; simp only [OwnI.ren, OwnI.of]; rw [ren_of hp h]
mutual
theorem SV.ren_av (hp : ∀ m, p m = true → ν' (f m) = ν m) (hq : ∀ m, q m = true → curAV ν' H' (f m) = curAV ν H m) (hf : ν'.fn = ν.fn) : ∀ {v : SV}, v.mi p q = true → (v.ren f).av ν' H' = v.av ν H
 | .any, _ => by simp only [SV.ren, SV.av]
 | .lit _, _ => by simp only [SV.ren, SV.av]
 | .empt, _ => by simp only [SV.ren, SV.av]
 | .sl o e xs, h => by simp only [SV.mi] at h; simp only [SV.ren, SV.av]; rw [OwnI.ren_of hp h]
 | .cur m, h => by simp only [SV.mi] at h; simp only [SV.ren, SV.av]; exact hq m h
 | .own .., _ => by simp only [SV.ren, SV.av]
 | .row sz cs, h => by simp only [SV.mi] at h; simp only [SV.ren, SV.av]; rw [renl_avs hp hq hf h]
 | .ptr m o, h => by simp only [SV.mi] at h; simp only [SV.ren, SV.av]; rw [hp m h]
 | .vp m o i s, h => by simp only [SV.mi] at h; simp only [SV.ren, SV.av]; rw [hp m h]
 | .rp o cs, h => by simp only [SV.mi, Bool.and_eq_true] at h; simp only [SV.ren, SV.av]; rw [OwnI.ren_of hp h.1, renl_avs hp hq hf h.2]
 | .vec .., _ => by simp only [SV.ren, SV.av]
 | .sref m sz o len cap, h => by simp only [SV.mi] at h; simp only [SV.ren, SV.av]; rw [hp m h]
 | .agg cs, h => by simp only [SV.mi] at h; simp only [SV.ren, SV.av]; rw [renl_avs hp hq hf h]
 | .tup vs, h => by simp only [SV.mi] at h; simp only [SV.ren, SV.av]; rw [renl_avl hp hq hf h]
 | .fn g a b, h => by simp only [SV.mi, Bool.and_eq_true] at h; simp only [SV.ren, SV.av]; rw [renl_avl hp hq hf h.1, renl_avl hp hq hf h.2]
 | .fx i, _ => by simp only [SV.ren, SV.av]; rw [hf]
 | .ifc t x, h => by simp only [SV.mi] at h; simp only [SV.ren, SV.av]; rw [SV.ren_av hp hq hf h]
 | .map m, h => by simp only [SV.mi] at h; simp only [SV.ren, SV.av]; rw [hp m h]
 | .opt b m, h => by simp only [SV.mi] at h; simp only [SV.ren, SV.av]; rw [hp m h]
theorem renl_avs (hp : ∀ m, p m = true → ν' (f m) = ν m) (hq : ∀ m, q m = true → curAV ν' H' (f m) = curAV ν H m) (hf : ν'.fn = ν.fn) : ∀ {l : List SV}, mil p q l = true → avs ν' H' (renl f l) = avs ν H l
 | [], _ => by simp only [renl, avs]
 | x :: r, h => by
  simp only [mil, Bool.and_eq_true] at h
  have h1 := SV.ren_av hp hq hf h.1
  have h2 := renl_avs hp hq hf h.2
  simp only [renl]
  cases hv : x.isVec with
  | false => rw [avs_one hv, avs_one (SV.ren_vec.trans hv), h1, h2]
  | true =>
   cases x <;> first | (simp [SV.isVec] at hv; done) | skip
   simp only [SV.ren]
   rw [avs_vec, avs_vec, h2]
theorem renl_avl (hp : ∀ m, p m = true → ν' (f m) = ν m) (hq : ∀ m, q m = true → curAV ν' H' (f m) = curAV ν H m) (hf : ν'.fn = ν.fn) : ∀ {l : List SV}, mil p q l = true → avl ν' H' (renl f l) = avl ν H l
 | [], _ => by simp only [renl, avl]
 | x :: r, h => by
  simp only [mil, Bool.and_eq_true] at h
  simp only [renl, avl]
  rw [SV.ren_av hp hq hf h.1, renl_avl hp hq hf h.2]
end
theorem SObj.ren_ob (hp : ∀ m, p m = true → ν' (f m) = ν m) (hq : ∀ m, q m = true → curAV ν' H' (f m) = curAV ν H m) (hf : ν'.fn = ν.fn) {o : SObj} (h : o.mi p q = true) : (o.ren f).ob ν' H' = o.ob ν H := by
 cases o with
 | box cs => simp only [SObj.mi] at h; simp only [SObj.ren, SObj.ob]; rw [renl_avs hp hq hf h]
 | tip pm e xs => rfl
 | arr e xs => rfl
 | obox b cs => simp only [SObj.mi] at h; simp only [SObj.ren, SObj.ob]; rw [renl_avs hp hq hf h]
end
def renH (f : Id → Id) (H : SHp) : SHp := H.map fun p => (f p.1, p.2.ren f)
theorem renH_ids {f : Id → Id} {H : SHp} : SHp.ids (renH f H) = (SHp.ids H).map f := by simp [SHp.ids, renH, Function.comp_def]
theorem renH_get {f : Id → Id} : ∀ {H : SHp} (hinj : ∀ a ∈ SHp.ids H, ∀ b ∈ SHp.ids H, f a = f b → a = b) {m : Id} {o : SObj}, hget H m = some o → hget (renH f H) (f m) = some (o.ren f)
 | [], _, m, o, h => nomatch h
 | (j, u) :: r, hinj, m, o, h => by
  simp only [hget] at h
  simp only [renH, List.map_cons, hget]
  split at h
  ·rename_i e
   have h := Option.some.inj h
   subst h
   rw [ieq_iff.1 e, ieq_self, if_pos rfl]
  ·rename_i e
   have hm := hget_mem h
   rw [if_neg]
   ·exact renH_get (fun a ha b hb => hinj a (by simp only [SHp.ids, List.map_cons, List.mem_cons] at ha ⊢; exact .inr ha) b (by simp only [SHp.ids, List.map_cons, List.mem_cons] at hb ⊢; exact .inr hb)) h
   ·intro e2
    exact e (ieq_iff.2 (hinj m (by simp only [SHp.ids, List.map_cons, List.mem_cons] at hm ⊢; exact .inr hm) j (by simp [SHp.ids]) (ieq_iff.1 e2)))
theorem hget_filterId {H : SHp} {g : Id → Bool} {m : Id} (hm : g m = true) : hget (H.filter fun p => g p.1) m = hget H m := by
 induction H with
 | nil => rfl
 | cons p r ih =>
  obtain ⟨j, o⟩ := p
  by_cases e : ieq m j = true
  ·have := ieq_iff.1 e
   subst this
   rw [List.filter_cons_of_pos (by exact hm)]
   simp only [hget, e, if_true]
  ·cases hj : g j with
   | true => rw [List.filter_cons_of_pos (by exact hj)]; simp only [hget, if_neg e]; exact ih
   | false => rw [List.filter_cons_of_neg (by simp [hj])]; simp only [hget, if_neg e]; exact ih
def resF (T : Tab) (rs : List ResultVar) (pi : Pat) (ro : List Id) (po : Pat) (x : pi.D) (y : po.D) : Option SV :=
 match sres T ((po.enc y).H (funF pi ro x)) ((po.enc y).at (funF pi ro x)) rs with
 | some vs => some (sone1 vs)
 | none => none
def outIds (pi : Pat) (ro : List Id) (po : Pat) : List Id := po.hp.map (·.1) ++ (pi.hp.map (·.1)).filter (inIds ro)
def isTipP : PO → Bool
 | .tip _ _ => true
 | _ => false
structure FunOk {P : Program} (E : Env P) (f : FuncId) (fn : Func) (hs : List (Nat × XH)) (pi : Pat) (ro : List Id) (po : Pat) (s : pi.D → Option po.D) (rv : po.D → SV) : Prop where
 fits : FitsX P f pi.sl.length hs (xcOf fn hs) fn.results.toList
 s_ok : ∀ x, sfun E (xcOf fn hs) pi ro po x = s x
 keys : keysOk 0 pi.sl = true
 lv : ∀ x, nolv 1 (funF pi ro x) (funS pi ro x) = true
 curs : pi.sl.all (fun q => q.2.curs.all (inIds (pi.hp.map (·.1)))) = true
 hcurs : pi.hp.all (fun q => q.2.curs.all (inIds (pi.hp.map (·.1)))) = true
 sub : (pi.hp.map (·.1)).all (inIds (outIds pi ro po)) = true
 tips : pi.hp.all (fun q => !isTipP q.2 || po.hp.all (fun r => !ieq r.1 q.1 || isTipP r.2)) = true
 res : ∀ x y, resF E.T fn.results.toList pi ro po x y = some (rv y)
 mi : ∀ y, (rv y).mi (inIds (outIds pi ro po)) (inIds (outIds pi ro po)) = true
 hmi : ∀ x y, ((po.enc y).H (funF pi ro x)).all (fun q => q.2.mi (inIds (outIds pi ro po)) (inIds (outIds pi ro po))) = true
theorem filter_ids {H : SHp} {g : Id → Bool} : SHp.ids (H.filter fun q => g q.1) = (SHp.ids H).filter g := by
 induction H with
 | nil => rfl
 | cons p r ih =>
  obtain ⟨j, o⟩ := p
  simp only [SHp.ids] at ih ⊢
  cases hj : g j with
  | true => rw [List.filter_cons_of_pos (by exact hj), List.map_cons, List.map_cons, List.filter_cons_of_pos (by exact hj), ih]
  | false => rw [List.filter_cons_of_neg (by simp [hj]), List.map_cons, List.filter_cons_of_neg (by simp [hj]), ih]
theorem out_ids {pi po : Pat} {ro : List Id} {x : pi.D} {y : po.D} : SHp.ids ((po.enc y).H (funF pi ro x)) = outIds pi ro po := by
 simp only [SS.H, funF, ids_append, enc_ids, outIds]
 rw [filter_ids, enc_ids]
def newIds (pi : Pat) (ro : List Id) (po : Pat) : List Id := (outIds pi ro po).filter fun a => !inIds (pi.hp.map (·.1)) a
def numb (lv : Nat) : Nat → List Id → List (Id × Id)
 | _, [] => []
 | i, a :: r => (a, (lv, i)) :: numb lv (i + 1) r
def callMp (H : SHp) (pi : Pat) (as : List SV) : List (Id × Id) := hpmp false H pi.hp ((pi.sl.map fun q => q.2.mp (as.getD q.1 .any)).flatten)
def callRn (F : Fr) (st : SS) (pi : Pat) (ro : List Id) (po : Pat) (mp : List (Id × Id)) : Id → Id := mpf (numb F.lv st.nx (newIds pi ro po) ++ mp)
def obAt (H : SHp) (a : Id) : Bool := match hget H a with
 | some o => o.isOb
 | none => false
def roIds (pi : Pat) (ro : List Id) (po : Pat) : List Id := (pi.hp.map (·.1)).filter fun a => inIds ro a && !inIds (po.hp.map (·.1)) a
def callChk (F : Fr) (st : SS) (pi : Pat) (ro : List Id) (po : Pat) (mp : List (Id × Id)) (as : List SV) : Bool :=
 let pis := pi.hp.map (·.1)
 let T := pis.map (mpf mp)
 let R := (roIds pi ro po).map (mpf mp)
 let rn := callRn F st pi ro po mp
 let out := outIds pi ro po
 let q : Id → Bool := fun m => lowI F st m && (!inIds T m || inIds R m)
 decide (as.length = pi.sl.length) && nodupI T && T.all (fun a => (inIds (SHp.ids st.hp) a && !inIds (SHp.ids F.hp) a) && !obAt st.hp a) &&
 nodupI (out.map rn) &&
 out.all (fun a => if inIds pis a then ieq (rn a) (mpf mp a) else (rn a).1 == F.lv && decide (st.nx ≤ (rn a).2) && decide ((rn a).2 < st.nx + (newIds pi ro po).length)) &&
 F.pr.all (lowI F st) && st.sl.all (fun u => u.2.mi (lowI F st) q) && F.sl.all (fun u => u.2.mi (lowI F st) q) &&
 st.hp.all (fun u => inIds T u.1 || u.2.mi (lowI F st) q) && F.hp.all (fun u => u.2.mi (lowI F st) q)
def callSt (F : Fr) (st : SS) (pi : Pat) (ro : List Id) (po : Pat) (mp : List (Id × Id)) (x : pi.D) (y : po.D) : SS :=
 let rn := callRn F st pi ro po mp
 let T := (pi.hp.map (·.1)).map (mpf mp)
 ⟨st.sl, renH rn ((po.enc y).H (funF pi ro x)) ++ st.hp.filter (fun u => !inIds T u.1), st.nx + (newIds pi ro po).length⟩
theorem hget_not {H : SHp} {m : Id} (h : m ∉ SHp.ids H) : hget H m = none := by
 cases hg : hget H m with
 | none => rfl
 | some o => exact absurd (hget_mem hg) h
theorem hpE_tip : ∀ {l : List (Id × PO)} {R : Type} {x : hpD l R} {m : Id} {o : SObj}, hget (hpE l R x).1 m = some o → ∃ q ∈ l, q.1 = m ∧ isTipP q.2 = o.isTip
 | [], R, x, m, o, h => nomatch h
 | (t, q) :: l, R, x, m, o, h => by
  simp only [hpE, hget] at h
  split at h
  ·rename_i e
   have h := Option.some.inj h
   subst h
   refine ⟨(t, q), List.mem_cons_self, (ieq_iff.1 e).symm, ?_⟩
   cases q <;> rfl
  ·obtain ⟨q', h1, h2⟩ := hpE_tip h
   exact ⟨q', List.mem_cons_of_mem _ h1, h2⟩
theorem GhostL.count {d : Nat} {as : List AV} {S : AHeap} {c c' : Nat} (h : c ≤ c') : GhostL d as S c as S c' := fun K _ _ hs ht hf => ⟨K, Step.refl d hs, ht, hf.1, fun i hi => hf.2 i (by omega)⟩
theorem GhostL.osub {d : Nat} {as : List AV} {S S' : AHeap} {c : Nat} (h : ∀ n o', S' n = some o' → ∃ o, S n = some o ∧ OSub o o') (hn : ∀ n, S n = none → S' n = none) : GhostL d as S c as S' c :=
 fun K w vs hs hv hf => ⟨K, ⟨Kle.refl _ _, hs.osub h hn, Below.refl _ _, fun n _ => hn n⟩, hv, hf.1, fun i hi => ⟨(hf.2 i hi).1, hn _ (hf.2 i hi).2⟩⟩
section
variable {P : Program} {E : Env P} {f : FuncId} {fn : Func} {hs : List (Nat × XH)} {pi po : Pat} {ro : List Id} {s : pi.D → Option po.D} {rv : po.D → SV}
 {pr : List (Id × Name)} {df : Nat} {S0 : AHeap} {F : Fr} {st : SS} {ν : Nm} {d : Nat} {as : List SV}
theorem call_ok (hE : EnvOk E) (hP : P.follows .mixedOrders = true) (h : FunOk E f fn hs pi ro po s rv) (hν : ν.fn = E.Φ) (hok : Okk pr df S0 F st ν d) {mp : List (Id × Id)} (hchk : callChk F st pi ro po mp as = true)
  {g1 : hpD pi.hp Unit → slD pi.sl (hpD pi.hp Unit)} {g2 : Unit → hpD pi.hp Unit} (hsl : slX mp (st.H F) (fun i => as.getD i .any) pi.sl (hpD pi.hp Unit) = some g1) (hhp : hpX mp (st.H F) st.hp pi.hp Unit = some g2)
  {y : po.D} (hy : s (g1 (g2 ())) = some y) {kv : AV → AHeap → Nat → Prop} {kp : AV → AHeap → Prop}
  (hk : ∀ ν', Nx ν ν' F st → Okk pr df S0 F (callSt F st pi ro po mp (g1 (g2 ())) y) ν' d → Same2 ν ν' F st (callSt F st pi ro po mp (g1 (g2 ())) y) → Unt2 ν ν' F S0 ((pi.hp.map (·.1)).map (mpf mp)) st (callSt F st pi ro po mp (g1 (g2 ())) y) →
   kv (((rv y).ren (callRn F st pi ro po mp)).av ν' ((callSt F st pi ro po mp (g1 (g2 ())) y).H F)) (heapOf ν' F (callSt F st pi ro po mp (g1 (g2 ())) y) S0) (callSt F st pi ro po mp (g1 (g2 ())) y).nx) :
  CallOk P d f (avl ν (st.H F) as) (heapOf ν F st S0) st.nx kv kp := by
 generalize hx : g1 (g2 ()) = x at hy hk
 simp only [callChk, Bool.and_eq_true, decide_eq_true_eq] at hchk
 obtain ⟨⟨⟨⟨⟨⟨⟨⟨⟨k1, k2⟩, k3⟩, k4⟩, k5⟩, k6⟩, k7⟩, k8⟩, k9⟩, k10⟩ := hchk
 generalize hpis : pi.hp.map (·.1) = pis at k2 k3 k4 k5 k7 k8 k9 k10 hk
 generalize hrn : callRn F st pi ro po mp = rn at k4 k5 hk
 generalize hout : outIds pi ro po = out at k4 k5
 generalize hT : pis.map (mpf mp) = T at k2 k3 k7 k8 k9 k10 hk
 let νc : Nm := ⟨fun m => ν (mpf mp m), ν.fn⟩
 have hνc : ∀ m, νc m = ν (mpf mp m) := fun _ => rfl
 generalize hHc : (pi.enc x).hp = Hc
 have hsl2 : (slE pi.sl (hpD pi.hp Unit) x).2 = g2 () := by
  rw [← hx]; exact (slX_ok (ν := ν) (ν' := νc) (H := st.H F) (H' := Hc) hνc hsl (g2 ())).1
 have hHc' : Hc = (hpE pi.hp Unit (g2 ())).1 := by rw [← hHc]; simp only [Pat.enc]; rw [hsl2]
 obtain ⟨-, hids, hobs⟩ := hpX_ok (ν := ν) (ν' := νc) (H := st.H F) (H' := Hc) hνc hhp ()
 rw [← hHc', hpis] at hids
 rw [← hHc', hpis] at hobs
 have hTmem : ∀ m ∈ pis, mpf mp m ∈ T := fun m hm => by rw [← hT]; exact List.mem_map.2 ⟨m, hm, rfl⟩
 have hTst : ∀ a ∈ T, a ∈ SHp.ids st.hp ∧ a ∉ SHp.ids F.hp := by
  intro a ha
  have := List.all_eq_true.1 k3 a ha
  simp only [Bool.and_eq_true, Bool.not_eq_true'] at this
  exact ⟨inIds_iff.1 this.1.1, fun hc => by rw [inIds_iff.2 hc] at this; exact nomatch this.1.2⟩
 have hTob : ∀ a ∈ T, obAt st.hp a = false := by
  intro a ha
  have := List.all_eq_true.1 k3 a ha
  simp only [Bool.and_eq_true, Bool.not_eq_true'] at this
  exact this.2
 have hTH : ∀ a ∈ T, a ∈ SHp.ids (st.H F) := fun a ha => by rw [SS.H, ids_append]; exact List.mem_append_left _ (hTst a ha).1
 have hinjc : ∀ a ∈ pis, ∀ b ∈ pis, νc a = νc b → a = b := by
  intro a ha b hb e
  have := hok.inj _ (hTH _ (hTmem a ha)) _ (hTH _ (hTmem b hb)) e
  exact nodupI_inj (l := pis) (f := mpf mp) (by rw [hT]; exact k2) a ha b hb this
 have hcur : ∀ m ∈ pis, curAV νc Hc m = curAV ν (st.H F) (mpf mp m) := by
  intro m hm
  obtain ⟨o, o', h1, h2, h3, h4, -⟩ := hobs m hm
  unfold curAV
  rw [h2, hgetH h1]
  cases o with
  | tip pm e xs => rw [h3 pm e xs rfl]
  | box cs => have := h4 rfl; cases o' <;> first | rfl | (simp [SObj.isTip] at this)
  | arr e xs => have := h4 rfl; cases o' <;> first | rfl | (simp [SObj.isTip] at this)
  | obox b cs => have := h4 rfl; cases o' <;> first | rfl | (simp [SObj.isTip] at this)
 have hco : ∀ m, (∃ q ∈ pi.hp, q.2.hasCur m) → curAV νc Hc m = curAV ν (st.H F) (mpf mp m) := by
  rintro m ⟨q, hq, hm⟩
  have := List.all_eq_true.1 (List.all_eq_true.1 h.hcurs q hq) m (PO.curs_mem hm)
  rw [hpis] at this
  exact hcur m (inIds_iff.1 this)
 have hcs : ∀ m, (∃ q ∈ pi.sl, q.2.hasCur m) → curAV νc Hc m = curAV ν (st.H F) (mpf mp m) := by
  rintro m ⟨q, hq, hm⟩
  have := List.all_eq_true.1 (List.all_eq_true.1 h.curs q hq) m (PS.curs_mem hm)
  rw [hpis] at this
  exact hcur m (inIds_iff.1 this)
 let S := heapOf ν F st S0
 let S1 : AHeap := hp (Hc.map fun p => (νc p.1, p.2.ob νc Hc)) S
 have hinjH : ∀ a ∈ SHp.ids Hc, ∀ b ∈ SHp.ids Hc, νc a = νc b → a = b := by rw [hids]; exact hinjc
 have hS1 : ∀ m o, hget Hc m = some o → S1 (νc m) = some (o.ob νc Hc) := fun m o hm => hp_get (f := fun o => o.ob νc Hc) hinjH hm
 have hS1miss : ∀ n, (∀ a ∈ pis, νc a ≠ n) → S1 n = S n := fun n hn => hp_miss (f := fun o => o.ob νc Hc) fun a ha => hn a (hids ▸ ha)
 have hosub : ∀ n o', S1 n = some o' → ∃ o, S n = some o ∧ OSub o o' := by
  intro n o' hn
  by_cases hex : ∃ a ∈ pis, νc a = n
  ·obtain ⟨a, ha, rfl⟩ := hex
   obtain ⟨o, o2, h1, h2, -, -, h5⟩ := hobs a ha
   rw [hS1 a o2 h2] at hn
   have hn := Option.some.inj hn
   subst hn
   exact ⟨_, hok.hok _ _ (hgetH h1), h5 hco⟩
  ·rw [hS1miss n fun a ha e => hex ⟨a, ha, e⟩] at hn
   exact ⟨o', hn, .refl⟩
 have hnone : ∀ n, S n = none → S1 n = none := by
  intro n hn
  cases hc : S1 n with
  | none => rfl
  | some o' => obtain ⟨o, h1, -⟩ := hosub n o' hc; rw [hn] at h1; exact nomatch h1
 have hargs : SubL (avl ν (st.H F) as) ((pi.enc x).sl.map fun q => q.2.av νc (pi.enc x).hp) := by
  obtain ⟨h1, h2⟩ := slX_ok (ν := ν) (ν' := νc) (H := st.H F) (H' := Hc) hνc hsl (g2 ())
  have h2 := h2 hcs
  rw [hx] at h2
  refine subL_of ?_ fun i a b ha hb => ?_
  ·rw [List.length_map]
   simp only [Pat.enc]
   rw [slE_len, avl_length]; exact k1
  ·rw [List.getElem?_map] at hb
   cases hq : (pi.enc x).sl[i]? with
   | none => rw [hq] at hb; exact nomatch hb
   | some q =>
    rw [hq] at hb
    have hb := Option.some.inj hb
    simp only [Pat.enc] at hq
    obtain ⟨k1, k2⟩ := slE_get h.keys i q hq
    rw [avl_map, List.getElem?_map] at ha
    cases hp : as[i]? with
    | none => rw [hp] at ha; exact nomatch ha
    | some p =>
     rw [hp] at ha
     have ha := Option.some.inj ha
     have h4 := h2 i
     simp only [List.getD_eq_getElem?_getD] at h4
     rw [hp] at h4
     rw [Nat.zero_add] at k2
     rw [k2] at h4
     rw [← ha, ← hb, hHc]
     exact h4
 obtain ⟨vs, hvs, hres⟩ : ∃ vs, sres E.T ((po.enc y).H (funF pi ro x)) ((po.enc y).at (funF pi ro x)) fn.results.toList = some vs ∧ sone1 vs = rv y := by
  have hres := h.res x y
  unfold resF at hres
  split at hres
  ·exact ⟨_, by assumption, Option.some.inj hres⟩
  ·exact nomatch hres
 have hmain := fun_ok hE hP h.fits ((h.s_ok x).trans hy) h.keys (h.lv x) (ν := νc) hν (S := S1) (by rw [hpis]; exact hinjc) (by rw [hHc]; exact hS1) (vs := vs) hvs
 refine ⟨_, S1, st.nx, GhostL.osub hosub hnone, (hmain.args hargs).mono ?_⟩
 rintro r' S' ⟨ν', e1, e2, e3, e4, rfl, hS'⟩ hnames
 simp only
 rw [hpis] at e2 e4
 have hHo : SHp.ids ((po.enc y).H (funF pi ro x)) = out := out_ids.trans hout
 have hmi := h.hmi x y
 have hrmi := h.mi y
 rw [hout] at hmi hrmi
 rw [hHo] at e3
 unfold heapOf at hS'
 rw [hres]
 generalize hH : (po.enc y).H (funF pi ro x) = Ho at hS' hHo hmi
 have hsub : ∀ a ∈ pis, a ∈ out := by
  intro a ha
  have := h.sub
  rw [hpis, hout] at this
  exact inIds_iff.1 (List.all_eq_true.1 this a ha)
 have hrninj : ∀ a ∈ out, ∀ b ∈ out, rn a = rn b → a = b := nodupI_inj k4
 have hrnpi : ∀ a ∈ pis, rn a = mpf mp a := by
  intro a ha
  have := List.all_eq_true.1 k5 a (hsub a ha)
  simp only [inIds_iff.2 ha, if_true] at this
  exact ieq_iff.1 this
 have hrnnew : ∀ a ∈ out, a ∉ pis → (rn a).1 = F.lv ∧ st.nx ≤ (rn a).2 ∧ (rn a).2 < st.nx + (newIds pi ro po).length := by
  intro a ha hn
  have := List.all_eq_true.1 k5 a ha
  have hf : inIds pis a = false := by
   cases hc : inIds pis a with
   | false => rfl
   | true => exact absurd (inIds_iff.1 hc) hn
  simp only [hf, Bool.false_eq_true, if_false, Bool.and_eq_true, beq_iff_eq, decide_eq_true_eq] at this
  exact ⟨this.1.1, this.1.2, this.2⟩
 have hnewmem : ∀ a, a ∈ newIds pi ro po ↔ a ∈ out ∧ a ∉ pis := by
  intro a
  unfold newIds
  rw [List.mem_filter, hout, hpis]
  refine and_congr_right fun _ => ?_
  rw [Bool.not_eq_true', ← Bool.not_eq_true, inIds_iff]
 have hnotlow : ∀ a ∈ out, a ∉ pis → lowI F st (rn a) = false := by
  intro a ha hn
  obtain ⟨a1, a2, -⟩ := hrnnew a ha hn
  simp [lowI, a1, a2]
 have hlowH : ∀ a ∈ SHp.ids (st.H F), lowI F st a = true := by
  intro a ha
  cases hc : lowI F st a with
  | true => rfl
  | false =>
   simp only [lowI, Bool.not_eq_false', Bool.and_eq_true, beq_iff_eq, decide_eq_true_eq] at hc
   have := hok.fr a ha a.2 hc.2
   have h2 := hok.lev a.2 hc.2
   rw [← hc.1] at h2
   exact absurd h2 this
 let ν2 : Nm := ⟨fun m => match (newIds pi ro po).find? (fun a => ieq (rn a) m) with | some a => ν' a | none => ν m, ν.fn⟩
 have hν2low : ∀ m, lowI F st m = true → ν2 m = ν m := by
  intro m hm
  show (match (newIds pi ro po).find? (fun a => ieq (rn a) m) with | some a => ν' a | none => ν m) = ν m
  cases hc : (newIds pi ro po).find? (fun a => ieq (rn a) m) with
  | none => rfl
  | some a =>
   have h1 := List.find?_some hc
   have h2 := (hnewmem a).1 (List.mem_of_find?_eq_some hc)
   have := hnotlow a h2.1 h2.2
   rw [ieq_iff.1 h1, hm] at this; exact nomatch this
 have hν2new : ∀ a ∈ out, a ∉ pis → ν2 (rn a) = ν' a := by
  intro a ha hn
  show (match (newIds pi ro po).find? (fun b => ieq (rn b) (rn a)) with | some a => ν' a | none => ν (rn a)) = ν' a
  cases hc : (newIds pi ro po).find? (fun b => ieq (rn b) (rn a)) with
  | none =>
   have := List.find?_eq_none.1 hc a ((hnewmem a).2 ⟨ha, hn⟩)
   rw [ieq_self] at this; exact absurd rfl this
  | some b =>
   have h1 := List.find?_some hc
   have h1 := ieq_iff.1 h1
   have h2 := (hnewmem b).1 (List.mem_of_find?_eq_some hc)
   rw [hrninj b h2.1 a ha h1]
 have hν2rn : ∀ a ∈ out, ν2 (rn a) = ν' a := by
  intro a ha
  by_cases hp : a ∈ pis
  ·rw [hrnpi a hp, hν2low _ (hlowH _ (hTH _ (hTmem a hp))), e2 a hp]
  ·exact hν2new a ha hp
 have hNx : Nx ν ν2 F st := ⟨rfl, hν2low⟩
 generalize hst' : callSt F st pi ro po mp x y = st' at hk
 have hst_sl : st'.sl = st.sl := by rw [← hst']; rfl
 have hst_hp : st'.hp = renH rn Ho ++ st.hp.filter (fun u => !inIds T u.1) := by
  rw [← hst']; simp only [callSt]; rw [hrn, hH, hpis, hT]
 have hst_nx : st'.nx = st.nx + (newIds pi ro po).length := by rw [← hst']; rfl
 have hfilt : SHp.ids (st.hp.filter (fun u => !inIds T u.1)) = (SHp.ids st.hp).filter fun m => !inIds T m := filter_ids (g := fun m => !inIds T m)
 have hmem : ∀ a ∈ SHp.ids (st'.H F), (∃ b ∈ out, a = rn b) ∨ (a ∈ SHp.ids (st.H F) ∧ a ∉ T) := by
  intro a ha
  rw [SS.H, ids_append, hst_hp, ids_append, renH_ids, hfilt, hHo] at ha
  rcases List.mem_append.1 ha with ha | ha
  ·rcases List.mem_append.1 ha with ha | ha
   ·obtain ⟨b, hb, rfl⟩ := List.mem_map.1 ha
    exact .inl ⟨b, hb, rfl⟩
   ·rw [List.mem_filter, Bool.not_eq_true', ← Bool.not_eq_true, inIds_iff] at ha
    exact .inr ⟨by rw [SS.H, ids_append]; exact List.mem_append_left _ ha.1, ha.2⟩
  ·exact .inr ⟨by rw [SS.H, ids_append]; exact List.mem_append_right _ ha, fun hc => (hTst a hc).2 ha⟩
 have hgout : ∀ b o, hget Ho b = some o → hget (st'.H F) (rn b) = some (o.ren rn) := by
  intro b o hb
  rw [SS.H, hst_hp, hget_append, hget_append, renH_get (by rw [hHo]; exact hrninj) hb]
 have himg : ∀ a, lowI F st a = true → a ∉ T → ∀ b ∈ out, rn b ≠ a := by
  intro a ha hn b hb e
  by_cases hp : b ∈ pis
  ·rw [hrnpi b hp] at e
   exact hn (e ▸ hTmem b hp)
  ·have := hnotlow b hb hp
   rw [e, ha] at this; exact nomatch this
 have hgold : ∀ a, lowI F st a = true → a ∉ T → hget (st'.H F) a = hget (st.H F) a := by
  intro a ha hn
  have h1 : hget (renH rn Ho) a = none := by
   refine hget_not fun hc => ?_
   rw [renH_ids, hHo] at hc
   obtain ⟨b, hb, e⟩ := List.mem_map.1 hc
   exact himg a ha hn b hb e
  have h2 : hget (st.hp.filter (fun u => !inIds T u.1)) a = hget st.hp a := hget_filterId (g := fun m => !inIds T m) (by
   rw [Bool.not_eq_true', ← Bool.not_eq_true, inIds_iff]; exact hn)
  rw [SS.H, SS.H, hst_hp, hget_append, hget_append, hget_append, h1, h2]
 have hcur1 : ∀ b, inIds out b = true → curAV ν2 (st'.H F) (rn b) = curAV ν' Ho b := by
  intro b hb
  have hb := inIds_iff.1 hb
  obtain ⟨o, ho⟩ := ids_get (hHo ▸ hb)
  unfold curAV
  rw [ho, hgout b o ho, hν2rn b hb]
  cases o <;> rfl
 have hcur2 : ∀ m, (fun m => lowI F st m && (!inIds T m || inIds ((roIds pi ro po).map (mpf mp)) m)) m = true → curAV ν (st.H F) m = curAV ν2 (st'.H F) m := by
  intro m hm
  simp only [Bool.and_eq_true, Bool.or_eq_true] at hm
  rcases hm.2 with hm2 | hm2
  ·have hn : m ∉ T := by
    rw [Bool.not_eq_true', ← Bool.not_eq_true, inIds_iff] at hm2; exact hm2
   unfold curAV
   rw [hgold m hm.1 hn, hν2low m hm.1]
  ·obtain ⟨a, ha, rfl⟩ := List.mem_map.1 (inIds_iff.1 hm2)
   unfold roIds at ha
   rw [List.mem_filter, hpis, Bool.and_eq_true, Bool.not_eq_true', inIds_iff] at ha
   obtain ⟨ha1, ha2, ha3⟩ := ha
   rw [← hrnpi a ha1, hcur1 a (inIds_iff.2 (hsub a ha1)), hrnpi a ha1, ← hcur a ha1]
   have hg : hget Ho a = hget Hc a := by
    rw [← hH, ← hHc]
    simp only [SS.H, funF, hget_append]
    have h1 : hget (po.enc y).hp a = none := by
     refine hget_not fun hc => ?_
     rw [enc_ids] at hc
     rw [inIds_iff.2 hc] at ha3; cases ha3
    rw [h1]
    exact hget_filterId (g := fun m => inIds ro m) (inIds_iff.2 ha2)
   unfold curAV
   rw [hg, e2 a ha1]
 have hnm2 : ∀ m, lowI F st m = true → ν m = ν2 m := fun m hm => (hν2low m hm).symm
 have hSget : ∀ a ∈ SHp.ids (st.H F), ∃ o, S (ν a) = some o := by
  intro a ha
  obtain ⟨o, ho⟩ := ids_get ha
  exact ⟨_, hok.hok a o ho⟩
 have hS1get : ∀ a ∈ SHp.ids (st.H F), ∃ o, S1 (ν a) = some o := by
  intro a ha
  by_cases hex : ∃ b ∈ pis, νc b = ν a
  ·obtain ⟨b, hb, e⟩ := hex
   obtain ⟨o, o2, h1, h2, -⟩ := hobs b hb
   exact ⟨_, e ▸ hS1 b o2 h2⟩
  ·rw [hS1miss _ fun b hb e => hex ⟨b, hb, e⟩]; exact hSget a ha
 have hS'get : ∀ b o, hget Ho b = some o → S' (ν' b) = some (o.ob ν' Ho) := by
  intro b o hb
  rw [hS']
  exact hp_get (f := fun o => o.ob ν' Ho) (by rw [hHo]; exact e3) hb
 have hoponly : ∀ a ∈ out, a ∉ pis → a ∈ po.hp.map (·.1) := by
  intro a ha hn
  rw [← hout] at ha
  rcases List.mem_append.1 ha with ha | ha
  ·exact ha
  ·rw [hpis] at ha; exact absurd (List.mem_filter.1 ha).1 hn
 have hnewlev : ∀ a ∈ out, a ∉ pis → S1 (ν' a) = none ∧ d < (ν' a).1 := by
  intro a ha hn
  have h0 := e4 a (hoponly a ha hn) hn
  refine ⟨h0, Nat.lt_of_not_le fun hle => ?_⟩
  obtain ⟨o, ho⟩ := ids_get (hHo ▸ ha)
  have h1 := hS'get a o ho
  have h2 := hnames _ hle h0
  rw [h1] at h2; exact nomatch h2
 have hok' : Okk pr df S0 F st' ν2 d := by
  refine ⟨?_, ?_, ?_, ?_, hok.low, hok.none, ?_, hok.prs⟩
  ·have hx : ∀ b ∈ out, ∀ a ∈ SHp.ids (st.H F), a ∉ T → ν2 (rn b) ≠ ν2 a := by
    intro b hb a ha hn e
    rw [hν2rn b hb, hν2low a (hlowH a ha)] at e
    by_cases hp : b ∈ pis
    ·rw [e2 b hp] at e
     have := hok.inj _ (hTH _ (hTmem b hp)) _ ha e
     exact hn (this ▸ hTmem b hp)
    ·obtain ⟨o, ho⟩ := hS1get a ha
     have := (hnewlev b hb hp).1
     rw [e, ho] at this; exact nomatch this
   intro a ha b hb hab
   rcases hmem a ha with ⟨a', ha', rfl⟩ | ⟨ha, ha2⟩ <;> rcases hmem b hb with ⟨b', hb', rfl⟩ | ⟨hb, hb2⟩
   ·rw [hν2rn a' ha', hν2rn b' hb'] at hab
    rw [e3 a' ha' b' hb' hab]
   ·exact absurd hab (hx a' ha' b hb hb2)
   ·exact absurd hab.symm (hx b' hb' a ha ha2)
   ·rw [hν2low a (hlowH a ha), hν2low b (hlowH b hb)] at hab
    exact hok.inj a ha b hb hab
  ·intro a ha k hkk
   rw [hst_nx] at hkk
   rcases hmem a ha with ⟨a', ha', rfl⟩ | ⟨ha, ha2⟩
   ·rw [hν2rn a' ha']
    by_cases hp : a' ∈ pis
    ·rw [e2 a' hp]; exact hok.fr _ (hTH _ (hTmem a' hp)) k (by omega)
    ·intro e
     have := (hnewlev a' ha' hp).2
     rw [e] at this
     exact absurd this (Nat.lt_irrefl _)
   ·rw [hν2low a (hlowH a ha)]; exact hok.fr a ha k (by omega)
  ·intro k hkk
   rw [hst_nx] at hkk
   show (match (newIds pi ro po).find? (fun a => ieq (rn a) (F.lv, k)) with | some a => ν' a | none => ν (F.lv, k)) = (d, k)
   cases hc : (newIds pi ro po).find? (fun a => ieq (rn a) (F.lv, k)) with
   | none => exact hok.lev k (by omega)
   | some a =>
    have h1 := List.find?_some hc
    have h1 := ieq_iff.1 h1
    have h2 := (hnewmem a).1 (List.mem_of_find?_eq_some hc)
    have h3 := (hrnnew a h2.1 h2.2).2.2
    rw [h1] at h3
    exact absurd h3 (by simp only; omega)
  ·intro a ha hp
   rcases hmem a ha with ⟨a', ha', rfl⟩ | ⟨ha, ha2⟩
   ·rw [hν2rn a' ha']
    by_cases hp2 : a' ∈ pis
    ·rw [e2 a' hp2]
     rw [hrnpi a' hp2] at hp
     exact hok.base _ (hTH _ (hTmem a' hp2)) hp
    ·exact Nat.le_of_lt (Nat.lt_of_le_of_lt hok.low (hnewlev a' ha' hp2).2)
   ·rw [hν2low a (hlowH a ha)]; exact hok.base a ha hp
  ·intro q hq
   have : q.1 ∈ F.pr := by rw [hok.prs]; exact List.mem_map.2 ⟨q, hq, rfl⟩
   rw [hν2low q.1 (List.all_eq_true.1 k6 q.1 this)]
   exact hok.par q hq
 have hobout : ∀ b o, hget Ho b = some o → (o.ren rn).ob ν2 (st'.H F) = o.ob ν' Ho := by
  intro b o ho
  refine SObj.ren_ob (p := inIds out) (q := inIds out) (fun m hm => hν2rn m (inIds_iff.1 hm)) (fun m hm => hcur1 m hm) e1.symm ?_
  obtain ⟨j, hj, -⟩ := hget_mem2 ho
  exact List.all_eq_true.1 hmi _ hj
 have hobold : ∀ a ∈ SHp.ids (st.H F), a ∉ T → ∀ o, hget (st.H F) a = some o → o.ob ν2 (st'.H F) = o.ob ν (st.H F) := by
  intro a ha hn o ho
  refine (SObj.mi_congr hnm2 hcur2 rfl ?_).symm
  rw [SS.H, hget_append] at ho
  cases hc : hget st.hp a with
  | some o2 =>
   rw [hc] at ho
   have ho := Option.some.inj ho
   subst ho
   obtain ⟨j, hj, e⟩ := hget_mem2 hc
   have := List.all_eq_true.1 k9 _ hj
   simp only [Bool.or_eq_true] at this
   rcases this with h1 | h1
   ·rw [inIds_iff] at h1; exact absurd (e ▸ h1) hn
   ·exact h1
  | none =>
   rw [hc] at ho
   obtain ⟨j, hj, e⟩ := hget_mem2 ho
   exact List.all_eq_true.1 k10 _ hj
 have hheap : heapOf ν2 F st' S0 = S' := by
  funext n
  by_cases hex : ∃ b ∈ out, ν' b = n
  ·obtain ⟨b, hb, rfl⟩ := hex
   obtain ⟨o, ho⟩ := ids_get (hHo ▸ hb)
   rw [hS'get b o ho]
   have := hok'.hok (rn b) _ (hgout b o ho)
   rw [hν2rn b hb] at this
   rw [this, hobout b o ho]
  ·have h1 : S' n = S1 n := by
    rw [hS']
    exact hp_miss (f := fun o => o.ob ν' Ho) fun a ha e => hex ⟨a, hHo ▸ ha, e⟩
   have h2 : S1 n = S n := hS1miss n fun a ha e => hex ⟨a, hsub a ha, (e2 a ha).trans e⟩
   rw [h1, h2]
   by_cases hex2 : ∃ a ∈ SHp.ids (st.H F), ν a = n
   ·obtain ⟨a, ha, rfl⟩ := hex2
    have hn : a ∉ T := by
     intro hc
     rw [← hT] at hc
     obtain ⟨m, hm, rfl⟩ := List.mem_map.1 hc
     exact hex ⟨m, hsub m hm, e2 m hm⟩
    obtain ⟨o, ho⟩ := ids_get ha
    have h3 := hok.hok a o ho
    have h4 := hok'.hok a o (by rw [hgold a (hlowH a ha) hn]; exact ho)
    rw [hν2low a (hlowH a ha), hobold a ha hn o ho] at h4
    rw [h4]; exact h3.symm
   ·have h3 : S n = S0 n := hp_miss (f := fun o => o.ob ν (st.H F)) fun a ha e => hex2 ⟨a, ha, e⟩
    have h4 : heapOf ν2 F st' S0 n = S0 n := by
     refine hp_miss (f := fun o => o.ob ν2 (st'.H F)) fun a ha e => ?_
     rcases hmem a ha with ⟨b, hb, rfl⟩ | ⟨ha, -⟩
     ·exact hex ⟨b, hb, (hν2rn b hb) ▸ e⟩
     ·exact hex2 ⟨a, ha, (hν2low a (hlowH a ha)) ▸ e⟩
    rw [h3, h4]
 have hsame : Same2 ν ν2 F st st' := by
  intro i
  have hat : st'.at F i = st.at F i := by simp only [SS.at, hst_sl]
  rw [hat]
  refine (SV.mi_congr hnm2 hcur2 rfl ?_).symm
  refine lget_mi (l := st.sl ++ F.sl) ?_ i
  rw [List.all_append, Bool.and_eq_true]
  exact ⟨k7, k8⟩
 have hunt : Unt2 ν ν2 F S0 T st st' := by
  constructor
  ·intro a ha hn
   obtain ⟨o, ho⟩ := ids_get ha
   have h3 := hok.hok a o ho
   have h4 := hok'.hok a o (by rw [hgold a (hlowH a ha) hn]; exact ho)
   rw [hν2low a (hlowH a ha), hobold a ha hn o ho] at h4
   rw [h4]; exact h3.symm
  ·intro n len hn
   rw [hheap]
   by_cases hex : ∃ a ∈ pis, νc a = n
   ·obtain ⟨a, ha, rfl⟩ := hex
    obtain ⟨o, o2, h1, h2, h3, -, -⟩ := hobs a ha
    have h5 := hok.hok _ _ (hgetH (F := F) h1)
    rw [hn] at h5
    have h5 := Option.some.inj h5
    have htip : o.isTip = true := by
     cases o with
     | box cs => simp [SObj.ob] at h5
     | arr e xs => simp [SObj.ob] at h5
     | obox b cs => have := hTob _ (hTmem a ha); simp only [obAt, h1, SObj.isOb] at this; cases this
     | tip pm e xs => rfl
    obtain ⟨oo, hoo⟩ := ids_get (hHo ▸ hsub a ha)
    have h6 := hS'get a oo hoo
    rw [e2 a ha] at h6
    rw [h6]
    have htip2 : oo.isTip = true := by
     have ho2 : o2.isTip = true := by
      cases o with
      | box cs => simp [SObj.isTip] at htip
      | arr e xs => simp [SObj.isTip] at htip
      | obox b cs => simp [SObj.isTip] at htip
      | tip pm e xs => rw [h3 pm e xs rfl]; rfl
     rw [← hH, SS.H, hget_append] at hoo
     cases hc : hget (po.enc y).hp a with
     | some o3 =>
      rw [hc] at hoo
      have hoo := Option.some.inj hoo
      subst hoo
      obtain ⟨q, hq, hqa, hqt⟩ := hpE_tip (l := pi.hp) (R := Unit) (x := g2 ()) (hHc' ▸ h2)
      obtain ⟨r, hr, hra, hrt⟩ := hpE_tip (l := po.hp) (R := Unit) hc
      have := List.all_eq_true.1 h.tips q hq
      rw [hqt, ho2] at this
      simp only [Bool.not_true, Bool.false_or] at this
      have := List.all_eq_true.1 this r hr
      rw [hra, hqa, ieq_self] at this
      simp only [Bool.not_true, Bool.false_or] at this
      rw [← hrt]; exact this
     | none =>
      rw [hc] at hoo
      have : hget ((funF pi ro x).hp) a = some oo := hoo
      simp only [funF] at this
      rw [hget_filter (q := fun m => inIds ro m)] at this
      rw [hHc, h2] at this
      split at this
      ·rw [← Option.some.inj this]; exact ho2
      ·exact nomatch this
    cases oo with
    | box cs => simp [SObj.isTip] at htip2
    | arr e xs => simp [SObj.isTip] at htip2
    | obox b cs => simp [SObj.isTip] at htip2
    | tip pm e xs => exact ⟨_, rfl⟩
   ·have h1 : S1 n = S n := hS1miss n fun a ha e => hex ⟨a, ha, e⟩
    by_cases hex2 : ∃ b ∈ out, ν' b = n
    ·obtain ⟨b, hb, rfl⟩ := hex2
     by_cases hp : b ∈ pis
     ·exact absurd ⟨b, hp, (e2 b hp).symm⟩ hex
     ·have := (hnewlev b hb hp).1
      rw [h1] at this
      have h2 : S (ν' b) = some (.buf len) := hn
      rw [this] at h2; exact nomatch h2
    ·have h2 : S' n = S1 n := by
      rw [hS']
      exact hp_miss (f := fun o => o.ob ν' Ho) fun a ha e => hex2 ⟨a, hHo ▸ ha, e⟩
     exact ⟨len, by rw [h2, h1]; exact hn⟩
 have hfin := hk ν2 hNx hok' hsame hunt
 rw [hheap] at hfin
 have hv : ((rv y).ren rn).av ν2 (st'.H F) = (rv y).av ν' Ho := SV.ren_av (p := inIds out) (q := inIds out) (fun m hm => hν2rn m (inIds_iff.1 hm)) (fun m hm => hcur1 m hm) e1.symm hrmi
 rw [hv] at hfin
 exact ⟨_, _, _, GhostL.count (by rw [hst_nx]; omega), hfin⟩
end
def calFun {P : Program} {E : Env P} (hE : EnvOk E) (hP : P.follows .mixedOrders = true) {f : FuncId} {fn : Func} {hs : List (Nat × XH)} {pi po : Pat} {ro : List Id} {s : pi.D → Option po.D} {rv : po.D → SV} (h : FunOk E f fn hs pi ro po s rv) : Cal P E.Φ f id where
 run F as st k := if callChk F st pi ro po (callMp (st.H F) pi as) as then
   match slX (callMp (st.H F) pi as) (st.H F) (fun i => as.getD i .any) pi.sl (hpD pi.hp Unit) with
   | some g1 => match hpX (callMp (st.H F) pi as) (st.H F) st.hp pi.hp Unit with
    | some g2 => bd (s (g1 (g2 ()))) fun y => k ((rv y).ren (callRn F st pi ro po (callMp (st.H F) pi as))) (callSt F st pi ro po (callMp (st.H F) pi as) (g1 (g2 ())) y)
    | none => none
   | none => none else none
 touch H as := (pi.hp.map (·.1)).map (mpf (callMp H pi as))
 pur _ _ _ := none
 pur_ok := fun _ h => nomatch h
 ok := by
  intro A pr df S0 F st ν d as k r kv kp hν hok hr hk
  split at hr
  ·rename_i hc
   split at hr
   ·rename_i g1 h1
    split at hr
    ·rename_i g2 h2
     obtain ⟨y, hy, hr⟩ := bd_some hr
     exact call_ok hE hP h hν hok hc h1 h2 hy fun ν' a0 a1 a2 a3 => hk ν' _ _ a0 a1 hr a2 a3
    ·exact nomatch hr
   ·exact nomatch hr
  ·exact nomatch hr
def calAlt {P : Program} {Φ : Nat → FuncId × List AV × List AV} {g : FuncId} (t : SHp → List SV → Bool) (c d : Cal P Φ g id) : Cal P Φ g id where
 run F as st k := if t (st.H F) as then c.run F as st k else d.run F as st k
 touch H as := if t H as then c.touch H as else d.touch H as
 pur H as k := if t H as then c.pur H as k else d.pur H as k
 ok := by
  intro A pr df S0 F st ν d' as k r kv kp hν hok hr hk
  cases ht : t (st.H F) as with
  | true =>
   rw [ht] at hr
   simp only [if_true, ht] at hr hk
   exact c.ok hν hok hr hk
  | false =>
   rw [ht] at hr
   simp only [Bool.false_eq_true, if_false, ht] at hr hk
   exact d.ok hν hok hr hk
 pur_ok := by
  intro A H ν as k r hν hr
  cases ht : t H as with
  | true => rw [ht] at hr; exact c.pur_ok hν hr
  | false => rw [ht] at hr; exact d.pur_ok hν hr
def argBuf (i : Nat) (H : SHp) (as : List SV) : Bool := match as.getD i .any with
 | .cur m => match hget H m with
  | some (.tip false _ _) => true
  | _ => false
 | .sl (.buf _ _) _ _ => true
 | .sl (.sub _ _ _ _) _ _ => true
 | _ => false
end Go.Al
