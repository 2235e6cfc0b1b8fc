import Derived.Test.YtolfnhebnennpaaAmE
set_option linter.unusedSimpArgs false
set_option linter.unusedVariables false
namespace Go.Al
open Go Go.RowKit
structure SS where
 sl : List (Nat × SV)
 hp : SHp
 nx : Nat
structure Fr where
 sl : List (Nat × SV)
 hp : SHp
 lv : Nat
 pr : List Id
def lget : List (Nat × SV) → Nat → SV
 | [], _ => .any
 | (j, v) :: r, i => if i = j then v else lget r i
def lput : List (Nat × SV) → Nat → SV → List (Nat × SV)
 | [], i, v => [(i, v)]
 | (j, u) :: r, i, v => if i = j then (j, v) :: r else (j, u) :: lput r i v
def SS.put (st : SS) (dst : Option Nat) (v : SV) : SS :=
 match dst with
 | some i => { st with sl := lput st.sl i v }
 | none => st
def SS.at (F : Fr) (st : SS) (i : Nat) : SV := lget (st.sl ++ F.sl) i
def SS.H (F : Fr) (st : SS) : SHp := st.hp ++ F.hp
def SS.ev (F : Fr) (st : SS) : Operand → SV
 | .tmp t => st.at F t
 | .const v => .lit v
 | .func f => .fn (.func f) [] []
 | .global _ => .any
def slotsOf (ν : Nm) (F : Fr) (st : SS) : Slots := (st.sl ++ F.sl).map fun p => (p.1, p.2.av ν (st.H F))
def heapOf (ν : Nm) (F : Fr) (st : SS) (S0 : AHeap) : AHeap := hp ((st.H F).map fun p => (ν p.1, p.2.ob ν (st.H F))) S0
theorem lget_append {a b : List (Nat × SV)} {i : Nat} : lget (a ++ b) i = if a.any (fun p => p.1 == i) then lget a i else lget b i := by
 induction a with
 | nil => simp
 | cons p r ih =>
  obtain ⟨j, v⟩ := p
  simp only [List.cons_append, lget, List.any_cons]
  by_cases e : i = j
  ·subst e; simp
  ·have : (j == i) = false := by simp; omega
   simp only [if_neg e, ih, this, Bool.false_or]
theorem lget_put {a b : List (Nat × SV)} {i j : Nat} {v : SV} : lget (lput a i v ++ b) j = if j = i then v else lget (a ++ b) j := by
 induction a with
 | nil =>
  simp only [lput, List.cons_append, List.nil_append, lget]
 | cons p r ih =>
  obtain ⟨k, u⟩ := p
  simp only [lput]
  by_cases e : i = k
  ·subst e
   rw [if_pos rfl]
   simp only [List.cons_append, lget]
   split <;> rfl
  ·rw [if_neg e]
   simp only [List.cons_append, lget, ih]
   by_cases e2 : j = k
   ·subst e2; rw [if_pos rfl, if_pos rfl, if_neg (fun h => e h.symm)]
   ·rw [if_neg e2, if_neg e2]
theorem at_put {F : Fr} {st : SS} {dst : Option Nat} {v : SV} {j : Nat} : (st.put dst v).at F j = if dst = some j then v else st.at F j := by
 cases dst with
 | none => simp [SS.put, SS.at]
 | some i =>
  simp only [SS.put, SS.at, lget_put, Option.some.injEq]
  by_cases e : j = i
  ·subst e; simp
  ·rw [if_neg e, if_neg (fun h => e h.symm)]
theorem sget_map {ν : Nm} {H : SHp} {l : List (Nat × SV)} {i : Nat} : sget (l.map fun p => (p.1, p.2.av ν H)) i = (lget l i).av ν H := by
 induction l with
 | nil => simp [sget, lget, SV.av]
 | cons p r ih =>
  obtain ⟨j, v⟩ := p
  simp only [List.map_cons, sget, lget]
  split
  ·rfl
  ·exact ih
theorem sget_slotsOf {ν : Nm} {F : Fr} {st : SS} {i : Nat} : sget (slotsOf ν F st) i = (st.at F i).av ν (st.H F) := sget_map
theorem ev_slotsOf {ν : Nm} {F : Fr} {st : SS} {o : Operand} : ev (slotsOf ν F st) o = (st.ev F o).av ν (st.H F) := by
 cases o with
 | tmp t => exact sget_slotsOf
 | const v => simp [ev, SS.ev, SV.av]
 | func f => simp [ev, SS.ev, SV.av, avl]
 | global g => simp [ev, SS.ev, SV.av]
def SHp.ids (H : SHp) : List Id := H.map (·.1)
theorem hget_mem {H : SHp} {m : Id} {o : SObj} (h : hget H m = some o) : m ∈ SHp.ids H := by
 induction H with
 | nil => cases h
 | cons p r ih =>
  obtain ⟨j, q⟩ := p
  simp only [hget] at h
  split at h
  ·rename_i e; rw [ieq_iff.1 e]; simp [SHp.ids]
  ·simp only [SHp.ids, List.map_cons, List.mem_cons] at ih ⊢; exact .inr (ih h)
theorem hget_none {H : SHp} {m : Id} (h : hget H m = none) : m ∉ SHp.ids H := by
 induction H with
 | nil => simp [SHp.ids]
 | cons p r ih =>
  obtain ⟨j, q⟩ := p
  simp only [hget] at h
  split at h
  ·cases h
  ·rename_i e
   simp only [SHp.ids, List.map_cons, List.mem_cons, not_or]
   exact ⟨fun e2 => e (ieq_iff.2 e2), ih h⟩
structure Okk (pr : List (Id × Name)) (df : Nat) (S0 : AHeap) (F : Fr) (st : SS) (ν : Nm) (d : Nat) : Prop where
 inj : ∀ a ∈ SHp.ids (st.H F), ∀ b ∈ SHp.ids (st.H F), ν a = ν b → a = b
 fr : ∀ a ∈ SHp.ids (st.H F), ∀ k, st.nx ≤ k → ν a ≠ (d, k)
 lev : ∀ k, st.nx ≤ k → ν (F.lv, k) = (d, k)
 base : ∀ a ∈ SHp.ids (st.H F), a ∉ F.pr → df ≤ (ν a).1
 low : df ≤ d
 none : ∀ n : Name, df ≤ n.1 → S0 n = none
 par : ∀ q ∈ pr, ν q.1 = q.2
 prs : F.pr = pr.map (·.1)
theorem hp_get {ν : Nm} {S0 : AHeap} {f : SObj → AObj} : ∀ {H : SHp} (hinj : ∀ a ∈ SHp.ids H, ∀ b ∈ SHp.ids H, ν a = ν b → a = b) {m : Id} {o : SObj}, hget H m = some o → hp (H.map fun p => (ν p.1, f p.2)) S0 (ν m) = some (f o)
 | [], _, m, o, h => by cases h
 | (j, q) :: r, hinj, m, o, h => by
  simp only [hget] at h
  simp only [List.map_cons, hp]
  split at h
  ·rename_i e; cases h; rw [ieq_iff.1 e, if_pos rfl]
  ·rename_i e
   have hm := hget_mem h
   rw [if_neg, hp_get (fun a ha b hb => hinj a (by simp only [SHp.ids, List.map_cons, List.mem_cons] at ha ⊢; exact .inr ha) b (by simp only [SHp.ids, List.map_cons, List.mem_cons] at hb ⊢; exact .inr hb)) h]
   intro e2
   exact e (ieq_iff.2 (hinj m (by simp only [SHp.ids, List.map_cons, List.mem_cons] at hm ⊢; exact .inr hm) j (by simp [SHp.ids]) e2))
theorem hp_miss {ν : Nm} {S0 : AHeap} {f : SObj → AObj} : ∀ {H : SHp} {n : Name}, (∀ a ∈ SHp.ids H, ν a ≠ n) → hp (H.map fun p => (ν p.1, f p.2)) S0 n = S0 n
 | [], n, h => rfl
 | (j, q) :: r, n, h => by
  simp only [List.map_cons, hp]
  rw [if_neg (fun e => h j (by simp [SHp.ids]) e.symm)]
  exact hp_miss fun a ha => h a (by simp only [SHp.ids, List.map_cons, List.mem_cons] at ha ⊢; exact .inr ha)
section
variable {pr : List (Id × Name)} {df : Nat} {S0 : AHeap} {F : Fr} {st : SS} {ν : Nm} {d : Nat}
theorem Okk.hok (h : Okk pr df S0 F st ν d) : HOk ν (st.H F) (heapOf ν F st S0) := fun m o hm => hp_get (f := fun o => o.ob ν (st.H F)) h.inj hm
mutual
def SV.ac (p : Id → Bool) : SV → Bool
 | .cur m => p m
 | .row _ cs => acl p cs
 | .rp _ cs => acl p cs
 | .agg cs => acl p cs
 | .tup vs => acl p vs
 | .fn _ a b => acl p a && acl p b
 | .ifc _ x => x.ac p
 | _ => true
def acl (p : Id → Bool) : List SV → Bool
 | [] => true
 | x :: r => x.ac p && acl p r
end
def SObj.ac (p : Id → Bool) : SObj → Bool
 | .box cs => acl p cs
 | .obox _ cs => acl p cs
 | _ => true
mutual
theorem SV.av_congr {H H' : SHp} {p : Id → Bool} (hp : ∀ m, p m = true → curAV ν H m = curAV ν H' m) : ∀ {v : SV}, v.ac p = true → v.av ν H = v.av ν H'
 | .any, _ => by simp only [SV.av]
 | .lit _, _ => by simp only [SV.av]
 | .empt, _ => by simp only [SV.av]
 | .sl .., _ => by simp only [SV.av]
 | .cur m, h => by simp only [SV.ac] at h; simp only [SV.av]; exact hp m h
 | .own .., _ => by simp only [SV.av]
 | .row sz cs, h => by simp only [SV.ac] at h; simp only [SV.av]; rw [avs_congr hp h]
 | .ptr .., _ => by simp only [SV.av]
 | .vp .., _ => by simp only [SV.av]
 | .rp o cs, h => by simp only [SV.ac] at h; simp only [SV.av]; rw [avs_congr hp h]
 | .vec .., _ => by simp only [SV.av]
 | .sref .., _ => by simp only [SV.av]
 | .agg cs, h => by simp only [SV.ac] at h; simp only [SV.av]; rw [avs_congr hp h]
 | .tup vs, h => by simp only [SV.ac] at h; simp only [SV.av]; rw [avl_congr hp h]
 | .fn f a b, h => by simp only [SV.ac, Bool.and_eq_true] at h; simp only [SV.av]; rw [avl_congr hp h.1, avl_congr hp h.2]
 | .fx .., _ => by simp only [SV.av]
 | .ifc t x, h => by simp only [SV.ac] at h; simp only [SV.av]; rw [SV.av_congr hp h]
 | .map _, _ => by simp only [SV.av]
 | .opt .., _ => by simp only [SV.av]
theorem avs_congr {H H' : SHp} {p : Id → Bool} (hp : ∀ m, p m = true → curAV ν H m = curAV ν H' m) : ∀ {l : List SV}, acl p l = true → avs ν H l = avs ν H' l
 | [], _ => by simp only [avs]
 | x :: r, h => by
  simp only [acl, Bool.and_eq_true] at h
  have h1 := SV.av_congr hp h.1
  have h2 := avs_congr hp h.2
  cases hv : x.isVec with
  | false => rw [avs_one hv, avs_one hv, h1, h2]
  | true =>
   cases x <;> first | (simp [SV.isVec] at hv; done) | skip
   rw [avs_vec, avs_vec, h2]
theorem avl_congr {H H' : SHp} {p : Id → Bool} (hp : ∀ m, p m = true → curAV ν H m = curAV ν H' m) : ∀ {l : List SV}, acl p l = true → avl ν H l = avl ν H' l
 | [], _ => by simp only [avl]
 | x :: r, h => by
  simp only [acl, Bool.and_eq_true] at h
  simp only [avl]
  rw [SV.av_congr hp h.1, avl_congr hp h.2]
end
theorem SObj.ob_congr {H H' : SHp} {p : Id → Bool} (hp : ∀ m, p m = true → curAV ν H m = curAV ν H' m) {o : SObj} (h : o.ac p = true) : o.ob ν H = o.ob ν H' := by
 cases o with
 | box cs => simp only [SObj.ac] at h; simp only [SObj.ob]; rw [avs_congr hp h]
 | tip pm e xs => rfl
 | arr e xs => rfl
 | obox b cs => simp only [SObj.ac] at h; simp only [SObj.ob]; rw [avs_congr hp h]
def allAc (p : Id → Bool) (l : List (Nat × SV)) : Bool := l.all fun q => q.2.ac p
def allAcH (p : Id → Bool) (H : SHp) : Bool := H.all fun q => q.2.ac p
theorem allAc_get {p : Id → Bool} {l : List (Nat × SV)} (h : allAc p l = true) (i : Nat) : (lget l i).ac p = true := by
 induction l with
 | nil => simp [lget, SV.ac]
 | cons q r ih =>
  obtain ⟨j, v⟩ := q
  simp only [allAc, List.all_cons, Bool.and_eq_true] at h
  simp only [lget]
  split
  ·exact h.1
  ·exact ih h.2
def SS.new (F : Fr) (st : SS) (o : SObj) : Option (Id × SS) :=
 let p : Id → Bool := fun m => !ieq m (F.lv, st.nx)
 if allAc p st.sl && allAc p F.sl && allAcH p st.hp && allAcH p F.hp && o.ac p then some ((F.lv, st.nx), { st with hp := st.hp ++ [((F.lv, st.nx), o)], nx := st.nx + 1 }) else none
theorem hget_append {A B : SHp} {m : Id} : hget (A ++ B) m = match hget A m with | some o => some o | none => hget B m := by
 induction A with
 | nil => rfl
 | cons p r ih =>
  obtain ⟨j, q⟩ := p
  simp only [List.cons_append, hget]
  split
  ·rfl
  ·exact ih
theorem ids_append {A B : SHp} : SHp.ids (A ++ B) = SHp.ids A ++ SHp.ids B := by simp [SHp.ids]
def Same (ν : Nm) (F : Fr) (st st' : SS) : Prop := ∀ i, (st'.at F i).av ν (st'.H F) = (st.at F i).av ν (st.H F)
theorem new_ok {o : SObj} {id : Id} {st' : SS} (hok : Okk pr df S0 F st ν d) (h : st.new F o = some (id, st')) :
  id = (F.lv, st.nx) ∧ ν id = (d, st.nx) ∧ st'.nx = st.nx + 1 ∧ st'.sl = st.sl ∧ Okk pr df S0 F st' ν d ∧ heapOf ν F st' S0 = (heapOf ν F st S0).set (d, st.nx) (o.ob ν (st.H F)) ∧ Same ν F st st' ∧ hget st'.hp id = some o ∧
  (∀ v : SV, v.ac (fun m => !ieq m (F.lv, st.nx)) = true → v.av ν (st'.H F) = v.av ν (st.H F)) := by
 unfold SS.new at h
 simp only at h
 split at h <;> try (cases h; done)
 rename_i hc
 simp only [Bool.and_eq_true] at hc
 obtain ⟨⟨⟨⟨c1, c2⟩, c3⟩, c4⟩, c5⟩ := hc
 cases h
 have hν := hok.lev st.nx (Nat.le_refl _)
 have hni : (F.lv, st.nx) ∉ SHp.ids (st.H F) := fun hm => hok.fr _ hm st.nx (Nat.le_refl _) hν
 have hn1 : (F.lv, st.nx) ∉ SHp.ids st.hp := fun hm => hni (by rw [SS.H, ids_append]; exact List.mem_append_left _ hm)
 have hg1 : ∀ m, m ≠ (F.lv, st.nx) → hget ((st.hp ++ [((F.lv, st.nx), o)]) ++ F.hp) m = hget (st.hp ++ F.hp) m := by
  intro m hm
  have h1 : hget [((F.lv, st.nx), o)] m = none := by simp only [hget]; rw [if_neg (by rw [ieq_iff]; exact hm)]
  rw [hget_append, hget_append, hget_append, h1]
  cases hget st.hp m <;> rfl
 have hcur : ∀ m, (fun m => !ieq m (F.lv, st.nx)) m = true → curAV ν (st.hp ++ F.hp) m = curAV ν ((st.hp ++ [((F.lv, st.nx), o)]) ++ F.hp) m := by
  intro m hm
  simp only [Bool.not_eq_true', ieq_false] at hm
  simp only [curAV, hg1 m hm]
 have hmem : ∀ a, a ∈ SHp.ids ((st.hp ++ [((F.lv, st.nx), o)]) ++ F.hp) → a = (F.lv, st.nx) ∨ a ∈ SHp.ids (st.hp ++ F.hp) := by
  intro a ha
  simp only [ids_append, List.mem_append] at ha ⊢
  rcases ha with (ha | ha) | ha
  ·exact .inr (.inl ha)
  ·simp only [SHp.ids, List.map_cons, List.map_nil, List.mem_singleton] at ha; exact .inl ha
  ·exact .inr (.inr ha)
 refine ⟨rfl, hν, rfl, rfl, ⟨?_, ?_, ?_, ?_, hok.low, hok.none, hok.par, hok.prs⟩, ?_, ?_, ?_, ?_⟩
 ·intro a ha b hb hab
  rcases hmem a ha with rfl | ha <;> rcases hmem b hb with rfl | hb
  ·rfl
  ·rw [hν] at hab; exact absurd hab.symm (hok.fr b hb st.nx (Nat.le_refl _))
  ·rw [hν] at hab; exact absurd hab (hok.fr a ha st.nx (Nat.le_refl _))
  ·exact hok.inj a ha b hb hab
 ·intro a ha k hk
  have hk' : st.nx + 1 ≤ k := hk
  rcases hmem a ha with rfl | ha
  ·rw [hν]; simp; omega
  ·exact hok.fr a ha k (by omega)
 ·intro k hk
  have hk' : st.nx + 1 ≤ k := hk
  exact hok.lev k (by omega)
 ·intro a ha hp
  rcases hmem a ha with rfl | ha
  ·rw [hν]; exact hok.low
  ·exact hok.base a ha hp
 ·-- the heap
  have hob : ∀ q ∈ st.hp ++ F.hp, q.2.ob ν ((st.hp ++ [((F.lv, st.nx), o)]) ++ F.hp) = q.2.ob ν (st.hp ++ F.hp) := by
   intro q hq
   refine (SObj.ob_congr hcur ?_).symm
   rcases List.mem_append.1 hq with hq | hq
   ·exact List.all_eq_true.1 c3 q hq
   ·exact List.all_eq_true.1 c4 q hq
  have hoo : o.ob ν ((st.hp ++ [((F.lv, st.nx), o)]) ++ F.hp) = o.ob ν (st.hp ++ F.hp) := (SObj.ob_congr hcur c5).symm
  simp only [heapOf, SS.H]
  have e1 : ((st.hp ++ [((F.lv, st.nx), o)]) ++ F.hp).map (fun p => (ν p.1, p.2.ob ν ((st.hp ++ [((F.lv, st.nx), o)]) ++ F.hp))) = (st.hp.map fun p => (ν p.1, p.2.ob ν (st.hp ++ F.hp))) ++ ((d, st.nx), o.ob ν (st.hp ++ F.hp)) :: (F.hp.map fun p => (ν p.1, p.2.ob ν (st.hp ++ F.hp))) := by
   rw [List.map_append, List.map_append, List.append_assoc, List.map_cons, List.map_nil, List.singleton_append, hν, hoo]
   congr 1
   ·exact List.map_congr_left fun q hq => by rw [hob q (List.mem_append_left _ hq)]
   ·congr 1
    exact List.map_congr_left fun q hq => by rw [hob q (List.mem_append_right _ hq)]
  rw [e1, List.map_append]
  have key : ∀ (A B : List (Name × AObj)) (n : Name) (ob : AObj), (∀ q ∈ A, q.1 ≠ n) → hp (A ++ (n, ob) :: B) S0 = (hp (A ++ B) S0).set n ob := by
   intro A B n ob hA
   funext x
   induction A with
   | nil =>
    simp only [List.nil_append, hp, AHeap.set]
   | cons q A ih =>
    obtain ⟨qn, qo⟩ := q
    have h0 := hA (qn, qo) (by simp)
    have ih := ih fun q hq => hA q (by simp [hq])
    simp only [List.cons_append, hp, AHeap.set] at ih ⊢
    by_cases e : x = qn
    ·subst e; rw [if_pos rfl, if_pos rfl, if_neg h0]
    ·rw [if_neg e, if_neg e]; exact ih
  refine key _ _ _ _ ?_
  intro q hq
  simp only [List.mem_map] at hq
  obtain ⟨p, hp, rfl⟩ := hq
  exact hok.fr p.1 (by rw [SS.H, ids_append]; exact List.mem_append_left _ (List.mem_map.2 ⟨p, hp, rfl⟩)) st.nx (Nat.le_refl _)
 ·intro i
  refine (SV.av_congr hcur ?_).symm
  refine allAc_get (l := st.sl ++ F.sl) ?_ i
  simp only [allAc, List.all_append, Bool.and_eq_true]
  exact ⟨c1, c2⟩
 ·rw [hget_append]
  cases hg : hget st.hp (F.lv, st.nx) with
  | some x => exact absurd (hget_mem hg) hn1
  | none => simp only [hget, ieq_self, if_true]
 ·intro v hv
  exact (SV.av_congr hcur hv).symm
def hupd : SHp → Id → SObj → SHp
 | [], _, _ => []
 | (j, q) :: r, m, o => if ieq m j then (j, o) :: r else (j, q) :: hupd r m o
theorem hupd_ids {H : SHp} {m : Id} {o : SObj} : SHp.ids (hupd H m o) = SHp.ids H := by
 induction H with
 | nil => rfl
 | cons p r ih =>
  obtain ⟨j, q⟩ := p
  simp only [hupd]
  split
  ·rfl
  ·simp only [SHp.ids, List.map_cons] at ih ⊢; rw [ih]
theorem hupd_get {H : SHp} {m x : Id} {o q : SObj} (h : hget H m = some q) : hget (hupd H m o) x = if x = m then some o else hget H x := by
 induction H with
 | nil => cases h
 | cons p r ih =>
  obtain ⟨j, w⟩ := p
  simp only [hget] at h
  simp only [hupd]
  split at h
  ·rename_i e
   rw [if_pos e]
   simp only [hget]
   rw [ieq_iff] at e; subst e
   by_cases e2 : x = m
   ·rw [if_pos e2, if_pos (ieq_iff.2 e2)]
   ·rw [if_neg e2, if_neg (fun h => e2 (ieq_iff.1 h)), if_neg (fun h => e2 (ieq_iff.1 h))]
  ·rename_i e
   rw [if_neg e]
   simp only [hget]
   by_cases e2 : ieq x j = true
   ·rw [if_pos e2, if_pos e2, if_neg]
    rw [ieq_iff] at e2; subst e2
    rintro rfl; exact e ieq_self
   ·rw [if_neg e2, if_neg e2, ih h]
theorem hp_upd {ν : Nm} {S0 : AHeap} {f f' : SObj → AObj} {m : Id} {o q : SObj} : ∀ {A B : SHp}, hget A m = some q → (∀ p ∈ A ++ B, p.1 ≠ m → f' p.2 = f p.2) → (∀ a ∈ SHp.ids (A ++ B), ∀ b ∈ SHp.ids (A ++ B), ν a = ν b → a = b) → m ∉ SHp.ids B →
  hp ((hupd A m o ++ B).map fun p => (ν p.1, f' p.2)) S0 = (hp ((A ++ B).map fun p => (ν p.1, f p.2)) S0).set (ν m) (f' o)
 | [], B, h, _, _, _ => by cases h
 | (j, w) :: r, B, h, hf, hinj, hB => by
  have hinj' : ∀ a ∈ SHp.ids (r ++ B), ∀ b ∈ SHp.ids (r ++ B), ν a = ν b → a = b := fun a ha b hb => hinj a (by simp only [SHp.ids, List.cons_append, List.map_cons, List.mem_cons] at ha ⊢; exact .inr ha) b (by simp only [SHp.ids, List.cons_append, List.map_cons, List.mem_cons] at hb ⊢; exact .inr hb)
  simp only [hget] at h
  simp only [hupd]
  funext x
  split at h
  ·rename_i e
   rw [if_pos e]
   rw [ieq_iff] at e; subst e
   simp only [List.cons_append, List.map_cons, hp, AHeap.set]
   by_cases e2 : x = ν m
   ·rw [if_pos e2, if_pos e2]
   ·rw [if_neg e2, if_neg e2, if_neg e2]
    have key : ∀ (L : SHp), (∀ p ∈ L, f' p.2 = f p.2 ∨ ν p.1 = ν m) → hp (L.map fun p => (ν p.1, f' p.2)) S0 x = hp (L.map fun p => (ν p.1, f p.2)) S0 x := by
     intro L hL
     induction L with
     | nil => rfl
     | cons p L ih =>
      simp only [List.map_cons, hp]
      split
      ·rename_i e3
       rcases hL p (by simp) with h1 | h1
       ·rw [h1]
       ·exact absurd (e3.trans h1) e2
      ·exact ih fun q hq => hL q (by simp [hq])
    refine key _ fun p hp => ?_
    by_cases e3 : p.1 = m
    ·exact .inr (by rw [e3])
    ·exact .inl (hf p (by simp only [List.cons_append, List.mem_cons]; exact .inr hp) e3)
  ·rename_i e
   rw [if_neg e]
   have hjm : j ≠ m := fun e2 => e (ieq_iff.2 e2.symm)
   have hm := hget_mem h
   have hne : ν j ≠ ν m := fun e2 => hjm (hinj j (by simp [SHp.ids]) m (by simp only [SHp.ids, List.cons_append, List.map_cons, List.map_append, List.mem_cons, List.mem_append]; exact .inr (.inl hm)) e2)
   have ih := hp_upd (S0 := S0) (o := o) (B := B) h (fun p hp => hf p (by simp only [List.cons_append, List.mem_cons]; exact .inr hp)) hinj' hB
   have ih := congrFun ih x
   simp only [List.cons_append, List.map_cons, hp, AHeap.set] at ih ⊢
   by_cases e2 : x = ν j
   ·rw [if_pos e2, if_pos e2, if_neg (by rw [e2]; exact hne), hf (j, w) (by simp) hjm]
   ·rw [if_neg e2, if_neg e2]; exact ih
def SObj.isTip : SObj → Bool
 | .tip .. => true
 | _ => false
def SObj.isOb : SObj → Bool
 | .obox .. => true
 | _ => false
def SS.upd (F : Fr) (st : SS) (m : Id) (o : SObj) : Option SS :=
 match hget st.hp m with
 | some q => if (q.isTip || q.isOb) || o.isTip || (F.hp.any fun p => ieq p.1 m) then none else some { st with hp := hupd st.hp m o }
 | none => none
theorem not_ids {H : SHp} {m : Id} (h : (H.any fun p => ieq p.1 m) = false) : m ∉ SHp.ids H := by
 intro hm
 simp only [SHp.ids, List.mem_map] at hm
 obtain ⟨p, hp, rfl⟩ := hm
 have := (List.any_eq_false.1 h) p hp
 rw [ieq_self] at this; exact this rfl
theorem Okk.upd {st' : SS} (hok : Okk pr df S0 F st ν d) (h1 : SHp.ids (st'.H F) = SHp.ids (st.H F)) (h2 : st.nx ≤ st'.nx) : Okk pr df S0 F st' ν d :=
 ⟨by rw [h1]; exact hok.inj, by rw [h1]; exact fun a ha k hk => hok.fr a ha k (by omega), fun k hk => hok.lev k (by omega), by rw [h1]; exact hok.base, hok.low, hok.none, hok.par, hok.prs⟩
theorem upd_ok {m : Id} {o : SObj} {st' : SS} (hok : Okk pr df S0 F st ν d) (h : st.upd F m o = some st') :
  Okk pr df S0 F st' ν d ∧ st'.nx = st.nx ∧ st'.sl = st.sl ∧ heapOf ν F st' S0 = (heapOf ν F st S0).set (ν m) (o.ob ν (st.H F)) ∧ Same ν F st st' ∧ (∀ v : SV, v.av ν (st'.H F) = v.av ν (st.H F)) ∧ (∀ x, x ≠ m → hget (st'.H F) x = hget (st.H F) x) := by
 unfold SS.upd at h
 split at h <;> try (cases h; done)
 rename_i q hq
 split at h
 ·cases h
 rename_i hc
 simp only [Bool.or_eq_true, not_or, Bool.not_eq_true] at hc
 obtain ⟨⟨c1, c2⟩, c3⟩ := hc
 cases h
 have hids : SHp.ids (hupd st.hp m o ++ F.hp) = SHp.ids (st.hp ++ F.hp) := by rw [ids_append, ids_append, hupd_ids]
 have hgx : ∀ x, x ≠ m → hget (hupd st.hp m o ++ F.hp) x = hget (st.hp ++ F.hp) x := by
  intro x hx
  rw [hget_append, hget_append, hupd_get hq, if_neg hx]
 have hcur : ∀ x, (fun _ => true) x = true → curAV ν (st.hp ++ F.hp) x = curAV ν (hupd st.hp m o ++ F.hp) x := by
  intro x _
  by_cases e : x = m
  ·subst e
   simp only [curAV]
   rw [hget_append, hget_append, hupd_get hq, if_pos rfl, hq]
   simp only
   cases q <;> (try (simp [SObj.isTip] at c1; done)) <;> cases o <;> (try (simp [SObj.isTip] at c2; done)) <;> rfl
  ·simp only [curAV, hgx x e]
 have hall : ∀ (v : SV), v.ac (fun _ => true) = true := by
  have : ∀ (v : SV), v.ac (fun _ => true) = true := by
   intro v
   exact SV.rec (motive_1 := fun v => v.ac (fun _ => true) = true) (motive_2 := fun l => acl (fun _ => true) l = true)
    rfl (fun _ => rfl) rfl (fun _ _ _ => rfl) (fun _ => rfl) (fun _ _ => rfl) (fun _ _ h => by simp only [SV.ac]; exact h) (fun _ _ => rfl) (fun _ _ _ _ => rfl)
    (fun _ _ h => by simp only [SV.ac]; exact h) (fun _ _ _ => rfl) (fun _ _ _ _ _ => rfl) (fun _ h => by simp only [SV.ac]; exact h) (fun _ h => by simp only [SV.ac]; exact h)
    (fun _ _ _ h1 h2 => by simp only [SV.ac, Bool.and_eq_true]; exact ⟨h1, h2⟩) (fun _ => rfl) (fun _ _ h => by simp only [SV.ac]; exact h) (fun _ => rfl) (fun _ _ => rfl)
    rfl (fun _ _ h1 h2 => by simp only [acl, Bool.and_eq_true]; exact ⟨h1, h2⟩) v
  exact this
 have hav : ∀ v : SV, v.av ν (hupd st.hp m o ++ F.hp) = v.av ν (st.hp ++ F.hp) := fun v => (SV.av_congr hcur (hall v)).symm
 have hallo : ∀ o : SObj, o.ac (fun _ => true) = true := by
  intro o
  cases o with
  | box cs =>
   have := hall (.agg cs)
   simpa only [SV.ac, SObj.ac] using this
  | tip => rfl
  | arr => rfl
  | obox b cs =>
   have := hall (.agg cs)
   simpa only [SV.ac, SObj.ac] using this
 have hob : ∀ w : SObj, w.ob ν (hupd st.hp m o ++ F.hp) = w.ob ν (st.hp ++ F.hp) := fun w => (SObj.ob_congr hcur (hallo w)).symm
 refine ⟨hok.upd (st' := { st with hp := hupd st.hp m o }) hids (Nat.le_refl _), rfl, rfl, ?_, fun i => hav _, hav, hgx⟩
 have := hp_upd (S0 := S0) (f := fun w => w.ob ν (st.hp ++ F.hp)) (f' := fun w => w.ob ν (hupd st.hp m o ++ F.hp)) (o := o) (B := F.hp) hq (fun p _ _ => hob p.2) hok.inj (not_ids c3)
 rw [hob] at this
 exact this
mutual
def SV.dem : SV → Id → SV → SV
 | .cur m', m, w => if ieq m' m then w else .cur m'
 | .row sz cs, m, w => .row sz (deml cs m w)
 | .rp o cs, m, w => .rp o (deml cs m w)
 | .agg cs, m, w => .agg (deml cs m w)
 | .tup vs, m, w => .tup (deml vs m w)
 | .fn f a b, m, w => .fn f (deml a m w) (deml b m w)
 | .ifc t x, m, w => .ifc t (x.dem m w)
 | x, _, _ => x
def deml : List SV → Id → SV → List SV
 | [], _, _ => []
 | x :: r, m, w => x.dem m w :: deml r m w
end
def SObj.dem : SObj → Id → SV → SObj
 | .box cs, m, w => .box (deml cs m w)
 | .obox b cs, m, w => .obox b (deml cs m w)
 | o, _, _ => o
theorem dem_vec {m : Id} {w : SV} (hw : w.isVec = false) {x : SV} : (x.dem m w).isVec = x.isVec := by
 cases x <;> simp only [SV.dem] <;> (try rfl)
 split
 ·rw [hw]; rfl
 ·rfl
mutual
theorem dem_av {H H' : SHp} {m : Id} {w : SV} (hw : w.isVec = false) (hm : w.av ν H' = curAV ν H m) (hx : ∀ x, x ≠ m → curAV ν H' x = curAV ν H x) : ∀ (v : SV), (v.dem m w).av ν H' = v.av ν H
 | .any => by simp only [SV.dem, SV.av]
 | .lit _ => by simp only [SV.dem, SV.av]
 | .empt => by simp only [SV.dem, SV.av]
 | .sl .. => by simp only [SV.dem, SV.av]
 | .cur m' => by
  simp only [SV.dem]
  split
  ·rename_i e; rw [ieq_iff.1 e]; simp only [SV.av]; exact hm
  ·rename_i e; simp only [SV.av]; exact hx _ (fun e2 => e (ieq_iff.2 e2))
 | .own .. => by simp only [SV.dem, SV.av]
 | .row sz cs => by simp only [SV.dem, SV.av]; rw [deml_avs hw hm hx cs]
 | .ptr .. => by simp only [SV.dem, SV.av]
 | .vp .. => by simp only [SV.dem, SV.av]
 | .rp o cs => by simp only [SV.dem, SV.av]; rw [deml_avs hw hm hx cs]
 | .vec .. => by simp only [SV.dem, SV.av]
 | .sref .. => by simp only [SV.dem, SV.av]
 | .agg cs => by simp only [SV.dem, SV.av]; rw [deml_avs hw hm hx cs]
 | .tup vs => by simp only [SV.dem, SV.av]; rw [deml_avl hw hm hx vs]
 | .fn f a b => by simp only [SV.dem, SV.av]; rw [deml_avl hw hm hx a, deml_avl hw hm hx b]
 | .fx .. => by simp only [SV.dem, SV.av]
 | .ifc t x => by simp only [SV.dem, SV.av]; rw [dem_av hw hm hx x]
 | .map _ => by simp only [SV.dem, SV.av]
 | .opt .. => by simp only [SV.dem, SV.av]
theorem deml_avs {H H' : SHp} {m : Id} {w : SV} (hw : w.isVec = false) (hm : w.av ν H' = curAV ν H m) (hx : ∀ x, x ≠ m → curAV ν H' x = curAV ν H x) : ∀ (l : List SV), avs ν H' (deml l m w) = avs ν H l
 | [] => by simp only [deml, avs]
 | x :: r => by
  have h1 := dem_av hw hm hx x
  have h2 := deml_avs hw hm hx r
  simp only [deml]
  cases hv : x.isVec with
  | false => rw [avs_one (by rw [dem_vec hw, hv]), avs_one hv, h1, h2]
  | true =>
   cases x <;> first | (simp [SV.isVec] at hv; done) | skip
   simp only [SV.dem]
   rw [avs_vec, avs_vec, h2]
theorem deml_avl {H H' : SHp} {m : Id} {w : SV} (hw : w.isVec = false) (hm : w.av ν H' = curAV ν H m) (hx : ∀ x, x ≠ m → curAV ν H' x = curAV ν H x) : ∀ (l : List SV), avl ν H' (deml l m w) = avl ν H l
 | [] => by simp only [deml, avl]
 | x :: r => by simp only [deml, avl]; rw [dem_av hw hm hx x, deml_avl hw hm hx r]
end
def SS.grow (F : Fr) (st : SS) (m : Id) (e : Ty) (xs' : List e.den) : Option SS :=
 match hget st.hp m with
 | some (.tip pm e0 xs) =>
  if e0 = e ∧ allAc (fun x => !ieq x m) F.sl = true ∧ allAcH (fun x => !ieq x m) F.hp = true ∧ (F.hp.any fun p => ieq p.1 m) = false then
   let w : SV := .sl (if pm then .tip m (xs.length * e0.sz) else .buf m (xs.length * e0.sz)) e0 xs
   some { st with sl := st.sl.map fun p => (p.1, p.2.dem m w), hp := hupd (st.hp.map fun p => (p.1, p.2.dem m w)) m (.tip pm e xs') }
  else none
 | _ => none
theorem lget_map {f : SV → SV} (hf : f .any = .any) {l : List (Nat × SV)} {i : Nat} : lget (l.map fun p => (p.1, f p.2)) i = f (lget l i) := by
 induction l with
 | nil => exact hf.symm
 | cons p r ih =>
  obtain ⟨j, v⟩ := p
  simp only [List.map_cons, lget]
  split
  ·rfl
  ·exact ih
theorem hget_map {f : SObj → SObj} {H : SHp} {m : Id} : hget (H.map fun p => (p.1, f p.2)) m = (hget H m).map f := by
 induction H with
 | nil => rfl
 | cons p r ih =>
  obtain ⟨j, o⟩ := p
  simp only [List.map_cons, hget]
  split
  ·rfl
  ·exact ih
theorem grow_ok {m : Id} {e : Ty} {xs' : List e.den} {st' : SS} (hok : Okk pr df S0 F st ν d) (h : st.grow F m e xs' = some st') :
  Okk pr df S0 F st' ν d ∧ st'.nx = st.nx ∧ heapOf ν F st' S0 = (heapOf ν F st S0).set (ν m) (oT e.lay xs') ∧ Same ν F st st' ∧ (∃ pm, hget (st'.H F) m = some (.tip pm e xs') ∧ ∃ xs : List e.den, hget (st.H F) m = some (.tip pm e xs)) ∧ (∀ x, x ≠ m → (hget (st'.H F) x).isSome = (hget (st.H F) x).isSome ∧ heapOf ν F st' S0 (ν x) = heapOf ν F st S0 (ν x) ∨ x ∉ SHp.ids (st.H F)) := by
 unfold SS.grow at h
 split at h <;> try (cases h; done)
 rename_i pm e0 xs hq
 split at h <;> try (cases h; done)
 rename_i hc
 obtain ⟨he, c1, c2, c3⟩ := hc
 subst he
 cases h
 generalize hwd : (SV.sl (if pm then OwnI.tip m (xs.length * e0.sz) else .buf m (xs.length * e0.sz)) e0 xs) = w
 have hwv : w.isVec = false := by rw [← hwd]; rfl
 have hids : SHp.ids (hupd (st.hp.map fun p => (p.1, p.2.dem m w)) m (.tip pm e0 xs') ++ F.hp) = SHp.ids (st.hp ++ F.hp) := by
  rw [ids_append, ids_append, hupd_ids]; simp [SHp.ids]
 have hgm : hget (st.hp.map fun p => (p.1, p.2.dem m w)) m = some (.tip pm e0 xs) := by rw [hget_map (f := fun o => o.dem m w), hq]; rfl
 have hgx : ∀ x, x ≠ m → hget (hupd (st.hp.map fun p => (p.1, p.2.dem m w)) m (.tip pm e0 xs') ++ F.hp) x = match hget st.hp x with | some o => some (o.dem m w) | none => hget F.hp x := by
  intro x hx
  rw [hget_append, hupd_get hgm, if_neg hx, hget_map (f := fun o => o.dem m w)]
  cases hget st.hp x <;> rfl
 have hg1 : hget (hupd (st.hp.map fun p => (p.1, p.2.dem m w)) m (.tip pm e0 xs') ++ F.hp) m = some (.tip pm e0 xs') := by
  rw [hget_append, hupd_get hgm, if_pos rfl]
 have hg0 : hget (st.hp ++ F.hp) m = some (.tip pm e0 xs) := by rw [hget_append, hq]
 have hcx : ∀ x, x ≠ m → curAV ν (hupd (st.hp.map fun p => (p.1, p.2.dem m w)) m (.tip pm e0 xs') ++ F.hp) x = curAV ν (st.hp ++ F.hp) x := by
  intro x hx
  simp only [curAV]
  rw [hgx x hx, hget_append]
  cases hget st.hp x with
  | none => rfl
  | some o => cases o <;> rfl
 have hcm : w.av ν (hupd (st.hp.map fun p => (p.1, p.2.dem m w)) m (.tip pm e0 xs') ++ F.hp) = curAV ν (st.hp ++ F.hp) m := by
  simp only [curAV]
  rw [hg0, ← hwd]
  cases pm <;> simp only [SV.av, OwnI.of, eT, eB, if_true, Bool.false_eq_true, if_false, Ty.lay_sz]
 have hav := dem_av (ν := ν) (m := m) hwv hcm hcx
 have havs := deml_avs (ν := ν) (m := m) hwv hcm hcx
 have hFc : ∀ x, (fun x => !ieq x m) x = true → curAV ν (st.hp ++ F.hp) x = curAV ν (hupd (st.hp.map fun p => (p.1, p.2.dem m w)) m (.tip pm e0 xs') ++ F.hp) x := by
  intro x hx
  simp only [Bool.not_eq_true', ieq_false] at hx
  exact (hcx x hx).symm
 have hHeap : hp ((hupd (st.hp.map fun p => (p.1, p.2.dem m w)) m (.tip pm e0 xs') ++ F.hp).map fun p => (ν p.1, p.2.ob ν (hupd (st.hp.map fun p => (p.1, p.2.dem m w)) m (.tip pm e0 xs') ++ F.hp))) S0 = (hp ((st.hp ++ F.hp).map fun p => (ν p.1, p.2.ob ν (st.hp ++ F.hp))) S0).set (ν m) (oT e0.lay xs') := by
  have hdob : ∀ o : SObj, (o.dem m w).ob ν (hupd (st.hp.map fun p => (p.1, p.2.dem m w)) m (.tip pm e0 xs') ++ F.hp) = o.ob ν (st.hp ++ F.hp) := by
   intro o
   cases o with
   | box cs => show AObj.box (avs ν _ (deml cs m w)) = _; rw [havs]; rfl
   | tip => rfl
   | arr => rfl
   | obox b cs => show (if b then AObj.box (avs ν _ (deml cs m w)) else AObj.buf 0) = _; rw [havs]; rfl
  have hFob : ∀ p ∈ F.hp, p.2.ob ν (hupd (st.hp.map fun p => (p.1, p.2.dem m w)) m (.tip pm e0 xs') ++ F.hp) = p.2.ob ν (st.hp ++ F.hp) := fun p hp => (SObj.ob_congr hFc (List.all_eq_true.1 c2 p hp)).symm
  have hinj2 : ∀ a ∈ SHp.ids ((st.hp.map fun p => (p.1, p.2.dem m w)) ++ F.hp), ∀ b ∈ SHp.ids ((st.hp.map fun p => (p.1, p.2.dem m w)) ++ F.hp), ν a = ν b → a = b := by
   have : SHp.ids ((st.hp.map fun p => (p.1, p.2.dem m w)) ++ F.hp) = SHp.ids (st.hp ++ F.hp) := by rw [ids_append, ids_append]; simp [SHp.ids]
   rw [this]; exact hok.inj
  have := hp_upd (S0 := S0) (ν := ν) (f := fun w' => w'.ob ν (hupd (st.hp.map fun p => (p.1, p.2.dem m w)) m (.tip pm e0 xs') ++ F.hp)) (f' := fun w' => w'.ob ν (hupd (st.hp.map fun p => (p.1, p.2.dem m w)) m (.tip pm e0 xs') ++ F.hp)) (o := .tip pm e0 xs') (A := st.hp.map fun p => (p.1, p.2.dem m w)) (B := F.hp) hgm (fun _ _ _ => rfl) hinj2 (not_ids c3)
  rw [this]
  congr 1
  rw [List.map_append, List.map_append, List.map_map]
  congr 1
  congr 1
  ·exact List.map_congr_left fun p _ => by simp only [Function.comp, hdob]
  ·exact List.map_congr_left fun p hp => by rw [hFob p hp]
 refine ⟨hok.upd (by exact hids) (Nat.le_refl _), rfl, hHeap, ?_, ⟨pm, hg1, xs, hg0⟩, ?_⟩
 ·intro i
  simp only [SS.at, SS.H]
  have hl : lget ((st.sl.map fun p => (p.1, p.2.dem m w)) ++ F.sl) i = (lget (st.sl ++ F.sl) i).dem m w ∨ lget ((st.sl.map fun p => (p.1, p.2.dem m w)) ++ F.sl) i = lget (st.sl ++ F.sl) i ∧ (lget (st.sl ++ F.sl) i).ac (fun x => !ieq x m) = true := by
   rw [lget_append, lget_append]
   have ha : ((st.sl.map fun p => (p.1, p.2.dem m w)).any fun p => p.1 == i) = (st.sl.any fun p => p.1 == i) := by rw [List.any_map]; rfl
   rw [ha]
   by_cases hb : (st.sl.any fun p => p.1 == i) = true
   ·rw [if_pos hb, if_pos hb]
    exact .inl (lget_map (f := fun v => v.dem m w) (by simp only [SV.dem]))
   ·rw [if_neg hb, if_neg hb]
    exact .inr ⟨rfl, allAc_get c1 i⟩
  rcases hl with hl | ⟨hl, hac⟩
  ·rw [hl]; exact hav _
  ·rw [hl]; exact (SV.av_congr hFc hac).symm
 ·intro x hx
  by_cases hxi : x ∈ SHp.ids (st.H F)
  ·left
   refine ⟨?_, ?_⟩
   ·simp only [SS.H]
    rw [hgx x hx, hget_append]
    cases hget st.hp x <;> rfl
   ·refine (congrFun hHeap (ν x)).trans ?_
    simp only [AHeap.set]
    rw [if_neg]
    ·rfl
    ·intro e2
     exact hx (hok.inj x hxi m (by rw [SS.H, ids_append]; exact List.mem_append_left _ (hget_mem hq)) e2)
  ·exact .inr hxi
end
end Go.Al
