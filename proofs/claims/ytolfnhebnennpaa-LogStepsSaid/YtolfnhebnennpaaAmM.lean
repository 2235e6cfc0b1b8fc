import Derived.Test.YtolfnhebnennpaaAmV
set_option linter.unusedSimpArgs false
set_option linter.unusedVariables false
set_option maxHeartbeats 4000000
namespace Go.Al
open Go Go.RowKit
def jn {J A : Type} (b : J → Option A) (u : (J → Option A) → Option A) : Option A := u b
structure KK (A : Type) where
 normal : SS → Option A
 exit : Nat → SS → Option A
 ret : SS → Option A
def XC.dsts : XC → List Nat
 | .reg ops => ops.filterMap (·.dst)
 | .upd ops u => ops.filterMap (·.dst) ++ [u.q]
 | .bld ops b post => ops.filterMap (·.dst) ++ b.r :: post.filterMap (·.dst)
 | .drw _ ops => ops.filterMap (·.1.dst)
 | .seq x y => x.dsts ++ y.dsts
 | .cond _ x y => x.dsts ++ y.dsts
 | .block _ x => x.dsts
 | .loop x => x.dsts
 | .hint _ x => x.dsts
 | _ => []
def lfsl (p : Pat) (ds : List Nat) (st : SS) : List (Nat × SV) := st.sl.filter fun q => !(p.sl.any fun r => r.1 == q.1) && !ds.contains q.1
def lfhp (p : Pat) (st : SS) : SHp := st.hp.filter fun q => !inIds (p.hp.map (·.1)) q.1
def lst (p : Pat) (st : SS) : SS := ⟨st.sl.filter fun q => p.sl.any fun r => r.1 == q.1, st.hp.filter fun q => inIds (p.hp.map (·.1)) q.1, st.nx⟩
def lfr (F : Fr) (p : Pat) (ds : List Nat) (st : SS) (lv : Nat) : Fr := ⟨lfsl p ds st ++ F.sl, lfhp p st ++ F.hp, lv, F.pr⟩
def lchk (F : Fr) (p : Pat) (ds : List Nat) (st : SS) : Bool := st.sl.all fun q => (p.sl.any fun r => r.1 == q.1) || !ds.contains q.1 || !inSl F.sl q.1
def nolv (lv : Nat) (F : Fr) (st : SS) : Bool :=
 let p : Id → Bool := fun m => !(m.1 == lv)
 (st.sl ++ F.sl).all (fun q => q.2.mi p p) && (st.hp ++ F.hp).all (fun q => q.2.mi p p && p q.1) && F.pr.all p
def nonx (F : Fr) (nx : Nat) (st : SS) : Bool :=
 let p : Id → Bool := fun m => !(m.1 == F.lv && decide (nx ≤ m.2))
 (st.sl ++ F.sl).all (fun q => q.2.mi p p) && (st.hp ++ F.hp).all (fun q => q.2.mi p p && p q.1) && F.pr.all p
def unfr (F : Fr) (p : Pat) (ds : List Nat) (st0 st : SS) : SS := ⟨st.sl ++ lfsl p ds st0, st.hp ++ lfhp p st0, p.nx⟩
def leave {A : Type} (F : Fr) (p : Pat) (ds : List Nat) (st0 : SS) (k : SS → Option A) (st : SS) : Option A :=
 if nonx F p.nx (unfr F p ds st0 st) then k (unfr F p ds st0 st) else none
def itl (Ω : FuncId → Option Ty) : SV → Option ((e : Ty) × Int × List e.den)
 | .fn (.func f) [] [.rp .perm [.sl .perm e xs], .rp .perm [.lit (.int .i64 n)]] => match Ω f with
  | some e' => if e' = e then some ⟨e, n, xs⟩ else none
  | none => none
 | _ => none
def lfrP (F : Fr) (p : Pat) (ds : List Nat) (st : SS) (lv : Nat) : Fr := ⟨lfsl p ds st ++ F.sl, lfhp p st ++ F.hp, lv, F.pr ++ (p.hp.map (·.1) ++ SHp.ids (lfhp p st ++ F.hp))⟩
def chnChk (F : Fr) (p : Pat) (ds : List Nat) (st : SS) : Bool :=
 lchk F p ds st && p.sl.isEmpty && (lfsl p ds st ++ F.sl).all (fun q => q.2.mi (inIds (p.hp.map (·.1) ++ SHp.ids (lfhp p st ++ F.hp))) (inIds (SHp.ids (lfhp p st ++ F.hp)))) && (p.hp.map (·.1)).all (fun m => !inIds (SHp.ids (lfhp p st ++ F.hp)) m)
def chnEnd (F : Fr) (p : Pat) (ds : List Nat) (st : SS) (s : p.D) : SS := ⟨lfsl p ds st, (p.enc s).hp ++ lfhp p st, p.nx⟩
def endChk (F : Fr) (p : Pat) (ds : List Nat) (st : SS) (s : p.D) : Bool :=
 let H := (chnEnd F p ds st s).H F
 H.all fun q => q.2.mi (inIds (SHp.ids H)) (inIds (SHp.ids H))
noncomputable section
variable {P : Program}
open Classical in
def rgl {D X : Type} (b : D → X → Option D) (cs : List X) (s : D) : Option D := if ∀ x ∈ cs, ∀ s, (b s x).isSome = true then cs.foldlM b s else none
theorem rgl_some {D X : Type} {b : D → X → Option D} {cs : List X} {s r : D} (h : rgl b cs s = some r) : (∀ x ∈ cs, ∀ s, (b s x).isSome = true) ∧ cs.foldlM b s = some r := by
 unfold rgl at h
 split at h
 ·rename_i h1; exact ⟨h1, h⟩
 ·cases h
def sx (E : Env P) : XC → {A : Type} → Fr → SS → KK A → Option A
 | .skip, _, F, st, K => K.normal st
 | .reg ops, _, F, st, K => sops E F ops st K.normal
 | .drw qf ops, _, F, st, K => sdrw E F qf ops [] [] st K.normal
 | .upd ops u, _, F, st, K => sops E F ops st fun st => supd E F u st K.normal
 | .bld ops b post, _, F, st, K => sops E F ops st fun st => sbld E F b st fun st => sops E F post st K.normal
 | .seq x y, _, F, st, K => sx E x F st { K with normal := fun st => sx E y F st K }
 | .cond o x y, _, F, st, K => match st.ev F o with
  | .lit (.bool b) => if b = true then sx E x F st K else sx E y F st K
  | _ => none
 | .block id x, _, F, st, K => sx E x F st { K with exit := fun i st => if i = id then K.normal st else K.exit i st }
 | .loop _, _, _, _, _ => none
 | .exit id, _, F, st, K => K.exit id st
 | .ret, _, F, st, K => K.ret st
 | .hint (.loop p lv) (.loop x), _, F, st, K =>
  if lchk F p x.dsts st then
   match pdec (lfr F p x.dsts st F.lv) p (lst p st) with
   | some s => loop (fun s : p.D =>
     if nolv lv (lfr F p x.dsts st lv) (p.enc s) then
      sx E x (lfr F p x.dsts st lv) { p.enc s with nx := 0 }
       {normal := fun st' => (pdec (lfr F p x.dsts st lv) { p with nx := st'.nx } st').map Sum.inl
        exit := fun i st' => mr (leave F p x.dsts st (K.exit i) st')
        ret := fun st' => mr (leave F p x.dsts st K.ret st') }
     else none) s
   | none => none
  else none
 | .hint (.join p) (.seq x y), _, F, st, K =>
  jn (fun j : p.D => sx E y F (p.enc j) K) fun kj => sx E x F st { K with normal := fun st' => match pdec F p st' with
   | some j => kj j
   | none => none }
 | .hint (.lets p) (.seq x y), _, F, st, K =>
  bd (sx E x F st { normal := fun st' => pdec F p st', exit := fun _ _ => none, ret := fun _ => none }) fun j : p.D => sx E y F (p.enc j) K
 | .hint (.pre gs) x, _, F, st, K => match sghs F gs st with
  | some st' => sx E x F st' K
  | none => none
 | .hint (.plan _) x, _, F, st, K => sx E x F st K
 | .hint (.planq _ _) x, _, F, st, K => sx E x F st K
 | .hint .upd x, _, F, st, K => sx E x F st K
 | .hint (.bld _) x, _, F, st, K => sx E x F st K
 | .hint (.fra t) x, _, F, st, K => match gfra F t st with
  | some (p, st') => gdd (p.1 = p.2) fun _ => sx E x F st' K
  | none => none
 | .hint (.res ts) x, _, F, st, K => sresL F ts st fun st' => sx E x F st' K
 | .hint .cuts x, _, F, st, K => scuts F 4 st fun st' => sx E x F st' K
 | .chn _ _ _ _, _, _, _, _ => none
 | .hint (.loop p lv) (.chn g t t' x), _, F, st, K =>
  if chnChk F p (t :: t' :: x.dsts) st then
   match itl E.Ω ((⟨[], [], 0⟩ : SS).ev (lfr F p (t :: t' :: x.dsts) st F.lv) g) with
   | some ⟨e, n, xs⟩ => match pdec (lfr F p (t :: t' :: x.dsts) st F.lv) p (lst p st) with
    | some s => gdd (0 < n ∧ n < 2 ^ 32 ∧ xs.length < 2 ^ 62) fun _ => bd (rgl (fun (s : p.D) (ch : List e.den) =>
      if nolv lv (lfrP F p (t :: t' :: x.dsts) st lv) (p.enc s) then
       sx E x (lfrP F p (t :: t' :: x.dsts) st lv) ⟨[(t', .sl .perm e ch), (t, .sl .perm e ch)], (p.enc s).hp, 0⟩
        {normal := fun st' => pdec (lfrP F p (t :: t' :: x.dsts) st lv) { p with nx := st'.nx } st', exit := fun _ _ => none, ret := fun _ => none }
      else none) (chunks n.toNat xs) s) fun s => if endChk F p (t :: t' :: x.dsts) st s then K.normal (chnEnd F p (t :: t' :: x.dsts) st s) else none
    | none => none
   | none => none
  else none
 | .hint _ _, _, _, _, _ => none
end
section
variable {P : Program} {pr : List (Id × Name)} {df : Nat} {S0 : AHeap} {F : Fr} {st st' : SS} {ν : Nm} {d : Nat} {sl : Slots}
structure KOk (E : Env P) (pr : List (Id × Name)) (df : Nat) (S0 : AHeap) (F : Fr) {A : Type} (K : KK A) (r : A) (Q : Post) (d : Nat) : Prop where
 normal : ∀ st (ν : Nm), ν.fn = E.Φ → Okk pr df S0 F st ν d → K.normal st = some r → Q .normal (slotsOf ν F st) (heapOf ν F st S0) st.nx
 exit : ∀ i st (ν : Nm), ν.fn = E.Φ → Okk pr df S0 F st ν d → K.exit i st = some r → Q (.exit i) (slotsOf ν F st) (heapOf ν F st S0) st.nx
 ret : ∀ st (ν : Nm), ν.fn = E.Φ → Okk pr df S0 F st ν d → K.ret st = some r → Q .ret (slotsOf ν F st) (heapOf ν F st S0) st.nx
theorem heap_ext {H H' : SHp} {f : SObj → AObj} (hinj : ∀ a ∈ SHp.ids H, ∀ b ∈ SHp.ids H, ν a = ν b → a = b) (hg : ∀ m, hget H' m = hget H m) : hp (H'.map fun p => (ν p.1, f p.2)) S0 = hp (H.map fun p => (ν p.1, f p.2)) S0 := by
 have hm : ∀ a, a ∈ SHp.ids H' ↔ a ∈ SHp.ids H := by
  intro a
  constructor
  ·intro h
   obtain ⟨o, ho⟩ := ids_get h
   rw [hg] at ho; exact hget_mem ho
  ·intro h
   obtain ⟨o, ho⟩ := ids_get h
   rw [← hg] at ho; exact hget_mem ho
 funext n
 by_cases hex : ∃ a ∈ SHp.ids H, ν a = n
 ·obtain ⟨a, ha, rfl⟩ := hex
  obtain ⟨o, ho⟩ := ids_get ha
  rw [hp_get hinj ho, hp_get (fun a ha b hb => hinj a ((hm a).1 ha) b ((hm b).1 hb)) (by rw [hg]; exact ho)]
 ·rw [hp_miss fun a ha e => hex ⟨a, ha, e⟩, hp_miss fun a ha e => hex ⟨a, (hm a).1 ha, e⟩]
theorem av_get {H H' : SHp} (hg : ∀ m, hget H' m = hget H m) (v : SV) : v.av ν H' = v.av ν H :=
 SV.av_congr (p := fun _ => true) (fun m _ => by unfold curAV; rw [hg]) (ac_all v)
theorem ob_get {H H' : SHp} (hg : ∀ m, hget H' m = hget H m) (o : SObj) : o.ob ν H' = o.ob ν H := by
 refine SObj.ob_congr (p := fun _ => true) (fun m _ => by unfold curAV; rw [hg]) ?_
 cases o with
 | box cs => have := ac_all (.agg cs); simpa only [SV.ac, SObj.ac] using this
 | tip => rfl
 | arr => rfl
 | obox b cs => have := ac_all (.agg cs); simpa only [SV.ac, SObj.ac] using this
theorem lget_filter {l : List (Nat × SV)} {q : Nat → Bool} {i : Nat} : lget (l.filter fun p => q p.1) i = if q i then lget l i else .any := by
 induction l with
 | nil => simp [lget]
 | cons p r ih =>
  obtain ⟨j, o⟩ := p
  simp only [List.filter_cons]
  by_cases hq : q j = true
  ·rw [if_pos hq]
   simp only [lget]
   by_cases e : i = j
   ·rw [if_pos e, if_pos e, e, hq]; rfl
   ·rw [if_neg e, if_neg e]; exact ih
  ·rw [if_neg hq]
   simp only [lget]
   by_cases e : i = j
   ·rw [if_pos e]; subst e
    rw [ih]; simp [hq]
   ·rw [if_neg e]; exact ih
theorem inSl_filter {l : List (Nat × SV)} {q : Nat → Bool} {i : Nat} : inSl (l.filter fun p => q p.1) i = (q i && inSl l i) := by
 induction l with
 | nil => simp [inSl]
 | cons p r ih =>
  obtain ⟨j, o⟩ := p
  simp only [List.filter_cons]
  by_cases hq : q j = true
  ·rw [if_pos hq]
   simp only [inSl, List.any_cons] at ih ⊢
   rw [ih]
   by_cases e : j = i
   ·subst e; simp [hq]
   ·have : (j == i) = false := by simpa using e
    rw [this]; simp
  ·rw [if_neg hq]
   simp only [inSl, List.any_cons] at ih ⊢
   rw [ih]
   by_cases e : j = i
   ·subst e; simp [hq]
   ·have : (j == i) = false := by simpa using e
    rw [this]; simp
theorem enter_ok {p : Pat} {ds : List Nat} (hok : Okk pr df S0 F st ν d) (hs : SlEq ν F st sl) (h : lchk F p ds st = true) :
  Okk pr df S0 (lfr F p ds st F.lv) (lst p st) ν d ∧ Ghost d sl (heapOf ν F st S0) st.nx (slotsOf ν (lfr F p ds st F.lv) (lst p st)) (heapOf ν (lfr F p ds st F.lv) (lst p st) S0) (lst p st).nx := by
 have hg : ∀ m, hget ((lst p st).H (lfr F p ds st F.lv)) m = hget (st.H F) m := by
  intro m
  simp only [SS.H, lst, lfr, lfhp]
  rw [hget_append, hget_append, hget_append, hget_filter (q := fun m => inIds (p.hp.map (·.1)) m), hget_filter (q := fun m => !inIds (p.hp.map (·.1)) m)]
  cases inIds (p.hp.map (·.1)) m <;> simp <;> cases hget st.hp m <;> rfl
 have hm : ∀ a, a ∈ SHp.ids ((lst p st).H (lfr F p ds st F.lv)) → a ∈ SHp.ids (st.H F) := by
  intro a ha
  obtain ⟨o, ho⟩ := ids_get ha
  rw [hg] at ho; exact hget_mem ho
 refine ⟨⟨fun a ha b hb => hok.inj a (hm a ha) b (hm b hb), fun a ha => hok.fr a (hm a ha), hok.lev, fun a ha => hok.base a (hm a ha), hok.low, hok.none, hok.par, hok.prs⟩, ?_⟩
 have hheap : heapOf ν (lfr F p ds st F.lv) (lst p st) S0 = heapOf ν F st S0 := by
  have := heap_ext (ν := ν) (S0 := S0) (f := fun o => o.ob ν (st.H F)) (H := st.H F) (H' := (lst p st).H (lfr F p ds st F.lv)) hok.inj hg
  unfold heapOf
  rw [← this]
  congr 1
  exact List.map_congr_left fun q _ => by rw [ob_get hg]
 rw [hheap]
 refine Ghost.slots fun i => ?_
 rw [hs i, sget_slotsOf, av_get hg]
 have : (lst p st).at (lfr F p ds st F.lv) i = st.at F i ∨ (lst p st).at (lfr F p ds st F.lv) i = .any := by
  simp only [SS.at, lst, lfr, lfsl]
  have e1 := lget_append (a := st.sl.filter fun q => p.sl.any fun r => r.1 == q.1) (b := (st.sl.filter fun q => !(p.sl.any fun r => r.1 == q.1) && !ds.contains q.1) ++ F.sl) (i := i)
  have e2 := lget_append (a := st.sl.filter fun q => !(p.sl.any fun r => r.1 == q.1) && !ds.contains q.1) (b := F.sl) (i := i)
  have e3 := lget_append (a := st.sl) (b := F.sl) (i := i)
  have i1 := inSl_filter (l := st.sl) (q := fun j => p.sl.any fun r => r.1 == j) (i := i)
  have i2 := inSl_filter (l := st.sl) (q := fun j => !(p.sl.any fun r => r.1 == j) && !ds.contains j) (i := i)
  have l1 := lget_filter (l := st.sl) (q := fun j => p.sl.any fun r => r.1 == j) (i := i)
  have l2 := lget_filter (l := st.sl) (q := fun j => !(p.sl.any fun r => r.1 == j) && !ds.contains j) (i := i)
  simp only [inSl] at i1 i2
  rw [e1, e2, e3, i1, i2, l1, l2]
  by_cases hp : (p.sl.any fun r => r.1 == i) = true
  ·rw [hp]
   by_cases hi : (st.sl.any fun p => p.1 == i) = true
   ·rw [hi]; simp
   ·rw [Bool.not_eq_true] at hi; rw [hi]; simp
  ·rw [Bool.not_eq_true] at hp
   rw [hp]
   by_cases hd : ds.contains i = true
   ·rw [hd]
    by_cases hi : (st.sl.any fun p => p.1 == i) = true
    ·simp only [Bool.false_and, Bool.not_true, Bool.and_false, Bool.false_eq_true, if_false]
     right
     simp only [List.any_eq_true, beq_iff_eq] at hi
     obtain ⟨q, hq, e⟩ := hi
     have := List.all_eq_true.1 h q hq
     rw [e, hp, hd] at this
     exact lget_notin (by simpa using this)
    ·rw [Bool.not_eq_true] at hi; rw [hi]; simp
   ·rw [Bool.not_eq_true] at hd
    rw [hd]
    by_cases hi : (st.sl.any fun p => p.1 == i) = true
    ·rw [hi]; simp
    ·rw [Bool.not_eq_true] at hi; rw [hi]; simp
 rcases this with h1 | h1
 ·rw [h1]; exact Sub.refl
 ·rw [h1]; simp only [SV.av]; exact Sub.any
theorem lget_mi {p q : Id → Bool} {l : List (Nat × SV)} (h : (l.all fun r => r.2.mi p q) = true) (i : Nat) : (lget l i).mi p q = true := by
 induction l with
 | nil => rfl
 | cons r l ih =>
  obtain ⟨k, u⟩ := r
  simp only [List.all_cons, Bool.and_eq_true] at h
  simp only [lget]
  split
  ·exact h.1
  ·exact ih h.2
theorem hget_mem2 {H : SHp} {m : Id} {o : SObj} (h : hget H m = some o) : ∃ j, (j, o) ∈ H ∧ j = m := by
 induction H with
 | nil => cases h
 | cons p r ih =>
  obtain ⟨j, q⟩ := p
  simp only [hget] at h
  split at h
  ·rename_i e; cases h; exact ⟨j, by simp, (ieq_iff.1 e).symm⟩
  ·obtain ⟨j', h1, h2⟩ := ih h; exact ⟨j', by simp [h1], h2⟩
theorem rename_ok {ν ν' : Nm} {p : Id → Bool} (hp : ∀ m, p m = true → ν m = ν' m) (hf : ν.fn = ν'.fn) (h1 : ((st.sl ++ F.sl).all fun q => q.2.mi p p) = true) (h2 : ((st.hp ++ F.hp).all fun q => q.2.mi p p && p q.1) = true) :
  slotsOf ν' F st = slotsOf ν F st ∧ heapOf ν' F st S0 = heapOf ν F st S0 ∧ ∀ a ∈ SHp.ids (st.H F), ν' a = ν a := by
 have hid : ∀ a ∈ SHp.ids (st.H F), p a = true := by
  intro a ha
  simp only [SS.H, SHp.ids, List.mem_map] at ha
  obtain ⟨q, hq, rfl⟩ := ha
  have := List.all_eq_true.1 h2 q hq
  simp only [Bool.and_eq_true] at this
  exact this.2
 have hcur : ∀ m, p m = true → curAV ν (st.H F) m = curAV ν' (st.H F) m := by
  intro m hm
  unfold curAV
  rw [hp m hm]
 refine ⟨?_, ?_, fun a ha => (hp a (hid a ha)).symm⟩
 ·unfold slotsOf
  exact List.map_congr_left fun q hq => by rw [SV.mi_congr hp hcur hf (List.all_eq_true.1 h1 q hq)]
 ·unfold heapOf
  congr 1
  refine List.map_congr_left fun q hq => ?_
  have := List.all_eq_true.1 h2 q hq
  simp only [Bool.and_eq_true] at this
  rw [SObj.mi_congr hp hcur hf this.1, hp q.1 this.2]
theorem leave_ok {A : Type} {p : Pat} {ds : List Nat} {st0 st : SS} {lv d' : Nat} {k : SS → Option A} {r : A} (hok : Okk pr df S0 (lfr F p ds st0 lv) st ν d') (hd : df ≤ d) (hprs : F.pr = pr.map (·.1)) (hfr : ∀ i, p.nx ≤ i → heapOf ν (lfr F p ds st0 lv) st S0 (d, i) = none)
  (h : leave F p ds st0 k st = some r) : ∃ ν' : Nm, ν'.fn = ν.fn ∧ Okk pr df S0 F (unfr F p ds st0 st) ν' d ∧ k (unfr F p ds st0 st) = some r ∧ slotsOf ν' F (unfr F p ds st0 st) = slotsOf ν (lfr F p ds st0 lv) st ∧ heapOf ν' F (unfr F p ds st0 st) S0 = heapOf ν (lfr F p ds st0 lv) st S0 := by
 unfold leave at h
 split at h <;> try (cases h; done)
 rename_i hc
 simp only [nonx, Bool.and_eq_true] at hc
 obtain ⟨⟨c1, c2⟩, c3⟩ := hc
 let ν' : Nm := ⟨fun m => if (m.1 == F.lv && decide (p.nx ≤ m.2)) = true then (d, m.2) else ν m, ν.fn⟩
 have hp : ∀ m, (fun m : Id => !(m.1 == F.lv && decide (p.nx ≤ m.2))) m = true → ν m = ν' m := by
  intro m hm
  simp only [Bool.not_eq_true'] at hm
  show ν m = if _ then _ else _
  rw [if_neg (by rw [hm]; decide)]
 obtain ⟨r1, r2, r3⟩ := rename_ok (S0 := S0) (F := F) (st := unfr F p ds st0 st) (ν := ν) (ν' := ν') hp rfl c1 c2
 have e1 : slotsOf ν F (unfr F p ds st0 st) = slotsOf ν (lfr F p ds st0 lv) st := by
  simp only [slotsOf, unfr, lfr, SS.H, List.append_assoc]
 have e2 : heapOf ν F (unfr F p ds st0 st) S0 = heapOf ν (lfr F p ds st0 lv) st S0 := by
  simp only [heapOf, unfr, lfr, SS.H, List.append_assoc]
 have e3 : SHp.ids ((unfr F p ds st0 st).H F) = SHp.ids (st.H (lfr F p ds st0 lv)) := by
  simp only [unfr, lfr, SS.H, List.append_assoc]
 refine ⟨ν', rfl, ⟨?_, ?_, ?_, ?_, hd, hok.none, ?_, hprs⟩, h, by rw [r1, e1], by rw [r2, e2]⟩
 ·intro a ha b hb hab
  rw [r3 a ha, r3 b hb] at hab
  exact hok.inj a (e3 ▸ ha) b (e3 ▸ hb) hab
 ·intro a ha i hi e
  rw [r3 a ha] at e
  obtain ⟨o, ho⟩ := ids_get (e3 ▸ ha)
  have := hok.hok a o ho
  rw [e, hfr i hi] at this
  cases this
 ·intro i hi
  show (if _ then _ else _ : Name) = _
  have hi' : p.nx ≤ i := hi
  rw [if_pos (by simp [hi'])]
 ·intro a ha hp
  rw [r3 a ha]
  exact hok.base a (e3 ▸ ha) hp
 ·intro q hq
  have hm : q.1 ∈ F.pr := by rw [hprs]; exact List.mem_map.2 ⟨q, hq, rfl⟩
  have := List.all_eq_true.1 c3 q.1 hm
  rw [← hp q.1 this]
  exact hok.par q hq
theorem hpE_ids : ∀ {l : List (Id × PO)} {R : Type} {x : hpD l R}, SHp.ids (hpE l R x).1 = l.map (·.1)
 | [], _, _ => rfl
 | (m, q) :: r, R, x => by
  simp only [hpE, SHp.ids, List.map_cons]
  have := hpE_ids (l := r) (R := R) (x := (q.enc (hpD r R) x).2)
  simp only [SHp.ids] at this
  rw [this]
theorem enc_ids {p : Pat} {x : p.D} : SHp.ids (p.enc x).hp = p.hp.map (·.1) := hpE_ids
theorem slE_len : ∀ {l : List (Nat × PS)} {R : Type} {y : slD l R}, (slE l R y).1.length = l.length
 | [], _, _ => rfl
 | (t, q) :: l, R, y => by simp only [slE, List.length_cons, slE_len]
theorem itl_ok {Ω : FuncId → Option Ty} {v : SV} {e : Ty} {n : Int} {xs : List e.den} (h : itl Ω v = some ⟨e, n, xs⟩) : ∃ f, Ω f = some e ∧ v = .fn (.func f) [] [.rp .perm [.sl .perm e xs], .rp .perm [.lit (.int .i64 n)]] := by
 unfold itl at h
 split at h <;> try (cases h; done)
 rename_i f e0 xs0 n0
 split at h <;> try (cases h; done)
 rename_i e' hΩ
 split at h <;> try (cases h; done)
 rename_i he
 cases h
 exact ⟨f, by rw [hΩ, he], rfl⟩
theorem hget_app {A B : SHp} {m : Id} (h : m ∉ SHp.ids A) : hget (A ++ B) m = hget B m := by
 rw [hget_append]
 cases hg : hget A m with
 | none => rfl
 | some o => exact absurd (hget_mem hg) h
theorem fr_av {p : Pat} {ν ν' : Nm} {B : SHp} {s s' : p.D} {v : SV} (hd : (p.hp.map (·.1)).all (fun m => !inIds (SHp.ids B) m) = true) (hv : v.mi (inIds (p.hp.map (·.1) ++ SHp.ids B)) (inIds (SHp.ids B)) = true)
  (hν : ∀ a ∈ p.hp.map (·.1) ++ SHp.ids B, ν' a = ν a) (hf : ν'.fn = ν.fn) : v.av ν ((p.enc s).hp ++ B) = v.av ν' ((p.enc s').hp ++ B) := by
 refine SV.mi_congr (p := inIds (p.hp.map (·.1) ++ SHp.ids B)) (q := inIds (SHp.ids B)) (fun m hm => (hν m (inIds_iff.1 hm)).symm) (fun m hm => ?_) hf.symm hv
 have hm' := inIds_iff.1 hm
 have hn : m ∉ p.hp.map (·.1) := by
  intro hc
  have := List.all_eq_true.1 hd m hc
  rw [hm] at this; cases this
 unfold curAV
 rw [hget_app (by rw [enc_ids]; exact hn), hget_app (by rw [enc_ids]; exact hn), hν m (List.mem_append_right _ hm')]
theorem sx_sound {E : Env P} (hE : EnvOk E) : ∀ (x : XC) {pr : List (Id × Name)} {A : Type} {F : Fr} {st : SS} {K : KK A} {r : A} {Q : Post} {ν : Nm} {d : Nat} {sl : Slots}, ν.fn = E.Φ → Okk pr df S0 F st ν d → SlEq ν F st sl → sx E x F st K = some r → KOk E pr df S0 F K r Q d →
  LX P E.T x d sl (heapOf ν F st S0) st.nx Q
 | .skip, pr, A, F, st, K, r, Q, ν, d, sl, hΦ, hok, hs, h, hK => ⟨_, _, _, hs.ghost SlEq.of, hK.normal st ν hΦ hok h⟩
 | .reg ops, pr, A, F, st, K, r, Q, ν, d, sl, hΦ, hok, hs, h, hK => by
  simp only [sx] at h
  simp only [LX]
  exact sops_sound hE (fun ν st' hΦ h1 h2 => hK.normal st' ν hΦ h1 h2) hΦ hok hs h
 | .bld ops b post, pr, A, F, st, K, r, Q, ν, d, sl, hΦ, hok, hs, h, hK => by
  simp only [sx] at h
  simp only [LX]
  exact sops_sound hE (fun ν st' hΦ h1 h2 => sbld_ok h1 h2 fun st'' sl' g1 g2 g3 => sops_sound hE (fun ν st' hΦ h1 h2 => hK.normal st' ν hΦ h1 h2) hΦ g1 g2 g3) hΦ hok hs h
 | .upd ops u, pr, A, F, st, K, r, Q, ν, d, sl, hΦ, hok, hs, h, hK => by
  simp only [sx] at h
  simp only [LX]
  exact sops_sound hE (fun ν st' hΦ h1 h2 => supd_ok h1 h2 fun ν' st'' g1 g2 g3 => hK.normal st'' ν' (g1.trans hΦ) g2 g3) hΦ hok hs h
 | .drw qf ops, pr, A, F, st, K, r, Q, ν, d, sl, hΦ, hok, hs, h, hK => by
  simp only [sx] at h
  exact ⟨_, _, _, Ghost.refl, sdrw_sound hE (q := []) (fun ν st' sl' hΦ h1 h2 h3 => ⟨_, _, _, h2.ghost SlEq.of, hK.normal st' ν hΦ h1 h3⟩) hΦ hok hs h⟩
 | .seq x y, pr, A, F, st, K, r, Q, ν, d, sl, hΦ, hok, hs, h, hK => by
  simp only [sx] at h
  simp only [LX]
  refine sx_sound hE x hΦ hok hs h ⟨fun st' ν' h1 h2 h3 => ?_, fun i st' ν' h1 h2 h3 => hK.exit i st' ν' h1 h2 h3, fun st' ν' h1 h2 h3 => hK.ret st' ν' h1 h2 h3⟩
  exact sx_sound hE y h1 h2 SlEq.of h3 hK
 | .cond o x y, pr, A, F, st, K, r, Q, ν, d, sl, hΦ, hok, hs, h, hK => by
  simp only [sx] at h
  split at h <;> try (cases h; done)
  rename_i b hb
  refine ⟨_, _, _, Ghost.refl, ?_⟩
  have hev : ev sl o = .lit (.bool b) := by
   have := congrFun hs.ev o
   simp only [hb, SV.av] at this
   exact this
  rw [hev]
  refine ⟨fun e => ?_, fun e => ?_⟩
  ·rw [if_pos e] at h; exact sx_sound hE x hΦ hok hs h hK
  ·rw [if_neg (by rw [e]; decide)] at h; exact sx_sound hE y hΦ hok hs h hK
 | .block id x, pr, A, F, st, K, r, Q, ν, d, sl, hΦ, hok, hs, h, hK => by
  simp only [sx] at h
  simp only [LX]
  refine sx_sound hE x hΦ hok hs h ⟨fun st' ν' h1 h2 h3 => hK.normal st' ν' h1 h2 h3, fun i st' ν' h1 h2 h3 => ?_, fun st' ν' h1 h2 h3 => hK.ret st' ν' h1 h2 h3⟩
  simp only at h3 ⊢
  split at h3
  ·rename_i e; rw [if_pos e]; exact hK.normal st' ν' h1 h2 h3
  ·rename_i e; rw [if_neg e]; exact hK.exit i st' ν' h1 h2 h3
 | .loop x, pr, A, F, st, K, r, Q, ν, d, sl, hΦ, hok, hs, h, hK => by simp [sx] at h
 | .exit id, pr, A, F, st, K, r, Q, ν, d, sl, hΦ, hok, hs, h, hK => ⟨_, _, _, hs.ghost SlEq.of, hK.exit id st ν hΦ hok h⟩
 | .ret, pr, A, F, st, K, r, Q, ν, d, sl, hΦ, hok, hs, h, hK => ⟨_, _, _, hs.ghost SlEq.of, hK.ret st ν hΦ hok h⟩
 | .hint (.pre gs) x, pr, A, F, st, K, r, Q, ν, d, sl, hΦ, hok, hs, h, hK => by
  simp only [sx] at h
  split at h <;> try (cases h; done)
  rename_i st' hg
  obtain ⟨h1, h2⟩ := sghs_ok (pr := pr) (df := df) (S0 := S0) hg hok hs
  simp only [LX]
  exact LX_gh h2 (sx_sound hE x hΦ h1 SlEq.of h hK)
 | .hint (.plan q) x, pr, A, F, st, K, r, Q, ν, d, sl, hΦ, hok, hs, h, hK => by
  simp only [LX]
  simp only [sx] at h
  exact sx_sound hE x hΦ hok hs h hK
 | .hint (.planq _ q) x, pr, A, F, st, K, r, Q, ν, d, sl, hΦ, hok, hs, h, hK => by
  simp only [LX]
  simp only [sx] at h
  exact sx_sound hE x hΦ hok hs h hK
 | .hint .upd x, pr, A, F, st, K, r, Q, ν, d, sl, hΦ, hok, hs, h, hK => by
  simp only [LX]
  simp only [sx] at h
  exact sx_sound hE x hΦ hok hs h hK
 | .hint (.bld q) x, pr, A, F, st, K, r, Q, ν, d, sl, hΦ, hok, hs, h, hK => by
  simp only [LX]
  simp only [sx] at h
  exact sx_sound hE x hΦ hok hs h hK
 | .hint (.fra t) x, pr, A, F, st, K, r, Q, ν, d, sl, hΦ, hok, hs, h, hK => by
  simp only [sx] at h
  split at h <;> try (cases h; done)
  rename_i p st' hg
  obtain ⟨hp, h⟩ := gdd_some h
  obtain ⟨h1, h2⟩ := gfra_ok (pr := pr) (df := df) (S0 := S0) hg hp hok hs
  simp only [LX]
  exact LX_gh h2 (sx_sound hE x hΦ h1 SlEq.of h hK)
 | .hint (.res ts) x, pr, A, F, st, K, r, Q, ν, d, sl, hΦ, hok, hs, h, hK => by
  simp only [sx] at h
  obtain ⟨st1, hg, h⟩ := sresL_ok (pr := pr) (df := df) (S0 := S0) h
  obtain ⟨h1, h2⟩ := hg hok hs
  simp only [LX]
  exact LX_gh h2 (sx_sound hE x hΦ h1 SlEq.of h hK)
 | .hint .cuts x, pr, A, F, st, K, r, Q, ν, d, sl, hΦ, hok, hs, h, hK => by
  simp only [sx] at h
  obtain ⟨st1, hg, h⟩ := scuts_ok (pr := pr) (df := df) (S0 := S0) h
  obtain ⟨h1, h2⟩ := hg hok hs
  simp only [LX]
  exact LX_gh h2 (sx_sound hE x hΦ h1 SlEq.of h hK)
 | .hint (.join p) x, pr, A, F, st, K, r, Q, ν, d, sl, hΦ, hok, hs, h, hK => by
  cases x <;> first | (simp only [sx] at h; cases h; done) | skip
  simp only [sx, jn] at h
  simp only [LX]
  rename_i x y
  refine sx_sound hE x hΦ hok hs h ⟨fun st' ν' h1 h2 h3 => ?_, fun i st' ν' h1 h2 h3 => hK.exit i st' ν' h1 h2 h3, fun st' ν' h1 h2 h3 => hK.ret st' ν' h1 h2 h3⟩
  simp only at h3 ⊢
  split at h3 <;> try (cases h3; done)
  rename_i j hj
  obtain ⟨ν2, g1, _, g2, g3⟩ := pdec_ok h2 SlEq.of hj
  exact LX_gh g3 (sx_sound hE y (g1.trans h1) g2 SlEq.of h3 hK)
 | .hint (.lets p) x, pr, A, F, st, K, r, Q, ν, d, sl, hΦ, hok, hs, h, hK => by
  cases x <;> first | (simp only [sx] at h; cases h; done) | skip
  rename_i x y
  simp only [sx] at h
  obtain ⟨j, hj, h⟩ := bd_some h
  simp only [LX]
  refine sx_sound hE x hΦ hok hs hj ⟨fun st' ν' h1 h2 h3 => ?_, fun i st' ν' h1 h2 h3 => (by cases h3), fun st' ν' h1 h2 h3 => (by cases h3)⟩
  obtain ⟨ν2, g1, _, g2, g3⟩ := pdec_ok h2 SlEq.of h3
  exact LX_gh g3 (sx_sound hE y (g1.trans h1) g2 SlEq.of h hK)
 | .chn g t t' x, pr, A, F, st, K, r, Q, ν, d, sl, hΦ, hok, hs, h, hK => by simp [sx] at h
 | .hint (.loop p lv) (.chn g t t' x), pr, A, F, st, K, r, Q, ν, d, sl, hΦ, hok, hs, h, hK => by
  simp only [sx] at h
  split at h <;> try (cases h; done)
  rename_i hc
  split at h <;> try (cases h; done)
  rename_i e n xs hit
  split at h <;> try (cases h; done)
  rename_i s0 hs0
  obtain ⟨hn0, h⟩ := gdd_some h
  obtain ⟨s1, hs1, h⟩ := bd_some h
  split at h <;> try (cases h; done)
  rename_i hend
  simp only [chnChk, Bool.and_eq_true] at hc
  obtain ⟨⟨⟨hc1, hc2⟩, hc3⟩, hc4⟩ := hc
  generalize hds : t :: t' :: x.dsts = ds at *
  obtain ⟨e1, e2⟩ := enter_ok (sl := sl) hok hs hc1
  obtain ⟨ν1, g1, gfr, g2, g3⟩ := pdec_ok e1 SlEq.of hs0
  have hpsl : p.sl = [] := List.isEmpty_iff.1 hc2
  have hesl : ∀ s : p.D, (p.enc s).sl = [] := by
   intro s
   have : (p.enc s).sl.length = p.sl.length := by simp only [Pat.enc]; exact slE_len
   rw [hpsl] at this
   exact List.length_eq_zero_iff.1 this
  have hF1sl : (lfr F p ds st F.lv).sl = lfsl p ds st ++ F.sl := rfl
  have hF2sl : (lfrP F p ds st lv).sl = lfsl p ds st ++ F.sl := rfl
  have hF2hp : (lfrP F p ds st lv).hp = lfhp p st ++ F.hp := rfl
  have hHs : ∀ s : p.D, (p.enc s).H (lfrP F p ds st lv) = (p.enc s).H (lfr F p ds st F.lv) := fun _ => rfl
  have hids : ∀ s s' : p.D, SHp.ids ((p.enc s).H (lfrP F p ds st lv)) = SHp.ids ((p.enc s').H (lfrP F p ds st lv)) := by
   intro s s'
   simp only [SS.H, ids_append, enc_ids]
  have hHE : ∀ s : p.D, (chnEnd F p ds st s).H F = (p.enc s).H (lfrP F p ds st lv) := by
   intro s
   simp only [chnEnd, SS.H, lfrP, List.append_assoc]
  let pr2 : List (Id × Name) := pr ++ (p.hp.map (·.1) ++ SHp.ids (lfhp p st ++ F.hp)).map fun m => (m, ν1 m)
  obtain ⟨body, hbody⟩ : ∃ body : p.D → List e.den → Option p.D, body = (fun (s : p.D) (ch : List e.den) =>
      if nolv lv (lfrP F p ds st lv) (p.enc s) then
       sx E x (lfrP F p ds st lv) ⟨[(t', .sl .perm e ch), (t, .sl .perm e ch)], (p.enc s).hp, 0⟩
        {normal := fun st' => pdec (lfrP F p ds st lv) { p with nx := st'.nx } st', exit := fun _ _ => none, ret := fun _ => none }
      else none) := ⟨_, rfl⟩
  rw [← hbody] at hs1
  obtain ⟨htot, hfold⟩ := rgl_some hs1
  have hitl : ItOk P (ev (slotsOf ν1 (lfr F p ds st F.lv) (p.enc s0)) g) ((chunks n.toNat xs).map (eS e.lay)) := by
   obtain ⟨f, hΩ, hv⟩ := itl_ok hit
   have h1 : (p.enc s0).ev (lfr F p ds st F.lv) g = (⟨[], [], 0⟩ : SS).ev (lfr F p ds st F.lv) g := by
    cases g <;> simp only [SS.ev, SS.at, hesl s0]
   rw [ev_slotsOf, h1, hv]
   have := hE.C f e hΩ n xs hn0.1 hn0.2.1 hn0.2.2
   simpa only [SV.av, avl, avs, OwnI.of, eS] using this
  have hmids : ∀ (s : p.D) a, a ∈ SHp.ids ((p.enc s).H (lfrP F p ds st lv)) ↔ a ∈ p.hp.map (·.1) ++ SHp.ids (lfhp p st ++ F.hp) := by
   intro s a
   simp only [SS.H, hF2hp, ids_append, enc_ids]
  let C : p.D → Nm → Prop := fun s ν' => ν'.fn = E.Φ ∧ (∀ a ∈ SHp.ids ((p.enc s).H (lfrP F p ds st lv)), ν' a = ν1 a) ∧ (∀ q ∈ pr2, ν' q.1 = q.2)
  have hinj1 : ∀ s, ∀ a ∈ SHp.ids ((p.enc s).H (lfrP F p ds st lv)), ∀ b ∈ SHp.ids ((p.enc s).H (lfrP F p ds st lv)), ν1 a = ν1 b → a = b := by
   intro s a ha b hb
   rw [hids s s0] at ha hb
   exact g2.inj a ha b hb
  simp only [LX]
  refine ⟨slotsOf ν1 (lfr F p ds st F.lv) (p.enc s0), heapOf ν1 (lfr F p ds st F.lv) (p.enc s0) S0, p.nx, e2.trans g3, (chunks n.toNat xs).map (eS e.lay), hitl,
   fun pre S => ∃ (s : p.D) (ν' : Nm), C s ν' ∧ S = heapOf ν' (lfrP F p ds st lv) (p.enc s) S0 ∧ (pre.map fun i => (chunks n.toNat xs)[i.val]'(by have := i.isLt; simpa using this)).foldlM body s0 = some s, ?_, ?_, ?_, ?_⟩
  ·refine ⟨s0, ν1, ⟨g1.trans hΦ, fun _ _ => rfl, fun q hq => ?_⟩, rfl, rfl⟩
   rcases List.mem_append.1 hq with hq | hq
   ·exact g2.par q hq
   ·obtain ⟨m, _, rfl⟩ := List.mem_map.1 hq; rfl
  ·rintro pre S' nm m ⟨s, ν', ⟨cΦ, cν, cpar⟩, rfl, _⟩ hm
   have hmiss : ∀ a ∈ SHp.ids ((p.enc s).H (lfrP F p ds st lv)), ν' a ≠ nm := by
    rintro a ha rfl
    obtain ⟨o, ho⟩ := ids_get ha
    have := hp_get (ν := ν') (S0 := S0) (f := fun o => o.ob ν' ((p.enc s).H (lfrP F p ds st lv))) (fun a ha b hb hab => hinj1 s a ha b hb (by rw [← cν a ha, ← cν b hb, hab])) ho
    unfold heapOf at hm
    rw [this] at hm
    cases o <;> first | (cases hm; done) | (rename_i b cs; cases b <;> cases hm)
   have h0 := hp_miss (S0 := S0) (f := fun o => o.ob ν' ((p.enc s).H (lfrP F p ds st lv))) hmiss
   unfold heapOf at hm ⊢
   rw [h0] at hm
   rw [hp_miss (S0 := S0) (f := fun o => o.ob ν1 ((p.enc s0).H (lfr F p ds st F.lv))) (fun a ha => ?_)]
   ·exact hm
   ·have ha' : a ∈ SHp.ids ((p.enc s).H (lfrP F p ds st lv)) := by rw [hids s s0]; exact ha
    rw [← cν a ha']
    exact hmiss a ha'
  ·rintro pre j S' d' hd' hf ⟨s, ν', ⟨cΦ, cν, cpar⟩, rfl, hpre⟩
   generalize hch : (chunks n.toNat xs)[j.val]'(by have := j.isLt; simpa using this) = ch
   have hchm : ch ∈ chunks n.toNat xs := by rw [← hch]; exact List.getElem_mem _
   obtain ⟨s', hs'⟩ := Option.isSome_iff_exists.1 (htot ch hchm s)
   have hse : ((chunks n.toNat xs).map (eS e.lay))[j] = eS e.lay ch := by rw [← hch]; simp
   rw [hse]
   rw [hbody] at hs'
   simp only at hs'
   split at hs' <;> try (cases hs'; done)
   rename_i hnl
   have hnl0 := hnl
   simp only [nolv, Bool.and_eq_true] at hnl
   obtain ⟨⟨c1, c2⟩, c3⟩ := hnl
   let ν2 : Nm := ⟨fun m => if (m.1 == lv) = true then (d', m.2) else ν' m, ν'.fn⟩
   have hp : ∀ m, (fun m : Id => !(m.1 == lv)) m = true → ν' m = ν2 m := by
    intro m hm
    simp only [Bool.not_eq_true'] at hm
    show ν' m = if _ then _ else _
    rw [if_neg (by rw [hm]; decide)]
   obtain ⟨r1, r2, r3⟩ := rename_ok (S0 := S0) (F := lfrP F p ds st lv) (st := p.enc s) (ν := ν') (ν' := ν2) hp rfl c1 c2
   have cinj : ∀ a ∈ SHp.ids ((p.enc s).H (lfrP F p ds st lv)), ∀ b ∈ SHp.ids ((p.enc s).H (lfrP F p ds st lv)), ν' a = ν' b → a = b := fun a ha b hb hab => hinj1 s a ha b hb (by rw [← cν a ha, ← cν b hb, hab])
   have hhok : ∀ a ∈ SHp.ids ((p.enc s).H (lfrP F p ds st lv)), (ν' a).1 < d' := by
    intro a ha
    obtain ⟨o, ho⟩ := ids_get ha
    have h1 := hp_get (S0 := S0) (f := fun o => o.ob ν' ((p.enc s).H (lfrP F p ds st lv))) cinj ho
    refine Nat.lt_of_not_le fun hle => ?_
    have h2 := hf (ν' a) hle
    unfold heapOf at h2
    rw [h1] at h2; cases h2
   have hok2 : Okk pr2 df S0 (lfrP F p ds st lv) ⟨[(t', .sl .perm e ch), (t, .sl .perm e ch)], (p.enc s).hp, 0⟩ ν2 d' := by
    refine ⟨?_, ?_, ?_, ?_, Nat.le_trans hok.low (Nat.le_of_lt hd'), hok.none, ?_, ?_⟩
    ·intro a ha b hb hab
     have ha' : a ∈ SHp.ids ((p.enc s).H (lfrP F p ds st lv)) := ha
     have hb' : b ∈ SHp.ids ((p.enc s).H (lfrP F p ds st lv)) := hb
     rw [r3 a ha', r3 b hb'] at hab
     exact cinj a ha' b hb' hab
    ·intro a ha k _ e
     have ha' : a ∈ SHp.ids ((p.enc s).H (lfrP F p ds st lv)) := ha
     rw [r3 a ha'] at e
     have := hhok a ha'
     rw [e] at this
     exact absurd this (Nat.lt_irrefl _)
    ·intro k _
     show (if _ then _ else _ : Name) = _
     rw [if_pos (by simp [lfrP])]
    ·intro a ha hq
     have ha' : a ∈ SHp.ids ((p.enc s).H (lfrP F p ds st lv)) := ha
     rw [r3 a ha', cν a ha']
     rw [hids s s0] at ha'
     refine g2.base a ha' fun hq2 => hq ?_
     exact List.mem_append_left _ hq2
    ·intro q hq
     have hm : q.1 ∈ (lfrP F p ds st lv).pr := by
      show q.1 ∈ F.pr ++ (p.hp.map (·.1) ++ SHp.ids (lfhp p st ++ F.hp))
      rcases List.mem_append.1 hq with hq | hq
      ·exact List.mem_append_left _ (by rw [hok.prs]; exact List.mem_map.2 ⟨q, hq, rfl⟩)
      ·obtain ⟨m, hm, rfl⟩ := List.mem_map.1 hq
       exact List.mem_append_right _ hm
     have := List.all_eq_true.1 c3 q.1 hm
     rw [← hp q.1 this]; exact cpar q hq
    ·show F.pr ++ (p.hp.map (·.1) ++ SHp.ids (lfhp p st ++ F.hp)) = pr2.map (·.1)
     rw [hok.prs]
     simp [pr2, Function.comp_def]
   have hsl2 : SlEq ν2 (lfrP F p ds st lv) ⟨[(t', .sl .perm e ch), (t, .sl .perm e ch)], (p.enc s).hp, 0⟩ (put (put (slotsOf ν1 (lfr F p ds st F.lv) (p.enc s0)) (some t) (eS e.lay ch)) (some t') (eS e.lay ch)) := by
    intro i
    have hel : ∀ H : SHp, (SV.sl .perm e ch).av ν2 H = eS e.lay ch := fun H => by simp only [SV.av, OwnI.of, eS]
    rw [sget_put, sget_put]
    simp only [SS.at, List.cons_append, List.nil_append, lget, Option.some.injEq]
    by_cases h1 : i = t'
    ·have h1' : t' = i := h1.symm
     simp only [if_pos h1, if_pos h1', hel]
    ·have h1' : ¬ t' = i := fun h => h1 h.symm
     simp only [if_neg h1, if_neg h1']
     by_cases h2 : i = t
     ·have h2' : t = i := h2.symm
      simp only [if_pos h2, if_pos h2', hel]
     ·have h2' : ¬ t = i := fun h => h2 h.symm
      simp only [if_neg h2, if_neg h2', sget_slotsOf]
      simp only [SS.at, hesl s0, List.nil_append]
      have hv : (lget (lfsl p ds st ++ F.sl) i).mi (inIds (p.hp.map (·.1) ++ SHp.ids (lfhp p st ++ F.hp))) (inIds (SHp.ids (lfhp p st ++ F.hp))) = true := lget_mi hc3 i
      exact fr_av (s := s0) (s' := s) hc4 hv (fun a ha => by
       have ha' := (hmids s a).2 ha
       rw [r3 a ha', cν a ha']) (cΦ.trans (g1.trans hΦ).symm)
   have hheap : heapOf ν2 (lfrP F p ds st lv) ⟨[(t', .sl .perm e ch), (t, .sl .perm e ch)], (p.enc s).hp, 0⟩ S0 = heapOf ν' (lfrP F p ds st lv) (p.enc s) S0 := r2
   rw [← hheap]
   refine sx_sound hE x (ν := ν2) (d := d') (show ν2.fn = E.Φ from cΦ) hok2 hsl2 hs' ⟨?_, ?_, ?_⟩
   ·intro st3 ν3 f1 f2 f3
    obtain ⟨ν4, w1, wfr, w2, w3⟩ := pdec_ok f2 SlEq.of f3
    refine ⟨rfl, _, _, _, w3, s', ν4, ⟨w1.trans f1, fun a ha => ?_, w2.par⟩, rfl, ?_⟩
    ·have ha' := (hmids s' a).1 ha
     exact w2.par (a, ν1 a) (List.mem_append_right _ (List.mem_map.2 ⟨a, ha', rfl⟩))
    ·rw [List.map_append, List.foldlM_append, hpre]
     simp only [List.map_cons, List.map_nil, List.foldlM_cons, List.foldlM_nil, hch]
     rw [hbody]
     have hb : (if nolv lv (lfrP F p ds st lv) (p.enc s) = true then
       sx E x (lfrP F p ds st lv) ⟨[(t', .sl .perm e ch), (t, .sl .perm e ch)], (p.enc s).hp, 0⟩
        {normal := fun st' => pdec (lfrP F p ds st lv) { p with nx := st'.nx } st', exit := fun _ _ => none, ret := fun _ => none }
      else none) = some s' := by rw [if_pos hnl0]; exact hs'
     simp only [Option.bind_eq_bind, Option.bind_some, hb]
     rfl
   ·intro i st3 ν3 f1 f2 f3; cases f3
   ·intro st3 ν3 f1 f2 f3; cases f3
  ·rintro S' hf ⟨s, ν', ⟨cΦ, cν, cpar⟩, rfl, hpre⟩
   have hss : s = s1 := by
    have : (List.finRange ((chunks n.toNat xs).map (eS e.lay)).length).map (fun i => (chunks n.toNat xs)[i.val]'(by have := i.isLt; simpa using this)) = chunks n.toNat xs := by
     apply List.ext_getElem
     ·simp
     ·intro i h1 h2; simp
    rw [this, hfold] at hpre
    exact (Option.some.inj hpre).symm
   subst hss
   have hokE : Okk pr df S0 F (chnEnd F p ds st s) ν1 d := by
    have hm : ∀ a, a ∈ SHp.ids ((chnEnd F p ds st s).H F) → a ∈ SHp.ids ((p.enc s0).H (lfr F p ds st F.lv)) := by
     intro a ha
     rw [hHE s, hids s s0] at ha
     exact ha
    exact ⟨fun a ha b hb => g2.inj a (hm a ha) b (hm b hb), fun a ha => g2.fr a (hm a ha), g2.lev, fun a ha => g2.base a (hm a ha), g2.low, g2.none, g2.par, g2.prs⟩
   have hq := hK.normal _ ν1 (g1.trans hΦ) hokE h
   have hsl : slotsOf ν1 F (chnEnd F p ds st s) = slotsOf ν1 (lfr F p ds st F.lv) (p.enc s0) := by
    simp only [slotsOf, hesl s0, List.nil_append]
    refine List.map_congr_left fun q hq => ?_
    have := List.all_eq_true.1 hc3 q hq
    have h2 := fr_av (s := s) (s' := s0) (ν := ν1) (ν' := ν1) hc4 this (fun _ _ => rfl) rfl
    have h3 : (chnEnd F p ds st s).H F = (p.enc s).hp ++ (lfhp p st ++ F.hp) := hHE s
    have h4 : (p.enc s0).H (lfr F p ds st F.lv) = (p.enc s0).hp ++ (lfhp p st ++ F.hp) := rfl
    rw [h3, h4, h2]
   have hhp : heapOf ν1 F (chnEnd F p ds st s) S0 = heapOf ν' (lfrP F p ds st lv) (p.enc s) S0 := by
    simp only [heapOf]
    have h3 : (chnEnd F p ds st s).H F = (p.enc s).H (lfrP F p ds st lv) := hHE s
    simp only [endChk] at hend
    rw [h3] at hend ⊢
    congr 1
    refine List.map_congr_left fun q hq => ?_
    have hqi : q.1 ∈ SHp.ids ((p.enc s).H (lfrP F p ds st lv)) := List.mem_map.2 ⟨q, hq, rfl⟩
    rw [cν q.1 hqi]
    congr 1
    refine SObj.mi_congr (p := inIds (SHp.ids ((p.enc s).H (lfrP F p ds st lv)))) (q := inIds (SHp.ids ((p.enc s).H (lfrP F p ds st lv)))) (fun m hm => (cν m (inIds_iff.1 hm)).symm) (fun m hm => ?_) ((g1.trans hΦ).trans cΦ.symm) (List.all_eq_true.1 hend q hq)
    unfold curAV
    rw [cν m (inIds_iff.1 hm)]
   rw [← hsl, ← hhp]
   exact hq
 | .hint (.loop p lv) (.loop x), pr, A, F, st, K, r, Q, ν, d, sl, hΦ, hok, hs, h, hK => by
  simp only [sx] at h
  split at h <;> try (cases h; done)
  rename_i hc
  split at h <;> try (cases h; done)
  rename_i s0 hs0
  obtain ⟨e1, e2⟩ := enter_ok (sl := sl) hok hs hc
  obtain ⟨ν1, g1, -, g2, g3⟩ := pdec_ok e1 SlEq.of hs0
  obtain ⟨body, hbody, h⟩ : ∃ body : p.D → Option (p.D ⊕ A), (∀ s, body s = if nolv lv (lfr F p x.dsts st lv) (p.enc s) then
      sx E x (lfr F p x.dsts st lv) { p.enc s with nx := 0 }
       {normal := fun st' => ((pdec (lfr F p x.dsts st lv) { p with nx := st'.nx } st' : Option p.D).map Sum.inl : Option (p.D ⊕ A))
        exit := fun i st' => mr (leave F p x.dsts st (K.exit i) st')
        ret := fun st' => mr (leave F p x.dsts st K.ret st') }
     else none) ∧ loop body s0 = some r := ⟨_, fun _ => rfl, h⟩
  obtain ⟨n0, hn0⟩ := loop_some.1 h
  simp only [LX]
  let C : p.D → Nm → Prop := fun s ν' => ν'.fn = E.Φ ∧ (∀ a ∈ SHp.ids ((p.enc s).H (lfr F p x.dsts st lv)), ∀ b ∈ SHp.ids ((p.enc s).H (lfr F p x.dsts st lv)), ν' a = ν' b → a = b) ∧
   (∀ a ∈ SHp.ids ((p.enc s).H (lfr F p x.dsts st lv)), a ∉ F.pr → df ≤ (ν' a).1) ∧ (∀ q ∈ pr, ν' q.1 = q.2)
  refine ⟨slotsOf ν1 (lfr F p x.dsts st lv) (p.enc s0), heapOf ν1 (lfr F p x.dsts st lv) (p.enc s0) S0, p.nx, e2.trans g3,
   fun n sl S => ∃ (s : p.D) (ν' : Nm), C s ν' ∧ sl = slotsOf ν' (lfr F p x.dsts st lv) (p.enc s) ∧ S = heapOf ν' (lfr F p x.dsts st lv) (p.enc s) S0 ∧ iter body n s = some r,
   ⟨n0, s0, ν1, ⟨g1.trans hΦ, g2.inj, g2.base, g2.par⟩, rfl, rfl, hn0⟩, ?_⟩
  rintro n sl' S' d' hd' hf ⟨s, ν', ⟨cΦ, cinj, cbase, cpar⟩, rfl, rfl, hn⟩
  cases n with
  | zero => cases hn
  | succ n =>
   simp only [iter] at hn
   rw [hbody s] at hn
   by_cases hnl : nolv lv (lfr F p x.dsts st lv) (p.enc s) = true
   case neg => rw [if_neg hnl] at hn; cases hn
   rw [if_pos hnl] at hn
   cases hres : sx E x (lfr F p x.dsts st lv) { p.enc s with nx := 0 }
       {normal := fun st' => ((pdec (lfr F p x.dsts st lv) { p with nx := st'.nx } st' : Option p.D).map Sum.inl : Option (p.D ⊕ A))
        exit := fun i st' => mr (leave F p x.dsts st (K.exit i) st')
        ret := fun st' => mr (leave F p x.dsts st K.ret st') } with
   | none => rw [hres] at hn; cases hn
   | some res =>
    rw [hres] at hn
    simp only [nolv, Bool.and_eq_true] at hnl
    obtain ⟨⟨c1, c2⟩, c3⟩ := hnl
    let ν2 : Nm := ⟨fun m => if (m.1 == lv) = true then (d', m.2) else ν' m, ν'.fn⟩
    have hp : ∀ m, (fun m : Id => !(m.1 == lv)) m = true → ν' m = ν2 m := by
     intro m hm
     simp only [Bool.not_eq_true'] at hm
     show ν' m = if _ then _ else _
     rw [if_neg (by rw [hm]; decide)]
    obtain ⟨r1, r2, r3⟩ := rename_ok (S0 := S0) (F := lfr F p x.dsts st lv) (st := p.enc s) (ν := ν') (ν' := ν2) hp rfl c1 c2
    have hhok : ∀ a ∈ SHp.ids ((p.enc s).H (lfr F p x.dsts st lv)), (ν' a).1 < d' := by
     intro a ha
     obtain ⟨o, ho⟩ := ids_get ha
     have h1 := hp_get (S0 := S0) (f := fun o => o.ob ν' ((p.enc s).H (lfr F p x.dsts st lv))) cinj ho
     refine Nat.lt_of_not_le fun hle => ?_
     have h2 := hf (ν' a) hle
     unfold heapOf at h2
     rw [h1] at h2; cases h2
    have hok2 : Okk pr df S0 (lfr F p x.dsts st lv) { p.enc s with nx := 0 } ν2 d' := by
     refine ⟨?_, ?_, ?_, ?_, Nat.le_trans hok.low (Nat.le_of_lt hd'), hok.none, ?_, hok.prs⟩
     ·intro a ha b hb hab
      rw [r3 a ha, r3 b hb] at hab
      exact cinj a ha b hb hab
     ·intro a ha k _ e
      rw [r3 a ha] at e
      have := hhok a ha
      rw [e] at this
      exact absurd this (Nat.lt_irrefl _)
     ·intro k _
      show (if _ then _ else _ : Name) = _
      rw [if_pos (by simp [lfr])]
     ·intro a ha hq
      rw [r3 a ha]; exact cbase a ha hq
     ·intro q hq
      have hm : q.1 ∈ F.pr := by rw [hok.prs]; exact List.mem_map.2 ⟨q, hq, rfl⟩
      have := List.all_eq_true.1 c3 q.1 hm
      rw [← hp q.1 this]; exact cpar q hq
    have hs2 : SlEq ν2 (lfr F p x.dsts st lv) { p.enc s with nx := 0 } (slotsOf ν' (lfr F p x.dsts st lv) (p.enc s)) := by
     rw [← r1]; exact SlEq.of
    have hmain := fun Q' hK' => sx_sound hE x (Q := Q') (ν := ν2) (d := d') (sl := slotsOf ν' (lfr F p x.dsts st lv) (p.enc s)) (show ν2.fn = E.Φ from cΦ) hok2 hs2 hres hK'
    have hheap : heapOf ν2 (lfr F p x.dsts st lv) { p.enc s with nx := 0 } S0 = heapOf ν' (lfr F p x.dsts st lv) (p.enc s) S0 := r2
    rw [hheap] at hmain
    refine hmain _ ⟨?_, ?_, ?_⟩
    ·intro st3 ν3 f1 f2 f3
     simp only [Option.map_eq_some_iff] at f3
     obtain ⟨s3, f4, rfl⟩ := f3
     obtain ⟨ν4, w1, _, w2, w3⟩ := pdec_ok f2 SlEq.of f4
     exact ⟨n, Nat.lt_succ_self n, _, _, _, w3, s3, ν4, ⟨w1.trans f1, w2.inj, w2.base, w2.par⟩, rfl, rfl, hn⟩
    ·intro i st3 ν3 f1 f2 f3 hfr
     obtain ⟨a, rfl, f4⟩ := mr_some f3
     cases hn
     obtain ⟨ν4, w1, w2, w3, w4, w5⟩ := leave_ok f2 hok.low hok.prs hfr f4
     have := hK.exit i _ ν4 (w1.trans f1) w2 w3
     rw [w4, w5] at this
     exact this
    ·intro st3 ν3 f1 f2 f3 hfr
     obtain ⟨a, rfl, f4⟩ := mr_some f3
     cases hn
     obtain ⟨ν4, w1, w2, w3, w4, w5⟩ := leave_ok f2 hok.low hok.prs hfr f4
     have := hK.ret _ ν4 (w1.trans f1) w2 w3
     rw [w4, w5] at this
     exact this
 | .hint (.loop p lv) (.skip), pr, A, F, st, K, r, Q, ν, d, sl, hΦ, hok, hs, h, hK => by simp [sx] at h
 | .hint (.loop p lv) (.bld _ _ _), pr, A, F, st, K, r, Q, ν, d, sl, hΦ, hok, hs, h, hK => by simp [sx] at h
 | .hint (.loop p lv) (.upd _ _), pr, A, F, st, K, r, Q, ν, d, sl, hΦ, hok, hs, h, hK => by simp [sx] at h
 | .hint (.loop p lv) (.reg _), pr, A, F, st, K, r, Q, ν, d, sl, hΦ, hok, hs, h, hK => by simp [sx] at h
 | .hint (.loop p lv) (.drw _ _), pr, A, F, st, K, r, Q, ν, d, sl, hΦ, hok, hs, h, hK => by simp [sx] at h
 | .hint (.loop p lv) (.seq _ _), pr, A, F, st, K, r, Q, ν, d, sl, hΦ, hok, hs, h, hK => by simp [sx] at h
 | .hint (.loop p lv) (.cond _ _ _), pr, A, F, st, K, r, Q, ν, d, sl, hΦ, hok, hs, h, hK => by simp [sx] at h
 | .hint (.loop p lv) (.block _ _), pr, A, F, st, K, r, Q, ν, d, sl, hΦ, hok, hs, h, hK => by simp [sx] at h
 | .hint (.loop p lv) (.exit _), pr, A, F, st, K, r, Q, ν, d, sl, hΦ, hok, hs, h, hK => by simp [sx] at h
 | .hint (.loop p lv) (.ret), pr, A, F, st, K, r, Q, ν, d, sl, hΦ, hok, hs, h, hK => by simp [sx] at h
 | .hint (.loop p lv) (.hint _ _), pr, A, F, st, K, r, Q, ν, d, sl, hΦ, hok, hs, h, hK => by simp [sx] at h
end
end Go.Al
