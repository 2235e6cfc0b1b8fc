import Derived.Test.YtolfnhebnennpaaAmJ
set_option linter.unusedSimpArgs false
set_option linter.unusedVariables false
namespace Go.Al
open Go Go.RowKit
@[reducible] def PV.D : PV → Type → Type
 | .pl y, R => y.den × R
 | .own e, R => List e.den × R
 | .cur _, R => R
 | .ptr _ _, R => R
 | .nilp, R => R
 | .nils, R => R
 | .fnc _, R => R
 | .sref .., R => R
 | .opt _, R => Bool × R
@[reducible] def PVs.D : List PV → Type → Type
 | [], R => R
 | p :: r, R => p.D (PVs.D r R)
@[reducible] def PS.D : PS → Type → Type
 | .one p, R => p.D R
 | .agg ps, R => PVs.D ps R
@[reducible] def slD : List (Nat × PS) → Type → Type
 | [], R => R
 | (_, q) :: r, R => q.D (slD r R)
@[reducible] def PO.D : PO → Type → Type
 | .box ps, R => PVs.D ps R
 | .tip _ e, R => List e.den × R
 | .arr e, R => List e.den × R
 | .obox ps, R => Bool × PVs.D ps R
@[reducible] def hpD : List (Id × PO) → Type → Type
 | [], R => R
 | (_, q) :: r, R => q.D (hpD r R)
@[reducible] def Pat.D (p : Pat) : Type := slD p.sl (hpD p.hp Unit)
def PV.enc : (p : PV) → (R : Type) → p.D R → List SV × R
 | .pl y, _, x => (y.un x.1, x.2)
 | .own e, _, x => ([.own e x.1], x.2)
 | .cur m, _, x => ([.cur m], x)
 | .ptr m o, _, x => ([.ptr m o], x)
 | .nilp, _, x => ([.lit (.pointer none)], x)
 | .nils, _, x => ([.lit (.slice none 0 0)], x)
 | .fnc g, _, x => ([.fn (.func g) [] []], x)
 | .sref m sz o len cap, _, x => ([.sref m sz o len cap], x)
 | .opt m, _, x => ([.opt x.1 m], x.2)
def PVs.enc : (ps : List PV) → (R : Type) → PVs.D ps R → List SV × R
 | [], _, x => ([], x)
 | p :: r, R, x => ((p.enc (PVs.D r R) x).1 ++ (PVs.enc r R (p.enc (PVs.D r R) x).2).1, (PVs.enc r R (p.enc (PVs.D r R) x).2).2)
def PS.enc : (q : PS) → (R : Type) → q.D R → SV × R
 | .one p, R, x => (match (p.enc R x).1 with | [v] => if v.isVec then .any else v | _ => .any, (p.enc R x).2)
 | .agg ps, R, x => (.agg (PVs.enc ps R x).1, (PVs.enc ps R x).2)
def slE : (l : List (Nat × PS)) → (R : Type) → slD l R → List (Nat × SV) × R
 | [], _, x => ([], x)
 | (t, q) :: r, R, x => ((t, (q.enc (slD r R) x).1) :: (slE r R (q.enc (slD r R) x).2).1, (slE r R (q.enc (slD r R) x).2).2)
def PO.enc : (q : PO) → (R : Type) → q.D R → SObj × R
 | .box ps, R, x => (.box (PVs.enc ps R x).1, (PVs.enc ps R x).2)
 | .tip pm e, _, x => (.tip pm e x.1, x.2)
 | .arr e, _, x => (.arr e x.1, x.2)
 | .obox ps, R, x => (.obox x.1 (PVs.enc ps R x.2).1, (PVs.enc ps R x.2).2)
def hpE : (l : List (Id × PO)) → (R : Type) → hpD l R → SHp × R
 | [], _, x => ([], x)
 | (m, q) :: r, R, x => ((m, (q.enc (hpD r R) x).1) :: (hpE r R (q.enc (hpD r R) x).2).1, (hpE r R (q.enc (hpD r R) x).2).2)
def Pat.enc (p : Pat) (x : p.D) : SS := ⟨(slE p.sl _ x).1, (hpE p.hp _ (slE p.sl _ x).2).1, p.nx⟩
def mpf : List (Id × Id) → Id → Id
 | [], m => m
 | (a, b) :: r, m => if ieq m a then b else mpf r m
def PV.dec (mp : List (Id × Id)) (H : SHp) : (p : PV) → (R : Type) → List SV → Option ((R → p.D R) × List SV)
 | .pl y, R, l => match y.pk H l with
  | some (x, r) => some (fun k => (x, k), r)
  | none => none
 | .own e, R, l => match l with
  | .own e' xs :: r => if h : e' = e then some (fun k => (h ▸ xs, k), r) else none
  | _ => none
 | .cur m, R, l => match l with
  | .cur a :: r => if ieq (mpf mp m) a then some (fun k => k, r) else none
  | _ => none
 | .ptr m o, R, l => match l with
  | .ptr a o' :: r => if ieq (mpf mp m) a && o == o' then some (fun k => k, r) else none
  | _ => none
 | .nilp, R, l => match l with
  | .lit (.pointer none) :: r => some (fun k => k, r)
  | _ => none
 | .nils, R, l => match l with
  | .lit (.slice none 0 0) :: r => some (fun k => k, r)
  | _ => none
 | .fnc g, R, l => match l with
  | .fn (.func g') [] [] :: r => if g' = g then some (fun k => k, r) else none
  | _ => none
 | .sref m sz o len cap, R, l => match l with
  | .sref a sz' o' len' cap' :: r => if ieq (mpf mp m) a && (sz == sz' && o == o' && len == len' && cap == cap') then some (fun k => k, r) else none
  | _ => none
 | .opt m, R, l => match l with
  | .ptr a 0 :: r => if ieq (mpf mp m) a then some (fun k => (true, k), r) else none
  | .opt b a :: r => if ieq (mpf mp m) a then some (fun k => (b, k), r) else none
  | .lit (.pointer none) :: r => some (fun k => (false, k), r)
  | _ => none
def PVs.dec (mp : List (Id × Id)) (H : SHp) : (ps : List PV) → (R : Type) → List SV → Option ((R → PVs.D ps R) × List SV)
 | [], _, l => some (fun k => k, l)
 | p :: r, R, l => match p.dec mp H (PVs.D r R) l with
  | some (f, l1) => match PVs.dec mp H r R l1 with
   | some (g, l2) => some (fun k => f (g k), l2)
   | none => none
  | none => none
def PS.dec (mp : List (Id × Id)) (H : SHp) : (q : PS) → (R : Type) → SV → Option (R → q.D R)
 | .one p, R, v => if v.isVec then none else match p.dec mp H R [v] with
  | some (f, []) => some f
  | _ => none
 | .agg ps, R, v => match v with
  | .agg cs => match PVs.dec mp H ps R cs with
   | some (f, []) => some f
   | _ => none
  | _ => none
def slX (mp : List (Id × Id)) (H : SHp) (at_ : Nat → SV) : (l : List (Nat × PS)) → (R : Type) → Option (R → slD l R)
 | [], _ => some fun k => k
 | (t, q) :: r, R => match q.dec mp H (slD r R) (at_ t) with
  | some f => match slX mp H at_ r R with
   | some g => some fun k => f (g k)
   | none => none
  | none => none
def PO.dec (mp : List (Id × Id)) (H : SHp) : (q : PO) → (R : Type) → SObj → Option (R → q.D R)
 | .box ps, R, o => match o with
  | .box cs => match PVs.dec mp H ps R cs with
   | some (f, []) => some f
   | _ => none
  | _ => none
 | .tip pm e, R, o => match o with
  | .tip pm' e' xs => if h : e' = e then if pm' = pm then some fun k => (h ▸ xs, k) else none else none
  | _ => none
 | .arr e, R, o => match o with
  | .arr e' xs => if h : e' = e then some fun k => (h ▸ xs, k) else none
  | _ => none
 | .obox ps, R, o => match o with
  | .box cs => match PVs.dec mp H ps R cs with
   | some (f, []) => some fun k => (true, f k)
   | _ => none
  | .obox b cs => match PVs.dec mp H ps R cs with
   | some (f, []) => some fun k => (b, f k)
   | _ => none
  | _ => none
def hpX (mp : List (Id × Id)) (H hp : SHp) : (l : List (Id × PO)) → (R : Type) → Option (R → hpD l R)
 | [], _ => some fun k => k
 | (m, q) :: r, R => match hget hp (mpf mp m) with
  | some o => match q.dec mp H (hpD r R) o with
   | some f => match hpX mp H hp r R with
    | some g => some fun k => f (g k)
    | none => none
   | none => none
  | none => none
section
variable {ν ν' : Nm} {H H' : SHp} {mp : List (Id × Id)}
theorem PV.dec_ok (hν : ∀ m, ν' m = ν (mpf mp m)) : ∀ {p : PV} {R : Type} {l r : List SV} {f : R → p.D R}, p.dec mp H R l = some (f, r) → ∀ k, (p.enc R (f k)).2 = k ∧ ∃ u, l = u ++ r ∧
  ((∀ m, p = .cur m → curAV ν' H' m = curAV ν H (mpf mp m)) → SubL (avs ν H u) (avs ν' H' (p.enc R (f k)).1) ∧ KeepL (avs ν H u) (avs ν' H' (p.enc R (f k)).1))
 | .pl y, R, l, r, f, h, k => by
  simp only [PV.dec] at h
  split at h <;> try (cases h; done)
  rename_i x r' hp
  cases h
  obtain ⟨u, e1, e2⟩ := Ty.pk_sub (ν := ν) hp
  refine ⟨rfl, u, e1, fun _ => ?_⟩
  simp only [PV.enc]
  rw [Ty.un_cells]
  refine ⟨e2, ?_⟩
  have : ∀ as bs : List AV, (∀ c ∈ bs, c.owns = false) → KeepL as bs := by
   intro as
   induction as with
   | nil => intro bs _; cases bs <;> trivial
   | cons a as ih =>
    intro bs hb
    cases bs with
    | nil => trivial
    | cons b bs => exact ⟨.inl (hb b (by simp)), ih bs fun c hc => hb c (by simp [hc])⟩
  exact this _ _ fun c hc => AV.owns_one (y.lay.one x c hc)
 | .own e, R, l, r, f, h, k => by
  simp only [PV.dec] at h
  split at h <;> try (cases h; done)
  split at h <;> try (cases h; done)
  rename_i he
  subst he; cases h
  refine ⟨rfl, [_], rfl, fun _ => ?_⟩
  simp only [PV.enc]
  rw [avs_one rfl, avs_one rfl, avs_nil, avs_nil]
  simp only [SV.av]
  exact ⟨SubL.refl, .inr rfl, trivial⟩
 | .cur m, R, l, r, f, h, k => by
  simp only [PV.dec] at h
  split at h <;> try (cases h; done)
  rename_i a r'
  split at h <;> try (cases h; done)
  rename_i ha
  cases h
  refine ⟨rfl, [_], rfl, fun hc => ?_⟩
  have h1 := hc m rfl
  rw [ieq_iff.1 ha] at h1
  simp only [PV.enc]
  rw [avs_one rfl, avs_one rfl, avs_nil, avs_nil]
  simp only [SV.av]
  rw [h1]
  refine ⟨SubL.refl, .inl ?_, trivial⟩
  unfold curAV
  cases hget H a with
  | none => rfl
  | some o => cases o <;> (try rfl); rename_i pm e xs; cases pm <;> rfl
 | .ptr m o, R, l, r, f, h, k => by
  simp only [PV.dec] at h
  split at h <;> try (cases h; done)
  split at h <;> try (cases h; done)
  rename_i ha
  simp only [Bool.and_eq_true, beq_iff_eq] at ha
  cases h
  refine ⟨rfl, [_], rfl, fun _ => ?_⟩
  simp only [PV.enc]
  rw [avs_one rfl, avs_one rfl, avs_nil, avs_nil]
  simp only [SV.av]
  rw [hν, ieq_iff.1 ha.1, ha.2]
  exact ⟨SubL.refl, .inl rfl, trivial⟩
 | .sref m sz o len cap, R, l, r, f, h, k => by
  simp only [PV.dec] at h
  split at h <;> try (cases h; done)
  split at h <;> try (cases h; done)
  rename_i ha
  simp only [Bool.and_eq_true, beq_iff_eq] at ha
  obtain ⟨h0, ⟨⟨h1, h2⟩, h3⟩, h4⟩ := ha
  subst h1 h2 h3 h4
  cases h
  refine ⟨rfl, [_], rfl, fun _ => ?_⟩
  simp only [PV.enc]
  rw [avs_one rfl, avs_one rfl, avs_nil, avs_nil]
  simp only [SV.av]
  rw [hν, ieq_iff.1 h0]
  exact ⟨SubL.refl, .inl rfl, trivial⟩
 | .fnc g, R, l, r, f, h, k => by
  simp only [PV.dec] at h
  split at h <;> try (cases h; done)
  split at h <;> try (cases h; done)
  rename_i hg
  subst hg
  cases h
  refine ⟨rfl, [_], rfl, fun _ => ?_⟩
  simp only [PV.enc]
  rw [avs_one rfl, avs_one rfl, avs_nil, avs_nil]
  simp only [SV.av, avl]
  exact ⟨SubL.refl, .inl rfl, trivial⟩
 | .nilp, R, l, r, f, h, k => by
  simp only [PV.dec] at h
  split at h <;> try (cases h; done)
  cases h
  refine ⟨rfl, [_], rfl, fun _ => ?_⟩
  simp only [PV.enc]
  rw [avs_one rfl, avs_one rfl, avs_nil, avs_nil]
  simp only [SV.av]
  exact ⟨SubL.refl, .inl rfl, trivial⟩
 | .nils, R, l, r, f, h, k => by
  simp only [PV.dec] at h
  split at h <;> try (cases h; done)
  cases h
  refine ⟨rfl, [_], rfl, fun _ => ?_⟩
  simp only [PV.enc]
  rw [avs_one rfl, avs_one rfl, avs_nil, avs_nil]
  simp only [SV.av]
  exact ⟨SubL.refl, .inl rfl, trivial⟩
 | .opt m, R, l, r, f, h, k => by
  simp only [PV.dec] at h
  split at h <;> try (cases h; done)
  ·split at h <;> try (cases h; done)
   rename_i ha
   cases h
   refine ⟨rfl, [_], rfl, fun _ => ?_⟩
   simp only [PV.enc]
   rw [avs_one rfl, avs_one rfl, avs_nil, avs_nil]
   simp only [SV.av, if_true]
   rw [hν, ieq_iff.1 ha]
   exact ⟨SubL.refl, .inl rfl, trivial⟩
  ·rename_i b a r'
   split at h <;> try (cases h; done)
   rename_i ha
   cases h
   refine ⟨rfl, [_], rfl, fun _ => ?_⟩
   simp only [PV.enc]
   rw [avs_one rfl, avs_one rfl, avs_nil, avs_nil]
   simp only [SV.av]
   rw [hν, ieq_iff.1 ha]
   refine ⟨SubL.refl, .inl ?_, trivial⟩
   cases b <;> rfl
  ·cases h
   refine ⟨rfl, [_], rfl, fun _ => ?_⟩
   simp only [PV.enc]
   rw [avs_one rfl, avs_one rfl, avs_nil, avs_nil]
   simp only [SV.av, Bool.false_eq_true, if_false]
   exact ⟨SubL.refl, .inl rfl, trivial⟩
theorem KeepL.append {as bs cs ds : List AV} (hl : as.length = bs.length) (h : KeepL as bs) (k : KeepL cs ds) : KeepL (as ++ cs) (bs ++ ds) := by
 induction as generalizing bs with
 | nil => cases bs with
  | nil => exact k
  | cons => simp at hl
 | cons a as ih => cases bs with
  | nil => simp at hl
  | cons b bs => exact ⟨h.1, ih (by simpa using hl) h.2⟩
def curIn (ps : List PV) (m : Id) : Prop := ∃ p ∈ ps, p = .cur m
theorem PVs.dec_ok (hν : ∀ m, ν' m = ν (mpf mp m)) : ∀ {ps : List PV} {R : Type} {l r : List SV} {f : R → PVs.D ps R}, PVs.dec mp H ps R l = some (f, r) → ∀ k, (PVs.enc ps R (f k)).2 = k ∧ ∃ u, l = u ++ r ∧
  ((∀ m, curIn ps m → curAV ν' H' m = curAV ν H (mpf mp m)) → SubL (avs ν H u) (avs ν' H' (PVs.enc ps R (f k)).1) ∧ KeepL (avs ν H u) (avs ν' H' (PVs.enc ps R (f k)).1))
 | [], R, l, r, f, h, k => by
  simp only [PVs.dec, Option.some.injEq, Prod.mk.injEq] at h
  obtain ⟨rfl, rfl⟩ := h
  refine ⟨rfl, [], rfl, fun _ => ?_⟩
  simp only [PVs.enc, avs_nil]
  exact ⟨SubL.nil, trivial⟩
 | p :: ps, R, l, r, f, h, k => by
  simp only [PVs.dec] at h
  split at h <;> try (cases h; done)
  rename_i f1 l1 h1
  split at h <;> try (cases h; done)
  rename_i g l2 h2
  cases h
  obtain ⟨a1, u1, a2, a3⟩ := PV.dec_ok (H' := H') hν h1 (g k)
  obtain ⟨b1, u2, b2, b3⟩ := PVs.dec_ok hν h2 k
  refine ⟨?_, u1 ++ u2, by rw [a2, b2, List.append_assoc], fun hc => ?_⟩
  ·simp only [PVs.enc]; rw [a1]; exact b1
  ·simp only [PVs.enc]
   rw [a1, avs_append, avs_append]
   obtain ⟨c1, c2⟩ := a3 fun m hm => hc m ⟨p, by simp, hm⟩
   obtain ⟨d1, d2⟩ := b3 fun m ⟨q, hq, he⟩ => hc m ⟨q, by simp [hq], he⟩
   exact ⟨c1.append d1, KeepL.append c1.length c2 d2⟩
def PS.hasCur (m : Id) : PS → Prop
 | .one p => p = .cur m
 | .agg ps => curIn ps m
theorem PS.dec_ok (hν : ∀ m, ν' m = ν (mpf mp m)) : ∀ {q : PS} {R : Type} {v : SV} {f : R → q.D R}, q.dec mp H R v = some f → ∀ k, (q.enc R (f k)).2 = k ∧
  ((∀ m, q.hasCur m → curAV ν' H' m = curAV ν H (mpf mp m)) → Sub (v.av ν H) ((q.enc R (f k)).1.av ν' H'))
 | .one p, R, v, f, h, k => by
  simp only [PS.dec] at h
  split at h <;> try (cases h; done)
  rename_i hv
  split at h <;> try (cases h; done)
  rename_i f1 h1
  cases h
  obtain ⟨a1, u1, a2, a3⟩ := PV.dec_ok (H' := H') hν h1 k
  rw [List.append_nil] at a2; subst a2
  refine ⟨a1, fun hc => ?_⟩
  obtain ⟨c1, -⟩ := a3 fun m hm => hc m hm
  rw [avs_one (by simpa using hv), avs_nil] at c1
  simp only [PS.enc]
  split
  ·rename_i w hw
   rw [hw] at c1
   split
   ·simp only [SV.av]; exact Sub.any
   ·rename_i hwv
    rw [avs_one (by simpa using hwv), avs_nil] at c1
    cases c1 with
    | cons h1 _ => exact h1
  ·simp only [SV.av]; exact Sub.any
 | .agg ps, R, v, f, h, k => by
  simp only [PS.dec] at h
  split at h <;> try (cases h; done)
  rename_i cs
  split at h <;> try (cases h; done)
  rename_i f1 h1
  cases h
  obtain ⟨a1, u1, a2, a3⟩ := PVs.dec_ok (H' := H') hν h1 k
  rw [List.append_nil] at a2; subst a2
  refine ⟨a1, fun hc => ?_⟩
  obtain ⟨c1, -⟩ := a3 hc
  simp only [PS.enc, SV.av]
  exact Sub.agg c1
theorem slX_ok (hν : ∀ m, ν' m = ν (mpf mp m)) {at_ : Nat → SV} : ∀ {l : List (Nat × PS)} {R : Type} {f : R → slD l R}, slX mp H at_ l R = some f → ∀ k, (slE l R (f k)).2 = k ∧
  ((∀ m, (∃ q ∈ l, q.2.hasCur m) → curAV ν' H' m = curAV ν H (mpf mp m)) → ∀ i, Sub ((at_ i).av ν H) ((lget (slE l R (f k)).1 i).av ν' H'))
 | [], R, f, h, k => by
  simp only [slX, Option.some.injEq] at h
  subst h
  exact ⟨rfl, fun _ i => by simp only [slE, lget, SV.av]; exact Sub.any⟩
 | (t, q) :: l, R, f, h, k => by
  simp only [slX] at h
  split at h <;> try (cases h; done)
  rename_i f1 h1
  split at h <;> try (cases h; done)
  rename_i g h2
  cases h
  obtain ⟨a1, a2⟩ := PS.dec_ok (H' := H') hν h1 (g k)
  obtain ⟨b1, b2⟩ := slX_ok hν h2 k
  refine ⟨?_, fun hc i => ?_⟩
  ·simp only [slE]; rw [a1]; exact b1
  ·simp only [slE, lget]
   rw [a1]
   split
   ·rename_i e; subst e
    exact a2 fun m hm => hc m ⟨(i, q), by simp, hm⟩
   ·exact b2 (fun m ⟨q', hq, hm⟩ => hc m ⟨q', by simp [hq], hm⟩) i
def PO.hasCur (m : Id) : PO → Prop
 | .box ps => curIn ps m
 | .obox ps => curIn ps m
 | _ => False
theorem PO.dec_ok (hν : ∀ m, ν' m = ν (mpf mp m)) : ∀ {q : PO} {R : Type} {o : SObj} {f : R → q.D R}, q.dec mp H R o = some f → ∀ k, (q.enc R (f k)).2 = k ∧
  ((∀ m, q.hasCur m → curAV ν' H' m = curAV ν H (mpf mp m)) → OSub (o.ob ν H) ((q.enc R (f k)).1.ob ν' H'))
 | .box ps, R, o, f, h, k => by
  simp only [PO.dec] at h
  split at h <;> try (cases h; done)
  rename_i cs
  split at h <;> try (cases h; done)
  rename_i f1 h1
  cases h
  obtain ⟨a1, u1, a2, a3⟩ := PVs.dec_ok (H' := H') hν h1 k
  rw [List.append_nil] at a2; subst a2
  refine ⟨a1, fun hc => ?_⟩
  obtain ⟨c1, c2⟩ := a3 hc
  simp only [PO.enc, SObj.ob]
  exact .box c1 c2
 | .tip pm e, R, o, f, h, k => by
  simp only [PO.dec] at h
  split at h <;> try (cases h; done)
  split at h <;> try (cases h; done)
  rename_i he
  split at h <;> try (cases h; done)
  subst he; cases h
  exact ⟨rfl, fun _ => .refl⟩
 | .arr e, R, o, f, h, k => by
  simp only [PO.dec] at h
  split at h <;> try (cases h; done)
  split at h <;> try (cases h; done)
  rename_i he
  subst he; cases h
  exact ⟨rfl, fun _ => .refl⟩
 | .obox ps, R, o, f, h, k => by
  simp only [PO.dec] at h
  split at h <;> try (cases h; done)
  ·rename_i cs
   split at h <;> try (cases h; done)
   rename_i f1 h1
   cases h
   obtain ⟨a1, u1, a2, a3⟩ := PVs.dec_ok (H' := H') hν h1 k
   rw [List.append_nil] at a2; subst a2
   refine ⟨a1, fun hc => ?_⟩
   obtain ⟨c1, c2⟩ := a3 hc
   simp only [PO.enc, SObj.ob, if_true]
   exact .box c1 c2
  ·rename_i b cs
   split at h <;> try (cases h; done)
   rename_i f1 h1
   cases h
   obtain ⟨a1, u1, a2, a3⟩ := PVs.dec_ok (H' := H') hν h1 k
   rw [List.append_nil] at a2; subst a2
   refine ⟨a1, fun hc => ?_⟩
   obtain ⟨c1, c2⟩ := a3 hc
   simp only [PO.enc, SObj.ob]
   cases b
   ·exact .refl
   ·exact .box c1 c2
theorem PO.dec_tip {q : PO} {R : Type} {o : SObj} {f : R → q.D R} (h : q.dec mp H R o = some f) (k : R) {pm : Bool} {e : Ty} {xs : List e.den} : o = .tip pm e xs → (q.enc R (f k)).1 = .tip pm e xs := by
 rintro rfl
 cases q with
 | box ps => simp [PO.dec] at h
 | obox ps => simp [PO.dec] at h
 | arr e => simp [PO.dec] at h
 | tip pm e =>
  simp only [PO.dec] at h
  split at h <;> try (cases h; done)
  rename_i he
  split at h <;> try (cases h; done)
  rename_i hp
  subst he; subst hp; cases h
  rfl
theorem PO.dec_nottip {q : PO} {R : Type} {o : SObj} {f : R → q.D R} (h : q.dec mp H R o = some f) (k : R) (ho : o.isTip = false) : (q.enc R (f k)).1.isTip = false := by
 cases q with
 | box ps => rfl
 | obox ps => rfl
 | arr e => rfl
 | tip pm e =>
  simp only [PO.dec] at h
  split at h <;> try (cases h; done)
  simp [SObj.isTip] at ho
theorem hpX_ok (hν : ∀ m, ν' m = ν (mpf mp m)) {hp : SHp} : ∀ {l : List (Id × PO)} {R : Type} {f : R → hpD l R}, hpX mp H hp l R = some f → ∀ k, (hpE l R (f k)).2 = k ∧ SHp.ids (hpE l R (f k)).1 = l.map (·.1) ∧
  (∀ m, m ∈ l.map (·.1) → ∃ o o', hget hp (mpf mp m) = some o ∧ hget (hpE l R (f k)).1 m = some o' ∧ (∀ pm e xs, o = .tip pm e xs → o' = .tip pm e xs) ∧ (o.isTip = false → o'.isTip = false) ∧
   ((∀ m, (∃ q ∈ l, q.2.hasCur m) → curAV ν' H' m = curAV ν H (mpf mp m)) → OSub (o.ob ν H) (o'.ob ν' H')))
 | [], R, f, h, k => by
  simp only [hpX, Option.some.injEq] at h
  subst h
  exact ⟨rfl, rfl, fun m hm => by simp at hm⟩
 | (t, q) :: l, R, f, h, k => by
  simp only [hpX] at h
  split at h <;> try (cases h; done)
  rename_i o ho
  split at h <;> try (cases h; done)
  rename_i f1 h1
  split at h <;> try (cases h; done)
  rename_i g h2
  cases h
  obtain ⟨a1, a2⟩ := PO.dec_ok (H' := H') hν h1 (g k)
  obtain ⟨b1, b2, b3⟩ := hpX_ok hν h2 k
  refine ⟨?_, ?_, fun m hm => ?_⟩
  ·simp only [hpE]; rw [a1]; exact b1
  ·simp only [hpE, SHp.ids, List.map_cons]; rw [a1]; simp only [SHp.ids] at b2; rw [b2]
  ·simp only [hpE, hget]
   rw [a1]
   by_cases e : ieq m t = true
   ·rw [if_pos e]
    rw [ieq_iff] at e; subst e
    exact ⟨o, _, ho, rfl, fun pm e xs he => PO.dec_tip h1 (g k) he, PO.dec_nottip h1 (g k), fun hc => a2 fun m' hm => hc m' ⟨(m, q), by simp, hm⟩⟩
   ·rw [if_neg e]
    have hm' : m ∈ l.map (·.1) := by
     simp only [List.map_cons, List.mem_cons] at hm
     rcases hm with hm | hm
     ·exact absurd (ieq_iff.2 hm) e
     ·exact hm
    obtain ⟨o1, o2, c1, c2, c3, c4, c5⟩ := b3 m hm'
    exact ⟨o1, o2, c1, c2, c3, c4, fun hc => c5 fun m' ⟨q', hq, hm⟩ => hc m' ⟨q', by simp [hq], hm⟩⟩
end
def pvmp : List PV → List SV → List (Id × Id)
 | [], _ => []
 | .pl y :: r, l => match cutAt y.sz l with
  | some (_, l') => pvmp r l'
  | none => []
 | .ptr m _ :: r, .ptr a _ :: l => (m, a) :: pvmp r l
 | .cur m :: r, .cur a :: l => (m, a) :: pvmp r l
 | .sref m _ _ _ _ :: r, .sref a _ _ _ _ :: l => (m, a) :: pvmp r l
 | .opt m :: r, .ptr a _ :: l => (m, a) :: pvmp r l
 | .opt m :: r, .opt _ a :: l => (m, a) :: pvmp r l
 | _ :: r, _ :: l => pvmp r l
 | _, [] => []
def PS.mp (q : PS) (v : SV) : List (Id × Id) :=
 match q, v with
 | .one p, v => pvmp [p] [v]
 | .agg ps, .agg cs => pvmp ps cs
 | _, _ => []
def spare (mp : List (Id × Id)) : SHp → Option Id → Option Id
 | [], x => x
 | (a, .obox _ _) :: r, x => if mp.any fun q => ieq q.2 a then spare mp r x else spare mp r (some a)
 | _ :: r, x => spare mp r x
def inMp (mp : List (Id × Id)) (m : Id) : Bool := mp.any fun q => ieq q.1 m
def hpmp (fb : Bool) (hp : SHp) : List (Id × PO) → List (Id × Id) → List (Id × Id)
 | [], mp => mp
 | (m, q) :: r, mp => match q with
  | .obox ps => match (if inMp mp m then some mp else if fb then (match spare mp hp none with
    | some a => some ((m, a) :: mp)
    | none => none) else none : Option (List (Id × Id))) with
   | some mp => match hget hp (mpf mp m) with
    | some (.box cs) => hpmp fb hp r (mp ++ pvmp ps cs)
    | some (.obox _ cs) => hpmp fb hp r (mp ++ pvmp ps cs)
    | _ => hpmp fb hp r mp
   | none => hpmp fb hp r mp
  | .box ps => match hget hp (mpf mp m) with
   | some (.box cs) => hpmp fb hp r (mp ++ pvmp ps cs)
   | _ => hpmp fb hp r mp
  | _ => hpmp fb hp r mp
def fixm (F : Fr) (p : Pat) : List (Id × Id) := p.hp.filterMap fun q => match q.2 with
 | .obox _ => if F.sl.any fun s => match s.2 with
   | .opt _ k => ieq k q.1
   | .ptr k _ => ieq k q.1
   | _ => false then some (q.1, q.1) else none
 | _ => none
def mkmp (F : Fr) (st : SS) (p : Pat) : List (Id × Id) := hpmp true st.hp p.hp (fixm F p ++ p.sl.flatMap fun q => q.2.mp (st.at F q.1))
def nodupI : List Id → Bool
 | [] => true
 | x :: r => !inIds r x && nodupI r
theorem nodupI_inj {f : Id → Id} : ∀ {l : List Id}, nodupI (l.map f) = true → ∀ a ∈ l, ∀ b ∈ l, f a = f b → a = b
 | [], _, a, ha, _, _, _ => by simp at ha
 | x :: r, h, a, ha, b, hb, hab => by
  simp only [List.map_cons, nodupI, Bool.and_eq_true, Bool.not_eq_true'] at h
  have hx : ∀ y ∈ r, f y ≠ f x := by
   intro y hy e
   have : inIds (r.map f) (f x) = true := inIds_iff.2 (e ▸ List.mem_map.2 ⟨y, hy, rfl⟩)
   rw [h.1] at this; cases this
  rcases List.mem_cons.1 ha with ha1 | ha1 <;> rcases List.mem_cons.1 hb with hb1 | hb1
  ·rw [ha1, hb1]
  ·rw [ha1] at hab; exact absurd hab.symm (hx b hb1)
  ·rw [hb1] at hab; exact absurd hab (hx a ha1)
  ·exact nodupI_inj h.2 a ha1 b hb1 hab
def pvCurs : List PV → List Id
 | [] => []
 | .cur m :: r => m :: pvCurs r
 | _ :: r => pvCurs r
def PS.curs : PS → List Id
 | .one p => pvCurs [p]
 | .agg ps => pvCurs ps
def PO.curs : PO → List Id
 | .box ps => pvCurs ps
 | .obox ps => pvCurs ps
 | _ => []
theorem pvCurs_mem : ∀ {ps : List PV} {m : Id}, curIn ps m → m ∈ pvCurs ps
 | [], m, ⟨p, hp, _⟩ => by simp at hp
 | q :: r, m, ⟨p, hp, he⟩ => by
  subst he
  rcases List.mem_cons.1 hp with h | h
  ·rw [← h]; simp [pvCurs]
  ·have := pvCurs_mem (ps := r) ⟨_, h, rfl⟩
   cases q <;> simp only [pvCurs] <;> first | exact this | exact List.mem_cons_of_mem _ this
theorem PS.curs_mem {q : PS} {m : Id} (h : q.hasCur m) : m ∈ q.curs := by
 cases q with
 | one p => exact pvCurs_mem ⟨p, by simp, h⟩
 | agg ps => exact pvCurs_mem h
theorem PO.curs_mem {q : PO} {m : Id} (h : q.hasCur m) : m ∈ q.curs := by
 cases q with
 | box ps => exact pvCurs_mem h
 | obox ps => exact pvCurs_mem h
 | tip pm e => exact h.elim
 | arr e => exact h.elim
theorem mpf_none : ∀ {mp : List (Id × Id)} {m : Id}, (∀ q ∈ mp, q.1 ≠ m) → mpf mp m = m
 | [], _, _ => rfl
 | (a, b) :: r, m, h => by
  simp only [mpf]
  rw [if_neg (fun e => h (a, b) (by simp) (ieq_iff.1 e).symm)]
  exact mpf_none fun q hq => h q (by simp [hq])
def pchk (F : Fr) (st : SS) (p : Pat) (mp : List (Id × Id)) : Bool :=
 let ids := p.hp.map (·.1)
 decide (st.nx ≤ p.nx) && nodupI (ids.map (mpf mp)) &&
 ids.all (fun m => !inIds (SHp.ids F.hp) (mpf mp m) && !inIds (SHp.ids F.hp) m && !(m.1 == F.lv && decide (p.nx ≤ m.2)) && (inIds F.pr m || !inIds F.pr (mpf mp m))) &&
 mp.all (fun q => !(q.1.1 == F.lv && decide (p.nx ≤ q.1.2))) &&
 (SHp.ids F.hp).all (fun f => ieq (mpf mp f) f) &&
 F.pr.all (fun a => ieq (mpf mp a) a) &&
 (SHp.ids st.hp).all (fun a => inIds (ids.map (mpf mp)) a || !inIds F.pr a) &&
 F.sl.all (fun q => q.2.mi (fun m => ieq (mpf mp m) m) (fun m => inIds (SHp.ids F.hp) m)) &&
 F.hp.all (fun q => q.2.mi (fun m => ieq (mpf mp m) m) (fun m => inIds (SHp.ids F.hp) m)) &&
 F.sl.all (fun q => !inSl st.sl q.1) && (SHp.ids st.hp).all (fun a => !inIds (SHp.ids F.hp) a) &&
 p.sl.all (fun q => q.2.curs.all (inIds ids)) && p.hp.all (fun q => q.2.curs.all (inIds ids))
def pdec0 (F : Fr) (p : Pat) (st : SS) : Option p.D :=
 let mp := mkmp F st p
 if pchk F st p mp then match slX mp (st.H F) (st.at F) p.sl (hpD p.hp Unit) with
  | some f => match hpX mp (st.H F) st.hp p.hp Unit with
   | some g => some (f (g ()))
   | none => none
  | none => none else none
theorem ids_get {H : SHp} {m : Id} (h : m ∈ SHp.ids H) : ∃ o, hget H m = some o := by
 cases hg : hget H m with
 | some o => exact ⟨o, rfl⟩
 | none => exact absurd h (hget_none hg)
theorem lget_notin {l : List (Nat × SV)} {i : Nat} (h : inSl l i = false) : lget l i = .any := by
 induction l with
 | nil => rfl
 | cons q r ih =>
  obtain ⟨k, u⟩ := q
  simp only [inSl, List.any_cons, Bool.or_eq_false_iff] at h
  simp only [lget]
  rw [if_neg (by have := h.1; simp at this; omega)]
  exact ih h.2
theorem pdec0_ok {pr : List (Id × Name)} {df : Nat} {S0 : AHeap} {F : Fr} {st : SS} {ν : Nm} {d : Nat} {sl : Slots} {p : Pat} {x : p.D} (hok : Okk pr df S0 F st ν d) (hs : SlEq ν F st sl) (h : pdec0 F p st = some x) :
  ∃ ν' : Nm, ν'.fn = ν.fn ∧ (∀ f ∈ SHp.ids F.hp, ν' f = ν f) ∧ Okk pr df S0 F (p.enc x) ν' d ∧ Ghost d sl (heapOf ν F st S0) st.nx (slotsOf ν' F (p.enc x)) (heapOf ν' F (p.enc x) S0) (p.enc x).nx := by
 unfold pdec0 at h
 simp only at h
 split at h <;> try (cases h; done)
 rename_i hchk
 generalize hmp : mkmp F st p = mp at h hchk
 split at h <;> try (cases h; done)
 rename_i f hf
 split at h <;> try (cases h; done)
 rename_i g hg
 cases h
 simp only [pchk, Bool.and_eq_true, decide_eq_true_eq] at hchk
 obtain ⟨⟨⟨⟨⟨⟨⟨⟨⟨⟨⟨⟨k1, k2⟩, k3⟩, k4⟩, k5⟩, k6⟩, k7⟩, k8⟩, k9⟩, k10⟩, k11⟩, k12⟩, k13⟩ := hchk
 let ν' : Nm := ⟨fun m => ν (mpf mp m), ν.fn⟩
 have hν : ∀ m, ν' m = ν (mpf mp m) := fun _ => rfl
 generalize hst' : p.enc (f (g ())) = st'
 have hsl2 : (slE p.sl (hpD p.hp Unit) (f (g ()))).2 = g () := (slX_ok (ν := ν) (ν' := ν') (H := st.H F) (H' := st'.H F) hν hf (g ())).1
 have hst_hp : st'.hp = (hpE p.hp Unit (g ())).1 := by rw [← hst']; simp only [Pat.enc]; rw [hsl2]
 have hst_sl : st'.sl = (slE p.sl (hpD p.hp Unit) (f (g ()))).1 := by rw [← hst']; rfl
 have hst_nx : st'.nx = p.nx := by rw [← hst']; rfl
 obtain ⟨-, hids, hobs⟩ := hpX_ok (ν := ν) (ν' := ν') (H := st.H F) (H' := st'.H F) hν hg ()
 rw [← hst_hp] at hids hobs
 have hH' : st'.H F = st'.hp ++ F.hp := rfl
 have hmemH : ∀ a, a ∈ SHp.ids (st'.H F) ↔ a ∈ p.hp.map (·.1) ∨ a ∈ SHp.ids F.hp := by
  intro a; rw [hH', ids_append, hids, List.mem_append]
 have q3 : ∀ m ∈ p.hp.map (·.1), mpf mp m ∉ SHp.ids F.hp ∧ m ∉ SHp.ids F.hp ∧ ¬ (m.1 = F.lv ∧ p.nx ≤ m.2) ∧ (m ∈ F.pr ∨ mpf mp m ∉ F.pr) := by
  intro m hm
  have := List.all_eq_true.1 k3 m hm
  simp only [Bool.and_eq_true, Bool.not_eq_true', Bool.and_eq_false_iff, beq_eq_false_iff_ne, decide_eq_false_iff_not, Bool.or_eq_true, inIds_iff] at this
  obtain ⟨⟨⟨h1, h2⟩, h3⟩, h4⟩ := this
  refine ⟨fun hc => ?_, fun hc => ?_, fun ⟨a, b⟩ => ?_, ?_⟩
  ·rw [inIds_iff.2 hc] at h1; cases h1
  ·rw [inIds_iff.2 hc] at h2; cases h2
  ·rcases h3 with h3 | h3
   ·exact h3 a
   ·exact h3 b
  ·rcases h4 with h4 | h4
   ·exact .inl h4
   ·right; intro hc; rw [inIds_iff.2 hc] at h4; cases h4
 have q4 : ∀ k, p.nx ≤ k → mpf mp (F.lv, k) = (F.lv, k) := by
  intro k hk
  refine mpf_none fun q hq e => ?_
  have := List.all_eq_true.1 k4 q hq
  rw [e] at this
  simp at this; omega
 have q5 : ∀ a ∈ SHp.ids F.hp, mpf mp a = a := fun a ha => ieq_iff.1 (List.all_eq_true.1 k5 a ha)
 have q6 : ∀ a ∈ F.pr, mpf mp a = a := fun a ha => ieq_iff.1 (List.all_eq_true.1 k6 a ha)
 have q7 : ∀ a ∈ SHp.ids st.hp, (∃ m ∈ p.hp.map (·.1), mpf mp m = a) ∨ a ∉ F.pr := by
  intro a ha
  have := List.all_eq_true.1 k7 a ha
  rw [Bool.or_eq_true, inIds_iff] at this
  rcases this with h1 | h1
  ·obtain ⟨m, hm, e⟩ := List.mem_map.1 h1; exact .inl ⟨m, hm, e⟩
  ·right; intro hc; rw [inIds_iff.2 hc] at h1; cases h1
 have q11 : ∀ a ∈ SHp.ids st.hp, a ∉ SHp.ids F.hp := by
  intro a ha hc
  have := List.all_eq_true.1 k11 a ha
  rw [inIds_iff.2 hc] at this; cases this
 have hmapmem : ∀ m ∈ p.hp.map (·.1), mpf mp m ∈ SHp.ids st.hp := by
  intro m hm
  obtain ⟨o, o', h1, -⟩ := hobs m hm
  exact hget_mem h1
 have hmapmemH : ∀ m ∈ p.hp.map (·.1), mpf mp m ∈ SHp.ids (st.H F) := by
  intro m hm; rw [SS.H, ids_append]; exact List.mem_append_left _ (hmapmem m hm)
 have hFmem : ∀ a ∈ SHp.ids F.hp, a ∈ SHp.ids (st.H F) := by
  intro a ha; rw [SS.H, ids_append]; exact List.mem_append_right _ ha
 have hgF : ∀ a ∈ SHp.ids F.hp, hget (st.H F) a = hget F.hp a ∧ hget (st'.H F) a = hget F.hp a := by
  intro a ha
  have h1 : hget st.hp a = none := by
   cases hc : hget st.hp a with
   | none => rfl
   | some o => exact absurd ha (q11 a (hget_mem hc))
  have h2 : hget st'.hp a = none := by
   cases hc : hget st'.hp a with
   | none => rfl
   | some o =>
    have := hget_mem hc
    rw [hids] at this
    exact absurd ha (q3 a this).2.1
  constructor
  ·rw [SS.H, hget_append, h1]
  ·rw [hH', hget_append, h2]
 have hgp : ∀ m ∈ p.hp.map (·.1), ∃ o o', hget (st.H F) (mpf mp m) = some o ∧ hget (st'.H F) m = some o' ∧ (∀ pm e xs, o = .tip pm e xs → o' = .tip pm e xs) ∧ (o.isTip = false → o'.isTip = false) := by
  intro m hm
  obtain ⟨o, o', h1, h2, h3, h4, -⟩ := hobs m hm
  exact ⟨o, o', hgetH h1, by rw [hH', hget_append, h2], h3, h4⟩
 have hcurp : ∀ m ∈ p.hp.map (·.1), curAV ν' (st'.H F) m = curAV ν (st.H F) (mpf mp m) := by
  intro m hm
  obtain ⟨o, o', h1, h2, h3, h4⟩ := hgp m hm
  unfold curAV
  rw [h1, h2]
  cases o with
  | tip pm e xs => rw [h3 pm e xs rfl]
  | box cs => have := h4 rfl; cases o' <;> first | rfl | (simp [SObj.isTip] at this)
  | arr e xs => have := h4 rfl; cases o' <;> first | rfl | (simp [SObj.isTip] at this)
  | obox b cs => have := h4 rfl; cases o' <;> first | rfl | (simp [SObj.isTip] at this)
 have hcurF : ∀ m ∈ SHp.ids F.hp, curAV ν (st.H F) m = curAV ν' (st'.H F) m := by
  intro m hm
  obtain ⟨h1, h2⟩ := hgF m hm
  unfold curAV
  rw [h1, h2]
  show _ = match hget F.hp m with
   | some (.tip true e xs) => eT e.lay (ν (mpf mp m)) xs
   | some (.tip false e xs) => eB e.lay (ν (mpf mp m)) xs
   | _ => .any
  rw [q5 m hm]
  rfl
 have hmi1 : ∀ m, ieq (mpf mp m) m = true → ν m = ν' m := by
  intro m hm
  show ν m = ν (mpf mp m)
  rw [ieq_iff.1 hm]
 have hmi2 : ∀ m, inIds (SHp.ids F.hp) m = true → curAV ν (st.H F) m = curAV ν' (st'.H F) m := fun m hm => hcurF m (inIds_iff.1 hm)
 have hcs : ∀ m, (∃ q ∈ p.sl, q.2.hasCur m) → curAV ν' (st'.H F) m = curAV ν (st.H F) (mpf mp m) := by
  rintro m ⟨q, hq, hm⟩
  exact hcurp m (inIds_iff.1 (List.all_eq_true.1 (List.all_eq_true.1 k12 q hq) m (PS.curs_mem hm)))
 have hco : ∀ m, (∃ q ∈ p.hp, q.2.hasCur m) → curAV ν' (st'.H F) m = curAV ν (st.H F) (mpf mp m) := by
  rintro m ⟨q, hq, hm⟩
  exact hcurp m (inIds_iff.1 (List.all_eq_true.1 (List.all_eq_true.1 k13 q hq) m (PO.curs_mem hm)))
 have hok' : Okk pr df S0 F st' ν' d := by
  refine ⟨?_, ?_, ?_, ?_, hok.low, hok.none, ?_, hok.prs⟩
  ·intro a ha b hb hab
   rcases (hmemH a).1 ha with ha | ha <;> rcases (hmemH b).1 hb with hb | hb
   ·exact nodupI_inj k2 a ha b hb (hok.inj _ (hmapmemH a ha) _ (hmapmemH b hb) hab)
   ·have hab' : ν (mpf mp a) = ν b := by
     have h0 : ν (mpf mp a) = ν (mpf mp b) := hab
     rw [q5 b hb] at h0; exact h0
    have := hok.inj _ (hmapmemH a ha) _ (hFmem b hb) hab'
    exact absurd hb (this ▸ (q3 a ha).1)
   ·have hab' : ν a = ν (mpf mp b) := by
     have h0 : ν (mpf mp a) = ν (mpf mp b) := hab
     rw [q5 a ha] at h0; exact h0
    have := hok.inj _ (hFmem a ha) _ (hmapmemH b hb) hab'
    exact absurd ha (this ▸ (q3 b hb).1)
   ·have hab' : ν a = ν b := by
     have h0 : ν (mpf mp a) = ν (mpf mp b) := hab
     rw [q5 a ha, q5 b hb] at h0; exact h0
    exact hok.inj _ (hFmem a ha) _ (hFmem b hb) hab'
  ·intro a ha k hk
   rw [hst_nx] at hk
   rcases (hmemH a).1 ha with ha | ha
   ·exact hok.fr _ (hmapmemH a ha) k (by omega)
   ·show ν (mpf mp a) ≠ _
    rw [q5 a ha]; exact hok.fr _ (hFmem a ha) k (by omega)
  ·intro k hk
   rw [hst_nx] at hk
   show ν (mpf mp (F.lv, k)) = _
   rw [q4 k hk]; exact hok.lev k (by omega)
  ·intro a ha hp
   rcases (hmemH a).1 ha with ha | ha
   ·exact hok.base _ (hmapmemH a ha) ((q3 a ha).2.2.2.resolve_left hp)
   ·show df ≤ (ν (mpf mp a)).1
    rw [q5 a ha]; exact hok.base _ (hFmem a ha) hp
  ·intro q hq
   show ν (mpf mp q.1) = q.2
   rw [q6 q.1 (by rw [hok.prs]; exact List.mem_map.2 ⟨q, hq, rfl⟩)]
   exact hok.par q hq
 refine ⟨ν', rfl, fun a ha => by show ν (mpf mp a) = ν a; rw [q5 a ha], hok', ?_⟩
 have hslots : SlW sl (slotsOf ν' F st') := by
  intro i
  rw [hs i, sget_slotsOf]
  have hat : st'.at F i = if inSl st'.sl i then lget st'.sl i else lget F.sl i := by
   show lget (st'.sl ++ F.sl) i = _
   rw [lget_append]; rfl
  rw [hat]
  split
  ·rw [hst_sl]
   exact (slX_ok hν hf (g ())).2 hcs i
  ·cases hF : inSl F.sl i with
   | false => rw [lget_notin hF]; simp only [SV.av]; exact Sub.any
   | true =>
    have hns : inSl st.sl i = false := by
     simp only [inSl, List.any_eq_true] at hF
     obtain ⟨q, hq, e⟩ := hF
     have := List.all_eq_true.1 k10 q hq
     simp only [beq_iff_eq] at e
     rw [e] at this
     simpa using this
    have hat2 : st.at F i = lget F.sl i := by
     simp only [SS.at, lget_append]
     simp only [inSl] at hns
     rw [hns]; rfl
    rw [hat2]
    refine Sub.of_eq (SV.mi_congr hmi1 hmi2 rfl ?_)
    have : ∀ l : List (Nat × SV), (l.all fun q => q.2.mi (fun m => ieq (mpf mp m) m) (fun m => inIds (SHp.ids F.hp) m)) = true → (lget l i).mi (fun m => ieq (mpf mp m) m) (fun m => inIds (SHp.ids F.hp) m) = true := by
     intro l hl
     induction l with
     | nil => rfl
     | cons q r ih =>
      obtain ⟨k, u⟩ := q
      simp only [List.all_cons, Bool.and_eq_true] at hl
      simp only [lget]
      split
      ·exact hl.1
      ·exact ih hl.2
    exact this _ k8
 have hheap : ∀ n o', heapOf ν' F st' S0 n = some o' → ∃ o, heapOf ν F st S0 n = some o ∧ OSub o o' := by
  intro n o' hn
  by_cases hex : ∃ a ∈ SHp.ids (st'.H F), ν' a = n
  ·obtain ⟨a, ha, rfl⟩ := hex
   obtain ⟨oo, hoo⟩ := ids_get ha
   have h1 := hok'.hok a oo hoo
   rw [h1] at hn
   cases hn
   rcases (hmemH a).1 ha with ha | ha
   ·obtain ⟨o1, o2, c1, c2, -, -, c5⟩ := hobs a ha
    have : oo = o2 := by
     rw [hH', hget_append, c2] at hoo
     exact (Option.some.inj hoo).symm
    subst this
    exact ⟨_, hok.hok _ _ (hgetH c1), c5 hco⟩
   ·obtain ⟨c1, c2⟩ := hgF a ha
    rw [c2] at hoo
    refine ⟨oo.ob ν (st.H F), ?_, OSub.of (SObj.mi_congr hmi1 hmi2 rfl ?_)⟩
    ·have h2 := hok.hok a oo (by rw [c1]; exact hoo)
     show heapOf ν F st S0 (ν (mpf mp a)) = _
     rw [q5 a ha]; exact h2
    ·have hall := List.all_eq_true.1 k9
     have : ∀ (H : SHp), hget H a = some oo → ∃ q ∈ H, q.2 = oo := by
      intro H
      induction H with
      | nil => intro h; cases h
      | cons q r ih =>
       obtain ⟨j, w⟩ := q
       intro h
       simp only [hget] at h
       split at h
       ·cases h; exact ⟨(j, oo), List.mem_cons_self, rfl⟩
       ·obtain ⟨q, hq, e⟩ := ih h; exact ⟨q, by simp [hq], e⟩
     obtain ⟨q, hq, e⟩ := this _ hoo
     rw [← e]; exact hall q hq
  ·have h0 : heapOf ν' F st' S0 n = S0 n := hp_miss (f := fun o => o.ob ν' (st'.H F)) fun a ha e => hex ⟨a, ha, e⟩
   rw [h0] at hn
   by_cases hb : ∃ b ∈ SHp.ids (st.H F), ν b = n
   ·obtain ⟨b, hb, rfl⟩ := hb
    exfalso
    rw [SS.H, ids_append, List.mem_append] at hb
    rcases hb with hb | hb
    ·rcases q7 b hb with ⟨m, hm, e⟩ | hp
     ·exact hex ⟨m, (hmemH m).2 (.inl hm), by show ν (mpf mp m) = ν b; rw [e]⟩
     ·have := hok.none _ (hok.base b (by rw [SS.H, ids_append]; exact List.mem_append_left _ hb) hp)
      rw [this] at hn; cases hn
    ·exact hex ⟨b, (hmemH b).2 (.inr hb), by show ν (mpf mp b) = ν b; rw [q5 b hb]⟩
   ·refine ⟨o', ?_, .refl⟩
    rw [← hn]
    exact hp_miss (f := fun o => o.ob ν (st.H F)) fun a ha e => hb ⟨a, ha, e⟩
 have hnone : ∀ n, heapOf ν F st S0 n = none → heapOf ν' F st' S0 n = none := by
  intro n hn
  cases hc : heapOf ν' F st' S0 n with
  | none => rfl
  | some o' => obtain ⟨o, h1, -⟩ := hheap n o' hc; rw [hn] at h1; cases h1
 refine (Ghost.slots hslots).trans ?_
 refine Ghost.trans (S' := heapOf ν' F st' S0) (c' := st.nx) ?_ (Ghost.count (by rw [hst_nx]; exact k1))
 intro K w ts hsat ht hf
 exact ⟨K, ⟨Kle.refl _ _, hsat.osub hheap hnone, Below.refl _ _, fun n _ => hnone n⟩, ht, hf.1, fun i hi => ⟨(hf.2 i hi).1, hnone _ (hf.2 i hi).2⟩⟩
def nrmPs (F : Fr) (H : SHp) (m : Id) : Nat → List PV → List SV → List Gs
 | _, [], _ => []
 | _, _, [] => []
 | p, .own e :: ps, c :: cs => match c with
  | .cur k => fgoOf F H k m ++ .cls m p :: nrmPs F H m (p + 1) ps cs
  | .lit (.slice none 0 0) => .oni m p e :: nrmPs F H m (p + 1) ps cs
  | .empt => .oni m p e :: nrmPs F H m (p + 1) ps cs
  | c => nrmPs F H m (p + c.w) ps cs
 | p, .pl y :: ps, c :: cs => match cutAt y.sz (c :: cs) with
  | some (_, r) => nrmPs F H m (p + y.sz) ps r
  | none => []
 | p, _ :: ps, c :: cs => nrmPs F H m (p + c.w) ps cs
def sghT (F : Fr) : List Gs → SS → SS
 | [], st => st
 | g :: r, st => match sgh F g st with
  | some st' => sghT F r st'
  | none => sghT F r st
def dumPs (mp tm : List (Id × Id)) : List PV → List SV
 | [] => []
 | .pl y :: r => y.un y.dflt ++ dumPs mp tm r
 | .own e :: r => .own e [] :: dumPs mp tm r
 | .cur m :: r => .cur (mpf tm m) :: dumPs mp tm r
 | .ptr m o :: r => .ptr (mpf mp m) o :: dumPs mp tm r
 | .nilp :: r => .lit (.pointer none) :: dumPs mp tm r
 | .nils :: r => .lit (.slice none 0 0) :: dumPs mp tm r
 | .fnc g :: r => .fn (.func g) [] [] :: dumPs mp tm r
 | .opt m :: r => .opt false (mpf mp m) :: dumPs mp tm r
 | .sref m sz o len cap :: r => .sref (mpf mp m) sz o len cap :: dumPs mp tm r
def dumTs (lv : Nat) (hp : List (Id × PO)) : Nat → List PV → List (Id × Id) × List Gs
 | _, [] => ([], [])
 | n, .cur m :: r => match hp.find? fun q => ieq q.1 m with
  | some (_, .tip pm e) => ((m, (lv, n)) :: (dumTs lv hp (n + 1) r).1, .dumT pm e :: (dumTs lv hp (n + 1) r).2)
  | _ => dumTs lv hp n r
 | n, _ :: r => dumTs lv hp n r
def dumGs (F : Fr) (p : Pat) (st : SS) (mp : List (Id × Id)) : Nat → List (Id × PO) → List Gs
 | _, [] => []
 | n, (m, q) :: r => match q with
  | .obox ps => if inMp mp m then dumGs F p st mp n r else
    let t := dumTs F.lv p.hp n ps
    t.2 ++ .dum (dumPs mp t.1 ps) :: dumGs F p st mp (n + t.2.length + 1) r
  | _ => dumGs F p st mp n r
def nrmGs (F : Fr) (p : Pat) (st : SS) : List Gs :=
 let mp := hpmp false st.hp p.hp (fixm F p ++ p.sl.flatMap fun q => q.2.mp (st.at F q.1))
 (p.sl.filterMap fun q => match q.2, lget st.sl q.1 with
  | .one (.pl (.list _)), .cur k => match hget st.hp k with
   | some (.tip false _ _) => some (.frz q.1)
   | _ => none
  | _, _ => none) ++
 (p.hp.flatMap fun q => match q.2, hget st.hp (mpf mp q.1) with
  | .box ps, some (.box cs) => nrmPs F st.hp (mpf mp q.1) 0 ps cs
  | .obox ps, some (.box cs) => nrmPs F st.hp (mpf mp q.1) 0 ps cs
  | _, _ => []) ++ dumGs F p st mp st.nx p.hp
def snorm (F : Fr) (p : Pat) (st : SS) : SS := sghT F (nrmGs F p st) st
def pdec (F : Fr) (p : Pat) (st : SS) : Option p.D := pdec0 F p (snorm F p st)
theorem sghT_ok {pr : List (Id × Name)} {df : Nat} {S0 : AHeap} {F : Fr} : ∀ {gs : List Gs} {st : SS}, GhS pr df S0 F st (sghT F gs st)
 | [], st => GhS.refl
 | g :: r, st => by
  simp only [sghT]
  split
  ·rename_i s1 h1; exact GhS.trans (sgh_ok h1) sghT_ok
  ·exact sghT_ok
theorem pdec_ok {pr : List (Id × Name)} {df : Nat} {S0 : AHeap} {F : Fr} {st : SS} {ν : Nm} {d : Nat} {sl : Slots} {p : Pat} {x : p.D} (hok : Okk pr df S0 F st ν d) (hs : SlEq ν F st sl) (h : pdec F p st = some x) :
  ∃ ν' : Nm, ν'.fn = ν.fn ∧ (∀ f ∈ SHp.ids F.hp, ν' f = ν f) ∧ Okk pr df S0 F (p.enc x) ν' d ∧ Ghost d sl (heapOf ν F st S0) st.nx (slotsOf ν' F (p.enc x)) (heapOf ν' F (p.enc x) S0) (p.enc x).nx := by
 obtain ⟨h1, h2⟩ := sghT_ok (gs := nrmGs F p st) hok hs
 obtain ⟨ν', k1, k2, k3, k4⟩ := pdec0_ok h1 SlEq.of h
 exact ⟨ν', k1, k2, k3, h2.trans k4⟩
end Go.Al
