import Derived.Test.YtolfnhebnennpaaAmR
import Derived.Test.YtolfnhebnennpaaAmD
import Derived.Test.YtolfnhebnennpaaAmS
import Derived.Test.YtolfnhebnennpaaAmU
set_option linter.unusedSimpArgs false
set_option linter.unusedVariables false
namespace Go.Al
open Go Go.RowKit
def lopsG (P : Program) (T : Tab) (d : Nat) : List LOp → Slots → AHeap → Nat → (Slots → AHeap → Nat → Prop) → (AV → AHeap → Prop) → Prop
 | [], sl, S, c, k, _ => ∃ sl' S' c', Ghost d sl S c sl' S' c' ∧ k sl' S' c'
 | o :: r, sl, S, c, k, kp => ∃ sl' S' c', Ghost d sl S c sl' S' c' ∧ match o.guard with
  | none => lop P T d o sl' S' c' (fun sl S c => lopsG P T d r sl S c k kp) kp
  | some (t, b) => match sget sl' t with
   | .lit (.bool g) => (g = b → lop P T d o sl' S' c' (fun sl S c => lopsG P T d r sl S c k kp) kp) ∧ (g ≠ b → lopsG P T d r (put sl' o.dst (.lit undef)) S' c' k kp)
   | .lit (.tuple _) => lopsG P T d r (put sl' o.dst (.lit undef)) S' c' k kp
   | _ => False
theorem lopsG_gh {P : Program} {T : Tab} {d : Nat} {l : List LOp} {sl sl' : Slots} {S S' : AHeap} {c c' : Nat} {k : Slots → AHeap → Nat → Prop} {kp : AV → AHeap → Prop} (hg : Ghost d sl S c sl' S' c') (h : lopsG P T d l sl' S' c' k kp) : lopsG P T d l sl S c k kp := by
 cases l with
 | nil => obtain ⟨a, b, e, h1, h2⟩ := h; exact ⟨a, b, e, hg.trans h1, h2⟩
 | cons o r => obtain ⟨a, b, e, h1, h2⟩ := h; exact ⟨a, b, e, hg.trans h1, h2⟩
theorem lopsG_soundK {P : Program} {T : Tab} (hT : TOk P T) {N d : Nat} {K0 : Kn} {S0 : AHeap} {w0 : World} {ops : Array Oper} (hd : ∀ o ∈ ops, ∀ i, o.dst = some i → i < N) (hg : guardsOk ops = true) {Q : Post} {l2 : List Nat} {k : Slots → AHeap → Nat → Prop}
  (hk : ∀ {sl : Slots} {S : AHeap} {c : Nat} {a : Act} {w : World} {K : Kn}, k sl S c → Stt P N d K0 S0 w0 sl S c a w K → wpOps P ops (CPost P N d K0 S0 w0 Q) l2 a w) :
  ∀ (l : List Nat) (los : List LOp), (∀ i ∈ l, i < ops.size) → los = l.filterMap (fun i => (ops[i]?).map (LOp.of ops)) → ∀ {sl : Slots} {S : AHeap} {c : Nat} {a : Act} {w : World} {K : Kn}, Stt P N d K0 S0 w0 sl S c a w K →
   lopsG P T d los sl S c k (fun x S => Q (.pan x) [] S 0) → wpOps P ops (CPost P N d K0 S0 w0 Q) (l ++ l2) a w
 | [], los, _, he, sl, S, c, a, w, K, h, hl => by
  subst he
  obtain ⟨sl', S', c', hgh, hl⟩ := hl
  obtain ⟨K', h⟩ := h.ghost hgh
  exact hk hl h
 | i :: l, los, hi, he, sl, S, c, a, w, K, h, hl => by
  have hilt := hi i (by simp)
  have hio : ops[i]? = some ops[i] := Array.getElem?_eq_getElem hilt
  have hmem : ops[i] ∈ ops := Array.getElem_mem hilt
  generalize ops[i] = o at hio hmem
  have he' : los = LOp.of ops o :: l.filterMap (fun i => (ops[i]?).map (LOp.of ops)) := by
   rw [he, List.filterMap_cons]; simp [hio]
  subst he'
  have ih := fun {sl S c a w K} => @lopsG_soundK P T hT N d K0 S0 w0 ops hd hg Q l2 k hk l _ (fun j hj => hi j (by simp [hj])) rfl sl S c a w K
  simp only [lopsG] at hl
  obtain ⟨sl1, S1, c1, hgh, hl⟩ := hl
  obtain ⟨K1, h⟩ := h.ghost hgh
  simp only [List.cons_append, wpOps, hio]
  have hop : ∀ {o' : Oper}, o' = o → lop P T d (LOp.of ops o) sl1 S1 c1 (fun sl S c => lopsG P T d (l.filterMap (fun i => (ops[i]?).map (LOp.of ops))) sl S c k (fun x S => Q (.pan x) [] S 0)) (fun x S => Q (.pan x) [] S 0) →
    o.wp P a w (wpOps P ops (CPost P N d K0 S0 w0 Q) (l ++ l2)) (CPost P N d K0 S0 w0 Q) := by
   rintro o' rfl hl
   have h1 := lop_sound hT h (o := o') (lo := LOp.of ops o') rfl rfl (hd o' hmem) hl
   have h2 := Oper.wp_mono (K' := wpOps P ops (CPost P N d K0 S0 w0 Q) (l ++ l2)) (fun a' w' ⟨sl', S', c', K', hk, hst⟩ => ih hst hk) h1
   unfold Oper.wp at h2 ⊢
   revert h2
   generalize (execOp a.eval o').run P w = r
   intro h2
   cases r with
   | ok n w' =>
    cases n <;> simp only [Oper.upon] at h2 ⊢ <;> try exact h2
    refine Calls.mono h2 fun e w'' he => ?_
    cases e with
    | returned v => exact he
    | panicked ch => exact he
    | outgrown => obtain ⟨_, _, x, S', K', v, he', _⟩ := he; cases he'
   | halt x w' => cases x <;> simp only [Oper.upon] at h2 ⊢ <;> exact h2
  cases hgd : o.guard with
  | none =>
   have : Region.wanted o (yielded ops a.tmps) = true := by simp [Region.wanted, hgd]
   rw [if_pos this]
   simp only [LOp.of, hgd] at hl
   exact .inl (hop rfl (by simpa [LOp.of, hgd] using hl))
  | some jb =>
   obtain ⟨j, b⟩ := jb
   have hgj : ((ops[j]?).bind (·.dst)).isSome = true := by
    have := Array.all_eq_true_iff_forall_mem.1 hg o hmem
    simpa [hgd] using this
   obtain ⟨t, ht⟩ := Option.isSome_iff_exists.1 hgj
   simp only [LOp.of, hgd, ht, Option.getD_some] at hl
   split at hl <;> try exact hl.elim
   rotate_left
   ·rename_i vs hsg
    have hy := yielded_none h.sim ht hsg
    have hw : ¬ (Region.wanted o (yielded ops a.tmps) = true) := by simp [Region.wanted, hgd, hy]
    rw [if_neg hw]
    exact ih (h.put (Step.refl d h.step.sat) h.fresh (hd o hmem) (by simp only [SimV])) hl
   rename_i g hsg
   have hy := yielded_of h.sim ht hsg
   by_cases hgb : g = b
   ·have hw : Region.wanted o (yielded ops a.tmps) = true := by simp [Region.wanted, hgd, hy, hgb]
    rw [if_pos hw]
    exact .inl (hop rfl (by simpa [LOp.of, hgd, ht] using hl.1 hgb))
   ·have hw : ¬ (Region.wanted o (yielded ops a.tmps) = true) := by simp [Region.wanted, hgd, hy, hgb]
    rw [if_neg hw]
    exact ih (h.put (Step.refl d h.step.sat) h.fresh (hd o hmem) (by simp only [SimV])) (hl.2 hgb)
theorem lopsG_sound {P : Program} {T : Tab} (hT : TOk P T) {N d : Nat} {K0 : Kn} {S0 : AHeap} {w0 : World} {ops : Array Oper} (hd : ∀ o ∈ ops, ∀ i, o.dst = some i → i < N) (hg : guardsOk ops = true) {Q : Post}
  (l : List Nat) (los : List LOp) (hi : ∀ i ∈ l, i < ops.size) (he : los = l.filterMap (fun i => (ops[i]?).map (LOp.of ops))) {sl : Slots} {S : AHeap} {c : Nat} {a : Act} {w : World} {K : Kn} (h : Stt P N d K0 S0 w0 sl S c a w K)
  (hl : lopsG P T d los sl S c (Q .normal) (fun x S => Q (.pan x) [] S 0)) : wpOps P ops (CPost P N d K0 S0 w0 Q) l a w := by
 have := lopsG_soundK hT hd hg (Q := Q) (l2 := []) (k := Q .normal) (fun {sl S c a w K} hq hst => ⟨sl, S, c, K, hq, hst⟩) l los hi he h hl
 rwa [List.append_nil] at this
inductive PV where
 | pl (y : Ty)
 | own (e : Ty)
 | cur (m : Id)
 | ptr (m : Id) (o : Nat)
 | nilp
 | nils
 | fnc (g : FuncId)
 | sref (m : Id) (sz o len cap : Nat)
 | opt (m : Id)
inductive PS where
 | one (p : PV)
 | agg (ps : List PV)
inductive PO where
 | box (ps : List PV)
 | tip (pm : Bool) (e : Ty)
 | arr (e : Ty)
 | obox (ps : List PV)
structure Pat where
 sl : List (Nat × PS)
 hp : List (Id × PO)
 nx : Nat
inductive Gs where
 | nam (t : Nat) (pm : Bool) (e : Ty)
 | can (t : Nat) (y : Ty)
 | drop (ts : List Nat)
 | uncur (t : Nat) (m : Id)
 | namB (m : Id) (i : Nat) (e : Ty)
 | frz (t : Nat)
 | opn (m : Id) (i : Nat)
 | cls (m : Id) (i : Nat)
 | oni (m : Id) (i : Nat) (e : Ty)
 | fgo (m : Id)
 | dum (cs : List SV)
 | dumT (pm : Bool) (e : Ty)
inductive XH where
 | plan (p : Plan)
 | planq (qf : List FuncId) (p : Plan)
 | pre (g : List Gs)
 | join (p : Pat)
 | lets (p : Pat)
 | loop (p : Pat) (lv : Nat)
 | upd
 | bld (r : Nat)
 | fra (t : Nat)
 | res (ts : List Nat)
 | cuts
structure BOp where
 t : TypeId
 n : Nat
 ps : Array (Nat × Operand)
 r : Nat
structure UOp where
 ti : TypeId
 s : Nat
 i : Operand
 q : Nat
 tv : TypeId
 x : Operand
inductive XC where
 | skip
 | reg (ops : List LOp)
 | drw (qf : List FuncId) (ops : List (LOp × Bool))
 | seq (x y : XC)
 | cond (c : Operand) (x y : XC)
 | block (id : Nat) (x : XC)
 | loop (x : XC)
 | exit (id : Nat)
 | ret
 | hint (h : XH) (x : XC)
 | chn (g : Operand) (t t' : Nat) (x : XC)
 | upd (ops : List LOp) (u : UOp)
 | bld (ops : List LOp) (b : BOp) (post : List LOp)
def hintOf (hs : List (Nat × XH)) (n : Nat) (x : XC) : XC :=
 match hs with
 | [] => x
 | (i, h) :: r => if i = n then .hint h (hintOf r n x) else hintOf r n x
def planAt (hs : List (Nat × XH)) (n : Nat) : Plan :=
 match hs with
 | [] => []
 | (i, .plan p) :: r => if i = n then p else planAt r n
 | (i, .planq _ p) :: r => if i = n then p else planAt r n
 | _ :: r => planAt r n
def quietAt (hs : List (Nat × XH)) (n : Nat) : List FuncId :=
 match hs with
 | [] => []
 | (i, .planq q _) :: r => if i = n then q else quietAt r n
 | _ :: r => quietAt r n
def mkAnc : List Sk → List Nat → List Nat
 | [], b => b
 | s :: r, b => mkAnc r (b ++ [ancs b s])
def splitU : List Oper → Option (List Oper × Oper × Oper)
 | [] => none
 | x :: r => match r with
  | [] => none
  | [b] => some ([], x, b)
  | _ => match splitU r with
   | some (p, a, b) => some (x :: p, a, b)
   | none => none
theorem splitU_some : ∀ {l p : List Oper} {a b : Oper}, splitU l = some (p, a, b) → l = p ++ [a, b]
 | [], _, _, _, h => nomatch h
 | [x], _, _, _, h => nomatch h
 | [x, y], p, a, b, h => by cases h; rfl
 | x :: y :: z :: r, p, a, b, h => by
  simp only [splitU] at h
  cases hr : splitU (y :: z :: r) with
  | none => simp only [splitU] at hr; rw [hr] at h; cases h
  | some q =>
   obtain ⟨p', a', b'⟩ := q
   have ih := splitU_some hr
   simp only [splitU] at hr
   rw [hr] at h
   cases h
   rw [ih]; rfl
def notTmp (q : Nat) : Operand → Bool
 | .tmp t => t != q
 | _ => true
def uop1 (ti : TypeId) (s : Nat) (i : Operand) (q : Nat) (b : Oper) : Option UOp :=
 match b.op with
 | .store tv (.tmp q') x => if (q' == q && b.dst.isNone && b.guard.isNone && notTmp q x) = true then some ⟨ti, s, i, q, tv, x⟩ else none
 | _ => none
def uopOf (a b : Oper) : Option UOp :=
 match a.op with
 | .indexAddr ti (.tmp s) i => match a.dst with
  | some q => if a.guard.isNone = true then uop1 ti s i q b else none
  | none => none
 | _ => none
theorem uopOf_some {a b : Oper} {u : UOp} (h : uopOf a b = some u) : a.op = .indexAddr u.ti (.tmp u.s) u.i ∧ a.dst = some u.q ∧ a.guard = none ∧ b.op = .store u.tv (.tmp u.q) u.x ∧ b.dst = none ∧ b.guard = none ∧ u.x ≠ .tmp u.q := by
 unfold uopOf at h
 split at h <;> try (cases h; done)
 rename_i ti s i ha
 split at h <;> try (cases h; done)
 rename_i q hq
 split at h <;> try (cases h; done)
 rename_i hg
 unfold uop1 at h
 split at h <;> try (cases h; done)
 rename_i tv q' x hb
 split at h <;> try (cases h; done)
 rename_i hc
 cases h
 simp only [Bool.and_eq_true, beq_iff_eq, Option.isNone_iff_eq_none] at hc hg
 obtain ⟨⟨⟨rfl, h1⟩, h2⟩, h3⟩ := hc
 refine ⟨ha, hq, hg, hb, h1, h2, fun e => ?_⟩
 have e : x = .tmp q' := e
 rw [e] at h3
 simp [notTmp] at h3
def updAt (hs : List (Nat × XH)) (n : Nat) : Bool :=
 match hs with
 | [] => false
 | (i, .upd) :: r => decide (i = n) || updAt r n
 | _ :: r => updAt r n
def bopOf (r : Nat) (o : Oper) : Option BOp :=
 match o.op with
 | .buildSlice t n ps => if (o.dst == some r && o.guard.isNone) = true then some ⟨t, n, ps, r⟩ else none
 | _ => none
theorem bopOf_some {r : Nat} {o : Oper} {b : BOp} (h : bopOf r o = some b) : o.op = .buildSlice b.t b.n b.ps ∧ o.dst = some b.r ∧ o.guard = none := by
 unfold bopOf at h
 split at h <;> try (cases h; done)
 rename_i t n ps ho
 split at h <;> try (cases h; done)
 rename_i hc
 cases h
 simp only [Bool.and_eq_true, beq_iff_eq, Option.isNone_iff_eq_none] at hc
 exact ⟨ho, hc.1, hc.2⟩
def splitO (r : Nat) : List Oper → Option (List Oper × BOp × List Oper)
 | [] => none
 | o :: l => match bopOf r o with
  | some b => some ([], b, l)
  | none => match splitO r l with
   | some (p, b, q) => some (o :: p, b, q)
   | none => none
theorem splitO_some {r : Nat} : ∀ {l p q : List Oper} {b : BOp}, splitO r l = some (p, b, q) → ∃ o, l = p ++ o :: q ∧ bopOf r o = some b
 | [], _, _, _, h => nomatch h
 | o :: l, p, q, b, h => by
  simp only [splitO] at h
  split at h
  ·rename_i b' hb; cases h; exact ⟨o, rfl, hb⟩
  ·split at h <;> try (cases h; done)
   rename_i p' b' q' hs
   cases h
   obtain ⟨o', h1, h2⟩ := splitO_some hs
   exact ⟨o', by rw [h1]; rfl, h2⟩
def bldAt (hs : List (Nat × XH)) (n : Nat) : Option Nat :=
 match hs with
 | [] => none
 | (i, .bld r) :: l => if i = n then some r else bldAt l n
 | _ :: l => bldAt l n
def bldReg (r : Nat) (ops : List Oper) : Option XC :=
 match splitO r ops with
 | some (p, b, q) => some (.bld (p.map (LOp.of ops.toArray)) b (q.map (LOp.of ops.toArray)))
 | none => none
def updReg (ops : List Oper) : Option XC :=
 match splitU ops with
 | some (p, a, b) => match uopOf a b with
  | some u => some (.upd (p.map (LOp.of ops.toArray)) u)
  | none => none
 | none => none
def chnOp (t : Nat) (o : Oper) : Option (Nat × Nat) :=
 match o.op with
 | .assign (.tmp t'') => match o.dst with
  | some t' => if t'' = t ∧ o.guard = none then some (t, t') else none
  | none => none
 | _ => none
def chnOf (ps : List Tmp) (asg : Code) : Option (Nat × Nat) :=
 match ps with
 | [t] => match asg with
  | .region _ ops false => match ops.toList with
   | [o] => chnOp t o
   | _ => none
  | _ => none
 | _ => none
theorem chnOf_some {ps : List Tmp} {asg : Code} {t t' : Nat} (h : chnOf ps asg = some (t, t')) : ps = [t] ∧ ∃ id o, asg = .region id #[o] false ∧ o.op = .assign (.tmp t) ∧ o.dst = some t' ∧ o.guard = none := by
 unfold chnOf at h
 split at h <;> try (cases h; done)
 split at h <;> try (cases h; done)
 rename_i id ops
 split at h <;> try (cases h; done)
 rename_i o ho
 unfold chnOp at h
 split at h <;> try (cases h; done)
 rename_i t'' h1
 split at h <;> try (cases h; done)
 rename_i t3 h2
 split at h <;> try (cases h; done)
 rename_i h3
 cases h
 obtain ⟨rfl, h3⟩ := h3
 refine ⟨rfl, id, o, ?_, h1, h2, h3⟩
 have : ops = #[o] := by
  have := congrArg List.toArray ho
  simpa using this
 rw [this]
def XC.of (hs : List (Nat × XH)) : Code → Nat → Option (XC × Nat)
 | .skip, n => some (hintOf hs n .skip, n + 1)
 | .region _ ops false, n => if updAt hs n then (match updReg ops.toList with
   | some x => some (hintOf hs n x, n + 1)
   | none => none) else match bldAt hs n with
   | some r => (match bldReg r ops.toList with
    | some x => some (hintOf hs n x, n + 1)
    | none => none)
   | none => some (hintOf hs n (.reg (ops.toList.map (LOp.of ops))), n + 1)
 | .region _ ops true, n =>
  if Qt.planOk (quietAt hs n) ops (planAt hs n) (ops.toList.map (Qt.skOf (quietAt hs n) ops)) (mkAnc (ops.toList.map (Qt.skOf (quietAt hs n) ops)) []) then some (hintOf hs n (.drw (quietAt hs n) (planOps ops (planAt hs n))), n + 1) else none
 | .seq x y, n => match XC.of hs x (n + 1) with
  | some (x', n1) => match XC.of hs y n1 with
   | some (y', n2) => some (hintOf hs n (.seq x' y'), n2)
   | none => none
  | none => none
 | .cond c x y, n => match XC.of hs x (n + 1) with
  | some (x', n1) => match XC.of hs y n1 with
   | some (y', n2) => some (hintOf hs n (.cond c x' y'), n2)
   | none => none
  | none => none
 | .block id x, n => match XC.of hs x (n + 1) with
  | some (x', n1) => some (hintOf hs n (.block id x'), n1)
  | none => none
 | .loop x, n => match XC.of hs x (n + 1) with
  | some (x', n1) => some (hintOf hs n (.loop x'), n1)
  | none => none
 | .rangeFunc g ps asg b, n => match chnOf ps.toList asg with
  | some (t, t') => if roundOk b = true then match XC.of hs b (n + 1) with
   | some (x', n1) => some (hintOf hs n (.chn g t t' x'), n1)
   | none => none else none
  | none => none
 | .exit id, n => some (hintOf hs n (.exit id), n + 1)
 | .ret, n => some (hintOf hs n .ret, n + 1)
 | _, _ => none
def UpdOk (T : Tab) (d : Nat) (u : UOp) (Q : Slots → AHeap → Nat → Prop) (sl : Slots) (S : AHeap) (c : Nat) : Prop :=
 ∃ sl1 S1 c1, Ghost d sl S c sl1 S1 c1 ∧ ∃ (m : Name) (xs : List AV) (k : IntKind) (j : Int) (k' : IntKind) (n : Int) (sl' : Slots),
  sget sl1 u.s = .slice (.buf m xs.length) 1 xs ∧ S1 m = some (.buf xs.length) ∧ ev sl1 u.i = .lit (.int k j) ∧ 0 ≤ j ∧ j.toNat < xs.length ∧
  (∃ te i1 i2 i3 ei, T u.ti = some ⟨.slice te, i1, i2, i3⟩ ∧ T te = some ei ∧ ei.size = 1) ∧ (∃ iv, T u.tv = some iv ∧ iv.size = 1) ∧ ev sl1 u.x = .lit (.int k' n) ∧
  (∀ t, sget sl' t = .any ∨ t ≠ u.q ∧ (sget sl' t = sget sl1 t ∨ sget sl1 t = .slice (.buf m xs.length) 1 xs ∧ sget sl' t = .slice (.buf (d, c1) xs.length) 1 (xs.set j.toNat (.lit (.int k' n))))) ∧
  Q sl' ((S1.del m).set (d, c1) (.buf xs.length)) (c1 + 1)
def BldOk (T : Tab) (d : Nat) (b : BOp) (Q : Slots → AHeap → Nat → Prop) (sl : Slots) (S : AHeap) (c : Nat) : Prop :=
 ∃ sl1 S1 c1, Ghost d sl S c sl1 S1 c1 ∧ ∃ e i1 i2 i3 ei cs, T b.t = some ⟨.slice e, i1, i2, i3⟩ ∧ T e = some ei ∧ afill (fun i => some (i * ei.size, ei.size)) (zeros b.n ei.zero) (b.ps.toList.map fun q => (q.1, ev sl1 q.2)) = some cs ∧ 0 < ei.size ∧ b.n * ei.size ≤ 2 ^ 24 ∧ 0 < b.n ∧
  Q (put sl1 (some b.r) (.slice (.buf (d, c1) cs.length) ei.size cs)) (S1.set (d, c1) (.buf cs.length)) (c1 + 1)
def LX (P : Program) (T : Tab) : XC → Nat → Slots → AHeap → Nat → Post → Prop
 | .skip, d, sl, S, c, Q => ∃ sl' S' c', Ghost d sl S c sl' S' c' ∧ Q .normal sl' S' c'
 | .reg ops, d, sl, S, c, Q => lopsG P T d ops sl S c (Q .normal) (fun x S => Q (.pan x) [] S 0)
 | .drw qf ops, d, sl, S, c, Q => ∃ sl0 S0 c0, Ghost d sl S c sl0 S0 c0 ∧ Qt.ldrw P T d qf ops [] [] sl0 S0 c0 (fun sl S c => ∃ sl' S' c', Ghost d sl S c sl' S' c' ∧ Q .normal sl' S' c') (fun x S => Q (.pan x) [] S 0)
 | .seq x y, d, sl, S, c, Q => LX P T x d sl S c fun e sl S c => match e with
  | .normal => LX P T y d sl S c Q
  | e => Q e sl S c
 | .cond o x y, d, sl, S, c, Q => ∃ sl0 S0 c0, Ghost d sl S c sl0 S0 c0 ∧ match ev sl0 o with
  | .lit (.bool b) => (b = true → LX P T x d sl0 S0 c0 Q) ∧ (b = false → LX P T y d sl0 S0 c0 Q)
  | _ => False
 | .block id x, d, sl, S, c, Q => LX P T x d sl S c fun e sl S c => match e with
  | .exit i => if i = id then Q .normal sl S c else Q (.exit i) sl S c
  | e => Q e sl S c
 | .loop x, d, sl, S, c, Q => ∃ sl1 S1 c1, Ghost d sl S c sl1 S1 c1 ∧ ∃ I : Nat → Slots → AHeap → Prop, (∃ n, I n sl1 S1) ∧ ∀ n sl' S' d', d < d' → (∀ m : Name, d' ≤ m.1 → S' m = none) → I n sl' S' →
   LX P T x d' sl' S' 0 fun e sl'' S'' c'' => match e with
    | .normal => ∃ m, m < n ∧ ∃ sl3 S3 c3, Ghost d' sl'' S'' c'' sl3 S3 c3 ∧ I m sl3 S3
    | .pan v => Q (.pan v) [] S'' 0
    | e => (∀ i, c1 ≤ i → S'' (d, i) = none) → Q e sl'' S'' c1
 | .exit id, d, sl, S, c, Q => ∃ sl' S' c', Ghost d sl S c sl' S' c' ∧ Q (.exit id) sl' S' c'
 | .ret, d, sl, S, c, Q => ∃ sl' S' c', Ghost d sl S c sl' S' c' ∧ Q .ret sl' S' c'
 | .hint _ x, d, sl, S, c, Q => LX P T x d sl S c Q
 | .upd ops u, d, sl, S, c, Q => lopsG P T d ops sl S c (UpdOk T d u (Q .normal)) (fun x S => Q (.pan x) [] S 0)
 | .bld ops b post, d, sl, S, c, Q => lopsG P T d ops sl S c (BldOk T d b fun sl S c => lopsG P T d post sl S c (Q .normal) (fun x S => Q (.pan x) [] S 0)) (fun x S => Q (.pan x) [] S 0)
 | .chn g t t' x, d, sl, S, c, Q => ∃ sl1 S1 c1, Ghost d sl S c sl1 S1 c1 ∧ ∃ es, ItOk P (ev sl1 g) es ∧ ∃ J : List (Fin es.length) → AHeap → Prop, J [] S1 ∧
   (∀ pre S' n m, J pre S' → S' n = some (.map m) → S1 n = some (.map m)) ∧
   (∀ pre (j : Fin es.length) S' d', d < d' → (∀ m : Name, d' ≤ m.1 → S' m = none) → J pre S' → LX P T x d' (put (put sl1 (some t) es[j]) (some t') es[j]) S' 0 fun e sl' S'' c' => e = .normal ∧ ∃ sl3 S3 c3, Ghost d' sl' S'' c' sl3 S3 c3 ∧ J (pre ++ [j]) S3) ∧
   ∀ S', (∀ i, c1 ≤ i → S' (d, i) = none) → J (List.finRange es.length) S' → Q .normal sl1 S' c1
theorem LX_gh {P : Program} {T : Tab} : ∀ {x : XC} {d : Nat} {sl sl' : Slots} {S S' : AHeap} {c c' : Nat} {Q : Post}, Ghost d sl S c sl' S' c' → LX P T x d sl' S' c' Q → LX P T x d sl S c Q
 | .skip, _, _, _, _, _, _, _, _, hg, ⟨_, _, _, h1, h⟩ => ⟨_, _, _, hg.trans h1, h⟩
 | .reg .., _, _, _, _, _, _, _, _, hg, h => lopsG_gh hg h
 | .upd .., _, _, _, _, _, _, _, _, hg, h => lopsG_gh hg h
 | .bld .., _, _, _, _, _, _, _, _, hg, h => lopsG_gh hg h
 | .drw .., _, _, _, _, _, _, _, _, hg, ⟨_, _, _, h1, h⟩ => ⟨_, _, _, hg.trans h1, h⟩
 | .seq x y, _, _, _, _, _, _, _, _, hg, h => LX_gh (x := x) hg h
 | .cond .., _, _, _, _, _, _, _, _, hg, ⟨_, _, _, h1, h⟩ => ⟨_, _, _, hg.trans h1, h⟩
 | .block id x, _, _, _, _, _, _, _, _, hg, h => LX_gh (x := x) hg h
 | .loop x, _, _, _, _, _, _, _, _, hg, ⟨_, _, _, h1, h⟩ => ⟨_, _, _, hg.trans h1, h⟩
 | .exit id, _, _, _, _, _, _, _, _, hg, ⟨_, _, _, h1, h⟩ => ⟨_, _, _, hg.trans h1, h⟩
 | .ret, _, _, _, _, _, _, _, _, hg, ⟨_, _, _, h1, h⟩ => ⟨_, _, _, hg.trans h1, h⟩
 | .hint _ x, _, _, _, _, _, _, _, _, hg, h => LX_gh (x := x) hg h
 | .chn g t t' x, _, _, _, _, _, _, _, _, hg, ⟨_, _, _, h1, h⟩ => ⟨_, _, _, hg.trans h1, h⟩
theorem LX_hint {P : Program} {T : Tab} {hs : List (Nat × XH)} {n : Nat} {x : XC} {d : Nat} {sl : Slots} {S : AHeap} {c : Nat} {Q : Post} (h : LX P T (hintOf hs n x) d sl S c Q) : LX P T x d sl S c Q := by
 induction hs with
 | nil => exact h
 | cons p r ih =>
  obtain ⟨i, q⟩ := p
  simp only [hintOf] at h
  split at h
  ·simp only [LX] at h; exact ih h
  ·exact ih h
theorem buf_same {K : Kn} {S : AHeap} {w : World} (hs : Sat K S w) {m : Name} {xs : List AV} (hS : S m = some (.buf xs.length)) (hne : 0 < xs.length) {v v' : Value} (h : SimV K (.slice (.buf m xs.length) 1 xs) v) (h' : SimV K (.slice (.buf m xs.length) 1 xs) v') : v = v' := by
 obtain ⟨owner, -, -, -, o4, -⟩ := hs.objs
 have ho := o4 m _ hS
 simp only [ObjOk] at ho
 have key : ∀ v, SimV K (.slice (.buf m xs.length) 1 xs) v → ∃ t, K.tip m = some t ∧ v = .slice (some ⟨t.b, t.off - xs.length, none⟩) xs.length (t.lim - (t.off - xs.length)) := by
  intro v hv
  simp only [SimV] at hv
  obtain ⟨a, len, cap, rfl, p1, p2, -, p4⟩ := hv
  rcases p4 with ⟨p4, -⟩ | ⟨b, o, rfl, -, p6, t, ht, p7, p8⟩
  ·rw [p4] at hne; cases hne
  ·obtain ⟨e1, e2, e3⟩ := p8 (ho t ht).1.symm
   have hl : len = xs.length := by omega
   refine ⟨t, ht, ?_⟩
   subst hl
   rw [show t.off - xs.length = o by omega, show t.lim - o = cap by omega, e1]
 obtain ⟨t, h1, rfl⟩ := key v h
 obtain ⟨t', h2, rfl⟩ := key v' h'
 rw [h1] at h2; cases h2; rfl
theorem upd_sound {P : Program} {T : Tab} (hT : TOk P T) {N d : Nat} {K0 : Kn} {S0 : AHeap} {w0 : World} {ops : Array Oper} {oa ob : Oper} {u : UOp} (hu : uopOf oa ob = some u) (hqN : u.q < N) {ia ib : Nat} (ha : ops[ia]? = some oa) (hb : ops[ib]? = some ob)
  {Q : Post} {sl : Slots} {S : AHeap} {c : Nat} {a : Act} {w : World} {K : Kn} (h : Stt P N d K0 S0 w0 sl S c a w K) (hl : UpdOk T d u (Q .normal) sl S c) : wpOps P ops (CPost P N d K0 S0 w0 Q) [ia, ib] a w := by
 obtain ⟨u1, u2, u3, u4, u5, u6, u7⟩ := uopOf_some hu
 obtain ⟨sl1, S1, c1, hg, m, xs, k, j, k', n, sl', h1, h2, h3, h4, h5, ⟨te, i1, i2, i3, ei, ht1, ht2, ht3⟩, ⟨iv, ht4, ht5⟩, h6, h7, hq⟩ := hl
 obtain ⟨K, h⟩ := h.ghost hg
 have hs := h.step.sat
 have hsl := h.sim u.s
 rw [h1] at hsl
 have hsl0 := hsl
 simp only [SimV] at hsl
 obtain ⟨ad, len, cap, hv, p1, p2, -, p4⟩ := hsl
 rcases p4 with ⟨p4, -⟩ | ⟨b, o, rfl, hcs, hto⟩
 ·rw [p4] at h5; cases h5
 have hlen : len = xs.length := by omega
 have hi := h.sim.ev u.i
 rw [h3] at hi
 simp only [SimV] at hi
 have hx := h.sim.ev u.x
 rw [h6] at hx
 simp only [SimV] at hx
 have hva : a.eval (.tmp u.s) = .slice (some ⟨b, o, none⟩) len cap := hv
 have hgd : Region.wanted oa (yielded ops a.tmps) = true := by simp [Region.wanted, u3]
 have hex1 : (execOp a.eval oa).run P w = .ok (.value (.pointer (some ⟨b, o + j.toNat, none⟩))) w := by
  obtain ⟨dd, e1, e2⟩ := hT.und ht1
  simp only [TD.fits] at e2
  subst e2
  have hj : j < (len : Int) := by omega
  simp only [execOp, u1, hva, hi]
  simp [Instr.indexAt, asIntOf, e1, h4, hj, hT.size ht2, ht3, plainAdd]
 simp only [wpOps, ha]
 rw [if_pos hgd]
 refine .inl ?_
 unfold Oper.wp
 rw [hex1]
 simp only [Oper.upon, u2]
 have hgd2 : Region.wanted ob (yielded ops (a.put (some u.q) (.pointer (some ⟨b, o + j.toNat, none⟩))).tmps) = true := by simp [Region.wanted, u6]
 simp only [hb]
 rw [if_pos hgd2]
 refine .inl ?_
 obtain ⟨owner, o1, o2, o3, o4, o5⟩ := hs.objs
 obtain ⟨uo, kn, -⟩ := SimC_get hcs j.toNat xs[j.toNat] (by simp [h5])
 obtain ⟨g1, g2, g3⟩ := o3 b (o + j.toNat) m uo kn ⟨_, h2⟩
 obtain ⟨K', k1, k2, k3, k4, k5⟩ := hs.upd1 (D := d) (n := (d, c1)) h2 (hv ▸ hsl0) (j := j.toNat) h5 (c := .lit (.int k' n)) (v := .int k' n) (by simp only [SimV]) (h.fresh.2 c1 (Nat.le_refl _)).1 (h.fresh.2 c1 (Nat.le_refl _)).2 (Nat.le_refl _)
 have hqs : u.q < a.tmps.size := by rw [h.size]; exact hqN
 have heq : (a.put (some u.q) (.pointer (some ⟨b, o + j.toNat, none⟩))).eval (.tmp u.q) = .pointer (some ⟨b, o + j.toNat, none⟩) := by
  simp [Act.put, Act.eval, Array.getD, hqs]
 have hex : (a.put (some u.q) (.pointer (some ⟨b, o + j.toNat, none⟩))).eval u.x = .int k' n := by
  rw [← hx]
  cases hxx : u.x with
  | tmp t =>
   have hne : u.q ≠ t := by rintro rfl; exact u7 hxx
   simp [Act.put, Act.eval, hne]
  | const v => rfl
  | func f => rfl
  | global g => rfl
 have hrun : (Instr.storeAt u.tv (.pointer (some ⟨b, o + j.toNat, none⟩)) (.int k' n)).run P w = .ok () (w.setCells b (o + j.toNat) [.int k' n]) := by
  have hst := run_storeCells_cells (P := P) b (o + j.toNat) [.int k' n] 0 w
   (fun i hi => by
    have : i = 0 := by simpa using hi
    subst this
    rw [show o + j.toNat + 0 + 0 = o + j.toNat from rfl, g2]; rfl)
   (fun i hi => by
    have : i = 0 := by simpa using hi
    subst this
    rw [show o + j.toNat + 0 + 0 = o + j.toNat from rfl]; exact g3)
   (fun v hv => by simp only [List.mem_singleton] at hv; subst hv; rfl)
  simp only [Nat.add_zero] at hst
  have hsz : ¬ ((Value.int k' n).cells.size ≠ iv.size) := by rw [ht5]; simp [Value.cells]
  simp only [Instr.storeAt, Instr.sureAddr, storeVar, Sem.run_bind, Sem.run_pure, Result.andThen_ok, hT.size ht4, if_neg hsz]
  exact hst
 have hex2 : (execOp (a.put (some u.q) (.pointer (some ⟨b, o + j.toNat, none⟩))).eval ob).run P w = .ok .skip (w.setCells b (o + j.toNat) [.int k' n]) := by
  simp only [execOp, u4, heq, hex, Sem.run_bind, hrun, Result.andThen_ok, Sem.run_pure]
 rw [hex2]
 simp only [u5]
 show CPost P N d K0 S0 w0 Q .normal _ _
 refine ⟨sl', _, c1 + 1, K', hq, h.step.trans ⟨k1, k4, below_setCells b _ _ (Below.refl _ _) (o1 _ _ _ g1).1, fun x hx h0 => ?_⟩, fun t => ?_, by simpa [Act.put] using h.size, h.defers.mono k1, by rw [k2]; exact h.fresh.1, fun i hi => ⟨k3 _ (h.fresh.2 i (by omega)).1 (by simp; omega), ?_⟩⟩
 ·simp only [AHeap.set, AHeap.del]
  rw [if_neg (by rintro rfl; exact absurd hx (Nat.lt_irrefl _))]
  split
  ·rfl
  ·exact h0
 ·rcases h7 t with e | ⟨hne, e⟩
  ·rw [e]; simp only [SimV]
  ·have hgt : (a.put (some u.q) (.pointer (some ⟨b, o + j.toNat, none⟩))).tmps.getD t undef = a.tmps.getD t undef := by
    have hne' : u.q ≠ t := fun e => hne e.symm
    simp [Act.put, hne']
   have hgt' : ((a.put (some u.q) (.pointer (some ⟨b, o + j.toNat, none⟩))).put none undef).tmps.getD t undef = a.tmps.getD t undef := hgt
   rw [hgt']
   rcases e with e | ⟨e1, e2⟩
   ·rw [e]; exact (h.sim t).mono k1
   ·rw [e2]
    have hst := h.sim t
    rw [e1] at hst
    have := buf_same hs h2 (by omega) hst (hv ▸ hsl0)
    rw [this]
    exact k5
 ·simp only [AHeap.set, AHeap.del]
  rw [if_neg (by simp; omega)]
  split
  ·rfl
  ·exact (h.fresh.2 i (by omega)).2
theorem bld_sound {P : Program} {T : Tab} (hT : TOk P T) {N d : Nat} {K0 : Kn} {S0 : AHeap} {w0 : World} {ops : Array Oper} {o : Oper} {r : Nat} {b : BOp} (hb : bopOf r o = some b) (hrN : b.r < N) {io : Nat} {l2 : List Nat} (ho : ops[io]? = some o)
  {Q : Post} {k : Slots → AHeap → Nat → Prop} (hk : ∀ {sl : Slots} {S : AHeap} {c : Nat} {a : Act} {w : World} {K : Kn}, k sl S c → Stt P N d K0 S0 w0 sl S c a w K → wpOps P ops (CPost P N d K0 S0 w0 Q) l2 a w)
  {sl : Slots} {S : AHeap} {c : Nat} {a : Act} {w : World} {K : Kn} (h : Stt P N d K0 S0 w0 sl S c a w K) (hl : BldOk T d b k sl S c) : wpOps P ops (CPost P N d K0 S0 w0 Q) (io :: l2) a w := by
 obtain ⟨b1, b2, b3⟩ := bopOf_some hb
 obtain ⟨sl1, S1, c1, hg, e, i1, i2, i3, ei, cs, h1, h2, h3, h4, h5, h6, h7⟩ := hl
 obtain ⟨K, h⟩ := h.ghost hg
 have hs := h.step.sat
 have hgd : Region.wanted o (yielded ops a.tmps) = true := by simp [Region.wanted, b3]
 obtain ⟨arr, q1, q2, q3⟩ := run_buildSlice (w := w) (vs := b.ps.map fun q => (q.1, a.eval q.2)) hT h1 h2 h3 (by simpa using SimP_map (fun x => h.sim.ev x) b.ps.toList) h4 h5
 have hcl := SimL_length q2
 have hf := h.fresh.2 c1 (Nat.le_refl _)
 obtain ⟨hp1, hp2⟩ := hs.pend _ hf.1
 have hlen : cs.length = b.n * ei.size := by rw [hcl, Array.length_toList, q3]
 obtain ⟨k1, k2⟩ := hs.newBuf (n := (d, c1)) (tg := .buf (d, c1)) (.inr rfl) (D := d) (fun _ => Nat.le_refl _) h.fresh.1 (e := cs.length) (.inr hp2) (fun t' h => by rw [hp2] at h; cases h) (cs := cs) (vs := arr.toList) (rest := []) (ty := e) q2
 simp only [wpOps, ho]
 rw [if_pos hgd]
 refine .inl ?_
 have hex : (execOp a.eval o).run P w = .ok (.value (.slice (some ⟨w.heap.size, 0, none⟩) b.n b.n)) (w.alloc (.cells arr e)) := by
  simp only [execOp, b1, Sem.run_bind, q1, Result.andThen_ok, Sem.run_pure]
 unfold Oper.wp
 rw [hex]
 simp only [Oper.upon, b2]
 have harr : (arr.toList ++ ([] : List Value)).toArray = arr := by simp
 rw [harr] at k2
 refine hk h7 (h.put (dst := some b.r) ⟨k1, k2, (Below.refl _ _).alloc hs.low _, fun n hn h0 => ?_⟩ (h.fresh.next (.buf cs.length) (by exact Nat.le_refl _) (fun m hm hne => ⟨hm, hne⟩)) (fun i hi => by cases hi; exact hrN) ?_)
 ·simp only [AHeap.set]
  rw [if_neg (by rintro rfl; exact absurd hn (Nat.lt_irrefl _))]; exact h0
 ·simp only [SimV]
  refine ⟨_, b.n, b.n, rfl, hlen.symm, Nat.le_refl _, h4, .inr ⟨w.heap.size, 0, rfl, Kn.withBuf_sim (t := ⟨w.heap.size, arr.toList.length, cs.length, arr.toList.length + 0⟩) k1 q2, Nat.le_refl _, _, Kn.withBuf_tip, Nat.le_refl _, fun _ => ⟨rfl, ?_, ?_⟩⟩⟩
  ·simp only [Array.length_toList] at hcl ⊢; omega
  ·simp only [Array.length_toList] at hcl ⊢; simp; omega
theorem filterMap_same {α β : Type} {f g : α → Option β} : ∀ {l : List α}, (∀ x ∈ l, f x = g x) → l.filterMap f = l.filterMap g
 | [], _ => rfl
 | x :: l, h => by rw [List.filterMap_cons, List.filterMap_cons, h x (by simp), filterMap_same fun y hy => h y (by simp [hy])]
theorem reg_sound {P : Program} {T : Tab} (hT : TOk P T) {N d : Nat} {K0 : Kn} {S0 : AHeap} {w0 : World} {hs : List (Nat × XH)} {id n n' : Nat} {ops : Array Oper} {x : XC} (he : XC.of hs (.region id ops false) n = some (x, n')) (ho : codeOk N (.region id ops false) = true)
  {Q : Post} {sl : Slots} {S : AHeap} {c : Nat} {a : Act} {w : World} {K : Kn} (h : Stt P N d K0 S0 w0 sl S c a w K) (hl : LX P T x d sl S c Q) : wpOps P ops (CPost P N d K0 S0 w0 Q) (List.range ops.size) a w := by
 simp only [codeOk, Bool.and_eq_true] at ho
 have hd : ∀ o ∈ ops, ∀ i, o.dst = some i → i < N := by
  intro o hmem i hi
  have := Array.all_eq_true_iff_forall_mem.1 ho.1 o hmem
  simpa [hi] using this
 simp only [XC.of] at he
 split at he
 ·split at he <;> try (cases he; done)
  rename_i x' hx
  simp only [Option.some.injEq, Prod.mk.injEq] at he
  obtain ⟨rfl, rfl⟩ := he
  have hl := LX_hint hl
  unfold updReg at hx
  split at hx <;> try (cases hx; done)
  rename_i p oa ob hsp
  split at hx <;> try (cases hx; done)
  rename_i u hu
  cases hx
  simp only [LX] at hl
  have hlist := splitU_some hsp
  have hsz : ops.size = p.length + 2 := by rw [← Array.length_toList, hlist]; simp
  have hrange : List.range ops.size = List.range p.length ++ [p.length, p.length + 1] := by
   rw [hsz, List.range_succ, List.range_succ, List.append_assoc]; rfl
  have hga : ops[p.length]? = some oa := by
   rw [← Array.getElem?_toList, hlist]; simp
  have hgb : ops[p.length + 1]? = some ob := by
   rw [← Array.getElem?_toList, hlist]; simp
  rw [hrange]
  refine lopsG_soundK hT hd ho.2 (Q := Q) (fun {sl S c a w K} hk hst => upd_sound hT hu (hd oa (Array.mem_of_getElem? hga) _ (uopOf_some hu).2.1) hga hgb hst hk) (List.range p.length) _ (fun i hi => by have := List.mem_range.1 hi; omega) ?_ h hl
  have hp : p = ops.toList.take p.length := by rw [hlist]; simp
  have hf := filterMap_range p (LOp.of ops.toList.toArray)
  rw [← hf]
  have ht : ops.toList.toArray = ops := by simp
  rw [ht]
  refine filterMap_same fun i hi => ?_
  have hi := List.mem_range.1 hi
  congr 1
  rw [← Array.getElem?_toList, hlist, List.getElem?_append_left hi]
 split at he
 ·split at he <;> try (cases he; done)
  rename_i r hr x' hx
  simp only [Option.some.injEq, Prod.mk.injEq] at he
  obtain ⟨rfl, rfl⟩ := he
  have hl := LX_hint hl
  unfold bldReg at hx
  split at hx <;> try (cases hx; done)
  rename_i p b q hsp
  cases hx
  simp only [LX] at hl
  obtain ⟨o, hlist, hbo⟩ := splitO_some hsp
  have hsz : ops.size = p.length + (q.length + 1) := by rw [← Array.length_toList, hlist]; simp
  have hrange : List.range ops.size = List.range p.length ++ (p.length :: (List.range q.length).map (fun i => p.length + (i + 1))) := by
   rw [hsz, List.range_add, List.range_succ_eq_map]; simp [Function.comp_def]
  have hgo : ops[p.length]? = some o := by
   rw [← Array.getElem?_toList, hlist]; simp
  have ht : ops.toList.toArray = ops := by simp
  rw [hrange]
  refine lopsG_soundK hT hd ho.2 (Q := Q) (fun {sl S c a w K} hk hst => bld_sound hT hbo (hd o (Array.mem_of_getElem? hgo) _ (bopOf_some hbo).2.1) hgo (fun {sl S c a w K} hk hst => lopsG_sound hT hd ho.2 (Q := Q) _ _ (fun i hi => ?_) ?_ hst hk) hst hk) (List.range p.length) _ (fun i hi => by have := List.mem_range.1 hi; omega) ?_ h hl
  ·obtain ⟨j, hj, rfl⟩ := List.mem_map.1 hi
   have := List.mem_range.1 hj; omega
  ·have hf := filterMap_range q (LOp.of ops.toList.toArray)
   rw [← hf, ht, List.filterMap_map]
   refine filterMap_same fun i hi => ?_
   have hi := List.mem_range.1 hi
   simp only [Function.comp]
   congr 1
   rw [← Array.getElem?_toList, hlist, List.getElem?_append_right (by omega), show p.length + (i + 1) - p.length = i + 1 by omega, List.getElem?_cons_succ]
  ·have hf := filterMap_range p (LOp.of ops.toList.toArray)
   rw [← hf, ht]
   refine filterMap_same fun i hi => ?_
   have hi := List.mem_range.1 hi
   congr 1
   rw [← Array.getElem?_toList, hlist, List.getElem?_append_left hi]
 ·simp only [Option.some.injEq, Prod.mk.injEq] at he
  obtain ⟨rfl, rfl⟩ := he
  have hl := LX_hint hl
  simp only [LX] at hl
  refine lopsG_sound hT hd ho.2 (Q := Q) (List.range ops.size) _ (fun i hi => by simpa using hi) rfl h ?_
  have : (List.range ops.size).filterMap (fun i => (ops[i]?).map (LOp.of ops)) = ops.toList.map (LOp.of ops) := by
   have := filterMap_range ops.toList (LOp.of ops)
   simpa using this
  rw [this]; exact hl
theorem LX_soundR {P : Program} {T : Tab} (hT : TOk P T) {N r m : Nat} {hs : List (Nat × XH)} : ∀ (code : Code) (x : XC) (n n' : Nat), XC.of hs code n = some (x, n') → codeOk N code = true → roundOk code = true →
  ∀ {d : Nat} {K0 : Kn} {S0 : AHeap} {w0 : World} {sl : Slots} {S : AHeap} {c : Nat} {a : Act} {w : World} {K : Kn} {Q : Post}, Stt P N d K0 S0 w0 sl S c a w K → LX P T x d sl S c Q → code.wpIn (Fence.wide.inRound r) m P (CPost P N d K0 S0 w0 Q) a w
 | .skip, lc, n0, n1, he, ho, hro, d, K0, S0, w0, sl, S, c, a, w, K, Q, h, hl => by
  simp only [XC.of, Option.some.injEq, Prod.mk.injEq] at he
  obtain ⟨rfl, rfl⟩ := he
  obtain ⟨sl', S', c', hg, hq⟩ := LX_hint hl
  obtain ⟨K', h'⟩ := h.ghost hg
  exact wpIn_skip ⟨sl', S', c', K', hq, h'⟩
 | .region id ops false, lc, n0, n1, he, ho, hro, d, K0, S0, w0, sl, S, c, a, w, K, Q, h, hl => by
  simp only [roundOk] at hro
  have hnd : ∀ o ∈ ops, ∀ c, o.op ≠ .defer c := by
   intro o hmem c e
   have := List.all_eq_true.1 hro o (by simpa using hmem)
   rw [e] at this
   simp [noDefer] at this
  exact wpIn_region (wpOps_in hnd cpost_out (reg_sound hT he ho h hl))
 | .seq x y, lc, n0, n1, he, ho, hro, d, K0, S0, w0, sl, S, c, a, w, K, Q, h, hl => by
  simp only [XC.of] at he
  split at he <;> try (cases he; done)
  rename_i x' hs1 hx
  split at he <;> try (cases he; done)
  rename_i y' hs2 hy
  simp only [Option.some.injEq, Prod.mk.injEq] at he
  obtain ⟨rfl, rfl⟩ := he
  have hl := LX_hint hl
  simp only [codeOk, Bool.and_eq_true] at ho
  simp only [LX] at hl
  simp only [roundOk, Bool.and_eq_true] at hro
  refine wpIn_seq (wpIn_mono (LX_soundR hT x x' _ hs1 hx ho.1 hro.1 h hl) ?_)
  intro e a' w' hq
  cases e with
  | normal =>
   obtain ⟨sl', S', c', K', h1, h2⟩ := hq
   exact LX_soundR hT y y' hs1 hs2 hy ho.2 hro.2 h2 h1
  | exit i => exact hq
  | goto l => exact hq
  | ret => exact hq
  | panic ch => exact hq
  | outgrown => exact hq
 | .cond o x y, lc, n0, n1, he, ho, hro, d, K0, S0, w0, sl, S, c, a, w, K, Q, h, hl => by
  simp only [XC.of] at he
  split at he <;> try (cases he; done)
  rename_i x' hs1 hx
  split at he <;> try (cases he; done)
  rename_i y' hs2 hy
  simp only [Option.some.injEq, Prod.mk.injEq] at he
  obtain ⟨rfl, rfl⟩ := he
  have hl := LX_hint hl
  simp only [codeOk, Bool.and_eq_true] at ho
  simp only [LX] at hl
  simp only [roundOk, Bool.and_eq_true] at hro
  obtain ⟨sl1, S1, c1, hgh, hl⟩ := hl
  obtain ⟨K', h⟩ := h.ghost hgh
  split at hl <;> try exact hl.elim
  rename_i b hb
  have hv := h.sim.ev o
  rw [hb] at hv
  simp only [SimV] at hv
  exact wpIn_cond_split hv (fun ht => LX_soundR hT x x' _ hs1 hx ho.1 hro.1 h (hl.1 ht)) (fun hf => LX_soundR hT y y' hs1 hs2 hy ho.2 hro.2 h (hl.2 hf))
 | .block id x, lc, n0, n1, he, ho, hro, d, K0, S0, w0, sl, S, c, a, w, K, Q, h, hl => by
  simp only [XC.of] at he
  split at he <;> try (cases he; done)
  rename_i x' hs1 hx
  simp only [Option.some.injEq, Prod.mk.injEq] at he
  obtain ⟨rfl, rfl⟩ := he
  have hl := LX_hint hl
  simp only [codeOk] at ho
  simp only [LX] at hl
  simp only [roundOk] at hro
  refine wpIn_block (wpIn_mono (LX_soundR hT x x' _ hs1 hx ho hro h hl) ?_)
  intro e a' w' hq
  cases e with
  | normal => exact hq
  | exit i =>
   obtain ⟨sl', S', c', K', h1, h2⟩ := hq
   simp only [Exit.inBlock]
   simp only at h1
   by_cases hi : i = id
   ·rw [if_pos hi] at h1 ⊢; exact ⟨sl', S', c', K', h1, h2⟩
   ·rw [if_neg hi] at h1 ⊢; exact ⟨sl', S', c', K', h1, h2⟩
  | goto l => exact hq
  | ret => exact hq
  | panic ch => exact hq
  | outgrown => exact hq
 | .region _ _ true, _, _, _, _, _, hro, _, _, _, _, _, _, _, _, _, _, _, _, _ => by simp [roundOk] at hro
 | .loop _, _, _, _, _, _, hro, _, _, _, _, _, _, _, _, _, _, _, _, _ => by simp [roundOk] at hro
 | .exit _, _, _, _, _, _, hro, _, _, _, _, _, _, _, _, _, _, _, _, _ => by simp [roundOk] at hro
 | .ret, _, _, _, _, _, hro, _, _, _, _, _, _, _, _, _, _, _, _, _ => by simp [roundOk] at hro
 | .scope _, _, _, _, _, _, hro, _, _, _, _, _, _, _, _, _, _, _, _, _ => by simp [roundOk] at hro
 | .label _, _, _, _, _, _, hro, _, _, _, _, _, _, _, _, _, _, _, _, _ => by simp [roundOk] at hro
 | .goto _, _, _, _, _, _, hro, _, _, _, _, _, _, _, _, _, _, _, _, _ => by simp [roundOk] at hro
 | .rangeFunc .., _, _, _, _, _, hro, _, _, _, _, _, _, _, _, _, _, _, _, _ => by simp [roundOk] at hro
theorem chn_sound {P : Program} {T : Tab} (hT : TOk P T) {N : Nat} {hs : List (Nat × XH)} {g : Operand} {ps : Array Tmp} {asg bd : Code} {x : XC} {n n' : Nat} (he : XC.of hs (.rangeFunc g ps asg bd) n = some (x, n')) (ho : codeOk N (.rangeFunc g ps asg bd) = true)
  {d : Nat} {K0 : Kn} {S0 : AHeap} {w0 : World} {sl : Slots} {S : AHeap} {c : Nat} {a : Act} {w : World} {K : Kn} {Q : Post} (hen : K0.ent ≤ w0.heap.size) (h : Stt P N d K0 S0 w0 sl S c a w K) (hl : LX P T x d sl S c Q) :
  (Code.rangeFunc g ps asg bd).wp P (CPost P N d K0 S0 w0 Q) a w := by
 simp only [XC.of] at he
 split at he <;> try (cases he; done)
 rename_i t t' hch
 split at he <;> try (cases he; done)
 rename_i hro
 split at he <;> try (cases he; done)
 rename_i x' n1 hx
 simp only [Option.some.injEq, Prod.mk.injEq] at he
 obtain ⟨rfl, rfl⟩ := he
 obtain ⟨hps, id, o, rfl, e1, e2, e3⟩ := chnOf_some hch
 obtain rfl : ps = #[t] := by
  have := congrArg List.toArray hps
  simpa using this
 have hl := LX_hint hl
 simp only [codeOk, Bool.and_eq_true] at ho
 obtain ⟨⟨ht, ho1⟩, hbd⟩ := ho
 have ht : t < N := by simpa using ht
 have ht' : t' < N := by simpa [e2] using ho1.1
 simp only [LX] at hl
 obtain ⟨sl1, S1, c1, hg1, es, hit, J, hJ0, hJm, hround, hend⟩ := hl
 obtain ⟨K, h⟩ := h.ghost hg1
 obtain ⟨gf, lb, us, hgv, hent, hsim, hseq⟩ := hit K S1 w _ h.step.sat (h.sim.ev g)
 have hs0 := h.step.sat
 have hdl : d < K.dmax := h.fresh.1
 have hfix : ∀ b o', K.fixed b o' → b < w.heap.size := fun b o' q => (Array.getElem?_eq_some_iff.1 (hs0.fixd b o' q).1).1
 have hperm : ∀ b o v, K.known b o .perm v → w.cell? ⟨b, o, none⟩ = some v := hs0.perm
 have hkent : K.ent ≤ w.heap.size := Nat.le_trans (by rw [h.step.le.ent]; exact hen) h.step.below.size
 let I : List (Fin es.length) → World → Prop := fun pre W => ∃ K' S', Step K.dmax K S1 w K' S' W ∧ K'.fixed = K.fixed ∧ J pre S'
 have hI : OwnFrom w.heap.size I := by
  rintro pre W W' row ⟨K', S', q1, q2, q3⟩ hg hr
  refine ⟨K', S', ⟨q1.le, ?_, ?_, q1.names⟩, q2, q3⟩
  ·refine q1.sat.grown hg (fun r e => (hr r e).2) (fun r e o' hf => ?_) (fun r e n m b f hn hb e2 => ?_)
   ·rw [q2] at hf
    have := hfix _ _ hf
    have := (hr r e).1
    omega
   ·have hm := hJm pre S' n m q3 hn
    obtain ⟨owner, o1, _, _, o4, _⟩ := hs0.objs
    obtain ⟨b', f', hb', hown, _⟩ := o4 n _ hm
    have := q1.le.base _ _ hb'
    rw [hb] at this
    cases this
    have := (o1 _ 0 _ (hown 0)).2
    have := (hr r e).1
    omega
  ·exact q1.below.trans ((Below.refl _ _).grown hg (Nat.le_trans hs0.low q1.below.size) fun k e => Nat.le_trans hs0.low (hr k e).1)
 let a₁ : Fin es.length → Act := fun i => { tmps := (a.tmps.setIfInBounds t (us i)).setIfInBounds t' (us i), defers := [] }
 refine (wpIn_wide (n := 2)).1 (wpIn_rangeFunc_ownF (F := Fence.wide) (n := 2) (w0 := w) rfl (by decide) hgv trivial (fun args w => run_callFunc hent) hseq (fun h k b o v q r => k b o v q (h b o v q r)) ?_ (Below.refl _ _) (fun _ => rfl) I (fun _ _ _ => False) hI (fun _ _ _ _ _ h => h.elim)
  ⟨K, S1, Step.refl _ hs0, rfl, hJ0⟩ a₁ ?_ ?_ ?_ (fun _ _ _ _ _ _ h => h.elim))
 ·intro W l o o' _ hl hc _ b q v _ hv
  exact cell_kept hv (grownBy_putObj' W l o') (fun r e => by cases e; exact ⟨o, hl, hc⟩)
 ·intro l i W R hR
  refine wpIn_region ?_
  have hr1 : List.range (#[o] : Array Oper).size = [0] := rfl
  rw [hr1]
  have hgt : (#[o] : Array Oper)[0]? = some o := rfl
  have hw : Region.wanted o (yielded #[o] (((#[t].zip #[us i]).foldl (fun t (p, v) => t.setIfInBounds p v) a.tmps))) = true := by simp [Region.wanted, e3]
  simp only [wpOpsIn, hgt]
  rw [if_pos hw]
  refine oper_in (next := fun a w => R a w) (Q := Exit.then R fun _ _ _ => False) (fun c e => by rw [e1] at e; cases e) ?_ (fun a w h => h)
  have hz : (#[t].zip #[us i]).foldl (fun t (p, v) => t.setIfInBounds p v) a.tmps = a.tmps.setIfInBounds t (us i) := by simp
  rw [hz]
  have hev : (Act.mk (a.tmps.setIfInBounds t (us i)) []).eval (.tmp t) = us i := by
   simp [Act.eval, Array.getD, h.size, ht]
  have hx : (execOp (Act.mk (a.tmps.setIfInBounds t (us i)) []).eval o).run P W = .ok (.value (us i)) W := by
   simp only [execOp, e1, hev]
   simp [go_sem]
  unfold Oper.wp
  rw [hx]
  show R (Act.put _ o.dst _) W
  rw [e2]
  exact hR
 ·rintro l pre i W ⟨K1, S', q1, q2, q3⟩ _
  have hs1 := q1.sat
  have hlt : d < K1.dmax := Nat.lt_of_lt_of_le hdl q1.le.dmax
  have hk12 : Kle0 0 K (K1.round W) := (q1.le.mono (Nat.zero_le _)).toKle0.trans (K1.round_le0 W 0)
  have hst : Stt P N K1.dmax (K1.round W) S' W (put (put sl1 (some t) es[i]) (some t') es[i]) S' 0 (a₁ i) W (K1.round W) := by
   refine ⟨Step.refl _ hs1.round, ?_, ?_, DefOk.nil, Kn.enter_fresh hs1⟩
   ·have h1 : SimT (K1.round W) sl1 a.tmps := fun i => (h.sim i).mono0 hk12
    have h2 : SimV (K1.round W) es[i] (us i) := (hsim i).mono0 hk12
    have h3 := SimT.put (a := a) h1 (by rw [h.size]; exact ht) h2
    exact SimT.put (a := a.put (some t) (us i)) h3 (by simpa [Act.put, h.size] using ht') h2
   ·simpa [a₁] using h.size
  have hr := hround pre i S' K1.dmax hlt (fun m hm => (hs1.fresh m hm).1) q3
  refine wpIn_mono (LX_soundR hT bd x' _ _ hx hbd hro hst hr) ?_
  intro e a' w' hq
  cases e with
  | normal =>
   obtain ⟨sl', S'', c', K2, ⟨-, sl3, S3, c3, hgh, hj⟩, h2⟩ := hq
   obtain ⟨K3, h3⟩ := h2.ghost hgh
   have hle : Kle0 0 K (K3) := hk12.trans (h3.step.le.mono (Nat.zero_le _)).toKle0
   refine ⟨⟨h3.step.below.size, fun k o' hk ho' => (h3.step.sat.fixd k o' (h3.step.le.fixed k o' ⟨hk, noCells_iff.2 ho'⟩)).1⟩, fun b q v hv _ => h3.step.sat.perm b q v (hle.known _ _ _ _ hv), ?_⟩
   have hent3 : K3.ent = K.ent := h3.step.le.ent.trans q1.le.ent
   refine ⟨{ K3 with fixed := K.fixed }, S3, ⟨⟨?_, fun _ _ h => h, hent3⟩, ?_, ?_, ?_⟩, rfl, hj⟩
   ·have g1 : Kle0 K.dmax K1 (K1.round W) := K1.round_le0 W _
    have g2 : Kle0 K.dmax (K1.round W) K3 := (h3.step.le.mono q1.le.dmax).toKle0
    have g3 := q1.le.toKle0.trans (g1.trans g2)
    exact ⟨g3.low, g3.dmax, g3.base, g3.tip, g3.known, g3.shrink, g3.keep⟩
   ·refine h3.step.sat.congr ⟨rfl, Nat.le_refl _, fun _ _ h => h, fun _ t h => ⟨t, h, .inl rfl⟩, fun _ _ _ _ h => h, fun _ _ h => h, fun _ _ h => h⟩ (fun b o' hf => ?_) rfl rfl (fun _ _ _ _ h => h) h3.step.sat.fresh h3.step.sat.pend
    refine h3.step.le.fixed b o' (hs1.fixd b o' ?_)
    rw [q2]; exact hf
   ·have := h3.step.below
    have hlow : (K1.round W).low = K.low := q1.le.low
    rw [hlow] at this
    exact q1.below.trans this
   ·intro n hn h0
    exact h3.step.names n (Nat.lt_of_lt_of_le hn q1.le.dmax) (q1.names n hn h0)
  | exit i => obtain ⟨_, _, _, _, ⟨h1, _⟩, _⟩ := hq; cases h1
  | goto l => obtain ⟨_, _, _, _, ⟨h1, _⟩, _⟩ := hq; cases h1
  | ret => obtain ⟨_, _, _, _, ⟨h1, _⟩, _⟩ := hq; cases h1
  | panic ch => obtain ⟨_, _, _, _, _, _, ⟨h1, _⟩, _, _⟩ := hq; cases h1
  | outgrown => exact hq.elim
 ·rintro D xs W hD rfl ⟨K', S', q1, q2, q3⟩ hDW
  let K'' : Kn := { K' with fixed := fun b o => K'.fixed b o ∨ (b = D ∧ o = .deferred (some [])) }
  have hk0 : Kle0 0 K' K'' := ⟨rfl, Nat.le_refl _, fun _ _ h => h, fun _ t h => ⟨t, h, .inl rfl⟩, fun _ _ _ _ h => h, fun _ _ h => h, fun _ _ h => h⟩
  have hs2 : Sat K'' S' W := q1.sat.congrF hk0 (fun b o' hf => by
   rcases hf with hf | ⟨rfl, rfl⟩
   ·exact q1.sat.fixd b o' hf
   ·exact ⟨hDW, rfl⟩) rfl rfl (fun _ _ _ _ h => h) q1.sat.fresh q1.sat.pend
  have hst : Step K.dmax K S1 w K'' S' W := ⟨⟨⟨q1.le.low, q1.le.dmax, q1.le.base, q1.le.tip, q1.le.known, q1.le.shrink, q1.le.keep⟩, fun b o' hf => .inl (q1.le.fixed b o' hf), q1.le.ent⟩, hs2, q1.below, q1.names⟩
  have hfr : ∀ i, c1 ≤ i → S' (d, i) = none := fun i hi => q1.names _ hdl (h.fresh.2 i hi).2
  refine ⟨sl1, S', c1, K'', hend S' hfr q3, ⟨h.step.trans (hst.mono (Nat.le_of_lt hdl)), h.sim.mono hst.le, h.size, ?_, Nat.lt_of_lt_of_le hdl hst.le.dmax, fun i hi => ⟨q1.le.keep _ hdl (h.fresh.2 i hi).1, hfr i hi⟩⟩⟩
  obtain ⟨Ds, d1, d2, d3⟩ := h.defers
  refine ⟨D :: Ds, by rw [d1]; rfl, List.nodup_cons.2 ⟨fun hm => ?_, d2⟩, fun D' hD' => ?_⟩
  ·have := hfix _ _ (d3 D hm).1
   omega
  ·rcases List.mem_cons.1 hD' with rfl | hD'
   ·exact ⟨.inr ⟨rfl, rfl⟩, by rw [hst.le.ent]; omega⟩
   ·exact ⟨.inl (q1.le.fixed _ _ (d3 D' hD').1), by rw [hst.le.ent]; exact (d3 D' hD').2⟩
theorem LX_sound {P : Program} {T : Tab} (hT : TOk P T) (hP : P.follows .mixedOrders = true) {N : Nat} {hs : List (Nat × XH)} : ∀ (code : Code) (x : XC) (n n' : Nat), XC.of hs code n = some (x, n') → codeOk N code = true →
  ∀ {d : Nat} {K0 : Kn} {S0 : AHeap} {w0 : World} {sl : Slots} {S : AHeap} {c : Nat} {a : Act} {w : World} {K : Kn} {Q : Post}, K0.ent ≤ w0.heap.size → Stt P N d K0 S0 w0 sl S c a w K → LX P T x d sl S c Q → code.wp P (CPost P N d K0 S0 w0 Q) a w
 | .skip, lc, n0, n1, he, ho, d, K0, S0, w0, sl, S, c, a, w, K, Q, hen, h, hl => by
  simp only [XC.of, Option.some.injEq, Prod.mk.injEq] at he
  obtain ⟨rfl, rfl⟩ := he
  obtain ⟨sl', S', c', hg, hq⟩ := LX_hint hl
  obtain ⟨K', h'⟩ := h.ghost hg
  exact wp_skip ⟨sl', S', c', K', hq, h'⟩
 | .region id ops false, lc, n0, n1, he, ho, d, K0, S0, w0, sl, S, c, a, w, K, Q, hen, h, hl => wp_region (reg_sound hT he ho h hl)
 | .region id ops true, lc, n0, n1, he, ho, d, K0, S0, w0, sl, S, c, a, w, K, Q, hen, h, hl => by
  simp only [XC.of] at he
  split at he <;> try (cases he; done)
  rename_i hpl
  simp only [Option.some.injEq, Prod.mk.injEq] at he
  obtain ⟨rfl, rfl⟩ := he
  have hl := LX_hint hl
  simp only [codeOk, Bool.and_eq_true] at ho
  have hd : ∀ o ∈ ops, ∀ i, o.dst = some i → i < N := by
   intro o hmem i hi
   have := Array.all_eq_true_iff_forall_mem.1 ho.1 o hmem
   simpa [hi] using this
  simp only [LX] at hl
  obtain ⟨_, _, _, hgh, hl⟩ := hl
  obtain ⟨K', h⟩ := h.ghost hgh
  refine wp_mono (Qt.drw_sound hT hP hd ho.2 hpl (Q := fun x sl S c => match x with | .normal => ∃ sl' S' c', Ghost d sl S c sl' S' c' ∧ Q .normal sl' S' c' | x => Q x sl S c) h hl) (fun e a w hq => ?_)
  cases e with
  | normal =>
   obtain ⟨sl, S, c, K, ⟨sl', S', c', hg, h1⟩, h2⟩ := hq
   obtain ⟨K', h3⟩ := h2.ghost hg
   exact ⟨sl', S', c', K', h1, h3⟩
  | exit i => exact hq
  | goto l => exact hq
  | ret => exact hq
  | panic ch => exact hq
  | outgrown => exact hq
 | .seq x y, lc, n0, n1, he, ho, d, K0, S0, w0, sl, S, c, a, w, K, Q, hen, h, hl => by
  simp only [XC.of] at he
  split at he <;> try (cases he; done)
  rename_i x' hs1 hx
  split at he <;> try (cases he; done)
  rename_i y' hs2 hy
  simp only [Option.some.injEq, Prod.mk.injEq] at he
  obtain ⟨rfl, rfl⟩ := he
  have hl := LX_hint hl
  simp only [codeOk, Bool.and_eq_true] at ho
  simp only [LX] at hl
  refine wp_seq (wp_mono (LX_sound hT hP x x' _ hs1 hx ho.1 hen h hl) ?_)
  intro e a' w' hq
  cases e with
  | normal =>
   obtain ⟨sl', S', c', K', h1, h2⟩ := hq
   exact LX_sound hT hP y y' hs1 hs2 hy ho.2 hen h2 h1
  | exit i => exact hq
  | goto l => exact hq
  | ret => exact hq
  | panic ch => exact hq
  | outgrown => exact hq
 | .cond o x y, lc, n0, n1, he, ho, d, K0, S0, w0, sl, S, c, a, w, K, Q, hen, h, hl => by
  simp only [XC.of] at he
  split at he <;> try (cases he; done)
  rename_i x' hs1 hx
  split at he <;> try (cases he; done)
  rename_i y' hs2 hy
  simp only [Option.some.injEq, Prod.mk.injEq] at he
  obtain ⟨rfl, rfl⟩ := he
  have hl := LX_hint hl
  simp only [codeOk, Bool.and_eq_true] at ho
  simp only [LX] at hl
  obtain ⟨sl1, S1, c1, hgh, hl⟩ := hl
  obtain ⟨K', h⟩ := h.ghost hgh
  split at hl <;> try exact hl.elim
  rename_i b hb
  have hv := h.sim.ev o
  rw [hb] at hv
  simp only [SimV] at hv
  exact wp_cond_split hv (fun ht => LX_sound hT hP x x' _ hs1 hx ho.1 hen h (hl.1 ht)) (fun hf => LX_sound hT hP y y' hs1 hs2 hy ho.2 hen h (hl.2 hf))
 | .block id x, lc, n0, n1, he, ho, d, K0, S0, w0, sl, S, c, a, w, K, Q, hen, h, hl => by
  simp only [XC.of] at he
  split at he <;> try (cases he; done)
  rename_i x' hs1 hx
  simp only [Option.some.injEq, Prod.mk.injEq] at he
  obtain ⟨rfl, rfl⟩ := he
  have hl := LX_hint hl
  simp only [codeOk] at ho
  simp only [LX] at hl
  refine wp_block (wp_mono (LX_sound hT hP x x' _ hs1 hx ho hen h hl) ?_)
  intro e a' w' hq
  cases e with
  | normal => exact hq
  | exit i =>
   obtain ⟨sl', S', c', K', h1, h2⟩ := hq
   simp only [Exit.inBlock]
   simp only at h1
   by_cases hi : i = id
   ·rw [if_pos hi] at h1 ⊢; exact ⟨sl', S', c', K', h1, h2⟩
   ·rw [if_neg hi] at h1 ⊢; exact ⟨sl', S', c', K', h1, h2⟩
  | goto l => exact hq
  | ret => exact hq
  | panic ch => exact hq
  | outgrown => exact hq
 | .loop x, lc, n0, n1, he, ho, d, K0, S0, w0, sl, S, c, a, w, K, Q, hen, h, hl => by
  simp only [XC.of] at he
  split at he <;> try (cases he; done)
  rename_i x' hs1 hx
  simp only [Option.some.injEq, Prod.mk.injEq] at he
  obtain ⟨rfl, rfl⟩ := he
  have hl := LX_hint hl
  simp only [codeOk] at ho
  simp only [LX] at hl
  obtain ⟨sl1, S1, c1, hg1, I, ⟨n, hI⟩, hround⟩ := hl
  obtain ⟨K1, h⟩ := h.ghost hg1
  refine wp_loop_idx (fun n a w => ∃ sl S K, I n sl S ∧ Stt P N d K0 S0 w0 sl S c1 a w K) ?_ (n := n) ⟨sl1, S1, K1, hI, h⟩
  rintro n a w ⟨sl, S, K, hI, h⟩
  have hs0 := h.step.sat
  have hstep : Step d K S w K.enter S w := ⟨K.enter_le d, hs0.enter, Below.refl _ _, fun _ _ h => h⟩
  have h' : Stt P N K.dmax K.enter S w sl S 0 a w K.enter := ⟨Step.refl _ hs0.enter, h.sim.mono (K.enter_le 0), h.size, h.defers.mono (K.enter_le 0), Kn.enter_fresh hs0⟩
  have hr := hround n sl S K.dmax h.fresh.1 (fun m hm => (hs0.fresh m hm).1) hI
  refine wp_mono (LX_sound hT hP x x' _ hs1 hx ho (Nat.le_trans (by rw [show K.enter.ent = K.ent from rfl, h.step.le.ent]; exact hen) h.step.below.size) h' hr) ?_
  have back : ∀ {sl' S' c' a' w' K'}, Stt P N K.dmax K.enter S w sl' S' c' a' w' K' → Stt P N d K0 S0 w0 sl' S' c1 a' w' K' := by
   intro sl' S' c' a' w' K' q
   have hst : Step d K S w K' S' w' := hstep.trans (q.step.mono (Nat.le_of_lt h.fresh.1))
   refine ⟨h.step.trans hst, q.sim, q.size, q.defers, Nat.lt_of_lt_of_le h.fresh.1 hst.le.dmax, fun i hi => ⟨?_, ?_⟩⟩
   ·exact q.step.le.keep _ h.fresh.1 (.inl (h.fresh.2 i hi).1)
   ·exact q.step.names _ h.fresh.1 (h.fresh.2 i hi).2
  intro e a' w' hq
  cases e with
  | normal =>
   obtain ⟨sl', S', c', K', ⟨m, hm, sl3, S3, c3, hgh, h1⟩, h2⟩ := hq
   obtain ⟨K3, h3⟩ := h2.ghost hgh
   exact ⟨m, hm, sl3, S3, K3, h1, back h3⟩
  | exit i =>
   obtain ⟨sl', S', c', K', h1, h2⟩ := hq
   exact ⟨sl', S', c1, K', h1 fun i hi => ((back h2).fresh.2 i hi).2, back h2⟩
  | goto l =>
   obtain ⟨sl', S', c', K', h1, h2⟩ := hq
   exact ⟨sl', S', c1, K', h1 fun i hi => ((back h2).fresh.2 i hi).2, back h2⟩
  | ret =>
   obtain ⟨sl', S', c', K', h1, h2⟩ := hq
   exact ⟨sl', S', c1, K', h1 fun i hi => ((back h2).fresh.2 i hi).2, back h2⟩
  | panic ch =>
   obtain ⟨xx, S', K', v, h1, h2, h3, h4, h5⟩ := hq
   exact ⟨xx, S', K', v, h1, h2, h3, h.step.trans (hstep.trans (h4.mono (Nat.le_of_lt h.fresh.1))), h5⟩
  | outgrown => exact hq.elim
 | .exit id, lc, n0, n1, he, ho, d, K0, S0, w0, sl, S, c, a, w, K, Q, hen, h, hl => by
  simp only [XC.of, Option.some.injEq, Prod.mk.injEq] at he
  obtain ⟨rfl, rfl⟩ := he
  obtain ⟨sl', S', c', hg, hq⟩ := LX_hint hl
  obtain ⟨K', h'⟩ := h.ghost hg
  exact wp_exit ⟨sl', S', c', K', hq, h'⟩
 | .ret, lc, n0, n1, he, ho, d, K0, S0, w0, sl, S, c, a, w, K, Q, hen, h, hl => by
  simp only [XC.of, Option.some.injEq, Prod.mk.injEq] at he
  obtain ⟨rfl, rfl⟩ := he
  obtain ⟨sl', S', c', hg, hq⟩ := LX_hint hl
  obtain ⟨K', h'⟩ := h.ghost hg
  exact wp_ret ⟨sl', S', c', K', hq, h'⟩
 | .rangeFunc g ps asg bd, lc, n0, n1, he, ho, d, K0, S0, w0, sl, S, c, a, w, K, Q, hen, h, hl => by
  exact chn_sound hT he ho hen h hl
 | .scope _, lc, _, _, he, _, _, _, _, _, _, _, _, _, _, _, _, _, _, _ => by simp [XC.of] at he
 | .label _, lc, _, _, he, _, _, _, _, _, _, _, _, _, _, _, _, _, _, _ => by simp [XC.of] at he
 | .goto _, lc, _, _, he, _, _, _, _, _, _, _, _, _, _, _, _, _, _, _ => by simp [XC.of] at he
 | .refuse _, lc, _, _, he, _, _, _, _, _, _, _, _, _, _, _, _, _, _, _ => by simp [XC.of] at he
end Go.Al
