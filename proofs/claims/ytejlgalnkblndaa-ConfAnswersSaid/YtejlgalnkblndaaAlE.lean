/- The operations that turn nothing in memory: arithmetic, comparisons, aggregates; all of them in one word. -/
import Derived.Test.YtejlgalnkblndaaAlD
set_option linter.unusedSimpArgs false
set_option linter.unusedVariables false
namespace Go.Al
open Go.RowKit

/-- Two integers. -/
def aintOp (op : BinOp) (k : IntKind) (a : Int) (k' : IntKind) (b : Int) : Option (Prop × AV) :=
  match op with
  | .shl => some (0 ≤ b, .lit (.int k (k.wrap (a * 2 ^ (min b.toNat k.bits)))))
  | .shr => some (0 ≤ b, .lit (.int k (a.fdiv (2 ^ (min b.toNat k.bits)))))
  | _ => if k = k' then match op with
    | .add => some (True, .lit (.int k (k.wrap (a + b))))
    | .sub => some (True, .lit (.int k (k.wrap (a - b))))
    | .mul => some (True, .lit (.int k (k.wrap (a * b))))
    | .quo => some (b ≠ 0, .lit (.int k (k.wrap (a.tdiv b))))
    | .rem => some (b ≠ 0, .lit (.int k (a.tmod b)))
    | .and => some (True, .lit (.int k (k.wrap ((BitVec.ofInt k.bits a &&& BitVec.ofInt k.bits b).toNat : Int))))
    | .or => some (True, .lit (.int k (k.wrap ((BitVec.ofInt k.bits a ||| BitVec.ofInt k.bits b).toNat : Int))))
    | .xor => some (True, .lit (.int k (k.wrap ((BitVec.ofInt k.bits a ^^^ BitVec.ofInt k.bits b).toNat : Int))))
    | .andNot => some (True, .lit (.int k (k.wrap ((BitVec.ofInt k.bits a &&& ~~~ (BitVec.ofInt k.bits b)).toNat : Int))))
    | .eql => some (True, .lit (.bool (a == b)))
    | .neq => some (True, .lit (.bool (a != b)))
    | .lss => some (True, .lit (.bool (decide (a < b))))
    | .leq => some (True, .lit (.bool (decide (a ≤ b))))
    | .gtr => some (True, .lit (.bool (decide (a > b))))
    | .geq => some (True, .lit (.bool (decide (a ≥ b))))
    | _ => none
    else none

theorem aintOp_sound {P : Program} {w : World} {op : BinOp} {t : TypeId} {k k' : IntKind} {a b : Int} {p : Prop} {r : AV}
    (h : aintOp op k a k' b = some (p, r)) (hp : p) : ∃ u, (binOp op t (.int k a) (.int k' b)).run P w = .ok u w ∧ r = .lit u := by
  unfold aintOp at h
  split at h
  · cases h
    have hn : ¬ b < 0 := by omega
    exact ⟨_, by simp only [binOp, Op.shift, if_neg hn, Sem.run_pure], rfl⟩
  · cases h
    have hn : ¬ b < 0 := by omega
    exact ⟨_, by simp only [binOp, Op.shift, if_neg hn, Sem.run_pure], rfl⟩
  · split at h <;> try (cases h; done)
    rename_i hk
    subst hk
    split at h <;> (try (cases h; done)) <;> cases h <;>
      first
        | (have hp' : ¬ b = 0 := hp; exact ⟨_, by simp only [binOp, Op.intDiv, ne_eq, not_true_eq_false, if_false, if_neg hp', Sem.run_pure], rfl⟩)
        | exact ⟨_, by simp only [binOp, ne_eq, not_true_eq_false, if_false]; rfl, rfl⟩

def astrOp (op : BinOp) (a b : ByteArray) : Option (Prop × AV) :=
  match op with
  | .add => some (((a.size + b.size : Nat) : Int) ≤ IntKind.i64.max, .lit (.string (a ++ b)))
  | .eql => some (True, .lit (.bool (a.toList == b.toList)))
  | .neq => some (True, .lit (.bool (!(a.toList == b.toList))))
  | .lss => some (True, .lit (.bool (Op.bytesLess a.toList b.toList)))
  | _ => none

theorem astrOp_sound {P : Program} {w : World} {op : BinOp} {t : TypeId} {a b : ByteArray} {p : Prop} {r : AV}
    (h : astrOp op a b = some (p, r)) (hp : p) : ∃ u, (binOp op t (.string a) (.string b)).run P w = .ok u w ∧ r = .lit u := by
  unfold astrOp at h
  split at h <;> (try (cases h; done)) <;> cases h
  · have : ¬ (((a.size + b.size : Nat) : Int) > IntKind.i64.max) := by omega
    exact ⟨_, by simp only [binOp, Op.stringOp, if_neg this, Sem.run_pure], rfl⟩
  all_goals exact ⟨_, rfl, rfl⟩

/-- Is it the nil pointer for sure (true), or not for sure (false)? -/
def nilP : AV → Option (Prop × Bool)
  | .lit (.pointer none) => some (True, true)
  | .ptr _ _ => some (True, false)
  | .rptr _ _ => some (True, false)
  | _ => none
/-- Is it the nil slice for sure (true), or not for sure (false)? -/
def nilS : AV → Option (Prop × Bool)
  | .lit (.slice none 0 0) => some (True, true)
  | .slice _ _ cs => some (cs ≠ [], false)
  | .sref _ _ _ _ _ => some (True, false)
  | _ => none

/-- x == y. -/
def aeq (T : Tab) (t : TypeId) (x y : AV) : Option (Prop × Bool) :=
  match x, y with
  | .lit (.int k a), .lit (.int k' b) => if k = k' then some (True, a == b) else none
  | .lit (.string a), .lit (.string b) => some (True, a.toList == b.toList)
  | .lit (.bool a), .lit (.bool b) => match T t with
    | some ⟨.bool, _, _, _⟩ => some (True, a == b)
    | _ => none
  | x, .lit (.pointer none) => match T t with
    | some ⟨.pointer e, _, _, _⟩ => nilP x
    | _ => none
  | .lit (.pointer none), y => match T t with
    | some ⟨.pointer e, _, _, _⟩ => nilP y
    | _ => none
  | x, .lit (.slice none 0 0) => match T t with
    | some ⟨.slice e, _, _, _⟩ => nilS x
    | _ => none
  | _, _ => none

theorem run_equal_of {P : Program} {w : World} {t : TypeId} {x y : Value} {r : Result Bool} (h : ∀ d, (Op.equalIn (d + 1) t x y).run P w = r) : (Op.equal t x y).run P w = r := h 9999

theorem eq3 {P : Program} {w : World} {t : TypeId} {v u : Value} {b : Bool} (hg : ∀ o1 o2 op, (eqGuard op t o1 o2 v u).run P w = .ok () w)
    (h1 : binOp .eql t v u = do pure (.bool (← Op.equal t v u))) (h2 : binOp .neq t v u = do pure (.bool (!(← Op.equal t v u)))) (he : (Op.equal t v u).run P w = .ok b w) :
    (∀ o1 o2 op, (eqGuard op t o1 o2 v u).run P w = .ok () w) ∧ (binOp .eql t v u).run P w = .ok (.bool b) w ∧ (binOp .neq t v u).run P w = .ok (.bool !b) w :=
  ⟨hg, by rw [h1]; simp only [Sem.run_bind, he, Result.andThen_ok, Sem.run_pure], by rw [h2]; simp only [Sem.run_bind, he, Result.andThen_ok, Sem.run_pure]⟩

theorem eqGuard_ok {P : Program} {w : World} {t : TypeId} {v u : Value} (h : match v, u with | .nilIface, .nilIface | .agg _, .agg _ => False | _, _ => True) :
    ∀ o1 o2 op, (eqGuard op t o1 o2 v u).run P w = .ok () w := by
  intro o1 o2 op
  unfold eqGuard
  cases op <;> first | rfl | (simp only [Sem.run_bind]; cases v <;> cases u <;> first | rfl | exact h.elim)

theorem nilness_ptr {K : Kn} {x : AV} {v : Value} {p : Prop} {b : Bool} (h : nilP x = some (p, b)) (hp : p) (hx : SimV K x v) : ∃ a, v = .pointer a ∧ b = a.isNone := by
  unfold nilP at h
  split at h <;> (try (cases h; done)) <;> simp only [SimV] at hx
  · cases h; exact ⟨none, hx, rfl⟩
  · cases h; obtain ⟨b1, f, _, rfl⟩ := hx; exact ⟨_, rfl, rfl⟩
  · cases h; obtain ⟨b1, f, rfl, _⟩ := hx; exact ⟨_, rfl, rfl⟩

theorem nilness_slice {K : Kn} {x : AV} {v : Value} {p : Prop} {b : Bool} (h : nilS x = some (p, b)) (hp : p) (hx : SimV K x v) : ∃ a n c, v = .slice a n c ∧ b = a.isNone := by
  unfold nilS at h
  split at h <;> (try (cases h; done)) <;> simp only [SimV] at hx
  · cases h; exact ⟨none, 0, 0, hx, rfl⟩
  · cases h
    obtain ⟨a, n, c, rfl, _, _, _, h5⟩ := hx
    rcases h5 with ⟨h5, _⟩ | ⟨b1, o, rfl, _⟩
    · exact absurd h5 hp
    · exact ⟨_, _, _, rfl, rfl⟩
  · cases h; obtain ⟨b1, f, c', _, rfl, _⟩ := hx; exact ⟨_, _, _, rfl, rfl⟩

theorem aeq_sound {P : Program} {T : Tab} (hT : TOk P T) {K : Kn} {w : World} {t : TypeId} {x y : AV} {v u : Value} {p : Prop} {b : Bool}
    (h : aeq T t x y = some (p, b)) (hp : p) (hx : SimV K x v) (hy : SimV K y u) :
    (∀ o1 o2 op, (eqGuard op t o1 o2 v u).run P w = .ok () w) ∧ (binOp .eql t v u).run P w = .ok (.bool b) w ∧ (binOp .neq t v u).run P w = .ok (.bool !b) w := by
  unfold aeq at h
  split at h
  · split at h <;> try (cases h; done)
    rename_i k a k' b' hk
    cases h
    simp only [SimV] at hx hy
    subst hx hy hk
    refine ⟨eqGuard_ok trivial, ?_, ?_⟩ <;> simp only [binOp, ne_eq, not_true_eq_false, if_false] <;> rfl
  · cases h
    simp only [SimV] at hx hy
    subst hx hy
    exact ⟨eqGuard_ok trivial, rfl, rfl⟩
  · split at h <;> try (cases h; done)
    rename_i a b' i s1 s2 s3 hti
    cases h
    simp only [SimV] at hx hy
    subst hx hy
    obtain ⟨d, h1, h2⟩ := hT.und hti
    simp only [TD.fits] at h2; subst h2
    exact eq3 (eqGuard_ok trivial) rfl rfl (run_equal_of fun d' => by simp only [Op.equalIn, Sem.run_bind, h1, Result.andThen_ok, Sem.run_pure])
  · -- pointers
    split at h <;> try (cases h; done)
    rename_i e s1 s2 s3 hti
    obtain ⟨d, h1, h2⟩ := hT.und hti
    simp only [TD.fits] at h2; subst h2
    simp only [SimV] at hy; subst hy
    obtain ⟨a, rfl, rfl⟩ := nilness_ptr h hp hx
    refine eq3 (eqGuard_ok trivial) rfl rfl ?_
    refine run_equal_of fun d' => ?_
    cases a <;> simp only [Op.equalIn, Sem.run_bind, h1, Result.andThen_ok, Sem.run_pure] <;> rfl
  · split at h <;> try (cases h; done)
    rename_i e s1 s2 s3 hti
    obtain ⟨d, h1, h2⟩ := hT.und hti
    simp only [TD.fits] at h2; subst h2
    simp only [SimV] at hx; subst hx
    obtain ⟨a, rfl, rfl⟩ := nilness_ptr h hp hy
    refine eq3 (eqGuard_ok trivial) rfl rfl ?_
    refine run_equal_of fun d' => ?_
    cases a <;> simp only [Op.equalIn, Sem.run_bind, h1, Result.andThen_ok, Sem.run_pure] <;> rfl
  · split at h <;> try (cases h; done)
    rename_i e s1 s2 s3 hti
    obtain ⟨d, h1, h2⟩ := hT.und hti
    simp only [TD.fits] at h2; subst h2
    simp only [SimV] at hy; subst hy
    obtain ⟨a, n, c, rfl, rfl⟩ := nilness_slice h hp hx
    refine eq3 (eqGuard_ok trivial) rfl rfl ?_
    refine run_equal_of fun d' => ?_
    cases a <;> simp only [Op.equalIn, Sem.run_bind, h1, Result.andThen_ok, Sem.run_pure] <;> rfl
  · cases h
end Go.Al
