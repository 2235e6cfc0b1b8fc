import Derived.Test.YtolfnhebnennpaaAlO
set_option linter.unusedSimpArgs false
set_option linter.unusedVariables false
namespace Go.Al
open Go Go.RowKit
section
variable {P : Program} {T : Tab} {d : Nat} {sl : Slots} {S : AHeap} {c : Nat} {k : Slots → AHeap → Nat → Prop} {kv : AV → AHeap → Nat → Prop} {kp : AV → AHeap → Prop} {ρ : Operand → AV} {Q : Post}
abbrev I (n : Int) : AV := .lit (.int .i64 n)
abbrev B (b : Bool) : AV := .lit (.bool b)
structure XOps (P : Program) (T : Tab) (d : Nat) (l : List LOp) (sl : Slots) (S : AHeap) (c : Nat) (k : Slots → AHeap → Nat → Prop) (kp : AV → AHeap → Prop) : Prop where
 go : lops P T d l sl S c k kp
structure XDrw (P : Program) (T : Tab) (d : Nat) (l : List (LOp × Bool)) (o : List Keep) (sl : Slots) (S : AHeap) (c : Nat) (k : Slots → AHeap → Nat → Prop) (kp : AV → AHeap → Prop) : Prop where
 go : ldrw P T d l o sl S c k kp
theorem lops_eq {l : List LOp} : lops P T d l sl S c k kp = XOps P T d l sl S c k kp := propext ⟨fun h => ⟨h⟩, fun h => h.go⟩
theorem ldrw_eq {l : List (LOp × Bool)} {o : List Keep} : ldrw P T d l o sl S c k kp = XDrw P T d l o sl S c k kp := propext ⟨fun h => ⟨h⟩, fun h => h.go⟩
theorem LW_seq {x y : LC} (h : LW P T x d sl S c fun e sl S c => match e with
  | .normal => LW P T y d sl S c Q
  | e => Q e sl S c) : LW P T (.seq x y) d sl S c Q := h
theorem LW_seq_regX {ops : List LOp} {ds : List Nat} {y : LC} {sl' : Slots} {S' : AHeap} {c' : Nat} (main : LW P T y d sl' S' c' Q) (h : ∀ k : Slots → AHeap → Nat → Prop, (∀ sl S c, Ghost d (forget ds sl) S c sl' S' c' → k sl S c) → XOps P T d ops sl S c k (fun x S => Q (.pan x) [] S 0)) : LW P T (.seq (.reg ops ds) y) d sl S c Q :=
 ⟨_, _, _, Ghost.refl, (h _ (fun _ _ _ h => ⟨_, _, _, h, main⟩)).go⟩
theorem LW_cond {o : Operand} {ds : List Nat} {x y : LC} {b : Bool} (hb : ev sl o = .lit (.bool b)) (h1 : b = true → LW P T x d (forget ds sl) S c Q) (h2 : b = false → LW P T y d (forget ds sl) S c Q) : LW P T (.cond o ds x y) d sl S c Q := by
 refine ⟨_, _, _, Ghost.refl, ?_⟩
 simp only [hb]; exact ⟨h1, h2⟩
theorem LW_skip (h : Q .normal sl S c) : LW P T .skip d sl S c Q := ⟨_, _, _, Ghost.refl, h⟩
theorem LW_ret (h : Q .ret sl S c) : LW P T .ret d sl S c Q := ⟨_, _, _, Ghost.refl, h⟩
theorem LW_retX {sl' : Slots} {S' : AHeap} {c' : Nat} (hg : Ghost d sl S c sl' S' c') (h : Q .ret sl' S' c') : LW P T .ret d sl S c Q := ⟨_, _, _, hg, h⟩
@[congr] theorem lops_congr {l : List LOp} {sl' : Slots} {S' : AHeap} {c' : Nat} (h : sl = sl') (hS : S = S') (hc : c = c') : XOps P T d l sl S c k kp = XOps P T d l sl' S' c' k kp := by rw [h, hS, hc]
@[go_sem] theorem lops_nil : XOps P T d [] sl S c k kp = k sl S c := by simp only [← lops_eq, ← ldrw_eq]; rfl
@[go_sem] theorem lops_none {dst op r} : XOps P T d (⟨dst, op, none⟩ :: r) sl S c k kp = lopv P T d op (ev sl) S c (fun v S c => XOps P T d r (put sl dst v) S c k kp) kp := by simp only [← lops_eq, ← ldrw_eq]; rfl
def post1 (q : Option (Prop × AV)) (S : AHeap) (c : Nat) (kv : AV → AHeap → Nat → Prop) : Prop :=
 match q with
 | some (p, r) => p ∧ kv r S c
 | none => False
@[congr] theorem post1_congr {q q' : Option (Prop × AV)} (h : q = q') : post1 q S c kv = post1 q' S c kv := by rw [h]
theorem post1_some {p : Prop} {r : AV} : post1 (some (p, r)) S c kv = (p ∧ kv r S c) := (rfl)
@[go_sem ↓] theorem lopv_move {x} : lopv P T d (.move x) ρ S c kv kp = post1 (some (True, ρ x)) S c kv := by simp [lopv, aop, post1]
@[go_sem ↓] theorem lopv_assign {x} : lopv P T d (.assign x) ρ S c kv kp = post1 (some (True, ρ x)) S c kv := by simp [lopv, aop, post1]
theorem lopv_binOp {op t x y u} : lopv P T d (.binOp op t x y u) ρ S c kv kp = post1 (abin T op t (ρ x) (ρ y)) S c kv := (rfl)
theorem lopv_slice {t x lo hi} : lopv P T d (.slice t x lo hi none) ρ S c kv kp = post1 (aslice T t (ρ x) (lo.map ρ) (hi.map ρ)) S c kv := (rfl)
theorem lopv_len {t x} : lopv P T d (.call ⟨.builtin .len, #[x], #[t]⟩) ρ S c kv kp = post1 (abuiltin T .len [t] [ρ x]) S c kv := (rfl)
class Kont where
 k : AV → AHeap → Nat → Prop
theorem ev_tmp {t : Nat} : ev sl (.tmp t) = sget sl t := (rfl)
theorem ev_const {v : Value} : ev sl (.const v) = .lit v := (rfl)
@[go_sem ↓] theorem lopv_buildSlice {t n ps} : lopv P T d (.buildSlice t n ps) ρ S c kv kp = match T t with
  | some ⟨.slice e, _, _, _⟩ => match T e with
   | some ei => match afill (fun i => some (i * ei.size, ei.size)) (zeros n ei.zero) (ps.toList.map fun q => (q.1, ρ q.2)) with
    | some cs => 0 < ei.size ∧ n * ei.size ≤ 2 ^ 24 ∧ kv (if n = 0 then .empt else .slice .young ei.size cs) S c
    | none => False
   | none => False
  | _ => False := (rfl)
def vptr (n : Name) (o i s : Nat) : AV := .ptr n (o + i * s)
def append1 (T : Tab) (d : Nat) (t tx : TypeId) (s x : AV) (S : AHeap) (c : Nat) [k : Kont] : Prop := match T t, T tx with
   | some ⟨.slice e, _, _, _⟩, some tix => match T e with
    | some ei => (tix.d = .int .i64 ∧ zapp d ei s x S c k.k) ∨ (tix.d = .slice e ∨ tix.d = .string) ∧ match s with
     | .slice (.tip n l) sz cs => match asrc S sz x with
      | some (p, ys) => S n = some (.buf l) ∧ ei.size = sz ∧ p ∧ (∀ y ∈ ys, y.one = true) ∧ ((cs.length + ys.length) / sz) * ei.bytes ≤ 2 ^ 47 ∧ (cs.length + ys.length) / sz < 2 ^ 63 ∧
        k.k (.slice (.tip n (l + ys.length)) sz (cs ++ ys)) (S.set n (.buf (l + ys.length))) c
      | none => False
     | .empt => match asrc S ei.size x with
      | some (p, ys) => 0 < ei.size ∧ p ∧ (∀ y ∈ ys, y.one = true) ∧ (ys.length / ei.size) * ei.bytes ≤ 2 ^ 47 ∧ ys.length / ei.size < 2 ^ 63 ∧
        ∃ pm : Bool, k.k (.slice (Own.at pm (d, c) ys.length) ei.size ys) (S.set (d, c) (.buf ys.length)) (c + 1)
      | none => False
     | .slice (.buf n l) sz cs => match asrc S sz x with
      | some (p, ys) => S n = some (.buf l) ∧ ei.size = sz ∧ p ∧ (∀ y ∈ ys, y.one = true) ∧ ((cs.length + ys.length) / sz) * ei.bytes ≤ 2 ^ 47 ∧ (cs.length + ys.length) / sz < 2 ^ 63 ∧
        k.k (.slice (.buf n (l + ys.length)) sz (cs ++ ys)) (S.set n (.buf (l + ys.length))) c
      | none => False
     | .lit (.slice none 0 0) => match asrc S ei.size x with
      | some (p, ys) => 0 < ei.size ∧ p ∧ (∀ y ∈ ys, y.one = true) ∧ (ys.length / ei.size) * ei.bytes ≤ 2 ^ 47 ∧ ys.length / ei.size < 2 ^ 63 ∧
        k.k (.slice (.buf (d, c) ys.length) ei.size ys) (S.set (d, c) (.buf ys.length)) (c + 1)
      | none => False
     | _ => False
    | none => False
   | _, _ => False
@[go_sem ↓] theorem lopv_append {s x t tx} : lopv P T d (.call ⟨.builtin .append, #[s, x], #[t, tx]⟩) ρ S c kv kp = append1 T d t tx (ρ s) (ρ x) S c (k := ⟨kv⟩) := (rfl)
def copy1 (T : Tab) (t tx : TypeId) (a x : AV) (S : AHeap) (c : Nat) [k : Kont] : Prop := match T t, T tx with
   | some ⟨.slice e, _, _, _⟩, some tix => match T e with
    | some ei => (tix.d = .slice e ∨ tix.d = .string) ∧ match a with
     | .sref n sz o len _ => match S n, asrc S sz x with
      | some (.box cs), some (p, ys) => ei.size = sz ∧ p ∧ (∀ y ∈ ys, y.one = true) ∧ o + len * sz ≤ cs.length ∧
        k.k (.lit (.int .i64 ((min (ys.length / sz) len : Nat) : Int))) (S.set n (.box (splice o (ys.take (len * sz)) cs))) c
      | _, _ => False
     | _ => False
    | none => False
   | _, _ => False
@[go_sem ↓] theorem lopv_copy {s x t tx} : lopv P T d (.call ⟨.builtin .copy, #[s, x], #[t, tx]⟩) ρ S c kv kp = copy1 T t tx (ρ s) (ρ x) S c (k := ⟨kv⟩) := (rfl)
theorem lopv_cap {t x} : lopv P T d (.call ⟨.builtin .cap, #[x], #[t]⟩) ρ S c kv kp = post1 (abuiltin T .cap [t] [ρ x]) S c kv := (rfl)
theorem abuiltin_cap_nil {t a n k} : abuiltin T .cap [t] [.lit (.slice a n k)] = match T t with
  | some ⟨.slice _, _, _, _⟩ => some (True, .lit (.int .i64 (k : Int)))
  | _ => none := by
 rcases hT : T t with _ | ⟨dd, s1, s2, s3⟩ <;> (try cases dd) <;> simp [abuiltin, hT]
theorem sget_nil {i : Nat} : sget [] i = .any := (rfl)
theorem sget_cons {i j : Nat} {v : AV} {r : Slots} : sget ((j, v) :: r) i = if i = j then v else sget r i := (rfl)
theorem sset_nil {i : Nat} {v : AV} : sset [] i v = [(i, v)] := (rfl)
theorem sset_cons {i j : Nat} {u v : AV} {r : Slots} : sset ((j, u) :: r) i v = if i = j then (j, v) :: r else (j, u) :: sset r i v := (rfl)
theorem zeros_def {n : Nat} {z : List Value} : zeros n z = (List.replicate n (z.map AV.lit)).flatten := (rfl)
theorem apick_true {a b : AV} : apick true a b = a := by cases a <;> cases b <;> simp [apick] <;> (try (rename_i v u; cases v <;> cases u <;> simp [apick]))
theorem apick_false {a b : AV} : apick false a b = b := by cases a <;> cases b <;> simp [apick] <;> (try (rename_i v u; cases v <;> cases u <;> simp [apick] <;> (intro h; subst h; rfl)))
theorem abin_int {op t k a k' b} : abin T op t (.lit (.int k a)) (.lit (.int k' b)) = aintOp op k a k' b := (rfl)
def shlI (k : IntKind) (a b : Int) : Int := k.wrap (a * 2 ^ (min b.toNat k.bits))
def shrI (k : IntKind) (a b : Int) : Int := a.fdiv (2 ^ (min b.toNat k.bits))
def bitAnd (k : IntKind) (a b : Int) : Int := k.wrap ((BitVec.ofInt k.bits a &&& BitVec.ofInt k.bits b).toNat : Int)
def bitOr (k : IntKind) (a b : Int) : Int := k.wrap ((BitVec.ofInt k.bits a ||| BitVec.ofInt k.bits b).toNat : Int)
def bitXor (k : IntKind) (a b : Int) : Int := k.wrap ((BitVec.ofInt k.bits a ^^^ BitVec.ofInt k.bits b).toNat : Int)
def bitAndNot (k : IntKind) (a b : Int) : Int := k.wrap ((BitVec.ofInt k.bits a &&& ~~~ (BitVec.ofInt k.bits b)).toNat : Int)
def bitNot (k : IntKind) (n : Int) : Int := k.wrap ((BitVec.ofInt k.bits (if k.signed then -1 else k.max) ^^^ BitVec.ofInt k.bits n).toNat : Int)
theorem aintOp_sub {k a b} : aintOp .sub k a k b = some (True, .lit (.int k (k.wrap (a - b)))) := by simp only [aintOp, if_true]
theorem aintOp_lss {k a b} : aintOp .lss k a k b = some (True, .lit (.bool (decide (a < b)))) := by simp only [aintOp, if_true]
theorem aintOp_gtr {k a b} : aintOp .gtr k a k b = some (True, .lit (.bool (decide (b < a)))) := by simp only [aintOp, if_true, gt_iff_lt]
@[go_sem] theorem aslice_nil {t lo hi} : aslice T t (.lit (.slice none 0 0)) lo hi = match T t with
  | some ⟨.slice e, _, _, _⟩ => match T e, abound 0 lo, abound 0 hi with
   | some _, some l, some h => some (l = 0 ∧ h = 0, .lit (.slice none 0 0))
   | _, _, _ => none
  | _ => none := by
 rcases hT : T t with _ | ⟨dd, s1, s2, s3⟩ <;> simp only [aslice, hT] <;> (try cases dd) <;> rfl
theorem abound_none {d : Int} : abound d none = some d := (rfl)
theorem abound_some {d i : Int} {k} : abound d (some (.lit (.int k i))) = some i := (rfl)
theorem abuiltin_len_nil {t a n c} : abuiltin T .len [t] [.lit (.slice a n c)] = match T t with
  | some ⟨.slice _, _, _, _⟩ => some (True, .lit (.int .i64 (n : Int)))
  | some ⟨.array n _, _, _, _⟩ => some (True, .lit (.int .i64 (n : Int)))
  | _ => none := by
 rcases hT : T t with _ | ⟨dd, s1, s2, s3⟩ <;> (try cases dd) <;> simp [abuiltin, hT] <;> first | rfl | (rename_i e; cases hE : T e <;> simp)
theorem afill_nil {place cells} : afill place cells [] = some cells := (rfl)
theorem put_some {i : Nat} {v : AV} : put sl (some i) v = sset sl i v := (rfl)
end
section
variable {P : Program} {T : Tab} {d : Nat} {sl : Slots} {S : AHeap} {c : Nat} {k : Slots → AHeap → Nat → Prop} {kp : AV → AHeap → Prop}
end
attribute [go_sem ↓] lopv_binOp lopv_slice lopv_len
attribute [go_sem ↓] lopv_cap
attribute [go_sem] abuiltin_cap_nil
attribute [go_sem] post1_some ev_tmp ev_const sget_nil sget_cons sset_nil sset_cons put_some apick_true apick_false abin_int aintOp_sub aintOp_lss aintOp_gtr abound_none abound_some abuiltin_len_nil afill_nil TD.isAgg effect reads.eq_2 argSlots ares one1 zeros_def
end Go.Al
