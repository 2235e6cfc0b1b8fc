/- How code is gone through: each word's own equation, taken from the head inwards. -/
import Derived.Test.YtlahipbilbibiaaAlO
set_option linter.unusedSimpArgs false
set_option linter.unusedVariables false
namespace Go.Al
open Go Go.RowKit
section
variable {P : Program} {T : Tab} {d : Nat} {sl : Slots} {S : AHeap} {c : Nat} {k : Slots → AHeap → Nat → Prop} {kv : AV → AHeap → Nat → Prop} {kp : AV → AHeap → Prop} {ρ : Operand → AV} {Q : Post}
abbrev I (n : Int) : AV := .lit (.int .i64 n)
abbrev B (b : Bool) : AV := .lit (.bool b)
structure XOps (P : Program) (T : Tab) (d : Nat) (l : List LOp) (sl : Slots) (S : AHeap) (c : Nat) (k : Slots → AHeap → Nat → Prop) (kp : AV → AHeap → Prop) : Prop where
  go : lops P T d l sl S c k kp
structure XDrw (P : Program) (T : Tab) (d : Nat) (l : List (LOp × Bool)) (o : List Keep) (sl : Slots) (S : AHeap) (c : Nat) (k : Slots → AHeap → Nat → Prop) (kp : AV → AHeap → Prop) : Prop where
  go : ldrw P T d l o sl S c k kp
theorem lops_eq {l : List LOp} : lops P T d l sl S c k kp = XOps P T d l sl S c k kp := propext ⟨fun h => ⟨h⟩, fun h => h.go⟩
theorem ldrw_eq {l : List (LOp × Bool)} {o : List Keep} : ldrw P T d l o sl S c k kp = XDrw P T d l o sl S c k kp := propext ⟨fun h => ⟨h⟩, fun h => h.go⟩
/-! ### Code -/
theorem LW_seq {x y : LC} (h : LW P T x d sl S c fun e sl S c => match e with
    | .normal => LW P T y d sl S c Q
    | e => Q e sl S c) : LW P T (.seq x y) d sl S c Q := h
theorem LW_seq_regX {ops : List LOp} {ds : List Nat} {y : LC} {sl' : Slots} {S' : AHeap} {c' : Nat} (main : LW P T y d sl' S' c' Q) (h : ∀ k : Slots → AHeap → Nat → Prop, (∀ sl S c, Ghost d (forget ds sl) S c sl' S' c' → k sl S c) → XOps P T d ops sl S c k (fun x S => Q (.pan x) [] S 0)) : LW P T (.seq (.reg ops ds) y) d sl S c Q :=
  ⟨_, _, _, Ghost.refl, (h _ (fun _ _ _ h => ⟨_, _, _, h, main⟩)).go⟩
theorem LW_cond {o : Operand} {ds : List Nat} {x y : LC} {b : Bool} (hb : ev sl o = .lit (.bool b)) (h1 : b = true → LW P T x d (forget ds sl) S c Q) (h2 : b = false → LW P T y d (forget ds sl) S c Q) : LW P T (.cond o ds x y) d sl S c Q := by
  refine ⟨_, _, _, Ghost.refl, ?_⟩
  simp only [hb]; exact ⟨h1, h2⟩
theorem LW_skip (h : Q .normal sl S c) : LW P T .skip d sl S c Q := ⟨_, _, _, Ghost.refl, h⟩
theorem LW_ret (h : Q .ret sl S c) : LW P T .ret d sl S c Q := ⟨_, _, _, Ghost.refl, h⟩
theorem LW_retX {sl' : Slots} {S' : AHeap} {c' : Nat} (hg : Ghost d sl S c sl' S' c') (h : Q .ret sl' S' c') : LW P T .ret d sl S c Q := ⟨_, _, _, hg, h⟩
/-! ### Operations -/
def onBool (x : AV) (f : Bool → Prop) (z : Prop) : Prop := match x with
  | .lit (.bool g) => f g
  | .lit (.tuple _) => z
  | _ => False
@[congr] theorem onBool_congr {x y : AV} {f : Bool → Prop} {z : Prop} (h : x = y) : onBool x f z = onBool y f z := by rw [h]
@[go_sem ↓] theorem onBool_bool {g : Bool} {f : Bool → Prop} {z : Prop} : onBool (.lit (.bool g)) f z = f g := (rfl)
@[go_sem ↓] theorem onBool_undef {f : Bool → Prop} {z : Prop} : onBool (.lit undef) f z = z := (rfl)
def splitB (g b : Bool) (X Y : Prop) : Prop := (g = b → X) ∧ (g ≠ b → Y)
@[congr] theorem splitB_congr {g g' b : Bool} {X Y : Prop} (h : g = g') : splitB g b X Y = splitB g' b X Y := by rw [h]
@[go_sem ↓] theorem splitB_same {b : Bool} {X Y : Prop} : splitB b b X Y = X := by simp [splitB]
@[go_sem ↓] theorem splitB_tf {X Y : Prop} : splitB true false X Y = Y := by simp [splitB]
@[go_sem ↓] theorem splitB_ft {X Y : Prop} : splitB false true X Y = Y := by simp [splitB]
@[congr] theorem lops_congr {l : List LOp} {sl' : Slots} {S' : AHeap} {c' : Nat} (h : sl = sl') (hS : S = S') (hc : c = c') : XOps P T d l sl S c k kp = XOps P T d l sl' S' c' k kp := by rw [h, hS, hc]
@[congr] theorem ldrw_congr {l : List (LOp × Bool)} {o o' : List Keep} {sl' : Slots} {S' : AHeap} {c' : Nat} (ho : o = o') (h : sl = sl') (hS : S = S') (hc : c = c') : XDrw P T d l o sl S c k kp = XDrw P T d l o' sl' S' c' k kp := by rw [ho, h, hS, hc]
@[go_sem] theorem lops_nil : XOps P T d [] sl S c k kp = k sl S c := by simp only [← lops_eq, ← ldrw_eq]; rfl
@[go_sem] theorem lops_none {dst op r} : XOps P T d (⟨dst, op, none⟩ :: r) sl S c k kp = lopv P T d op (ev sl) S c (fun v S c => XOps P T d r (put sl dst v) S c k kp) kp := by simp only [← lops_eq, ← ldrw_eq]; rfl
theorem lops_some {dst op r t b} : XOps P T d (⟨dst, op, some (t, b)⟩ :: r) sl S c k kp = onBool (sget sl t) (fun g => splitB g b (lopv P T d op (ev (sset sl t (.lit (.bool b)))) S c (fun v S c => XOps P T d r (put (sset sl t (.lit (.bool b))) dst v) S c k kp) kp) (XOps P T d r (put (sset sl t (.lit (.bool (!b)))) dst (.lit undef)) S c k kp)) (XOps P T d r (put sl dst (.lit undef)) S c k kp) := by
  simp only [← lops_eq, ← ldrw_eq]
  rfl
@[go_sem ↓] theorem lopv_box {t x} : lopv P T d (.box t x) ρ S c kv kp = ((ρ x).laid = true ∧ kv (.ptr (d, c) 0) (S.set (d, c) (.box (ρ x).cells)) (c + 1)) := (rfl)
/-- What is asked, and what comes of it. -/
def post1 (q : Option (Prop × AV)) (S : AHeap) (c : Nat) (kv : AV → AHeap → Nat → Prop) : Prop :=
  match q with
  | some (p, r) => p ∧ kv r S c
  | none => False
@[congr] theorem post1_congr {q q' : Option (Prop × AV)} (h : q = q') : post1 q S c kv = post1 q' S c kv := by rw [h]
theorem post1_some {p : Prop} {r : AV} : post1 (some (p, r)) S c kv = (p ∧ kv r S c) := (rfl)
@[go_sem ↓] theorem lopv_move {x} : lopv P T d (.move x) ρ S c kv kp = post1 (some (True, ρ x)) S c kv := by simp [lopv, aop, post1]
@[go_sem ↓] theorem lopv_assign {x} : lopv P T d (.assign x) ρ S c kv kp = post1 (some (True, ρ x)) S c kv := by simp [lopv, aop, post1]
theorem lopv_pick {a b x} : lopv P T d (.pick x a b) ρ S c kv kp = post1 (aop T S ρ (.pick x a b)) S c kv := (rfl)
theorem lopv_load {t a} : lopv P T d (.load t a) ρ S c kv kp = post1 (aload T S t (ρ a)) S c kv := (rfl)
theorem lopv_binOp {op t x y u} : lopv P T d (.binOp op t x y u) ρ S c kv kp = post1 (abin T op t (ρ x) (ρ y)) S c kv := (rfl)
theorem lopv_unOp {op t x} : lopv P T d (.unOp op t x) ρ S c kv kp = post1 (aunOp op (ρ x)) S c kv := (rfl)
theorem lopv_convert {s t x} : lopv P T d (.convert s t x) ρ S c kv kp = post1 (qconv T s t (ρ x)) S c kv := (rfl)
theorem lopv_fieldAddr {t x f} : lopv P T d (.fieldAddr t x f) ρ S c kv kp = post1 ((afieldAddr T t f (ρ x)).map fun r => (True, r)) S c kv := (rfl)
theorem lopv_field {t x f} : lopv P T d (.field t x f) ρ S c kv kp = post1 (afield T t f (ρ x)) S c kv := (rfl)
theorem lopv_indexAddr {t x i} : lopv P T d (.indexAddr t x i) ρ S c kv kp = post1 (aindexAddr T t (ρ x) (ρ i)) S c kv := (rfl)
theorem lopv_index {t x i} : lopv P T d (.index t x i) ρ S c kv kp = post1 (aindex T t (ρ x) (ρ i)) S c kv := (rfl)
theorem lopv_slice {t x lo hi} : lopv P T d (.slice t x lo hi none) ρ S c kv kp = post1 (aslice T t (ρ x) (lo.map ρ) (hi.map ρ)) S c kv := (rfl)
theorem lopv_extract {x i} : lopv P T d (.extract x i) ρ S c kv kp = post1 (aop T S ρ (.extract x i)) S c kv := (rfl)
theorem lopv_nilCheck {x} : lopv P T d (.nilCheck x) ρ S c kv kp = post1 (aop T S ρ (.nilCheck x)) S c kv := (rfl)
theorem lopv_build {t ps} : lopv P T d (.build t ps) ρ S c kv kp = post1 ((abuild T t (ps.toList.map fun q => (q.1, ρ q.2))).map fun r => (True, r)) S c kv := (rfl)
theorem lopv_makeFunc {f a b} : lopv P T d (.makeFunc f a b) ρ S c kv kp = (True ∧ kv (.fn f (a.toList.map ρ) (b.toList.map ρ)) S c) := (rfl)
theorem lopv_makeInterface {t x} : lopv P T d (.makeInterface t x) ρ S c kv kp = post1 (aop T S ρ (.makeInterface t x)) S c kv := (rfl)
theorem lopv_len {t x} : lopv P T d (.call ⟨.builtin .len, #[x], #[t]⟩) ρ S c kv kp = post1 (abuiltin T .len [t] [ρ x]) S c kv := (rfl)
theorem lopv_max {t u x y} : lopv P T d (.call ⟨.builtin .max, #[x, y], #[t, u]⟩) ρ S c kv kp = post1 (abuiltin T .max [t, u] [ρ x, ρ y]) S c kv := (rfl)
theorem lopv_min {t u x y} : lopv P T d (.call ⟨.builtin .min, #[x, y], #[t, u]⟩) ρ S c kv kp = post1 (abuiltin T .min [t, u] [ρ x, ρ y]) S c kv := (rfl)
/-- What comes next: as an instance, for 'simp' leaves instances alone. -/
class Kont where
  k : AV → AHeap → Nat → Prop
/-- A call, of a function that is known. -/
def call1 (P : Program) (d : Nat) (f : AV) (as : List AV) (S : AHeap) (c : Nat) [kv : Kont] (kp : AV → AHeap → Prop) : Prop := match f with
    | .fn (.func g) first cap => ∃ as' S1 c1, GhostL d (first ++ as ++ cap) S c as' S1 c1 ∧ AC P g as' S1 fun e S' => (∀ n : Name, n.1 ≤ d → S1 n = none → S' n = none) → match e with
      | .ret v => ∃ v' S2 c2, GhostL d [v] S' c1 [v'] S2 c2 ∧ kv.k v' S2 c2
      | .pan v => kp v S'
    | _ => False
@[go_sem ↓] theorem lopv_call {f args ts} : lopv P T d (.call ⟨.value f, args, ts⟩) ρ S c kv kp = call1 P d (ρ f) (args.toList.map ρ) S c (kv := ⟨kv⟩) kp := (rfl)
/-! ### A region that draws its order -/
@[go_sem] theorem ldrw_nil {op} : XDrw P T d [] op sl S c k kp = k sl S c := by simp only [← lops_eq, ← ldrw_eq]; rfl
theorem ldrw_none {dst op l r o} : XDrw P T d ((⟨dst, op, none⟩, l) :: r) o sl S c k kp =
    if effect op then lopv P T d op (ev sl) S c (fun v S' c' => (∀ q ∈ (if l then [] else o), q.ok S S') ∧ XDrw P T d r (if l then [] else o) (put sl dst v) S' c' k kp) kp
    else lopv P T d op (ev sl) S c (fun v S' c' => XDrw P T d r (if l then reads (ev sl) op ++ o else o) (put sl dst v) S' c' k kp) kp := by simp only [← lops_eq, ← ldrw_eq]; rfl
theorem ldrw_some {dst op l r o t b} : XDrw P T d ((⟨dst, op, some (t, b)⟩, l) :: r) o sl S c k kp = onBool (sget sl t) (fun g => splitB g b (if effect op then lopv P T d op (ev (sset sl t (.lit (.bool b)))) S c (fun v S' c' => (∀ q ∈ (if l then [] else o), q.ok S S') ∧ XDrw P T d r (if l then [] else o) (put (sset sl t (.lit (.bool b))) dst v) S' c' k kp) kp
          else lopv P T d op (ev (sset sl t (.lit (.bool b)))) S c (fun v S' c' => XDrw P T d r (if l then reads (ev (sset sl t (.lit (.bool b)))) op ++ o else o) (put (sset sl t (.lit (.bool b))) dst v) S' c' k kp) kp) (XDrw P T d r o (put (sset sl t (.lit (.bool (!b)))) dst (.lit undef)) S c k kp)) (XDrw P T d r o (put sl dst (.lit undef)) S c k kp) := by
  simp only [← lops_eq, ← ldrw_eq]
  rfl
theorem AHeap.set_apply {n m : Name} {o : AObj} : (S.set n o) m = if m = n then some o else S m := (rfl)
theorem forget_nil {ds : List Nat} : forget ds [] = [] := (rfl)
theorem forget_cons {ds : List Nat} {i : Nat} {v : AV} {sl : Slots} : forget ds ((i, v) :: sl) = if ds.contains i then forget ds sl else (i, v) :: forget ds sl := by
  simp only [forget, List.filter_cons]
  cases ds.contains i <;> rfl
theorem ev_tmp {t : Nat} : ev sl (.tmp t) = sget sl t := (rfl)
theorem ev_const {v : Value} : ev sl (.const v) = .lit v := (rfl)
theorem ev_func {f : FuncId} : ev sl (.func f) = .fn (.func f) [] [] := (rfl)
@[go_sem ↓] theorem lopv_buildSlice {t n ps} : lopv P T d (.buildSlice t n ps) ρ S c kv kp = match T t with
    | some ⟨.slice e, _, _, _⟩ => match T e with
      | some ei => match afill (fun i => some (i * ei.size, ei.size)) (zeros n ei.zero) (ps.toList.map fun q => (q.1, ρ q.2)) with
        | some cs => 0 < ei.size ∧ n * ei.size ≤ 2 ^ 24 ∧ kv (if n = 0 then .empt else .slice .young ei.size cs) S c
        | none => False
      | none => False
    | _ => False := (rfl)
@[go_sem ↓] theorem lopv_alloc {t} : lopv P T d (.alloc t) ρ S c kv kp = match T t with
    | some i => kv (.ptr (d, c) 0) (S.set (d, c) (.box (i.zero.map .lit))) (c + 1)
    | none => False := (rfl)
/-- A store, of a value. -/
def store1 (T : Tab) (t : TypeId) (a x : AV) (S : AHeap) (c : Nat) [kv : Kont] : Prop := match a, T t with
    | .ptr n off, some i => match S n with
      | some (.box cs) => x.laid = true ∧ x.cells.length = i.size ∧ off + x.cells.length ≤ cs.length ∧ kv.k .any (S.set n (.box (splice off x.cells cs))) c
      | _ => False
    | _, _ => False
@[go_sem ↓] theorem lopv_store {t a x} : lopv P T d (.store t a x) ρ S c kv kp = store1 T t (ρ a) (ρ x) S c (kv := ⟨kv⟩) := (rfl)
theorem store1_ptr {t n off x} : store1 T t (.ptr n off) x S c (kv := ⟨kv⟩) = match T t with
    | some i => match S n with
      | some (.box cs) => x.laid = true ∧ x.cells.length = i.size ∧ off + x.cells.length ≤ cs.length ∧ kv .any (S.set n (.box (splice off x.cells cs))) c
      | _ => False
    | none => False := by
  rcases hT : T t with _ | ti <;> simp only [store1, hT] <;> rfl
/-- Where an array's cell lies. -/
def vptr (n : Name) (o i s : Nat) : AV := .ptr n (o + i * s)
/-- append, of values. -/
def append1 (T : Tab) (d : Nat) (t tx : TypeId) (s x : AV) (S : AHeap) (c : Nat) [k : Kont] : Prop := match T t, T tx with
      | some ⟨.slice e, _, _, _⟩, some tix => match T e with
        | some ei => (tix.d = .int .i64 ∧ zapp d ei s x S c k.k) ∨ (tix.d = .slice e ∨ tix.d = .string) ∧ match s with
          | .slice (.tip n l) sz cs => match asrc S sz x with
            | some (p, ys) => S n = some (.buf l) ∧ ei.size = sz ∧ p ∧ (∀ y ∈ ys, y.one = true) ∧ ((cs.length + ys.length) / sz) * ei.bytes ≤ 2 ^ 47 ∧ (cs.length + ys.length) / sz < 2 ^ 63 ∧
                k.k (.slice (.tip n (l + ys.length)) sz (cs ++ ys)) (S.set n (.buf (l + ys.length))) c
            | none => False
          | .empt => match asrc S ei.size x with
            | some (p, ys) => 0 < ei.size ∧ p ∧ (∀ y ∈ ys, y.one = true) ∧ (ys.length / ei.size) * ei.bytes ≤ 2 ^ 47 ∧ ys.length / ei.size < 2 ^ 63 ∧
                ∃ pm : Bool, k.k (.slice (Own.at pm (d, c) ys.length) ei.size ys) (S.set (d, c) (.buf ys.length)) (c + 1)
            | none => False
          | .slice (.buf n l) sz cs => match asrc S sz x with
            | some (p, ys) => S n = some (.buf l) ∧ ei.size = sz ∧ p ∧ (∀ y ∈ ys, y.one = true) ∧ ((cs.length + ys.length) / sz) * ei.bytes ≤ 2 ^ 47 ∧ (cs.length + ys.length) / sz < 2 ^ 63 ∧
                k.k (.slice (.buf n (l + ys.length)) sz (cs ++ ys)) (S.set n (.buf (l + ys.length))) c
            | none => False
          | .lit (.slice none 0 0) => match asrc S ei.size x with
            | some (p, ys) => 0 < ei.size ∧ p ∧ (∀ y ∈ ys, y.one = true) ∧ (ys.length / ei.size) * ei.bytes ≤ 2 ^ 47 ∧ ys.length / ei.size < 2 ^ 63 ∧
                k.k (.slice (.buf (d, c) ys.length) ei.size ys) (S.set (d, c) (.buf ys.length)) (c + 1)
            | none => False
          | _ => False
        | none => False
      | _, _ => False
@[go_sem ↓] theorem lopv_append {s x t tx} : lopv P T d (.call ⟨.builtin .append, #[s, x], #[t, tx]⟩) ρ S c kv kp = append1 T d t tx (ρ s) (ρ x) S c (k := ⟨kv⟩) := (rfl)
/-- copy, of values. -/
def copy1 (T : Tab) (t tx : TypeId) (a x : AV) (S : AHeap) (c : Nat) [k : Kont] : Prop := match T t, T tx with
      | some ⟨.slice e, _, _, _⟩, some tix => match T e with
        | some ei => (tix.d = .slice e ∨ tix.d = .string) ∧ match a with
          | .sref n sz o len _ => match S n, asrc S sz x with
            | some (.box cs), some (p, ys) => ei.size = sz ∧ p ∧ (∀ y ∈ ys, y.one = true) ∧ o + len * sz ≤ cs.length ∧
                k.k (.lit (.int .i64 ((min (ys.length / sz) len : Nat) : Int))) (S.set n (.box (splice o (ys.take (len * sz)) cs))) c
            | _, _ => False
          | _ => False
        | none => False
      | _, _ => False
@[go_sem ↓] theorem lopv_copy {s x t tx} : lopv P T d (.call ⟨.builtin .copy, #[s, x], #[t, tx]⟩) ρ S c kv kp = copy1 T t tx (ρ s) (ρ x) S c (k := ⟨kv⟩) := (rfl)
@[go_sem ↓] theorem lopv_make_const {t k z cp} : lopv P T d (.makeSlice t (.const (.int k z)) cp) ρ S c kv kp = match T t, ρ cp with
    | some ⟨.slice e, _, _, _⟩, .lit (.int _ m) => match T e with
      | some ei => if z = 0 then 0 < ei.size ∧ 0 ≤ m ∧ m * ei.bytes ≤ 2 ^ 47 ∧ m < 2 ^ 62 ∧ kv (.slice (.tip (d, c) 0) ei.size []) (S.set (d, c) (.buf 0)) (c + 1)
          else 0 < ei.size ∧ 0 ≤ z ∧ z = m ∧ z * ei.bytes ≤ 2 ^ 47 ∧ z < 2 ^ 62 ∧ kv (.sref (d, c) ei.size 0 z.toNat z.toNat) (S.set (d, c) (.box (zeros z.toNat ei.zero))) (c + 1)
      | none => False
    | _, _ => False := (rfl)
@[go_sem ↓] theorem lopv_make_tmp {t i cp} : lopv P T d (.makeSlice t (.tmp i) cp) ρ S c kv kp = match T t, ρ (.tmp i), ρ cp with
    | some ⟨.slice e, _, _, _⟩, .lit (.int _ l), .lit (.int _ m) => match T e with
      | some ei => 0 < ei.size ∧ 0 ≤ l ∧ l = m ∧ l * ei.bytes ≤ 2 ^ 47 ∧ l < 2 ^ 62 ∧ kv (.sref (d, c) ei.size 0 l.toNat l.toNat) (S.set (d, c) (.box (zeros l.toNat ei.zero))) (c + 1)
      | none => False
    | _, _, _ => False := (rfl)
theorem abuiltin_len_empt {t} : abuiltin T .len [t] [.empt] = match T t with
    | some ⟨.slice _, _, _, _⟩ => some (True, .lit (.int .i64 0))
    | some ⟨.array n _, _, _, _⟩ => some (True, .lit (.int .i64 (n : Int)))
    | _ => none := by
  rcases hT : T t with _ | ⟨dd, s1, s2, s3⟩ <;> (try cases dd) <;> simp [abuiltin, alen, hT] <;> first | rfl | (rename_i e; cases hE : T e <;> simp)
theorem lopv_cap {t x} : lopv P T d (.call ⟨.builtin .cap, #[x], #[t]⟩) ρ S c kv kp = post1 (abuiltin T .cap [t] [ρ x]) S c kv := (rfl)
theorem abuiltin_cap_empt {t} : abuiltin T .cap [t] [.empt] = match T t with
    | some ⟨.slice _, _, _, _⟩ => some (True, .lit (.int .i64 0))
    | _ => none := by
  rcases hT : T t with _ | ⟨dd, s1, s2, s3⟩ <;> (try cases dd) <;> simp [abuiltin, hT]
theorem abuiltin_cap_nil {t a n k} : abuiltin T .cap [t] [.lit (.slice a n k)] = match T t with
    | some ⟨.slice _, _, _, _⟩ => some (True, .lit (.int .i64 (k : Int)))
    | _ => none := by
  rcases hT : T t with _ | ⟨dd, s1, s2, s3⟩ <;> (try cases dd) <;> simp [abuiltin, hT]
theorem lopv_slice3 {t x lo hi m} : lopv P T d (.slice t x lo hi (some m)) ρ S c kv kp = post1 (aslice3 T t (ρ x) (lo.map ρ) (hi.map ρ) (some (ρ m))) S c kv := (rfl)
theorem asrc_empt {sz} : asrc S sz .empt = some (True, []) := (rfl)
theorem alive_tip {n e} : Own.alive S (.tip n e) = True := (rfl)
@[go_sem ↓] theorem lopv_panic {x} : lopv P T d (.panic x) ρ S c kv kp = match ρ x with
    | .ifc t v => kp (.ifc t v) S
    | _ => False := (rfl)
theorem toNat_add {i n : Nat} : ((i : Int) + no_index (@OfNat.ofNat Int n _)).toNat = i + @OfNat.ofNat Nat n _ := by
  show ((i : Int) + (n : Int)).toNat = i + n
  omega
theorem nonneg_add {i n : Nat} : (0 ≤ (i : Int) + no_index (@OfNat.ofNat Int n _)) = True := by
  show (0 ≤ (i : Int) + (n : Int)) = True
  simp; omega
theorem sget_nil {i : Nat} : sget [] i = .any := (rfl)
theorem sget_cons {i j : Nat} {v : AV} {r : Slots} : sget ((j, v) :: r) i = if i = j then v else sget r i := (rfl)
theorem sset_nil {i : Nat} {v : AV} : sset [] i v = [(i, v)] := (rfl)
theorem sset_cons {i j : Nat} {u v : AV} {r : Slots} : sset ((j, u) :: r) i v = if i = j then (j, v) :: r else (j, u) :: sset r i v := (rfl)
theorem zeros_def {n : Nat} {z : List Value} : zeros n z = (List.replicate n (z.map AV.lit)).flatten := (rfl)
/-! ### What operations come to, case by case -/
theorem apick_bool {t x y : Bool} : apick t (.lit (.bool x)) (.lit (.bool y)) = .lit (.bool (if t then x else y)) := (rfl)
theorem aop_pick {a b x} : aop T S ρ (.pick x a b) = match ρ x with
    | .lit (.bool t) => some (True, apick t (ρ a) (ρ b))
    | _ => none := (rfl)
theorem apick_true {a b : AV} : apick true a b = a := by cases a <;> cases b <;> simp [apick] <;> (try (rename_i v u; cases v <;> cases u <;> simp [apick]))
theorem apick_false {a b : AV} : apick false a b = b := by cases a <;> cases b <;> simp [apick] <;> (try (rename_i v u; cases v <;> cases u <;> simp [apick] <;> (intro h; subst h; rfl)))
theorem abin_int {op t k a k' b} : abin T op t (.lit (.int k a)) (.lit (.int k' b)) = aintOp op k a k' b := (rfl)
theorem abin_str {op t a b} : abin T op t (.lit (.string a)) (.lit (.string b)) = astrOp op a b := (rfl)
theorem abin_bool_eq {t a b} : abin T .eql t (.lit (.bool a)) (.lit (.bool b)) = (aeq T t (.lit (.bool a)) (.lit (.bool b))).map fun q => (q.1, .lit (.bool q.2)) := (rfl)
theorem abin_bool_ne {t a b} : abin T .neq t (.lit (.bool a)) (.lit (.bool b)) = (aeq T t (.lit (.bool a)) (.lit (.bool b))).map fun q => (q.1, .lit (.bool (!q.2))) := (rfl)
theorem abin_agg_eq {t xs ys} : abin T .eql t (.agg xs) (.agg ys) = (aeq T t (.agg xs) (.agg ys)).map fun q => (q.1, .lit (.bool q.2)) := (rfl)
theorem abin_agg_ne {t xs ys} : abin T .neq t (.agg xs) (.agg ys) = (aeq T t (.agg xs) (.agg ys)).map fun q => (q.1, .lit (.bool (!q.2))) := (rfl)
theorem aeq_agg {t xs ys} : aeq T t (.agg xs) (.agg ys) = if T.eq t = true then eqAt T (.s (.s (.s (.s .z)))) t (.agg xs) (.agg ys) else none := (rfl)
theorem eqAt_int {d t k a k' b} : eqAt T (.s d) t (.lit (.int k a)) (.lit (.int k' b)) = match T t with
    | some ⟨.int _, _, _, _⟩ => if k = k' then some (True, a == b) else none
    | _ => none := by
  rcases hT : T t with _ | ⟨dd, s1, s2, s3⟩ <;> (try cases dd) <;> simp [eqAt, hT]
theorem eqAt_bool {d t a b} : eqAt T (.s d) t (.lit (.bool a)) (.lit (.bool b)) = match T t with
    | some ⟨.bool, _, _, _⟩ => some (True, a == b)
    | _ => none := by
  rcases hT : T t with _ | ⟨dd, s1, s2, s3⟩ <;> (try cases dd) <;> simp [eqAt, hT]
theorem eqAt_str {d t a b} : eqAt T (.s d) t (.lit (.string a)) (.lit (.string b)) = match T t with
    | some ⟨.string, _, _, _⟩ => some (True, a.toList == b.toList)
    | _ => none := by
  rcases hT : T t with _ | ⟨dd, s1, s2, s3⟩ <;> (try cases dd) <;> simp [eqAt, hT]
theorem eqAt_agg {d t xs ys} : eqAt T (.s d) t (.agg xs) (.agg ys) = match T t with
    | some ⟨.struct fs, _, _, _⟩ => if T.eq t = true then eqL T (eqAt T d) fs xs ys else none
    | some ⟨.array n e, _, _, _⟩ => match T e with
      | some ei => if T.eq t = true then eqL T (eqAt T d) ((List.range n).map fun i => (i * ei.size, e)) xs ys else none
      | none => none
    | _ => none := by
  rcases hT : T t with _ | ⟨dd, s1, s2, s3⟩ <;> (try cases dd) <;> (try simp only [eqAt, hT]) <;> rfl
theorem eqL_one {f : TypeId → AV → AV → Option (Prop × Bool)} {q xs ys} : eqL T f [q] xs ys = match apart T q.2 xs q.1, apart T q.2 ys q.1 with
    | some (p1, a), some (p2, b) => match f q.2 a b with
      | some (p3, u) => some (p1 ∧ p2 ∧ p3, u)
      | none => none
    | _, _ => none := (rfl)
theorem eqL_more {f : TypeId → AV → AV → Option (Prop × Bool)} {q q' r xs ys} : eqL T f (q :: q' :: r) xs ys = match apart T q.2 xs q.1, apart T q.2 ys q.1 with
    | some (p1, a), some (p2, b) => match f q.2 a b with
      | some (p3, u) => match eqL T f (q' :: r) xs ys with
        | some (p4, v) => some (p1 ∧ p2 ∧ p3 ∧ p4, u && v)
        | none => none
      | none => none
    | _, _ => none := (rfl)
theorem aeq_bool {t a b} : aeq T t (.lit (.bool a)) (.lit (.bool b)) = match T t with
    | some ⟨.bool, _, _, _⟩ => some (True, a == b)
    | _ => none := (rfl)
theorem abin_nil_eq {t n o} : abin T .eql t (.ptr n o) (.lit (.pointer none)) = match T t with
    | some ⟨.pointer _, _, _, _⟩ => some (True, .lit (.bool false))
    | _ => none := by
  rcases hT : T t with _ | ⟨dd, s1, s2, s3⟩ <;> (try cases dd) <;> simp [abin, aeq, nilP, hT]
theorem abin_nil_ne {t n o} : abin T .neq t (.ptr n o) (.lit (.pointer none)) = match T t with
    | some ⟨.pointer _, _, _, _⟩ => some (True, .lit (.bool true))
    | _ => none := by
  rcases hT : T t with _ | ⟨dd, s1, s2, s3⟩ <;> (try cases dd) <;> simp [abin, aeq, nilP, hT]
theorem abin_nilnil_eq {t} : abin T .eql t (.lit (.pointer none)) (.lit (.pointer none)) = match T t with
    | some ⟨.pointer _, _, _, _⟩ => some (True, .lit (.bool true))
    | _ => none := by
  rcases hT : T t with _ | ⟨dd, s1, s2, s3⟩ <;> (try cases dd) <;> simp [abin, aeq, nilP, hT]
theorem abin_nilnil_ne {t} : abin T .neq t (.lit (.pointer none)) (.lit (.pointer none)) = match T t with
    | some ⟨.pointer _, _, _, _⟩ => some (True, .lit (.bool false))
    | _ => none := by
  rcases hT : T t with _ | ⟨dd, s1, s2, s3⟩ <;> (try cases dd) <;> simp [abin, aeq, nilP, hT]
def shlI (k : IntKind) (a b : Int) : Int := k.wrap (a * 2 ^ (min b.toNat k.bits))
def shrI (k : IntKind) (a b : Int) : Int := a.fdiv (2 ^ (min b.toNat k.bits))
def bitAnd (k : IntKind) (a b : Int) : Int := k.wrap ((BitVec.ofInt k.bits a &&& BitVec.ofInt k.bits b).toNat : Int)
def bitOr (k : IntKind) (a b : Int) : Int := k.wrap ((BitVec.ofInt k.bits a ||| BitVec.ofInt k.bits b).toNat : Int)
def bitXor (k : IntKind) (a b : Int) : Int := k.wrap ((BitVec.ofInt k.bits a ^^^ BitVec.ofInt k.bits b).toNat : Int)
def bitAndNot (k : IntKind) (a b : Int) : Int := k.wrap ((BitVec.ofInt k.bits a &&& ~~~ (BitVec.ofInt k.bits b)).toNat : Int)
def bitNot (k : IntKind) (n : Int) : Int := k.wrap ((BitVec.ofInt k.bits (if k.signed then -1 else k.max) ^^^ BitVec.ofInt k.bits n).toNat : Int)
theorem aintOp_shl {k a k' b} : aintOp .shl k a k' b = some (0 ≤ b, .lit (.int k (shlI k a b))) := (rfl)
theorem aintOp_shr {k a k' b} : aintOp .shr k a k' b = some (0 ≤ b, .lit (.int k (shrI k a b))) := (rfl)
theorem aintOp_add {k a b} : aintOp .add k a k b = some (True, .lit (.int k (k.wrap (a + b)))) := by simp only [aintOp, if_true]
theorem aintOp_sub {k a b} : aintOp .sub k a k b = some (True, .lit (.int k (k.wrap (a - b)))) := by simp only [aintOp, if_true]
theorem aintOp_mul {k a b} : aintOp .mul k a k b = some (True, .lit (.int k (k.wrap (a * b)))) := by simp only [aintOp, if_true]
theorem aintOp_quo {k a b} : aintOp .quo k a k b = some (b ≠ 0, .lit (.int k (k.wrap (a.tdiv b)))) := by simp only [aintOp, if_true]
theorem aintOp_rem {k a b} : aintOp .rem k a k b = some (b ≠ 0, .lit (.int k (a.tmod b))) := by simp only [aintOp, if_true]
theorem aintOp_and {k a b} : aintOp .and k a k b = some (True, .lit (.int k (bitAnd k a b))) := by simp only [aintOp, if_true]; rfl
theorem aintOp_or {k a b} : aintOp .or k a k b = some (True, .lit (.int k (bitOr k a b))) := by simp only [aintOp, if_true]; rfl
theorem aintOp_xor {k a b} : aintOp .xor k a k b = some (True, .lit (.int k (bitXor k a b))) := by simp only [aintOp, if_true]; rfl
theorem aintOp_andNot {k a b} : aintOp .andNot k a k b = some (True, .lit (.int k (bitAndNot k a b))) := by simp only [aintOp, if_true]; rfl
theorem aintOp_eql {k a b} : aintOp .eql k a k b = some (True, .lit (.bool (a == b))) := by simp only [aintOp, if_true]
theorem aintOp_neq {k a b} : aintOp .neq k a k b = some (True, .lit (.bool (a != b))) := by simp only [aintOp, if_true]
theorem aintOp_lss {k a b} : aintOp .lss k a k b = some (True, .lit (.bool (decide (a < b)))) := by simp only [aintOp, if_true]
theorem aintOp_leq {k a b} : aintOp .leq k a k b = some (True, .lit (.bool (decide (a ≤ b)))) := by simp only [aintOp, if_true]
theorem aintOp_gtr {k a b} : aintOp .gtr k a k b = some (True, .lit (.bool (decide (b < a)))) := by simp only [aintOp, if_true, gt_iff_lt]
theorem aintOp_geq {k a b} : aintOp .geq k a k b = some (True, .lit (.bool (decide (b ≤ a)))) := by simp only [aintOp, if_true, ge_iff_le]
theorem astrOp_eql {a b} : astrOp .eql a b = some (True, .lit (.bool (a.toList == b.toList))) := (rfl)
theorem astrOp_neq {a b} : astrOp .neq a b = some (True, .lit (.bool (!(a.toList == b.toList)))) := (rfl)
theorem astrOp_lss {a b} : astrOp .lss a b = some (True, .lit (.bool (Op.bytesLess a.toList b.toList))) := (rfl)
theorem astrOp_add {a b} : astrOp .add a b = some (((a.size + b.size : Nat) : Int) ≤ IntKind.i64.max, .lit (.string (a ++ b))) := (rfl)
theorem aunOp_not {b} : aunOp .not (.lit (.bool b)) = some (True, .lit (.bool (!b))) := (rfl)
theorem aunOp_neg {k n} : aunOp .neg (.lit (.int k n)) = some (True, .lit (.int k (k.wrap (0 - n)))) := (rfl)
theorem aunOp_xor {k n} : aunOp .xor (.lit (.int k n)) = some (True, .lit (.int k (bitNot k n))) := (rfl)
theorem aconvert_int {s t k' n} : aconvert T s t (.lit (.int k' n)) = match T t with
    | some ⟨.int k, _, _, _⟩ => if (T s).isSome then some (True, .lit (.int k (k.wrap n))) else none
    | _ => none := by
  rcases hT : T t with _ | ⟨dd, s1, s2, s3⟩ <;> (try cases dd) <;> simp [aconvert, hT]
theorem qconv_int {s t k' n} : qconv T s t (.lit (.int k' n)) = match T t with
    | some ⟨.int k, _, _, _⟩ => if (T s).isSome then some (True, .lit (.int k (k.wrap n))) else none
    | _ => none := by
  rcases hT : T t with _ | ⟨dd, s1, s2, s3⟩ <;> (try cases dd) <;> simp [qconv, aconvert, hT]
theorem qconv_str {s t b} : qconv T s t (.lit (.string b)) = match T t with
    | some ⟨.string, _, _, _⟩ => if (T s).isSome then some (True, .lit (.string b)) else none
    | _ => none := by
  rcases hT : T t with _ | ⟨dd, s1, s2, s3⟩ <;> (try cases dd) <;> simp [qconv, aconvert, hT]
/-- To its own type, u8's. -/
def isU8 : Option TI → Bool
  | some ⟨.int .u8, _, _, _⟩ => true
  | _ => false
theorem qconv_young {s t sz cs} : qconv T s t (.slice .young sz cs) = match T t with
    | some ⟨.slice e, _, _, _⟩ => if isU8 (T e) = true then some (s = t ∧ cs ≠ [], .slice .young sz cs) else none
    | some ⟨.string, _, _, _⟩ => match T s with
      | some ⟨.slice e, _, _, _⟩ => if isU8 (T e) = true then (match nums cs with
        | some ns => some (sz = 1 ∧ Tag.perm = .perm, .lit (.string (strOfNums ns)))
        | none => none) else none
      | _ => none
    | _ => none := by
  unfold qconv
  rcases hT : T t with _ | ⟨dd, s1, s2, s3⟩
  · simp [aconvert, hT]
  cases dd <;> simp only [aconvert, hT]
  case string =>
    rcases hs : T s with _ | ⟨dd, s1, s2, s3⟩
    · rfl
    cases dd <;> try rfl
    rename_i e
    simp only
    rcases he : T e with _ | ⟨dd, s1, s2, s3⟩
    · simp [isU8]
    cases dd
    case int k => cases k <;> first | rfl | (simp [isU8, Own.tag]; done) | (cases nums cs <;> first | rfl | (simp [isU8, Own.tag]; done))
    all_goals (simp [isU8]; done)
  case slice e =>
    rcases he : T e with _ | ⟨dd, s1, s2, s3⟩
    · simp [isU8]
    cases dd
    case int k => cases k <;> first | rfl | (simp [isU8, Own.tag]; done) | (cases nums cs <;> first | rfl | (simp [isU8, Own.tag]; done))
    all_goals (simp [isU8]; done)
theorem qconv_slice {s t sz cs own} (ho : own ≠ .young) : qconv T s t (.slice own sz cs) = match T t with
    | some ⟨.string, _, _, _⟩ => match T s with
      | some ⟨.slice e, _, _, _⟩ => if isU8 (T e) = true then (match nums cs with
        | some ns => some (sz = 1 ∧ own.tag = .perm, .lit (.string (strOfNums ns)))
        | none => none) else none
      | _ => none
    | _ => none := by
  unfold qconv
  rcases hT : T t with _ | ⟨dd, s1, s2, s3⟩
  · simp [aconvert, hT]
  cases dd <;> simp only [aconvert, hT]
  case string =>
    rcases hs : T s with _ | ⟨dd, s1, s2, s3⟩
    · rfl
    cases dd <;> try rfl
    rename_i e
    simp only
    rcases he : T e with _ | ⟨dd, s1, s2, s3⟩
    · simp [isU8]
    cases dd
    case int k => cases k <;> first | rfl | (simp [isU8, Own.tag]; done) | (cases nums cs <;> first | rfl | (simp [isU8, Own.tag]; done))
    all_goals (simp [isU8]; done)
  case slice e =>
    split
    · rename_i h1 h2; cases h2; exact absurd rfl ho
    · rename_i h1 h2; cases h1
    · rfl
theorem aload_ptr {t n o} : aload T S t (.ptr n o) = match S n with
    | some (.box cs) => readC T t (cs.drop o)
    | _ => none := (rfl)
theorem aload_rptr {t own cs} : aload T S t (.rptr own cs) = (readC T t cs).map fun q => (q.1 ∧ own.alive S, q.2) := (rfl)
theorem readC_def {t cs} : readC T t cs = match T t with
    | none => none
    | some i => if i.d.isAgg then some (i.size ≤ cs.length, .agg (cs.take i.size)) else some (0 < cs.length, cs.headD .any) := (rfl)
theorem alive_perm : Own.alive S .perm = True := (rfl)
theorem alive_buf {n e} : Own.alive S (.buf n e) = ∃ len, S n = some (.buf len) := (rfl)
theorem afieldAddr_ptr {t f n o} : afieldAddr T t f (.ptr n o) = match T t with
    | some ⟨.struct fs, _, _, _⟩ => match fs[f]? with
      | some (off, ft) => match T ft with
        | some i => if i.size = 0 then none else some (.ptr n (o + off))
        | none => none
      | none => none
    | _ => none := (rfl)
theorem afieldAddr_rptr {t f own cs} : afieldAddr T t f (.rptr own cs) = match T t with
    | some ⟨.struct fs, _, _, _⟩ => match fs[f]? with
      | some (off, ft) => match T ft with
        | some i => if i.size = 0 then none else if off < cs.length then some (.rptr own (cs.drop off)) else none
        | none => none
      | none => none
    | _ => none := (rfl)
theorem afield_agg {t f cs} : afield T t f (.agg cs) = match T t with
    | some ⟨.struct fs, _, _, _⟩ => match fs[f]? with
      | some (off, ft) => apart T ft cs off
      | none => none
    | _ => none := by
  rcases hT : T t with _ | ⟨dd, s1, s2, s3⟩ <;> (try cases dd) <;> simp [afield, hT] <;> rfl <;> first | rfl | (rename_i e; cases hE : T e <;> simp)
theorem apart_def {t cs off} : apart T t cs off = match T t with
    | some i => if i.d.isAgg then some (off + i.size ≤ cs.length, .agg ((cs.drop off).take i.size)) else some (off < cs.length, (cs.drop off).headD .any)
    | none => none := (rfl)
theorem aindexAddr_slice {t own sz cs k i} : aindexAddr T t (.slice own sz cs) (.lit (.int k i)) = match T t with
    | some ⟨.slice e, _, _, _⟩ => match T e with
      | some ei => if sz = ei.size then some (0 ≤ i ∧ i.toNat * sz < cs.length, .rptr own ((cs.drop (i.toNat * sz)).take sz)) else none
      | none => none
    | _ => none := by
  rcases hT : T t with _ | ⟨dd, s1, s2, s3⟩ <;> (try cases dd) <;> simp [aindexAddr, hT] <;> first | rfl | (rename_i e; cases hE : T e <;> simp)
theorem aindexAddr_sref {t n sz o len cap k i} : aindexAddr T t (.sref n sz o len cap) (.lit (.int k i)) = match T t with
    | some ⟨.slice e, _, _, _⟩ => match T e with
      | some ei => if sz = ei.size then some (0 ≤ i ∧ i.toNat < len, .ptr n (o + i.toNat * sz)) else none
      | none => none
    | _ => none := by
  rcases hT : T t with _ | ⟨dd, s1, s2, s3⟩ <;> (try cases dd) <;> simp [aindexAddr, hT] <;> first | rfl | (rename_i e; cases hE : T e <;> simp)
theorem aindexAddr_array {t n o k i} : aindexAddr T t (.ptr n o) (.lit (.int k i)) = match T t with
    | some ⟨.array m e, _, _, _⟩ => match T e with
      | some ei => some (0 ≤ i ∧ i.toNat < m, vptr n o i.toNat ei.size)
      | none => none
    | _ => none := by
  rcases hT : T t with _ | ⟨dd, s1, s2, s3⟩ <;> (try cases dd) <;> simp [aindexAddr, hT, vptr] <;> first | rfl | (rename_i e; cases hE : T e <;> simp)
theorem aindexAddr_arrayR {t own cs k i} : aindexAddr T t (.rptr own cs) (.lit (.int k i)) = match T t with
    | some ⟨.array m e, _, _, _⟩ => match T e with
      | some ei => some (0 ≤ i ∧ i.toNat < m ∧ (i.toNat + 1) * ei.size ≤ cs.length, .rptr own ((cs.drop (i.toNat * ei.size)).take ei.size))
      | none => none
    | _ => none := by
  rcases hT : T t with _ | ⟨dd, s1, s2, s3⟩ <;> (try cases dd) <;> simp [aindexAddr, hT] <;> first | rfl | (rename_i e; cases hE : T e <;> simp)
theorem aindex_array {t cs k i} : aindex T t (.agg cs) (.lit (.int k i)) = match T t with
    | some ⟨.array m e, _, _, _⟩ => match T e with
      | some ei => (apart T e cs (i.toNat * ei.size)).map fun q => (0 ≤ i ∧ i.toNat < m ∧ q.1, q.2)
      | none => none
    | _ => none := by
  rcases hT : T t with _ | ⟨dd, s1, s2, s3⟩ <;> (try cases dd) <;> simp [aindex, hT] <;> first | rfl | (rename_i e; cases hE : T e <;> simp)
theorem aindex_string {t s k i} : aindex T t (.lit (.string s)) (.lit (.int k i)) = match T t with
    | some ⟨.string, _, _, _⟩ => some (0 ≤ i ∧ i.toNat < s.size, .lit (.int .u8 ((s.data.toList.getD i.toNat 0).toNat : Int)))
    | _ => none := by
  rcases hT : T t with _ | ⟨dd, s1, s2, s3⟩ <;> (try cases dd) <;> simp [aindex, hT] <;> first | rfl | (rename_i e; cases hE : T e <;> simp)
@[go_sem] theorem aslice_nil {t lo hi} : aslice T t (.lit (.slice none 0 0)) lo hi = match T t with
    | some ⟨.slice e, _, _, _⟩ => match T e, abound 0 lo, abound 0 hi with
      | some _, some l, some h => some (l = 0 ∧ h = 0, .lit (.slice none 0 0))
      | _, _, _ => none
    | _ => none := by
  rcases hT : T t with _ | ⟨dd, s1, s2, s3⟩ <;> simp only [aslice, hT] <;> (try cases dd) <;> rfl
theorem aslice_slice {t own sz cs lo hi} : aslice T t (.slice own sz cs) lo hi = match T t with
    | some ⟨.slice e, _, _, _⟩ => match T e, abound 0 lo, abound (cs.length / sz : Nat) hi with
      | some ei, some l, some h => if sz = ei.size then
          some (0 ≤ l ∧ l ≤ h ∧ h.toNat * sz ≤ cs.length, .slice (own.sub (l.toNat * sz) (h.toNat * sz) cs.length) sz ((cs.take (h.toNat * sz)).drop (l.toNat * sz))) else none
      | _, _, _ => none
    | _ => none := by
  rcases hT : T t with _ | ⟨dd, s1, s2, s3⟩ <;> (try cases dd) <;> simp [aslice, hT] <;> first | rfl | (rename_i e; cases hE : T e <;> simp)
theorem aslice_sref {t n sz o len cap lo hi} : aslice T t (.sref n sz o len cap) lo hi = match T t with
    | some ⟨.slice e, _, _, _⟩ => match T e, abound 0 lo, abound len hi with
      | some ei, some l, some h => if sz = ei.size then some (0 ≤ l ∧ l ≤ h ∧ h ≤ cap ∧ (l < cap ∨ l = 0), .sref n sz (o + l.toNat * sz) (h - l).toNat (cap - l.toNat)) else none
      | _, _, _ => none
    | _ => none := by
  rcases hT : T t with _ | ⟨dd, s1, s2, s3⟩ <;> (try cases dd) <;> simp [aslice, hT] <;> first | rfl | (rename_i e; cases hE : T e <;> simp)
theorem aslice_array {t n o lo hi} : aslice T t (.ptr n o) lo hi = match T t with
    | some ⟨.array m e, _, _, _⟩ => match T e, abound 0 lo, abound m hi with
      | some ei, some l, some h => some (0 ≤ l ∧ l ≤ h ∧ h ≤ m ∧ (l < m ∨ l = 0) ∧ 0 < ei.size, .sref n ei.size (o + l.toNat * ei.size) (h - l).toNat (m - l.toNat))
      | _, _, _ => none
    | _ => none := by
  rcases hT : T t with _ | ⟨dd, s1, s2, s3⟩ <;> (try cases dd) <;> simp [aslice, hT] <;> first | rfl | (rename_i e; cases hE : T e <;> simp)
theorem abound_none {d : Int} : abound d none = some d := (rfl)
theorem abound_some {d i : Int} {k} : abound d (some (.lit (.int k i))) = some i := (rfl)
theorem sub_perm {l h n} : Own.sub .perm l h n = .perm := (rfl)
theorem sub_tip {m e l h n} : Own.sub (.tip m e) l h n = .perm := (rfl)
theorem alen_slice {own sz cs} : alen (.slice own sz cs) = some (True, .lit (.int .i64 ((cs.length / sz : Nat) : Int))) := (rfl)
theorem abuiltin_len {t own sz cs} : abuiltin T .len [t] [.slice own sz cs] = match T t with
    | some ⟨.slice _, _, _, _⟩ => alen (.slice own sz cs)
    | some ⟨.array n _, _, _, _⟩ => some (True, .lit (.int .i64 (n : Int)))
    | _ => none := by
  rcases hT : T t with _ | ⟨dd, s1, s2, s3⟩ <;> (try cases dd) <;> simp [abuiltin, hT] <;> first | rfl | (rename_i e; cases hE : T e <;> simp)
theorem abuiltin_len_sref {t n sz o len cap} : abuiltin T .len [t] [.sref n sz o len cap] = match T t with
    | some ⟨.slice _, _, _, _⟩ => some (True, .lit (.int .i64 (len : Int)))
    | some ⟨.array n _, _, _, _⟩ => some (True, .lit (.int .i64 (n : Int)))
    | _ => none := by
  rcases hT : T t with _ | ⟨dd, s1, s2, s3⟩ <;> (try cases dd) <;> simp [abuiltin, hT] <;> first | rfl | (rename_i e; cases hE : T e <;> simp)
theorem abuiltin_len_nil {t a n c} : abuiltin T .len [t] [.lit (.slice a n c)] = match T t with
    | some ⟨.slice _, _, _, _⟩ => some (True, .lit (.int .i64 (n : Int)))
    | some ⟨.array n _, _, _, _⟩ => some (True, .lit (.int .i64 (n : Int)))
    | _ => none := by
  rcases hT : T t with _ | ⟨dd, s1, s2, s3⟩ <;> (try cases dd) <;> simp [abuiltin, hT] <;> first | rfl | (rename_i e; cases hE : T e <;> simp)
theorem abuiltin_len_str {t s} : abuiltin T .len [t] [.lit (.string s)] = match T t with
    | some ⟨.string, _, _, _⟩ => some (True, .lit (.int .i64 (s.size : Int)))
    | some ⟨.array n _, _, _, _⟩ => some (True, .lit (.int .i64 (n : Int)))
    | _ => none := by
  rcases hT : T t with _ | ⟨dd, s1, s2, s3⟩ <;> (try cases dd) <;> simp [abuiltin, hT] <;> first | rfl | (rename_i e; cases hE : T e <;> simp)
theorem abuiltin_len_arr {t n o} : abuiltin T .len [t] [.ptr n o] = match T t with
    | some ⟨.array n _, _, _, _⟩ => some (True, .lit (.int .i64 (n : Int)))
    | _ => none := by
  rcases hT : T t with _ | ⟨dd, s1, s2, s3⟩ <;> (try cases dd) <;> simp [abuiltin, hT] <;> first | rfl | (rename_i e; cases hE : T e <;> simp)
theorem abuiltin_len_agg {t cs} : abuiltin T .len [t] [.agg cs] = match T t with
    | some ⟨.array n _, _, _, _⟩ => some (True, .lit (.int .i64 (n : Int)))
    | _ => none := by
  rcases hT : T t with _ | ⟨dd, s1, s2, s3⟩ <;> (try cases dd) <;> simp [abuiltin, hT] <;> first | rfl | (rename_i e; cases hE : T e <;> simp)
theorem abuiltin_max {ts k x k' y} : abuiltin T .max ts [.lit (.int k x), .lit (.int k' y)] = some (True, .lit (.int k (if x < y then y else x))) := by cases ts <;> rfl
theorem abuiltin_min {ts k x k' y} : abuiltin T .min ts [.lit (.int k x), .lit (.int k' y)] = some (True, .lit (.int k (if y < x then y else x))) := by cases ts <;> rfl
theorem afill_nil {place cells} : afill place cells [] = some cells := (rfl)
theorem afill_cons {place : Nat → Option (Nat × Nat)} {cells : List AV} {i x rest} : afill place cells ((i, x) :: rest) = match place i with
    | none => none
    | some (off, size) => if x.laid = true ∧ x.cells.length = size ∧ off + size ≤ cells.length then afill place (splice off x.cells cells) rest else none := (rfl)
theorem abuild_def {t ps} : abuild T t ps = match T t with
    | some i => match i.d with
      | .struct fs => if fs.all (fun f => (T f.2).isSome) then (afill (places T i.d) (i.zero.map .lit) ps).map .agg else none
      | .array n e => if (T e).isSome then (afill (places T i.d) (i.zero.map .lit) ps).map .agg else none
      | _ => none
    | none => none := (rfl)
theorem places_struct {fs : List (Nat × TypeId)} {i} : places T (.struct fs) i = match fs[i]? with
    | some (off, ft) => (T ft).map fun j => (off, j.size)
    | none => none := (rfl)
theorem places_array {n e i} : places T (.array n e) i = (T e).map fun j => (i * j.size, j.size) := (rfl)
theorem splice_nil {off cells} : splice off [] cells = cells := (rfl)
theorem splice_cons {off c cs cells} : splice off (c :: cs) cells = splice (off + 1) cs (cells.set off c) := (rfl)
theorem aop_extract {x i} : aop T S ρ (.extract x i) = match ρ x with
    | .tup vs => match vs[i]? with
      | some v => some (True, v)
      | none => none
    | _ => none := (rfl)
theorem aop_nilCheck {x} : aop T S ρ (.nilCheck x) = match ρ x with
    | .ptr n o => some (True, .ptr n o)
    | .rptr own cs => some (True, .rptr own cs)
    | .fn (.func f) a b => some (True, .fn (.func f) a b)
    | _ => none := (rfl)
theorem aop_makeInterface {t x} : aop T S ρ (.makeInterface t x) = match T t with
    | some ⟨.iface, _, _, _⟩ => none
    | some _ => some (True, .ifc t (ρ x))
    | none => none := (rfl)
theorem aop_typeAssert {x t u} : aop T S ρ (.typeAssert x t u false) = match T u, ρ x with
    | some ⟨.iface, _, _, _⟩, _ => none
    | some _, .ifc t' v => if t' = u then some (True, v) else none
    | _, _ => none := (rfl)
theorem laid_agg {cs : List AV} : AV.laid (.agg cs) = cs.all AV.one := (rfl)
theorem laid_lit {v : Value} : AV.laid (.lit v) = v.oneCell' := (rfl)
theorem laid_slice {o s cs} : AV.laid (.slice o s cs) = true := (rfl)
theorem laid_sref {n s o l c} : AV.laid (.sref n s o l c) = true := (rfl)
theorem laid_ptr {n o} : AV.laid (.ptr n o) = true := (rfl)
theorem laid_fn {f a b} : AV.laid (.fn f a b) = true := (rfl)
theorem laid_map {n} : AV.laid (.map n) = true := (rfl)
theorem laid_ifc {t x} : AV.laid (.ifc t x) = true := (rfl)
theorem one_lit {v : Value} : AV.one (.lit v) = v.oneCell' := (rfl)
theorem one_slice {o s cs} : AV.one (.slice o s cs) = true := (rfl)
theorem one_sref {n s o l c} : AV.one (.sref n s o l c) = true := (rfl)
theorem one_ptr {n o} : AV.one (.ptr n o) = true := (rfl)
theorem one_fn {f a b} : AV.one (.fn f a b) = true := (rfl)
theorem one_map {n} : AV.one (.map n) = true := (rfl)
theorem cells_agg {cs : List AV} : AV.cells (.agg cs) = cs := (rfl)
theorem cells_lit {v : Value} : AV.cells (.lit v) = [.lit v] := (rfl)
theorem cells_slice {o s cs} : AV.cells (.slice o s cs) = [.slice o s cs] := (rfl)
theorem cells_sref {n s o l c} : AV.cells (.sref n s o l c) = [.sref n s o l c] := (rfl)
theorem cells_ptr {n o} : AV.cells (.ptr n o) = [.ptr n o] := (rfl)
theorem cells_fn {f a b} : AV.cells (.fn f a b) = [.fn f a b] := (rfl)
theorem cells_map {n} : AV.cells (.map n) = [.map n] := (rfl)
theorem oneCell_int {k n} : Value.oneCell' (.int k n) = true := (rfl)
theorem oneCell_bool {b} : Value.oneCell' (.bool b) = true := (rfl)
theorem oneCell_string {b} : Value.oneCell' (.string b) = true := (rfl)
theorem oneCell_slice {a n c} : Value.oneCell' (.slice a n c) = true := (rfl)
theorem oneCell_pointer {a} : Value.oneCell' (.pointer a) = true := (rfl)
theorem asrc_slice {own sz sz' cs} : asrc S sz (.slice own sz' cs) = some (own.alive S ∧ sz' = sz, cs) := (rfl)
theorem asrc_nil {sz} : asrc S sz (.lit (.slice none 0 0)) = some (True, []) := (rfl)
theorem asrc_string {sz s} : asrc S sz (.lit (.string s)) = some (sz = 1, s.data.toList.map fun b => .lit (.int .u8 b.toNat)) := (rfl)
theorem put_some {i : Nat} {v : AV} : put sl (some i) v = sset sl i v := (rfl)
theorem put_none {v : AV} : put sl none v = sl := (rfl)
end
section
variable {P : Program} {T : Tab} {d : Nat} {sl : Slots} {S : AHeap} {c : Nat} {k : Slots → AHeap → Nat → Prop} {kp : AV → AHeap → Prop}
theorem sset_id {t : Nat} {x : AV} : ∀ {sl : Slots}, sget sl t = x → x ≠ .any → sset sl t x = sl
  | [], h, hx => by simp only [sget] at h; exact absurd h.symm hx
  | (j, v) :: r, h, hx => by
    simp only [sget] at h
    simp only [sset]
    split at h
    · rename_i e; rw [if_pos e, h]
    · rename_i e; rw [if_neg e, sset_id h hx]
theorem lops_take {dst op r t b} (h : sget sl t = .lit (.bool b)) : XOps P T d (⟨dst, op, some (t, b)⟩ :: r) sl S c k kp = XOps P T d (⟨dst, op, none⟩ :: r) sl S c k kp := by
  rw [lops_some, h, onBool_bool, splitB_same, sset_id h (by simp), lops_none]
theorem lops_skipT {dst op r t} (h : sget sl t = .lit (.bool false)) : XOps P T d (⟨dst, op, some (t, true)⟩ :: r) sl S c k kp = XOps P T d r (put sl dst (.lit undef)) S c k kp := by
  rw [lops_some, h, onBool_bool, splitB_ft, Bool.not_true, sset_id h (by simp)]
theorem lops_skipF {dst op r t} (h : sget sl t = .lit (.bool true)) : XOps P T d (⟨dst, op, some (t, false)⟩ :: r) sl S c k kp = XOps P T d r (put sl dst (.lit undef)) S c k kp := by
  rw [lops_some, h, onBool_bool, splitB_tf, Bool.not_false, sset_id h (by simp)]
theorem lops_skipU {dst op r t b} (h : sget sl t = .lit undef) : XOps P T d (⟨dst, op, some (t, b)⟩ :: r) sl S c k kp = XOps P T d r (put sl dst (.lit undef)) S c k kp := by
  rw [lops_some, h, onBool_undef]
theorem ldrw_take {dst op r t b l o} (h : sget sl t = .lit (.bool b)) : XDrw P T d ((⟨dst, op, some (t, b)⟩, l) :: r) o sl S c k kp = XDrw P T d ((⟨dst, op, none⟩, l) :: r) o sl S c k kp := by
  rw [ldrw_some, h, onBool_bool, splitB_same, sset_id h (by simp), ldrw_none]
theorem ldrw_skipT {dst op r t l o} (h : sget sl t = .lit (.bool false)) : XDrw P T d ((⟨dst, op, some (t, true)⟩, l) :: r) o sl S c k kp = XDrw P T d r o (put sl dst (.lit undef)) S c k kp := by
  rw [ldrw_some, h, onBool_bool, splitB_ft, Bool.not_true, sset_id h (by simp)]
theorem ldrw_skipF {dst op r t l o} (h : sget sl t = .lit (.bool true)) : XDrw P T d ((⟨dst, op, some (t, false)⟩, l) :: r) o sl S c k kp = XDrw P T d r o (put sl dst (.lit undef)) S c k kp := by
  rw [ldrw_some, h, onBool_bool, splitB_tf, Bool.not_false, sset_id h (by simp)]
theorem ldrw_skipU {dst op r t b l o} (h : sget sl t = .lit undef) : XDrw P T d ((⟨dst, op, some (t, b)⟩, l) :: r) o sl S c k kp = XDrw P T d r o (put sl dst (.lit undef)) S c k kp := by
  rw [ldrw_some, h, onBool_undef]
end
attribute [go_sem] ldrw_none lops_take lops_skipT lops_skipF lops_skipU ldrw_take ldrw_skipT ldrw_skipF ldrw_skipU
attribute [go_sem ↓] lopv_pick lopv_load lopv_binOp lopv_unOp lopv_convert lopv_fieldAddr lopv_field lopv_indexAddr lopv_index lopv_slice lopv_extract lopv_nilCheck lopv_build lopv_makeFunc lopv_makeInterface lopv_len lopv_max lopv_min
attribute [go_sem ↓] lopv_cap lopv_slice3
attribute [go_sem] asrc_empt alive_tip abuiltin_len_empt abuiltin_cap_empt abuiltin_cap_nil
def keepOf : AV → List Keep
  | .ptr n _ => [.obj n]
  | .rptr own _ => [.own own]
  | _ => []
theorem reads_load {ρ : Operand → AV} {t a} : reads ρ (.load t a) = keepOf (ρ a) := (rfl)
theorem keepOf_vptr {n : Name} {o i s : Nat} : keepOf (vptr n o i s) = [.obj n] := (rfl)
attribute [go_sem] store1_ptr
attribute [go_sem] toNat_add nonneg_add post1_some forget_nil forget_cons ev_tmp ev_const ev_func AHeap.set_apply sget_nil sget_cons sset_nil sset_cons put_some put_none apick_bool aop_pick apick_true apick_false abin_int abin_str abin_bool_eq abin_bool_ne aeq_bool abin_agg_eq abin_agg_ne aeq_agg eqAt_int eqAt_bool eqAt_str eqAt_agg eqL_one eqL_more abin_nil_eq abin_nil_ne abin_nilnil_eq abin_nilnil_ne
  aintOp_shl aintOp_shr aintOp_add aintOp_sub aintOp_mul aintOp_quo aintOp_rem aintOp_and aintOp_or aintOp_xor aintOp_andNot aintOp_eql aintOp_neq aintOp_lss aintOp_leq aintOp_gtr aintOp_geq astrOp_eql astrOp_neq astrOp_lss astrOp_add aunOp_not aunOp_neg aunOp_xor
  qconv_int qconv_str qconv_young isU8 aconvert_int aload_ptr aload_rptr readC_def alive_perm alive_buf afieldAddr_ptr afieldAddr_rptr afield_agg apart_def aindexAddr_slice aindexAddr_sref aindexAddr_array aindexAddr_arrayR aindex_array aindex_string aslice_slice aslice_sref aslice_array abound_none abound_some sub_perm sub_tip alen_slice abuiltin_len abuiltin_len_sref abuiltin_len_nil abuiltin_len_str abuiltin_len_arr abuiltin_len_agg abuiltin_max abuiltin_min
  afill_nil afill_cons abuild_def places_struct places_array splice_nil splice_cons aop_extract aop_nilCheck aop_makeInterface aop_typeAssert laid_agg laid_lit laid_slice laid_sref laid_ptr laid_fn laid_map laid_ifc one_lit one_slice one_sref one_ptr one_fn one_map cells_agg cells_lit cells_slice cells_sref cells_ptr cells_fn cells_map oneCell_int oneCell_bool oneCell_string oneCell_slice oneCell_pointer
  asrc_slice asrc_nil asrc_string TD.isAgg effect reads_load reads.eq_2 keepOf.eq_1 keepOf.eq_2 keepOf_vptr argSlots ares one1 zeros_def
end Go.Al
