import Derived.Test.YtolfnhebnennpaaAlJ
set_option linter.unusedSimpArgs false
set_option linter.unusedVariables false
namespace Go.Al
open Go.RowKit
inductive AEnd where
 | ret (v : AV)
 | pan (v : AV)
def SimE (K : Kn) : AEnd → Ending → Prop
 | .ret a, .returned v => SimV K a v
 | .pan a, .panicked chain => ∃ v, chain = [{ v, recovered := false }] ∧ SimV K a v
 | _, _ => False
structure Step (d : Nat) (K : Kn) (S : AHeap) (w : World) (K' : Kn) (S' : AHeap) (w' : World) : Prop where
 le : Kle d K K'
 sat : Sat K' S' w'
 below : Below K.low w w'
 names : ∀ n, n.1 < d → S n = none → S' n = none
theorem Step.refl (d : Nat) {K : Kn} {S : AHeap} {w : World} (h : Sat K S w) : Step d K S w K S w := ⟨Kle.refl _ _, h, Below.refl _ _, fun _ _ h => h⟩
theorem Step.trans {d : Nat} {K K' K'' : Kn} {S S' S'' : AHeap} {w w' w'' : World} (h : Step d K S w K' S' w') (k : Step d K' S' w' K'' S'' w'') : Step d K S w K'' S'' w'' :=
 ⟨h.le.trans k.le, k.sat, h.below.trans (h.le.low ▸ k.below), fun n hn h0 => k.names n hn (h.names n hn h0)⟩
theorem Step.mono {d d' : Nat} {K K' : Kn} {S S' : AHeap} {w w' : World} (h : Step d K S w K' S' w') (hd : d' ≤ d) : Step d' K S w K' S' w' :=
 ⟨h.le.mono hd, h.sat, h.below, fun n hn h0 => h.names n (Nat.lt_of_lt_of_le hn hd) h0⟩
def enters (P : Program) (f : FuncId) : Bool :=
 match P.funcs[f]? with
 | some fn => !(fn.name == "runtime.NumGoroutine") && fn.body.isSome
 | none => false
def AC (P : Program) (f : FuncId) (as : List AV) (S : AHeap) (R : AEnd → AHeap → Prop) : Prop :=
 enters P f = true ∧ ∀ (K : Kn) (w : World) (vs : Array Value), Sat K S w → SimL K as vs.toList →
  Calls P f vs w fun e w' => ∃ r S' K', SimE K' r e ∧ R r S' ∧ Step K.dmax K S w K' S' w'
theorem AC.mono {P : Program} {f : FuncId} {as : List AV} {S : AHeap} {R R' : AEnd → AHeap → Prop} (h : AC P f as S R) (k : ∀ e S', R e S' → R' e S') : AC P f as S R' :=
 ⟨h.1, fun K w vs hs hv => (h.2 K w vs hs hv).mono fun e w' ⟨r, S', K', h1, h2, h3⟩ => ⟨r, S', K', h1, k _ _ h2, h3⟩⟩
def Fresh (K : Kn) (S : AHeap) (d c : Nat) : Prop := d < K.dmax ∧ ∀ i, c ≤ i → K.pend (d, i) ∧ S (d, i) = none
def GhostL (d : Nat) (as : List AV) (S : AHeap) (c : Nat) (as' : List AV) (S' : AHeap) (c' : Nat) : Prop :=
 ∀ (K : Kn) (w : World) (vs : List Value), Sat K S w → SimL K as vs → Fresh K S d c → ∃ K', Step d K S w K' S' w ∧ SimL K' as' vs ∧ Fresh K' S' d c'
theorem GhostL.refl {d : Nat} {as : List AV} {S : AHeap} {c : Nat} : GhostL d as S c as S c := fun K _ _ hs ht hf => ⟨K, Step.refl d hs, ht, hf⟩
structure LOp where
 dst : Option Nat
 op : Op
 guard : Option (Nat × Bool)
def put (sl : Slots) (dst : Option Nat) (v : AV) : Slots :=
 match dst with
 | some i => sset sl i v
 | none => sl
def zeros (n : Nat) (z : List Value) : List AV := (List.replicate n (z.map AV.lit)).flatten
def zlist (ei : TI) (n : Nat) : List AV := (Builtin.zeroCells ei.zero.toArray n).toList.map .lit
def zapp (d : Nat) (ei : TI) (sv xv : AV) (S : AHeap) (c : Nat) (k : AV → AHeap → Nat → Prop) : Prop := match sv, xv with
 | .lit (.slice none 0 0), .lit (.int .i64 q) => 0 < q ∧ q < 2 ^ 63 ∧ q.toNat * ei.bytes ≤ 2 ^ 47 ∧ 0 < ei.size ∧
   k (.slice (.buf (d, c) (q.toNat * ei.size)) ei.size (zlist ei q.toNat)) (S.set (d, c) (.buf (q.toNat * ei.size))) (c + 1)
 | _, _ => False
def lopv (P : Program) (T : Tab) (d : Nat) (op : Op) (ρ : Operand → AV) (S : AHeap) (c : Nat) (k : AV → AHeap → Nat → Prop) (kp : AV → AHeap → Prop) : Prop :=
 match op with
 | .box _ x => (ρ x).laid = true ∧ k (.ptr (d, c) 0) (S.set (d, c) (.box (ρ x).cells)) (c + 1)
 | .alloc t => match T t with
  | some i => k (.ptr (d, c) 0) (S.set (d, c) (.box (i.zero.map .lit))) (c + 1)
  | none => False
 | .buildSlice t n parts => match T t with
  | some ⟨.slice e, _, _, _⟩ => match T e with
   | some ei => match afill (fun i => some (i * ei.size, ei.size)) (zeros n ei.zero) (parts.toList.map fun q => (q.1, ρ q.2)) with
    | some cs => 0 < ei.size ∧ n * ei.size ≤ 2 ^ 24 ∧ k (if n = 0 then .empt else .slice .young ei.size cs) S c
    | none => False
   | none => False
  | _ => False
 | .store t a x => match ρ a, T t with
  | .ptr n off, some i => match S n with
   | some (.box cs) => (ρ x).laid = true ∧ (ρ x).cells.length = i.size ∧ off + (ρ x).cells.length ≤ cs.length ∧ k .any (S.set n (.box (splice off (ρ x).cells cs))) c
   | _ => False
  | _, _ => False
 | .panic x => match ρ x with
  | .ifc t v => kp (.ifc t v) S
  | _ => False
 | .makeSlice t (.const (.int _ z)) cp => match T t, ρ cp with
  | some ⟨.slice e, _, _, _⟩, .lit (.int _ m) => match T e with
   | some ei => if z = 0 then 0 < ei.size ∧ 0 ≤ m ∧ m * ei.bytes ≤ 2 ^ 47 ∧ m < 2 ^ 62 ∧ k (.slice (.tip (d, c) 0) ei.size []) (S.set (d, c) (.buf 0)) (c + 1)
     else 0 < ei.size ∧ 0 ≤ z ∧ z = m ∧ z * ei.bytes ≤ 2 ^ 47 ∧ z < 2 ^ 62 ∧ k (.sref (d, c) ei.size 0 z.toNat z.toNat) (S.set (d, c) (.box (zeros z.toNat ei.zero))) (c + 1)
   | none => False
  | _, _ => False
 | .makeSlice t ln cp => match T t, ρ ln, ρ cp with
  | some ⟨.slice e, _, _, _⟩, .lit (.int _ l), .lit (.int _ m) => match T e with
   | some ei => 0 < ei.size ∧ 0 ≤ l ∧ l = m ∧ l * ei.bytes ≤ 2 ^ 47 ∧ l < 2 ^ 62 ∧ k (.sref (d, c) ei.size 0 l.toNat l.toNat) (S.set (d, c) (.box (zeros l.toNat ei.zero))) (c + 1)
   | none => False
  | _, _, _ => False
 | .call ⟨.value f, args, _⟩ => match ρ f with
  | .fn (.func g) first cap => ∃ as' S1 c1, GhostL d (first ++ args.toList.map ρ ++ cap) S c as' S1 c1 ∧ AC P g as' S1 fun e S' => (∀ n : Name, n.1 ≤ d → S1 n = none → S' n = none) → match e with
   | .ret v => ∃ v' S2 c2, GhostL d [v] S' c1 [v'] S2 c2 ∧ k v' S2 c2
   | .pan v => kp v S'
  | _ => False
 | .call ⟨.builtin .copy, args, ts⟩ => match args.toList, ts.toList with
  | [a, x], [t, tx] => match T t, T tx with
   | some ⟨.slice e, _, _, _⟩, some tix => match T e with
    | some ei => (tix.d = .slice e ∨ tix.d = .string) ∧ match ρ a with
     | .sref n sz o len _ => match S n, asrc S sz (ρ x) with
      | some (.box cs), some (p, ys) => ei.size = sz ∧ p ∧ (∀ y ∈ ys, y.one = true) ∧ o + len * sz ≤ cs.length ∧
        k (.lit (.int .i64 ((min (ys.length / sz) len : Nat) : Int))) (S.set n (.box (splice o (ys.take (len * sz)) cs))) c
      | _, _ => False
     | _ => False
    | none => False
   | _, _ => False
  | _, _ => False
 | .call ⟨.builtin .append, args, ts⟩ => match args.toList, ts.toList with
  | [s, x], [t, tx] => match T t, T tx with
   | some ⟨.slice e, _, _, _⟩, some tix => match T e with
    | some ei => (tix.d = .int .i64 ∧ zapp d ei (ρ s) (ρ x) S c k) ∨ (tix.d = .slice e ∨ tix.d = .string) ∧ match ρ s with
     | .slice (.tip n l) sz cs => match asrc S sz (ρ x) with
      | some (p, ys) => S n = some (.buf l) ∧ ei.size = sz ∧ p ∧ (∀ y ∈ ys, y.one = true) ∧ ((cs.length + ys.length) / sz) * ei.bytes ≤ 2 ^ 47 ∧ (cs.length + ys.length) / sz < 2 ^ 63 ∧
        k (.slice (.tip n (l + ys.length)) sz (cs ++ ys)) (S.set n (.buf (l + ys.length))) c
      | none => False
     | .empt => match asrc S ei.size (ρ x) with
      | some (p, ys) => 0 < ei.size ∧ p ∧ (∀ y ∈ ys, y.one = true) ∧ (ys.length / ei.size) * ei.bytes ≤ 2 ^ 47 ∧ ys.length / ei.size < 2 ^ 63 ∧
        ∃ pm : Bool, k (.slice (Own.at pm (d, c) ys.length) ei.size ys) (S.set (d, c) (.buf ys.length)) (c + 1)
      | none => False
     | .slice (.buf n l) sz cs => match asrc S sz (ρ x) with
      | some (p, ys) => S n = some (.buf l) ∧ ei.size = sz ∧ p ∧ (∀ y ∈ ys, y.one = true) ∧ ((cs.length + ys.length) / sz) * ei.bytes ≤ 2 ^ 47 ∧ (cs.length + ys.length) / sz < 2 ^ 63 ∧
        k (.slice (.buf n (l + ys.length)) sz (cs ++ ys)) (S.set n (.buf (l + ys.length))) c
      | none => False
     | .lit (.slice none 0 0) => match asrc S ei.size (ρ x) with
      | some (p, ys) => 0 < ei.size ∧ p ∧ (∀ y ∈ ys, y.one = true) ∧ (ys.length / ei.size) * ei.bytes ≤ 2 ^ 47 ∧ ys.length / ei.size < 2 ^ 63 ∧
        k (.slice (.buf (d, c) ys.length) ei.size ys) (S.set (d, c) (.buf ys.length)) (c + 1)
      | none => False
     | _ => False
    | none => False
   | _, _ => False
  | _, _ => False
 | .convert s t x => match qconv T s t (ρ x) with
  | some (p, r) => p ∧ k r S c
  | none => False
 | op => match aop T S ρ op with
  | some (p, r) => p ∧ k r S c
  | none => False
def lop (P : Program) (T : Tab) (d : Nat) (o : LOp) (sl : Slots) (S : AHeap) (c : Nat) (k : Slots → AHeap → Nat → Prop) (kp : AV → AHeap → Prop) : Prop :=
 lopv P T d o.op (ev sl) S c (fun v S c => k (put sl o.dst v) S c) kp
def dmark (D : Nat) : Deferred := { target := .collected D, args := #[] }
def DefOk (K : Kn) (ds : List Deferred) : Prop := ∃ Ds : List Nat, ds = Ds.map dmark ∧ Ds.Nodup ∧ ∀ D ∈ Ds, K.fixed D (.deferred (some [])) ∧ K.ent ≤ D
theorem DefOk.nil {K : Kn} : DefOk K [] := ⟨[], rfl, List.nodup_nil, fun D hD => by cases hD⟩
theorem DefOk.mono {d : Nat} {K K' : Kn} (h : Kle d K K') {ds : List Deferred} (k : DefOk K ds) : DefOk K' ds := by
 obtain ⟨Ds, h1, h2, h3⟩ := k
 exact ⟨Ds, h1, h2, fun D hD => ⟨h.fixed _ _ (h3 D hD).1, by rw [h.ent]; exact (h3 D hD).2⟩⟩
structure Stt (P : Program) (N d : Nat) (K0 : Kn) (S0 : AHeap) (w0 : World) (sl : Slots) (S : AHeap) (c : Nat) (a : Act) (w : World) (K : Kn) : Prop where
 step : Step d K0 S0 w0 K S w
 sim : SimT K sl a.tmps
 size : a.tmps.size = N
 defers : DefOk K a.defers
 fresh : Fresh K S d c
theorem Stt.put {P : Program} {N d : Nat} {K0 : Kn} {S0 : AHeap} {w0 : World} {sl : Slots} {S S' : AHeap} {c c' : Nat} {a : Act} {w w' : World} {K K' : Kn} (h : Stt P N d K0 S0 w0 sl S c a w K)
  (hs : Step d K S w K' S' w') (hf : Fresh K' S' d c') {dst : Option Nat} (hd : ∀ i, dst = some i → i < N) {x : AV} {v : Value} (hx : SimV K' x v) :
  Stt P N d K0 S0 w0 (Al.put sl dst x) S' c' (a.put dst v) w' K' := by
 refine ⟨h.step.trans hs, ?_, ?_, ?_, hf⟩
 ·cases dst with
  | none => exact h.sim.mono hs.le
  | some i => exact SimT.put (h.sim.mono hs.le) (by rw [h.size]; exact hd i rfl) hx
 ·cases dst with
  | none => exact h.size
  | some i => simpa [Act.put] using h.size
 ·cases dst with
  | none => exact h.defers.mono hs.le
  | some i => exact h.defers.mono hs.le
theorem Fresh.set {K : Kn} {S : AHeap} {d c : Nat} (h : Fresh K S d c) {n : Name} {o o' : AObj} (hn : S n = some o) : Fresh K (S.set n o') d c := by
 refine ⟨h.1, fun i hi => ⟨(h.2 i hi).1, ?_⟩⟩
 have := (h.2 i hi).2
 simp only [AHeap.set]
 rw [if_neg]; · exact this
 rintro rfl; rw [hn] at this; cases this
theorem Fresh.next {K K' : Kn} {S : AHeap} {d c : Nat} (h : Fresh K S d c) (o : AObj) (hd : K.dmax ≤ K'.dmax) (hp : ∀ m, K.pend m → m ≠ (d, c) → K'.pend m) : Fresh K' (S.set (d, c) o) d (c + 1) := by
 refine ⟨Nat.lt_of_lt_of_le h.1 hd, fun i hi => ⟨hp _ (h.2 i (by omega)).1 (by simp; omega), ?_⟩⟩
 simp only [AHeap.set]
 rw [if_neg (by simp; omega)]
 exact (h.2 i (by omega)).2
theorem set_names {S : AHeap} {d c : Nat} {o : AObj} : ∀ n : Name, n.1 < d → S n = none → (S.set (d, c) o) n = none := by
 intro n hn h0
 simp only [AHeap.set]
 rw [if_neg (by rintro rfl; simp at hn)]; exact h0
theorem set_names' {S : AHeap} {n : Name} {o o' : AObj} (h : S n = some o) : ∀ m : Name, S m = none → (S.set n o') m = none := by
 intro m h0
 simp only [AHeap.set]
 rw [if_neg (by rintro rfl; rw [h] at h0; cases h0)]; exact h0
def OpPost (P : Program) (N d : Nat) (K0 : Kn) (S0 : AHeap) (w0 : World) (k : Slots → AHeap → Nat → Prop) (a' : Act) (w' : World) : Prop :=
 ∃ sl' S' c' K', k sl' S' c' ∧ Stt P N d K0 S0 w0 sl' S' c' a' w' K'
def PanPost (d : Nat) (K0 : Kn) (S0 : AHeap) (w0 : World) (kp : AV → AHeap → Prop) (e : Exit) (a' : Act) (w' : World) : Prop :=
 ∃ x S' K' v, e = .panic [{ v, recovered := false }] ∧ SimV K' x v ∧ kp x S' ∧ Step d K0 S0 w0 K' S' w' ∧ DefOk K' a'.defers
theorem wp_value {P : Program} {o : Oper} {a : Act} {w w' : World} {u : Value} {next : Act → World → Prop} {Q : Exit → Act → World → Prop} (h : (execOp a.eval o).run P w = .ok (.value u) w') (hn : next (a.put o.dst u) w') : o.wp P a w next Q := by
 unfold Oper.wp; rw [h]; exact hn
theorem fresh_pend {K : Kn} {S : AHeap} {d c : Nat} (h : Fresh K S d c) : K.pend (d, c) ∧ S (d, c) = none := h.2 c (Nat.le_refl _)
end Go.Al
