import Derived.Test.YtolfnhebnennpaaAlP
import Derived.ProofKit
import Derived.SizedLaws
import Derived.ChangeCalls
set_option linter.unusedSimpArgs false
set_option linter.unusedVariables false
namespace Go.Al
open Go Go.RowKit Go.ChangeShapes Go.WideShapes Go.ChangeAt Go
def Opens (P : Program) (t : TypeId) (R : List AV → Prop) : Prop :=
 ∀ (H : Type) (enc : TypeId × Value → H) (W : World) (K : Kn), (∀ b o v, W.cell? ⟨b, o, none⟩ = some v → K.known b o .perm v) → ∀ (fuel : Nat) (cs : List Value) (x : DataW H × List MemPlace),
  DataW.trod enc P W 0 (fun _ => true) true fuel t cs = some x → (DataW.weights P t x.1).all (· ≤ reachBytes) = true → ∃ xs, SimL K xs cs ∧ R xs
section
variable {P : Program} {t e : TypeId}
theorem Opens.mono {R R' : List AV → Prop} (h : Opens P t R) (k : ∀ xs, R xs → R' xs) : Opens P t R' := by
 intro H enc W K hK fuel cs x hx hw
 obtain ⟨xs, h1, h2⟩ := h H enc W K hK fuel cs x hx hw
 exact ⟨xs, h1, k _ h2⟩
theorem opens_int {k : IntKind} (ht : P.underlying t = some (.int k)) : Opens P t fun xs => ∃ n, xs = [.lit (.int k n)] ∧ (Lit.int k n).wf = true := by
 intro H enc W K hK fuel cs x hx hw
 cases fuel with
 | zero => simp [DataW.trod] at hx
 | succ f =>
  unfold DataW.trod at hx
  rw [ht] at hx
  split at hx <;> first | (simp_all; done) | skip
  rename_i h1
  simp only [Option.some.injEq, TypeDesc.int.injEq] at h1
  subst h1
  split at hx <;> try (cases hx; done)
  rename_i h2
  obtain ⟨rfl, h2⟩ := h2
  exact ⟨_, by simp only [SimL, SimV, and_true], _, rfl, h2⟩
theorem simC_of_simL {K : Kn} {W : World} (hK : ∀ b o v, W.cell? ⟨b, o, none⟩ = some v → K.known b o .perm v) {b : Nat} : ∀ (xs : List AV) (cs : List Value) (o : Nat), SimL K xs cs → (∀ i, i < cs.length → W.cell? ⟨b, o + i, none⟩ = cs[i]?) → SimC K .perm b o xs
 | [], [], o, _, _ => by simp only [SimC]
 | x :: xs, c :: cs, o, h, hc => by
  simp only [SimL] at h
  simp only [SimC]
  refine ⟨⟨c, hK _ _ _ (by simpa using hc 0 (by simp)), h.1⟩, simC_of_simL hK xs cs (o + 1) h.2 fun i hi => ?_⟩
  have := hc (i + 1) (by simpa using hi)
  rw [show o + (i + 1) = o + 1 + i by omega] at this
  simpa using this
 | [], _ :: _, _, h, _ => by simp only [SimL] at h
 | _ :: _, [], _, h, _ => by simp only [SimL] at h
theorem weightsAll_mem {H : Type} {p : Nat → Bool} : ∀ {ds : List (DataW H)}, (DataW.weightsAll P e ds).all p = true → ∀ d ∈ ds, (DataW.weights P e d).all p = true
 | [], _, d, hd => by cases hd
 | d0 :: ds, h, d, hd => by
  simp only [DataW.weightsAll, List.all_append, Bool.and_eq_true] at h
  rcases List.mem_cons.1 hd with rfl | hd
  ·exact h.1
  ·exact weightsAll_mem h.2 d hd
theorem opens_slice {sz : Nat} {R : List AV → Prop} (ht : P.underlying t = some (.slice e)) (hc : P.cellsOf e = sz) (hsz : 0 < sz) (he : Opens P e R) :
  Opens P t fun xs => ∃ ys : List (List AV), (∀ y ∈ ys, R y ∧ y.length = sz) ∧ xs = [.slice .perm sz ys.flatten] ∧ ys.length * P.bytesOf e ≤ reachBytes := by
 intro H enc W K hK fuel cs x hx hw
 rcases DataW.trod_slice ht hx with ⟨rfl, rfl⟩ | ⟨a, len, cap, elems, rest, n, rfl, rfl, rfl, _, hlc, hcap, hel, hget, _, _⟩
 ·refine ⟨[.slice .perm sz []], ?_, [], by simp, rfl, by simp⟩
  simp only [SimL, SimV, and_true]
  exact ⟨none, 0, 0, rfl, by simp, Nat.le_refl _, hsz, .inl ⟨trivial, fun _ => rfl⟩⟩
 simp only [DataW.weights, ht, List.all_cons, List.all_append, Bool.and_eq_true, decide_eq_true_eq, List.length_map] at hw
 obtain ⟨hw1, hw2, _⟩ := hw
 have key : ∀ k, k ≤ len → ∃ ys : List (List AV), ys.length = k ∧ (∀ y ∈ ys, R y ∧ y.length = sz) ∧ ys.flatten.length = k * sz ∧ (0 < k → a.spot = none) ∧ SimC K .perm a.block a.off ys.flatten := by
  intro k
  induction k with
  | zero => intro _; exact ⟨[], rfl, by simp, by simp, by simp, by simp only [List.flatten_nil, SimC]⟩
  | succ k ih =>
   intro hk
   obtain ⟨ys, h1, h2, h3, h4, h5⟩ := ih (by omega)
   have hg := hget k (by omega)
   have hlt : k < elems.length := by omega
   rw [List.getElem?_eq_getElem hlt, hc] at hg
   obtain ⟨cells, hcl, htr⟩ := Option.bind_eq_some_iff.1 hg
   obtain ⟨_, hlen, hcell⟩ := World.cells?_some hcl
   obtain ⟨y, hy1, hy2⟩ := he H enc W K hK n cells _ htr (weightsAll_mem hw2 _ (List.mem_map_of_mem (List.getElem_mem hlt)))
   have hyl : y.length = sz := by rw [SimL_length hy1, hlen]
   have hsp : a.spot = none := by
    rcases Nat.eq_zero_or_pos k with hk0 | hk0
    case inr => exact h4 hk0
    subst hk0
    have h0 := hcell 0 (by omega)
    rw [List.getElem?_eq_getElem (by omega)] at h0
    have := World.cell?_spot h0
    simpa [Addr.add] using this
   refine ⟨ys ++ [y], by simp [h1], ?_, ?_, fun _ => hsp, ?_⟩
   ·intro z hz
    rcases List.mem_append.1 hz with hz | hz
    ·exact h2 z hz
    ·simp only [List.mem_singleton] at hz; subst hz; exact ⟨hy2, hyl⟩
   ·simp [h3, hyl, Nat.succ_mul]
   ·rw [List.flatten_append, List.flatten_singleton]
    refine SimC_append.2 ⟨h5, ?_⟩
    rw [h3]
    refine simC_of_simL hK y cells _ hy1 fun i hi => ?_
    have := hcell i (by omega)
    rw [← this]
    congr 1
    cases a; simp only at hsp; subst hsp
    simp only [Addr.add]
    split <;> split <;> simp_all <;> omega
 obtain ⟨ys, h1, h2, h3, h4, h5⟩ := key len (Nat.le_refl _)
 refine ⟨[.slice .perm sz ys.flatten], ?_, ys, h2, rfl, ?_⟩
 ·simp only [SimL, SimV, and_true]
  refine ⟨some a, len, cap, rfl, h3.symm, hlc, hsz, ?_⟩
  by_cases h0 : len = 0
  ·exact .inl ⟨by have : ys = [] := List.length_eq_zero_iff.1 (h1.trans h0); simp [this], fun h => by cases h⟩
  ·refine .inr ⟨a.block, a.off, ?_, h5, trivial⟩
   have := h4 (by omega)
   cases a; simp only at this; simp [this]
 ·rw [h1, ← hel]
  exact Nat.le_trans (Nat.mul_le_mul_right _ (by omega)) hw1
def Parts : List (List AV → Prop) → List AV → Prop
 | [], xs => xs = []
 | R :: RS, xs => ∃ a b, R a ∧ Parts RS b ∧ xs = a ++ b
def Fields (P : Program) : Nat → List Field → List (List AV → Prop) → Nat → Prop
 | o, [], [], n => o = n
 | o, f :: fs, R :: RS, n => f.offset = o ∧ Opens P f.type R ∧ Fields P (o + P.cellsOf f.type) fs RS n
 | _, _, _, _ => False
theorem opens_fields {H : Type} {enc : TypeId × Value → H} {W : World} {K : Kn} (hK : ∀ b o v, W.cell? ⟨b, o, none⟩ = some v → K.known b o .perm v) {m : Nat} {cs : List Value} :
  ∀ {fs : List Field} {RS : List (List AV → Prop)} {o : Nat} {xs : List (DataW H × List MemPlace)}, Fields P o fs RS cs.length → xs.length = fs.length →
   (∀ (i : Nat) (f : Field), fs[i]? = some f → DataW.trod enc P W 0 (fun _ => true) true m f.type ((cs.drop f.offset).take (P.cellsOf f.type)) = xs[i]?) →
   (DataW.weightsEach P (fs.map (·.type)) (xs.map (·.1))).all (· ≤ reachBytes) = true → ∃ ys, SimL K ys (cs.drop o) ∧ Parts RS ys
 | [], [], o, [], h, _, _, _ => by
  simp only [Fields] at h
  exact ⟨[], by subst h; simp [SimL], rfl⟩
 | f :: fs, R :: RS, o, x :: xs, h, hl, hg, hw => by
  simp only [Fields] at h
  obtain ⟨rfl, h1, h2⟩ := h
  simp only [List.map_cons, DataW.weightsEach, List.all_append, Bool.and_eq_true] at hw
  obtain ⟨a, ha1, ha2⟩ := h1 H enc W K hK m _ x (by simpa using hg 0 f rfl) hw.1
  obtain ⟨b, hb1, hb2⟩ := opens_fields hK h2 (by simpa using hl) (fun i g hi => by simpa using hg (i + 1) g (by simpa using hi)) hw.2
  refine ⟨a ++ b, ?_, a, b, ha2, hb2, rfl⟩
  have := SimL_append ha1 hb1
  rwa [← List.drop_drop, List.take_append_drop] at this
 | [], [], _, _ :: _, _, hl, _, _ => by simp at hl
 | _ :: _, _, _, [], _, hl, _, _ => by simp at hl
 | [], _ :: _, _, _, h, _, _, _ => by simp only [Fields] at h
 | _ :: _, [], _, _ :: _, h, _, _, _ => by simp only [Fields] at h
theorem opens_struct {fs : Array Field} {RS : List (List AV → Prop)} (ht : P.underlying t = some (.struct fs)) (h : Fields P 0 fs.toList RS (P.cellsOf t)) : Opens P t (Parts RS) := by
 intro H enc W K hK fuel cs x hx hw
 obtain ⟨xs, m, rfl, rfl, hl, hlen, hg⟩ := DataW.trod_struct ht hx
 simp only [DataW.weights, ht] at hw
 rw [← hl] at h
 have := opens_fields (K := K) hK (o := 0) h (by simpa using hlen) (fun i f hi => hg i f (by simpa using hi)) hw
 simpa using this
def OpensArg (P : Program) (t : TypeId) (A : AV → Prop) : Prop :=
 ∀ (H : Type) (enc : TypeId × Value → H) (W : World) (K : Kn) (base : Nat) (v : Value) (d : DataW H) (ps : List MemPlace), (∀ b o v, W.cell? ⟨b, o, none⟩ = some v → K.known b o .perm v) →
  DataW.Trod enc P W 0 (fun _ => true) true t v d ps → (DataW.weights P t d).all (· ≤ reachBytes) = true → Value.okWide P W .any base t v → ∃ x, SimV K x v ∧ A x
theorem arg_one {R : List AV → Prop} (h : Opens P t R) (h1 : ∀ (W : World) (base : Nat) (v : Value), Value.okWide P W .any base t v → v.cells.toList = [v]) : OpensArg P t fun x => R [x] := by
 rintro H enc W K base v d ps hK ⟨fuel, hf⟩ hw hok
 rw [h1 W base v hok] at hf
 obtain ⟨xs, h2, h3⟩ := h H enc W K hK fuel _ _ hf hw
 match xs, h2 with
 | [x], h2 => simp only [SimL, and_true] at h2; exact ⟨x, h2, h3⟩
 | [], h2 => simp only [SimL] at h2
 | _ :: _ :: _, h2 => simp only [SimL, and_false] at h2
theorem arg_int {k : IntKind} (ht : P.underlying t = some (.int k)) : OpensArg P t fun x => ∃ n, x = .lit (.int k n) ∧ (Lit.int k n).wf = true := by
 have := arg_one (opens_int ht) (fun W base v h => by obtain ⟨n, rfl⟩ := okWide_int ht h; rfl)
 rintro H enc W K base v d ps hK h hw hok
 obtain ⟨x, h1, n, h2, h3⟩ := this H enc W K base v d ps hK h hw hok
 exact ⟨x, h1, n, by simpa using h2, h3⟩
theorem arg_slice {sz : Nat} {R : List AV → Prop} (ht : P.underlying t = some (.slice e)) (hc : P.cellsOf e = sz) (hsz : 0 < sz) (he : Opens P e R) :
  OpensArg P t fun x => ∃ ys : List (List AV), (∀ y ∈ ys, R y ∧ y.length = sz) ∧ x = .slice .perm sz ys.flatten ∧ ys.length * P.bytesOf e ≤ reachBytes := by
 have := arg_one (opens_slice ht hc hsz he) (fun W base v h => by obtain ⟨a, len, cap, rfl⟩ := okWide_slice ht h; rfl)
 rintro H enc W K base v d ps hK h hw hok
 obtain ⟨x, h1, ys, h2, h3, h4⟩ := this H enc W K base v d ps hK h hw hok
 exact ⟨x, h1, ys, h2, by simpa using h3, h4⟩
def OpensArgs (P : Program) : List TypeId → List (AV → Prop) → Prop
 | [], [] => True
 | t :: ts, A :: AS => OpensArg P t A ∧ OpensArgs P ts AS
 | _, _ => False
def ArgsAre : List (AV → Prop) → List AV → Prop
 | [], [] => True
 | A :: AS, x :: xs => A x ∧ ArgsAre AS xs
 | _, _ => False
theorem opensArgs {H : Type} {enc : TypeId × Value → H} {W : World} {K : Kn} {base : Nat} (hK : ∀ b o v, W.cell? ⟨b, o, none⟩ = some v → K.known b o .perm v) :
  ∀ {ts : List TypeId} {AS : List (AV → Prop)} {vs : List Value} {ds : List (DataW H)} {ps : List MemPlace}, OpensArgs P ts AS → DataW.TrodAll enc P W 0 (fun _ => true) true ts vs ds ps →
   (DataW.weightsEach P ts ds).all (· ≤ reachBytes) = true → (∀ (j : Nat) t v, ts[j]? = some t → vs[j]? = some v → Value.okWide P W .any base t v) → ∃ xs, SimL K xs vs ∧ ArgsAre AS xs
 | [], [], [], [], _, _, _, _, _ => ⟨[], by simp only [SimL], trivial⟩
 | t :: ts, A :: AS, v :: vs, d :: ds, ps, h, htr, hw, hok => by
  simp only [OpensArgs] at h
  simp only [DataW.TrodAll] at htr
  obtain ⟨p, q, h1, h2, _⟩ := htr
  simp only [DataW.weightsEach, List.all_append, Bool.and_eq_true] at hw
  obtain ⟨x, hx1, hx2⟩ := h.1 H enc W K base v d p hK h1 hw.1 (hok 0 t v rfl rfl)
  obtain ⟨xs, hxs1, hxs2⟩ := opensArgs hK h.2 h2 hw.2 (fun j t v ht hv => hok (j + 1) t v (by simpa using ht) (by simpa using hv))
  exact ⟨x :: xs, by simp only [SimL]; exact ⟨hx1, hxs1⟩, hx2, hxs2⟩
 | [], _ :: _, _, _, _, h, _, _, _ => by simp only [OpensArgs] at h
 | _ :: _, [], _, _, _, h, _, _, _ => by simp only [OpensArgs] at h
 | [], [], _ :: _, _, _, _, h, _, _ => by simp [DataW.TrodAll] at h
 | [], [], [], _ :: _, _, _, h, _, _ => by simp [DataW.TrodAll] at h
 | _ :: _, _ :: _, [], _, _, _, h, _, _ => by simp [DataW.TrodAll] at h
 | _ :: _, _ :: _, _ :: _, [], _, _, h, _, _ => by simp [DataW.TrodAll] at h
end
end Go.Al
namespace Go.Al
open Go Go.RowKit Go.ChangeShapes Go.WideShapes Go.ChangeAt Go
def Kn.start (W : World) : Kn := ⟨W.heap.size, 0, fun _ => False, fun _ => none, fun _ => none, fun b o t v => t = .perm ∧ W.cell? ⟨b, o, none⟩ = some v, fun _ _ => False, W.heap.size⟩
theorem Sat.start (W : World) : Sat (Kn.start W) (fun _ => none) W :=
 ⟨fun b o v h => h.2, ⟨fun _ _ => none, fun _ _ _ h => (by cases h), fun _ _ _ _ => rfl, fun b o n v h => (by cases h.1), fun n obj h => (by cases h), fun b o v h => (by cases h.1)⟩, fun n _ => ⟨rfl, rfl, rfl, id⟩, fun n h => h.elim, fun n b o v h => (by cases h.1), Nat.le_refl _, fun _ _ h => (by cases h), fun _ _ h => h.elim⟩
theorem trodAll_below {H : Type} {enc : TypeId × Value → H} {P : Program} (hl : laidOutB P = true) {W W' : World} (hb : Below W.heap.size W W') :
  ∀ {ts : List TypeId} {vs : List Value} {ds : List (DataW H)} {ps : List MemPlace}, (∀ t ∈ ts, P.readableRec t = true ∧ t < P.types.size) → (∀ p ∈ ps, p.block < W.heap.size) →
   DataW.TrodAll enc P W 0 (fun _ => true) true ts vs ds ps → DataW.TrodAll enc P W' 0 (fun b => decide (b < W.heap.size)) true ts vs ds ps
 | [], [], [], ps, _, _, h => by simpa [DataW.TrodAll] using h
 | t :: ts, v :: vs, d :: ds, ps, hr, hp, h => by
  simp only [DataW.TrodAll] at h ⊢
  obtain ⟨p, q, h1, h2, rfl⟩ := h
  exact ⟨p, q, Below.trod hl (hr t (by simp)).1 (hr t (by simp)).2 h1 hb (fun x hx => hp x (by simp [hx])), trodAll_below hl hb (fun t ht => hr t (by simp [ht])) (fun x hx => hp x (by simp [hx])) h2, rfl⟩
 | [], _ :: _, _, _, _, _, h => by simp [DataW.TrodAll] at h
 | [], [], _ :: _, _, _, _, h => by simp [DataW.TrodAll] at h
 | _ :: _, [], _, _, _, _, h => by simp [DataW.TrodAll] at h
 | _ :: _, _ :: _, [], _, _, _, h => by simp [DataW.TrodAll] at h
theorem law_contract {H : Type} {enc : TypeId × Value → H} {P : Program} (hl : laidOutB P = true) {f : FuncId} {fn : Func} {s : ChangeSpec} {tb : TypeId} {AS : List (AV → Prop)}
  (hres : fn.resultTypes = #[tb]) (hb : P.underlying tb = some .bool) (hvars : s.vars = [])
  (hread : fn.params.toList.all (fun t => P.readableRec t && decide (t < P.types.size)) = true)
  (hs : ∀ ds : List (DataW H), ds.length = fn.params.size → s.fn H ds = { results := [.lit (.bool true)], args := ds, vars := [] })
  (hA : OpensArgs P fn.params.toList AS) (hac : ∀ xs, ArgsAre AS xs → AC P f xs (fun _ => none) fun r _ => r = .ret (B true))
  {W : World} {args : Array Value} {base : Nat} {ds gs : List (DataW H)} {before : List MemPlace}
  (hval : ∀ (j : Nat) t v, fn.params[j]? = some t → args[j]? = some v → Value.okWide P W .any base t v)
  (hW : DataW.Whole enc P fn.params.toList s.vars false W args.toList ds gs before)
  (hw : (DataW.weightsEach P (fn.params.toList ++ s.plain.varTypes P) (ds ++ gs)).all (· ≤ reachBytes) = true) :
  Calls P f args W fun e W' => ∃ v, e = .returned v ∧ s.post enc P fn false true false false W args v W' := by
 have hW' := hW
 obtain ⟨p, q, h1, h2, rfl, h3, h4⟩ := hW
 rw [hvars] at h2
 obtain ⟨rfl, rfl⟩ := trodVars_none h2
 have hvt : s.plain.varTypes P = [] := by simp [DataSpec.varTypes, ChangeSpec.plain, hvars]
 rw [hvt] at hw
 simp only [List.append_nil] at hw hW'
 obtain ⟨xs, hx1, hx2⟩ := opensArgs (K := Kn.start W) (base := base) (fun b o v h => ⟨rfl, h⟩) hA h1 hw (fun j t v ht hv => hval j t v (by simpa using ht) (by simpa using hv))
 refine ((hac xs hx2).2 (Kn.start W) W args (Sat.start W) hx1).mono fun e W' ⟨r, S', K', g1, g2, g3⟩ => ?_
 subst g2
 cases e with
 | returned v =>
  simp only [SimE, SimV] at g1
  subst g1
  refine ⟨_, rfl, ds, [], p, [], p, [], hW', ?_, ?_, ?_, ?_, fun h => by cases h⟩
  ·rw [hres, List.append_nil, hs ds (by simpa using (trodAll_length h1).2)]
   exact ⟨[], [], ⟨1, by simp [DataW.trod, hb, Value.cells, Value.resultList]⟩, rfl, rfl⟩
  ·rw [List.append_nil, hs ds (by simpa using (trodAll_length h1).2)]
   refine trodAll_below hl g3.below (fun t ht => ?_) (fun x hx => ?_) h1
   ·have := List.all_eq_true.1 hread t ht
    simpa [Bool.and_eq_true] using this
   ·exact hW'.lt x hx
  ·rw [hvars, List.append_nil, hs ds (by simpa using (trodAll_length h1).2)]
   rfl
  ·exact Below.frame g3.below _
 | panicked ch => simp only [SimE] at g1
 | outgrown => simp only [SimE] at g1
end Go.Al
