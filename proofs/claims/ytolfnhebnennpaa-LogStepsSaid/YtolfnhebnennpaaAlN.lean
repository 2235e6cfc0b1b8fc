import Derived.Test.YtolfnhebnennpaaAlS
set_option linter.unusedSimpArgs false
set_option linter.unusedVariables false
namespace Go.Al
open Go.RowKit
def Less (S S' : AHeap) : Prop := ∀ n o, S n = some o → S' n = some o
theorem Less.none {S S' : AHeap} (h : Less S' S) {n : Name} (hn : S n = none) : S' n = none := by
 cases hq : S' n with
 | none => rfl
 | some o => have := h n o hq; rw [hn] at this; cases this
theorem Sat.sub {K : Kn} {S S' : AHeap} {w : World} (hs : Sat K S w) (h : Less S' S) : Sat K S' w := by
 obtain ⟨owner, o1, o2, o3, o4, o5⟩ := hs.objs
 exact ⟨hs.perm, ⟨owner, o1, o2, fun b o n v hk ⟨len, hl⟩ => o3 b o n v hk ⟨len, h n _ hl⟩, fun n obj hn => o4 n obj (h n obj hn), o5⟩,
  fun n hn => ⟨h.none (hs.fresh n hn).1, (hs.fresh n hn).2⟩, hs.pend, hs.tk, hs.low, fun n cs hn => hs.based n cs (h n _ hn), hs.fixd⟩
theorem Step.sub {d : Nat} {K K' : Kn} {S S' S'' : AHeap} {w w' : World} (h : Step d K S w K' S' w') (k : Less S'' S') : Step d K S w K' S'' w' :=
 ⟨h.le, h.sat.sub k, h.below, fun n hn h0 => k.none (h.names n hn h0)⟩
def Ghost (d : Nat) (sl : Slots) (S : AHeap) (c : Nat) (sl' : Slots) (S' : AHeap) (c' : Nat) : Prop :=
 ∀ (K : Kn) (w : World) (ts : Array Value), Sat K S w → SimT K sl ts → Fresh K S d c → ∃ K', Step d K S w K' S' w ∧ SimT K' sl' ts ∧ Fresh K' S' d c'
theorem Ghost.refl {d : Nat} {sl : Slots} {S : AHeap} {c : Nat} : Ghost d sl S c sl S c := fun K _ _ hs ht hf => ⟨K, Step.refl d hs, ht, hf⟩
theorem Ghost.trans {d : Nat} {sl sl' sl'' : Slots} {S S' S'' : AHeap} {c c' c'' : Nat} (h : Ghost d sl S c sl' S' c') (k : Ghost d sl' S' c' sl'' S'' c'') : Ghost d sl S c sl'' S'' c'' := by
 intro K w ts hs ht hf
 obtain ⟨K1, h1, h2, h3⟩ := h K w ts hs ht hf
 obtain ⟨K2, g1, g2, g3⟩ := k K1 w ts h1.sat h2 h3
 exact ⟨K2, h1.trans g1, g2, g3⟩
inductive LC where
 | skip
 | reg (ops : List LOp) (drop : List Nat)
 | drw (ops : List (LOp × Bool)) (drop : List Nat)
 | seq (x y : LC)
 | cond (c : Operand) (drop : List Nat) (x y : LC)
 | block (id : Nat) (x : LC)
 | loop (x : LC)
 | exit (id : Nat)
 | ret
structure Hint where
 plan : Plan
 drop : List Nat
 sk : List Sk := []
 anc : List Nat := []
def LC.of : Code → List Hint → Option (LC × List Hint)
 | .skip, hs => some (.skip, hs)
 | .region _ ops false, h :: hs => some (.reg (ops.toList.map (LOp.of ops)) h.drop, hs)
 | .region _ ops true, h :: hs => if planOk ops h.plan h.sk h.anc then some (.drw (planOps ops h.plan) h.drop, hs) else none
 | .seq x y, hs => match LC.of x hs with
  | some (x', hs) => match LC.of y hs with
   | some (y', hs) => some (.seq x' y', hs)
   | none => none
  | none => none
 | .cond c x y, h :: hs => match LC.of x hs with
  | some (x', hs) => match LC.of y hs with
   | some (y', hs) => some (.cond c h.drop x' y', hs)
   | none => none
  | none => none
 | .block id x, hs => match LC.of x hs with
  | some (x', hs) => some (.block id x', hs)
  | none => none
 | .loop x, hs => match LC.of x hs with
  | some (x', hs) => some (.loop x', hs)
  | none => none
 | .exit id, hs => some (.exit id, hs)
 | .ret, hs => some (.ret, hs)
 | _, _ => none
def codeOk (N : Nat) : Code → Bool
 | .region _ ops _ => ops.all (fun o => match o.dst with | some i => decide (i < N) | none => true) && guardsOk ops
 | .seq x y => codeOk N x && codeOk N y
 | .cond _ x y => codeOk N x && codeOk N y
 | .block _ x => codeOk N x
 | .loop x => codeOk N x
 | .rangeFunc _ ps a b => ps.all (fun t => decide (t < N)) && codeOk N a && codeOk N b
 | _ => true
def LW (P : Program) (T : Tab) : LC → Nat → Slots → AHeap → Nat → Post → Prop
 | .skip, d, sl, S, c, Q => ∃ sl' S' c', Ghost d sl S c sl' S' c' ∧ Q .normal sl' S' c'
 | .reg ops ds, d, sl, S, c, Q => ∃ sl0 S0 c0, Ghost d sl S c sl0 S0 c0 ∧ lops P T d ops sl0 S0 c0 (fun sl S c => ∃ sl' S' c', Ghost d (forget ds sl) S c sl' S' c' ∧ Q .normal sl' S' c') (fun x S => Q (.pan x) [] S 0)
 | .drw ops ds, d, sl, S, c, Q => ∃ sl0 S0 c0, Ghost d sl S c sl0 S0 c0 ∧ ldrw P T d ops [] sl0 S0 c0 (fun sl S c => ∃ sl' S' c', Ghost d (forget ds sl) S c sl' S' c' ∧ Q .normal sl' S' c') (fun x S => Q (.pan x) [] S 0)
 | .seq x y, d, sl, S, c, Q => LW P T x d sl S c fun e sl S c => match e with
  | .normal => LW P T y d sl S c Q
  | e => Q e sl S c
 | .cond o ds x y, d, sl, S, c, Q => ∃ sl0 S0 c0, Ghost d sl S c sl0 S0 c0 ∧ match ev sl0 o with
  | .lit (.bool b) => (b = true → LW P T x d (forget ds sl0) S0 c0 Q) ∧ (b = false → LW P T y d (forget ds sl0) S0 c0 Q)
  | _ => False
 | .block id x, d, sl, S, c, Q => LW P T x d sl S c fun e sl S c => match e with
  | .exit i => if i = id then Q .normal sl S c else Q (.exit i) sl S c
  | e => Q e sl S c
 | .loop x, d, sl, S, c, Q => ∃ sl1 S1 c1, Ghost d sl S c sl1 S1 c1 ∧ ∃ I : Nat → Slots → AHeap → Prop, (∃ n, I n sl1 S1) ∧ ∀ n sl' S' d', d < d' → (∀ m : Name, d' ≤ m.1 → S' m = none) → I n sl' S' →
   LW P T x d' sl' S' 0 fun e sl'' S'' _ => match e with
    | .normal => ∃ m, m < n ∧ ∃ S3, Less S3 S'' ∧ I m sl'' S3
    | .pan v => Q (.pan v) [] S'' 0
    | e => Q e sl'' S'' c1
 | .exit id, d, sl, S, c, Q => ∃ sl' S' c', Ghost d sl S c sl' S' c' ∧ Q (.exit id) sl' S' c'
 | .ret, d, sl, S, c, Q => ∃ sl' S' c', Ghost d sl S c sl' S' c' ∧ Q .ret sl' S' c'
def Kn.enter (K : Kn) : Kn := { K with dmax := K.dmax + 1, pend := fun n => K.pend n ∨ n.1 = K.dmax }
theorem Kn.enter_le (K : Kn) (D : Nat) : Kle D K K.enter where
 low := rfl
 fixed _ _ h := h
 ent := rfl
 dmax := Nat.le_succ _
 base _ _ h := h
 tip _ t h := ⟨t, h, .inl rfl⟩
 known _ _ _ _ h := h
 shrink n hn h := h.resolve_right (by omega)
 keep n _ h := .inl h
theorem Sat.congrF {K K' : Kn} {S : AHeap} {w : World} (hs : Sat K S w) (hk : Kle0 0 K K') (hfe : ∀ b o, K'.fixed b o → w.heap[b]? = some o ∧ noCells o = true) (hb : K'.base = K.base) (ht : K'.tip = K.tip) (hkn : ∀ b o t v, K'.known b o t v → K.known b o t v)
  (hf : ∀ n : Name, K'.dmax ≤ n.1 → S n = none ∧ K'.base n = none ∧ K'.tip n = none ∧ ¬ K'.pend n) (hp : ∀ n, K'.pend n → K'.base n = none ∧ K'.tip n = none) : Sat K' S w := by
 obtain ⟨owner, o1, o2, o3, o4, o5⟩ := hs.objs
 refine ⟨fun b o v h => hs.perm b o v (hkn _ _ _ _ h), ⟨owner, by rw [hk.low]; exact o1, fun b o v h => o2 b o v (hkn _ _ _ _ h), fun b o n v h => o3 b o n v (hkn _ _ _ _ h), fun n obj hn => ?_, fun b o v h => by rw [hk.low]; exact o5 b o v (hkn _ _ _ _ h)⟩, hf, hp, fun n b o v h => by rw [ht]; exact hs.tk n b o v (hkn _ _ _ _ h), by rw [hk.low]; exact hs.low, fun n cs hn => by rw [hb]; exact hs.based n cs hn, fun b o q => hfe b o q⟩
 have ho := o4 n obj hn
 cases obj with
 | box cs =>
  simp only [ObjOk] at ho ⊢
  intro b f hbf i c hc
  rw [hb] at hbf
  obtain ⟨h1, u, h3, h4, h5, h6⟩ := ho b f hbf i c hc
  exact ⟨h1, u, h3, h4, h5.mono0 hk, h6.turn0 hk fun b o hb => ⟨hb, rfl, rfl⟩⟩
 | buf len =>
  simp only [ObjOk] at ho ⊢
  intro t htt
  rw [ht] at htt
  obtain ⟨h1, h2, h3⟩ := ho t htt
  refine ⟨h1, h2, fun i hi1 hi2 => ?_⟩
  obtain ⟨g1, g2, g3, g4⟩ := h3 i hi1 hi2
  exact ⟨g1, g2, g3, fun v hv => g4 v (hkn _ _ _ _ hv)⟩
 | map es =>
  simp only [ObjOk] at ho ⊢
  obtain ⟨b, f, hbf, h1, ents, clock, h2, h3, h4⟩ := ho
  rw [← hb] at hbf
  refine ⟨b, f, hbf, h1, ents, clock, h2, fun e he => ?_, h4⟩
  obtain ⟨x, h5, h6⟩ := h3 e he
  exact ⟨x, h5, h6.mono0 hk⟩
theorem Sat.congr {K K' : Kn} {S : AHeap} {w : World} (hs : Sat K S w) (hk : Kle0 0 K K') (hfe : ∀ b o, K'.fixed b o → K.fixed b o) (hb : K'.base = K.base) (ht : K'.tip = K.tip) (hkn : ∀ b o t v, K'.known b o t v → K.known b o t v)
  (hf : ∀ n : Name, K'.dmax ≤ n.1 → S n = none ∧ K'.base n = none ∧ K'.tip n = none ∧ ¬ K'.pend n) (hp : ∀ n, K'.pend n → K'.base n = none ∧ K'.tip n = none) : Sat K' S w :=
 hs.congrF hk (fun b o q => hs.fixd b o (hfe b o q)) hb ht hkn hf hp
theorem Sat.enter {K : Kn} {S : AHeap} {w : World} (hs : Sat K S w) : Sat K.enter S w := by
 refine hs.congr (K.enter_le 0).toKle0 (fun _ _ h => h) rfl rfl (fun _ _ _ _ h => h) (fun n hn => ?_) (fun n hn => ?_)
 ·have hn' : K.dmax + 1 ≤ n.1 := hn
  obtain ⟨h1, h2, h3, h4⟩ := hs.fresh n (by omega)
  exact ⟨h1, h2, h3, fun h => h.elim h4 (by omega)⟩
 ·rcases hn with hn | hn
  ·exact hs.pend n hn
  ·obtain ⟨_, h2, h3, _⟩ := hs.fresh n (by omega)
   exact ⟨h2, h3⟩
theorem Kn.enter_fresh {K : Kn} {S : AHeap} {w : World} (hs : Sat K S w) : Fresh K.enter S K.dmax 0 :=
 ⟨Nat.lt_succ_self _, fun i _ => ⟨.inr rfl, (hs.fresh (K.dmax, i) (Nat.le_refl _)).1⟩⟩
theorem wp_loop_idx {P : Program} {Q : Exit → Act → World → Prop} {c : Code} (J : Nat → Act → World → Prop)
  (round : ∀ n a w, J n a w → c.wp P (Exit.then (fun a' w' => ∃ m, m < n ∧ J m a' w') Q) a w) : ∀ {n : Nat} {a : Act} {w : World}, J n a w → (Code.loop c).wp P Q a w := by
 intro n a w h₀ b k cs
 have key : ∀ n a w, J n a w →
   ∃ e a' w', Q e a' w' ∧ Arrives P (lone (b.at a (.code c :: .inLoop c :: k)) cs w) b k cs e a' w' := by
  intro n
  induction n using Nat.strongRecOn with
  | _ n ih =>
   intro a w hI
   obtain ⟨e, a₁, w₁, hq, harr⟩ := round n a w hI b (.inLoop c :: k) cs
   cases e with
   | normal =>
    obtain ⟨m, hlt, hI₁⟩ := hq
    obtain ⟨e₂, a₂, w₂, hq₂, harr₂⟩ := ih m hlt a₁ w₁ hI₁
    exact ⟨e₂, a₂, w₂, hq₂, .of_steps (Steps.trans harr (.one step_inLoop)) harr₂⟩
   | exit id => exact ⟨_, a₁, w₁, hq, .pass (x := .inLoop c) rfl (fun _ _ => .inl (by simp)) harr⟩
   | goto l => exact ⟨_, a₁, w₁, hq, .pass (x := .inLoop c) rfl (fun _ _ => .inl (by simp)) harr⟩
   | ret => exact ⟨_, a₁, w₁, hq, .pass (x := .inLoop c) rfl (fun _ _ => .inl (by simp)) harr⟩
   | panic ch => exact ⟨_, a₁, w₁, hq, .pass (x := .inLoop c) rfl (fun _ _ => .inl (by simp)) harr⟩
   | outgrown => exact ⟨_, a₁, w₁, hq, .pass (x := .inLoop c) rfl (fun _ _ => .inl (by simp)) harr⟩
 obtain ⟨e, a', w', hq, harr⟩ := key _ a w h₀
 exact ⟨e, a', w', hq, .of_steps (.one step_loop) harr⟩
theorem Stt.ghost {P : Program} {N d : Nat} {K0 : Kn} {S0 : AHeap} {w0 : World} {sl sl' : Slots} {S S' : AHeap} {c c' : Nat} {a : Act} {w : World} {K : Kn} (h : Stt P N d K0 S0 w0 sl S c a w K) (hg : Ghost d sl S c sl' S' c') : ∃ K', Stt P N d K0 S0 w0 sl' S' c' a w K' := by
 obtain ⟨K', g1, g2, g3⟩ := hg K w a.tmps h.step.sat h.sim h.fresh
 exact ⟨K', h.step.trans g1, g2, h.size, h.defers.mono g1.le, g3⟩
theorem CPost.ghost {P : Program} {N d : Nat} {K0 : Kn} {S0 : AHeap} {w0 : World} {Q : Post} {ds : List Nat} {e : Exit} {a : Act} {w : World}
  (h : CPost P N d K0 S0 w0 (fun x sl S c => match x with | .normal => ∃ sl' S' c', Ghost d (Al.forget ds sl) S c sl' S' c' ∧ Q .normal sl' S' c' | x => Q x sl S c) e a w) : CPost P N d K0 S0 w0 Q e a w := by
 cases e with
 | normal =>
  obtain ⟨sl, S, c, K, ⟨sl', S', c', hg, h1⟩, h2⟩ := h
  obtain ⟨K', g1, g2, g3⟩ := hg K w a.tmps h2.step.sat (h2.sim.forget ds) h2.fresh
  exact ⟨sl', S', c', K', h1, ⟨h2.step.trans g1, g2, h2.size, h2.defers.mono g1.le, g3⟩⟩
 | exit i => exact h
 | goto l => exact h
 | ret => exact h
 | panic ch => exact h
 | outgrown => exact h
theorem filterMap_range {α β : Type} : ∀ (l : List α) (g : α → β), (List.range l.length).filterMap (fun i => (l[i]?).map g) = l.map g
 | [], _ => rfl
 | x :: xs, g => by
  rw [List.length_cons, List.range_succ_eq_map, List.filterMap_cons]
  simp only [List.getElem?_cons_zero, Option.map_some, List.filterMap_map, List.map_cons, Function.comp_def, List.getElem?_cons_succ]
  rw [filterMap_range xs g]
theorem LW_sound {P : Program} {T : Tab} (hT : TOk P T) (hP : P.follows .mixedOrders = true) {N : Nat} : ∀ (code : Code) (lc : LC) (hs hs' : List Hint), LC.of code hs = some (lc, hs') → codeOk N code = true →
  ∀ {d : Nat} {K0 : Kn} {S0 : AHeap} {w0 : World} {sl : Slots} {S : AHeap} {c : Nat} {a : Act} {w : World} {K : Kn} {Q : Post}, Stt P N d K0 S0 w0 sl S c a w K → LW P T lc d sl S c Q → code.wp P (CPost P N d K0 S0 w0 Q) a w
 | .skip, lc, hs, hs', he, ho, d, K0, S0, w0, sl, S, c, a, w, K, Q, h, hl => by
  simp only [LC.of, Option.some.injEq, Prod.mk.injEq] at he
  obtain ⟨rfl, rfl⟩ := he
  obtain ⟨sl', S', c', hg, hq⟩ := hl
  obtain ⟨K', h'⟩ := h.ghost hg
  exact wp_skip ⟨sl', S', c', K', hq, h'⟩
 | .region id ops false, lc, hs, hs', he, ho, d, K0, S0, w0, sl, S, c, a, w, K, Q, h, hl => by
  cases hs with
  | nil => simp [LC.of] at he
  | cons hh hs =>
   simp only [LC.of, Option.some.injEq, Prod.mk.injEq] at he
   obtain ⟨rfl, rfl⟩ := he
   simp only [codeOk, Bool.and_eq_true] at ho
   have hd : ∀ o ∈ ops, ∀ i, o.dst = some i → i < N := by
    intro o hmem i hi
    have := Array.all_eq_true_iff_forall_mem.1 ho.1 o hmem
    simpa [hi] using this
   simp only [LW] at hl
   obtain ⟨_, _, _, hgh, hl⟩ := hl
   obtain ⟨K', h⟩ := h.ghost hgh
   refine wp_mono (wp_region (lops_sound hT hd ho.2 (Q := fun x sl S c => match x with | .normal => ∃ sl' S' c', Ghost d (forget hh.drop sl) S c sl' S' c' ∧ Q .normal sl' S' c' | x => Q x sl S c) (List.range ops.size) _ (fun i hi => by simpa using hi) rfl h ?_)) (fun e a w hq => hq.ghost)
   have : (List.range ops.size).filterMap (fun i => (ops[i]?).map (LOp.of ops)) = ops.toList.map (LOp.of ops) := by
    have := filterMap_range ops.toList (LOp.of ops)
    simpa using this
   rw [this]; exact hl
 | .region id ops true, lc, hs, hs', he, ho, d, K0, S0, w0, sl, S, c, a, w, K, Q, h, hl => by
  cases hs with
  | nil => simp [LC.of] at he
  | cons hh hs =>
   simp only [LC.of] at he
   split at he <;> try (cases he; done)
   rename_i hpl
   simp only [Option.some.injEq, Prod.mk.injEq] at he
   obtain ⟨rfl, rfl⟩ := he
   simp only [codeOk, Bool.and_eq_true] at ho
   have hd : ∀ o ∈ ops, ∀ i, o.dst = some i → i < N := by
    intro o hmem i hi
    have := Array.all_eq_true_iff_forall_mem.1 ho.1 o hmem
    simpa [hi] using this
   simp only [LW] at hl
   obtain ⟨_, _, _, hgh, hl⟩ := hl
   obtain ⟨K', h⟩ := h.ghost hgh
   exact wp_mono (drw_sound hT hP hd ho.2 hpl (Q := fun x sl S c => match x with | .normal => ∃ sl' S' c', Ghost d (forget hh.drop sl) S c sl' S' c' ∧ Q .normal sl' S' c' | x => Q x sl S c) h hl) (fun e a w hq => hq.ghost)
 | .seq x y, lc, hs, hs', he, ho, d, K0, S0, w0, sl, S, c, a, w, K, Q, h, hl => by
  simp only [LC.of] at he
  split at he <;> try (cases he; done)
  rename_i x' hs1 hx
  split at he <;> try (cases he; done)
  rename_i y' hs2 hy
  simp only [Option.some.injEq, Prod.mk.injEq] at he
  obtain ⟨rfl, rfl⟩ := he
  simp only [codeOk, Bool.and_eq_true] at ho
  simp only [LW] at hl
  refine wp_seq (wp_mono (LW_sound hT hP x x' hs hs1 hx ho.1 h hl) ?_)
  intro e a' w' hq
  cases e with
  | normal =>
   obtain ⟨sl', S', c', K', h1, h2⟩ := hq
   exact LW_sound hT hP y y' hs1 hs2 hy ho.2 h2 h1
  | exit i => exact hq
  | goto l => exact hq
  | ret => exact hq
  | panic ch => exact hq
  | outgrown => exact hq
 | .cond o x y, lc, hs, hs', he, ho, d, K0, S0, w0, sl, S, c, a, w, K, Q, h, hl => by
  cases hs with
  | nil => simp [LC.of] at he
  | cons hh hs =>
   simp only [LC.of] at he
   split at he <;> try (cases he; done)
   rename_i x' hs1 hx
   split at he <;> try (cases he; done)
   rename_i y' hs2 hy
   simp only [Option.some.injEq, Prod.mk.injEq] at he
   obtain ⟨rfl, rfl⟩ := he
   simp only [codeOk, Bool.and_eq_true] at ho
   simp only [LW] at hl
   obtain ⟨sl1, S1, c1, hgh, hl⟩ := hl
   obtain ⟨K', h⟩ := h.ghost hgh
   split at hl <;> try exact hl.elim
   rename_i b hb
   have hv := h.sim.ev o
   rw [hb] at hv
   simp only [SimV] at hv
   have h' : Stt P N d K0 S0 w0 (forget hh.drop sl1) S1 c1 a w K' := ⟨h.step, h.sim.forget _, h.size, h.defers, h.fresh⟩
   exact wp_cond_split hv (fun ht => LW_sound hT hP x x' hs hs1 hx ho.1 h' (hl.1 ht)) (fun hf => LW_sound hT hP y y' hs1 hs2 hy ho.2 h' (hl.2 hf))
 | .block id x, lc, hs, hs', he, ho, d, K0, S0, w0, sl, S, c, a, w, K, Q, h, hl => by
  simp only [LC.of] at he
  split at he <;> try (cases he; done)
  rename_i x' hs1 hx
  simp only [Option.some.injEq, Prod.mk.injEq] at he
  obtain ⟨rfl, rfl⟩ := he
  simp only [codeOk] at ho
  simp only [LW] at hl
  refine wp_block (wp_mono (LW_sound hT hP x x' hs hs1 hx ho h hl) ?_)
  intro e a' w' hq
  cases e with
  | normal => exact hq
  | exit i =>
   obtain ⟨sl', S', c', K', h1, h2⟩ := hq
   simp only [Exit.inBlock]
   simp only at h1
   by_cases hi : i = id
   ·rw [if_pos hi] at h1 ⊢; exact ⟨sl', S', c', K', h1, h2⟩
   ·rw [if_neg hi] at h1 ⊢; exact ⟨sl', S', c', K', h1, h2⟩
  | goto l => exact hq
  | ret => exact hq
  | panic ch => exact hq
  | outgrown => exact hq
 | .loop x, lc, hs, hs', he, ho, d, K0, S0, w0, sl, S, c, a, w, K, Q, h, hl => by
  simp only [LC.of] at he
  split at he <;> try (cases he; done)
  rename_i x' hs1 hx
  simp only [Option.some.injEq, Prod.mk.injEq] at he
  obtain ⟨rfl, rfl⟩ := he
  simp only [codeOk] at ho
  simp only [LW] at hl
  obtain ⟨sl1, S1, c1, hg1, I, ⟨n, hI⟩, hround⟩ := hl
  obtain ⟨K1, h⟩ := h.ghost hg1
  refine wp_loop_idx (fun n a w => ∃ sl S K, I n sl S ∧ Stt P N d K0 S0 w0 sl S c1 a w K) ?_ (n := n) ⟨sl1, S1, K1, hI, h⟩
  rintro n a w ⟨sl, S, K, hI, h⟩
  have hs0 := h.step.sat
  have hstep : Step d K S w K.enter S w := ⟨K.enter_le d, hs0.enter, Below.refl _ _, fun _ _ h => h⟩
  have h' : Stt P N K.dmax K.enter S w sl S 0 a w K.enter := ⟨Step.refl _ hs0.enter, h.sim.mono (K.enter_le 0), h.size, h.defers.mono (K.enter_le 0), Kn.enter_fresh hs0⟩
  have hr := hround n sl S K.dmax h.fresh.1 (fun m hm => (hs0.fresh m hm).1) hI
  refine wp_mono (LW_sound hT hP x x' hs hs1 hx ho h' hr) ?_
  have back : ∀ {sl' S' c' a' w' K'}, Stt P N K.dmax K.enter S w sl' S' c' a' w' K' → Stt P N d K0 S0 w0 sl' S' c1 a' w' K' := by
   intro sl' S' c' a' w' K' q
   have hst : Step d K S w K' S' w' := hstep.trans (q.step.mono (Nat.le_of_lt h.fresh.1))
   refine ⟨h.step.trans hst, q.sim, q.size, q.defers, Nat.lt_of_lt_of_le h.fresh.1 hst.le.dmax, fun i hi => ⟨?_, ?_⟩⟩
   ·exact q.step.le.keep _ h.fresh.1 (.inl (h.fresh.2 i hi).1)
   ·exact q.step.names _ h.fresh.1 (h.fresh.2 i hi).2
  intro e a' w' hq
  cases e with
  | normal =>
   obtain ⟨sl', S', c', K', ⟨m, hm, S3, hsub, h1⟩, h2⟩ := hq
   have hb := back h2
   exact ⟨m, hm, sl', S3, K', h1, ⟨hb.step.sub hsub, hb.sim, hb.size, hb.defers, hb.fresh.1, fun i hi => ⟨(hb.fresh.2 i hi).1, hsub.none (hb.fresh.2 i hi).2⟩⟩⟩
  | exit i =>
   obtain ⟨sl', S', c', K', h1, h2⟩ := hq
   exact ⟨sl', S', c1, K', h1, back h2⟩
  | goto l =>
   obtain ⟨sl', S', c', K', h1, h2⟩ := hq
   exact ⟨sl', S', c1, K', h1, back h2⟩
  | ret =>
   obtain ⟨sl', S', c', K', h1, h2⟩ := hq
   exact ⟨sl', S', c1, K', h1, back h2⟩
  | panic ch =>
   obtain ⟨xx, S', K', v, h1, h2, h3, h4, h5⟩ := hq
   exact ⟨xx, S', K', v, h1, h2, h3, h.step.trans (hstep.trans (h4.mono (Nat.le_of_lt h.fresh.1))), h5⟩
  | outgrown => exact hq.elim
 | .exit id, lc, hs, hs', he, ho, d, K0, S0, w0, sl, S, c, a, w, K, Q, h, hl => by
  simp only [LC.of, Option.some.injEq, Prod.mk.injEq] at he
  obtain ⟨rfl, rfl⟩ := he
  obtain ⟨sl', S', c', hg, hq⟩ := hl
  obtain ⟨K', h'⟩ := h.ghost hg
  exact wp_exit ⟨sl', S', c', K', hq, h'⟩
 | .ret, lc, hs, hs', he, ho, d, K0, S0, w0, sl, S, c, a, w, K, Q, h, hl => by
  simp only [LC.of, Option.some.injEq, Prod.mk.injEq] at he
  obtain ⟨rfl, rfl⟩ := he
  obtain ⟨sl', S', c', hg, hq⟩ := hl
  obtain ⟨K', h'⟩ := h.ghost hg
  exact wp_ret ⟨sl', S', c', K', hq, h'⟩
 | .rangeFunc .., lc, hs, hs', he, _, _, _, _, _, _, _, _, _, _, _, _, _, _ => by simp [LC.of] at he
 | .scope _, lc, hs, hs', he, _, _, _, _, _, _, _, _, _, _, _, _, _, _ => by simp [LC.of] at he
 | .label _, lc, hs, hs', he, _, _, _, _, _, _, _, _, _, _, _, _, _, _ => by simp [LC.of] at he
 | .goto _, lc, hs, hs', he, _, _, _, _, _, _, _, _, _, _, _, _, _, _ => by simp [LC.of] at he
 | .refuse _, lc, hs, hs', he, _, _, _, _, _, _, _, _, _, _, _, _, _, _ => by simp [LC.of] at he
end Go.Al
