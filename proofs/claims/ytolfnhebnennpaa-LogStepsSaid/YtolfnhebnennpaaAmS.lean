import Derived.Test.YtolfnhebnennpaaAlO
set_option linter.unusedSimpArgs false
set_option linter.unusedVariables false
namespace Go.Al
open Go Go.RowKit
theorem callsIn_R {P : Program} {f : FuncId} {args : Array Value} {w : World} {R : Ending → World → Prop} {r n : Nat} (h : Calls P f args w R) : CallsIn (Fence.wide.inRound r) n P f args w R := by
 obtain ⟨h1, h2⟩ := (callsIn_wide (n := n)).2 h
 exact ⟨h1, fun cs hr => by
  obtain ⟨e, w', fr, a, b, c⟩ := h2 cs hr
  exact ⟨e, w', fr, a, b, c⟩⟩
def noDefer : Op → Bool
 | .defer _ => false
 | _ => true
def roundOk : Code → Bool
 | .skip => true
 | .region _ ops false => ops.toList.all fun o => noDefer o.op
 | .seq x y => roundOk x && roundOk y
 | .cond _ x y => roundOk x && roundOk y
 | .block _ x => roundOk x
 | _ => false
theorem oper_in {P : Program} {o : Oper} {a : Act} {w : World} {next next' : Act → World → Prop} {Q : Exit → Act → World → Prop} {r n : Nat} (ho : ∀ c, o.op ≠ .defer c) (h : o.wp P a w next Q) (hn : ∀ a w, next a w → next' a w) : o.wpIn (Fence.wide.inRound r) n P a w next' Q := by
 refine ⟨fun _ _ => trivial, ?_⟩
 rw [Fence.inRound_round, Oper.semAt_eq _ _ _ ho]
 unfold Oper.wp at h
 revert h
 generalize (execOp a.eval o).run P w = q
 intro h
 cases q with
 | ok x w' =>
  cases x with
  | value v => exact hn _ _ h
  | skip => exact hn _ _ h
  | defer d => exact hn _ _ h
  | enter f args =>
   refine ⟨fun hd => by simp [Fence.wide] at hd, callsIn_R (h.mono fun e w' he => ?_)⟩
   cases e with
   | returned v => exact hn _ _ he
   | panicked ch => exact he
   | outgrown => exact he
  | row row args =>
   refine ⟨fun hd => by simp [Fence.wide] at hd, fun c cs _ => ?_⟩
   obtain ⟨v, w', hR, hs⟩ := h c cs
   exact ⟨v, w', hn _ _ hR, (StepsIn.of_steps hs).mono fun m _ => fenced_wide P m⟩
  | _ => exact h.elim
 | halt x w' =>
  cases x with
  | panic v => exact h
  | _ => exact h.elim
theorem wpOps_in {P : Program} {ops : Array Oper} (hnd : ∀ o ∈ ops, ∀ c, o.op ≠ .defer c) {Q : Exit → Act → World → Prop} (hlo : ¬ LetsOut Q) {r n : Nat} : ∀ {l : List Nat} {a : Act} {w : World}, wpOps P ops Q l a w → wpOpsIn (Fence.wide.inRound r) n P ops Q l a w
 | [], a, w, h => h
 | i :: l, a, w, h => by
  simp only [wpOps] at h
  simp only [wpOpsIn]
  cases ho : ops[i]? with
  | none => simp only [ho] at h ⊢; exact wpOps_in hnd hlo h
  | some o =>
   simp only [ho] at h ⊢
   split at h
   ·rename_i hw
    rw [if_pos hw]
    exact oper_in (hnd o (Array.mem_of_getElem? ho)) (h.resolve_right fun q => hlo q.2) fun a w h => wpOps_in hnd hlo h
   ·rename_i hw
    rw [if_neg hw]
    exact ⟨fun _ _ => trivial, wpOps_in hnd hlo h⟩
theorem cpost_out {P : Program} {N d : Nat} {K0 : Kn} {S0 : AHeap} {w0 : World} {Q : Post} : ¬ LetsOut (CPost P N d K0 S0 w0 Q) := fun ⟨_, _, h⟩ => h
theorem Sat.grown {K : Kn} {S : AHeap} {w w' : World} (hs : Sat K S w) {row : Option Nat} (hg : w.grownBy w' row) (hrow : ∀ r, row = some r → ∃ o : Obj, w.heap[r]? = some o ∧ o.isCells = false)
  (hf : ∀ r, row = some r → ∀ o', ¬ K.fixed r o') (hm : ∀ r, row = some r → ∀ n es b f, S n = some (.map es) → K.base n = some (b, f) → b ≠ r) : Sat K S w' := by
 have hc : ∀ {a : Addr} {v : Value}, w.cell? a = some v → w'.cell? a = some v := fun h => cell_kept h hg hrow
 have hfz : ∀ {a : Addr} {v : Value}, w.cell? a = some v → w'.frozen? a = w.frozen? a := fun h => frozen_kept h hg hrow
 have hsz : w.heap.size ≤ w'.heap.size := hg.size
 have hoth : ∀ b o, w.heap[b]? = some o → row ≠ some b → w'.heap[b]? = some o := fun b o h e => by
  rw [hg.block b (Array.getElem?_eq_some_iff.1 h).1 (fun q => e q.symm)]; exact h
 obtain ⟨owner, o1, o2, o3, o4, o5⟩ := hs.objs
 refine ⟨fun b o v h => hc (hs.perm b o v h), ⟨owner, fun b o p h => ⟨(o1 b o p h).1, Nat.lt_of_lt_of_le (o1 b o p h).2 hsz⟩, o2, fun b o n v h hb => ?_, fun n obj hn => ?_, fun b o v h => ⟨(o5 b o v h).1, Nat.lt_of_lt_of_le (o5 b o v h).2.1 hsz, (o5 b o v h).2.2⟩⟩, hs.fresh, hs.pend, hs.tk, Nat.le_trans hs.low hsz, hs.based, fun b o' h => ?_⟩
 ·obtain ⟨h1, h2, h3⟩ := o3 b o n v h hb
  exact ⟨h1, hc h2, by rw [hfz h2]; exact h3⟩
 ·have h := o4 n obj hn
  cases obj with
  | box cs =>
   simp only [ObjOk] at h ⊢
   intro b f hb i c hcc
   obtain ⟨h1, u, h2, h3, h4, h5⟩ := h b f hb i c hcc
   refine ⟨h1, u, hc h2, by rw [hfz h2]; exact h3, h4, ?_⟩
   cases c <;> try trivial
   rename_i sz cs'
   obtain ⟨a, len, cap, rfl, q1, q2, q3, q4⟩ := h5
   refine ⟨a, len, cap, rfl, q1, q2, q3, q4.imp id ?_⟩
   rintro ⟨b', o'', rfl, h6, h7⟩
   refine ⟨b', o'', rfl, fun j hj => ?_, fun j c hc' => ?_⟩
   ·obtain ⟨g1, ⟨x', g2⟩, g3⟩ := h6 j hj
    exact ⟨g1, ⟨x', hc g2⟩, by rw [hfz g2]; exact g3⟩
   ·obtain ⟨x', g1, g2⟩ := h7 j c hc'
    exact ⟨x', hc g1, g2⟩
  | buf len =>
   simp only [ObjOk] at h ⊢
   intro t ht
   obtain ⟨h1, h2, h3⟩ := h t ht
   refine ⟨h1, h2, fun i hi1 hi2 => ?_⟩
   obtain ⟨g1, ⟨u, g2⟩, g3, g4⟩ := h3 i hi1 hi2
   exact ⟨g1, ⟨u, hc g2⟩, by rw [hfz g2]; exact g3, g4⟩
  | map es =>
   simp only [ObjOk] at h ⊢
   obtain ⟨b, f, hb, h1, ents, clock, h2, h3⟩ := h
   exact ⟨b, f, hb, h1, ents, clock, hoth b _ h2 fun e => hm b e n es b f hn hb rfl, h3⟩
 ·obtain ⟨h1, h2⟩ := hs.fixd b o' h
  exact ⟨hoth b o' h1 fun e => hf b e o' h, h2⟩
theorem noCells_iff {o : Obj} : noCells o = true ↔ o.isCells = false := by cases o <;> simp [noCells, Obj.isCells]
def KpP (K : Kn) (A B : World) : Prop := ∀ b o v, K.known b o .perm v → A.cell? ⟨b, o, none⟩ = some v → B.cell? ⟨b, o, none⟩ = some v
def ItOk (P : Program) (fa : AV) (es : List AV) : Prop := ∀ (K : Kn) (S : AHeap) (w : World) (v : Value), Sat K S w → SimV K fa v →
 ∃ (gf : Nat) (lb : Array Value) (us : Fin es.length → Value), v = .func (.func gf) #[] lb ∧ enters P gf = true ∧ (∀ i, SimV K es[i] (us i)) ∧
  SeqStopsK Fence.wide 1 P gf lb (fun i => #[us i]) (KpP K) (fun xs => xs = List.finRange es.length) (fun _ => True) es.length w
def Kn.round (K : Kn) (W : World) : Kn := { K.enter with fixed := fun b o => W.heap[b]? = some o ∧ noCells o = true }
theorem Kn.round_le0 (K : Kn) (W : World) (D : Nat) : Kle0 D K (K.round W) := ⟨(K.enter_le D).low, (K.enter_le D).dmax, (K.enter_le D).base, (K.enter_le D).tip, (K.enter_le D).known, (K.enter_le D).shrink, (K.enter_le D).keep⟩
theorem Sat.round {K : Kn} {S : AHeap} {W : World} (hs : Sat K S W) : Sat (K.round W) S W :=
 hs.enter.congrF ⟨rfl, Nat.le_refl _, fun _ _ h => h, fun _ t h => ⟨t, h, .inl rfl⟩, fun _ _ _ _ h => h, fun _ _ h => h, fun _ _ h => h⟩ (fun _ _ h => h) rfl rfl (fun _ _ _ _ h => h) hs.enter.fresh hs.enter.pend
end Go.Al
