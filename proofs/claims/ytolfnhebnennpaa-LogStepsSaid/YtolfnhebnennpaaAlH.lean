import Derived.Test.YtolfnhebnennpaaAlG
set_option linter.unusedSimpArgs false
set_option linter.unusedVariables false
namespace Go.Al
open Go.RowKit
theorem cell_heap {w w' : World} {b : Nat} (h : w'.heap[b]? = w.heap[b]?) (o : Nat) : w'.cell? ⟨b, o, none⟩ = w.cell? ⟨b, o, none⟩ ∧ w'.frozen? ⟨b, o, none⟩ = w.frozen? ⟨b, o, none⟩ :=
 ⟨World.cell?_of_block (w := w) h, World.frozen?_of_block (w := w) h⟩
theorem cell_lt {w : World} {b o : Nat} {v : Value} (h : w.cell? ⟨b, o, none⟩ = some v) : b < w.heap.size := World.block_lt_of_cell? _ _ h
theorem Sat.turn {K K' : Kn} {S : AHeap} {w w' : World} {n : Name} {obj : AObj} (hs : Sat K S w) {D : Nat} (hk : Kle D K K') (hfe : K'.fixed = K.fixed) (hfx : ∀ (b : Nat) (o : Obj), w.heap[b]? = some o → noCells o = true → w'.heap[b]? = some o)
  (hsize : w.heap.size ≤ w'.heap.size)
  (own' : ∀ owner : Nat → Nat → Option Plot, (∀ b o n, owner b o = some n → K.low ≤ b ∧ b < w.heap.size) → (∀ b o v, K.known b o .perm v → owner b o = none) →
   (∀ b o n v, K.known b o (.buf n) v → (∃ len, S n = some (.buf len)) → owner b o = some (n, 0) ∧ w.cell? ⟨b, o, none⟩ = some v ∧ w.frozen? ⟨b, o, none⟩ = false) →
   (∀ n obj, S n = some obj → ObjOk K owner w n obj) →
   ∃ owner' : Nat → Nat → Option Plot, (∀ b o m, owner b o = some m → m.1 ≠ n → owner' b o = some m) ∧ (∀ b o m, owner' b o = some m → owner b o = some m ∨ (m.1 = n ∧ w.heap.size ≤ b ∧ b < w'.heap.size)) ∧
    (∀ b o v, K'.known b o .perm v → owner' b o = none ∧ w'.cell? ⟨b, o, none⟩ = some v) ∧
    (∀ b o, (∀ i, owner b o ≠ some (n, i)) → b < w.heap.size → w'.cell? ⟨b, o, none⟩ = w.cell? ⟨b, o, none⟩ ∧ w'.frozen? ⟨b, o, none⟩ = w.frozen? ⟨b, o, none⟩) ∧
    (∀ b, (∀ o i, owner b o ≠ some (n, i)) → b < w.heap.size → w'.heap[b]? = w.heap[b]?) ∧
    (∀ b o v, K'.known b o (.buf n) v → (∃ len, obj = .buf len) → owner' b o = some (n, 0) ∧ w'.cell? ⟨b, o, none⟩ = some v ∧ w'.frozen? ⟨b, o, none⟩ = false) ∧
    ObjOk K' owner' w' n obj)
  (hknown : ∀ b o m v, m ≠ n → K'.known b o (.buf m) v → K.known b o (.buf m) v) (hyoung : ∀ b o v, K'.known b o .young v → K.known b o .young v)
  (hbase : ∀ m, m ≠ n → K'.base m = K.base m) (htip : ∀ m, m ≠ n → K'.tip m = K.tip m)
  (hpend : ∀ m, K'.pend m → K.pend m) (hpn : ¬ K'.pend n) (hdm : K'.dmax = K.dmax) (hn : n.1 < K.dmax)
  (htk : (∃ b o v, K'.known b o (.buf n) v) → K'.tip n ≠ none) (hlow : K.low ≤ w.heap.size) (hbs : ∀ cs, obj = .box cs → K'.base n ≠ none) :
  Sat K' (S.set n obj) w' := by
 obtain ⟨owner, o1, o2, o3, o4, o5⟩ := hs.objs
 obtain ⟨owner', p1, p2, p3, p4, p4', p5, p6⟩ := own' owner o1 o2 o3 o4
 have hlt : ∀ b o m, owner b o = some m → b < w.heap.size := fun b o m h => (o1 b o m h).2
 refine ⟨?_, ⟨owner', ?_, ?_, ?_, ?_, ?_⟩, ?_, ?_, ?_, ?_, ?_, ?_⟩
 ·intro b o v h
  exact (p3 b o v h).2
 ·intro b o m h
  rcases p2 b o m h with h | ⟨_, h1, h2⟩
  ·exact ⟨by rw [hk.low]; exact (o1 b o m h).1, Nat.lt_of_lt_of_le (o1 b o m h).2 hsize⟩
  ·exact ⟨by rw [hk.low]; omega, h2⟩
 ·intro b o v h
  exact (p3 b o v h).1
 ·intro b o m v h hb
  by_cases e : m = n
  ·subst e
   refine p5 b o v h ?_
   obtain ⟨len, hl⟩ := hb
   simp [AHeap.set] at hl
   exact ⟨len, hl⟩
  ·have h' : K.known b o (.buf m) v := hknown _ _ _ _ e h
   obtain ⟨len, hl⟩ := hb
   simp [AHeap.set, e] at hl
   obtain ⟨h1, h2, h3⟩ := o3 b o m v h' ⟨len, hl⟩
   obtain ⟨q1, q2⟩ := p4 b o (by intro i; rw [h1]; simp; intro e'; exact absurd e' e) (hlt b o (m, 0) h1)
   exact ⟨p1 b o (m, 0) h1 e, by rw [q1]; exact h2, by rw [q2]; exact h3⟩
 ·intro m obj' hm
  by_cases e : m = n
  ·subst e
   simp [AHeap.set] at hm
   subst hm
   exact p6
  ·simp [AHeap.set, e] at hm
   have ho := o4 m obj' hm
   have keep : ∀ b o i, owner b o = some (m, i) → w'.cell? ⟨b, o, none⟩ = w.cell? ⟨b, o, none⟩ ∧ w'.frozen? ⟨b, o, none⟩ = w.frozen? ⟨b, o, none⟩ := by
    intro b o i hb
    exact p4 b o (by intro j; rw [hb]; simp; intro e'; exact absurd e' e) (hlt b o (m, i) hb)
   cases obj' with
   | box cs =>
    simp only [ObjOk] at ho ⊢
    intro b f hb i c hc
    rw [hbase m e] at hb
    obtain ⟨h1, u, h3, h4, h5, h6⟩ := ho b f hb i c hc
    exact ⟨p1 b _ (m, 0) h1 e, u, by rw [(keep b _ _ h1).1]; exact h3, by rw [(keep b _ _ h1).2]; exact h4, h5.mono hk,
     h6.turn hk fun b o hb => ⟨p1 b o _ hb e, keep b o _ hb⟩⟩
   | buf len =>
    simp only [ObjOk] at ho ⊢
    intro t ht
    rw [htip m e] at ht
    obtain ⟨h1, h3, h4⟩ := ho t ht
    refine ⟨h1, h3, fun i hi1 hi2 => ?_⟩
    obtain ⟨h2, ⟨u, h5⟩, h6, h7⟩ := h4 i hi1 hi2
    refine ⟨p1 _ _ (m, 0) h2 e, ⟨u, by rw [(keep _ _ _ h2).1]; exact h5⟩, by rw [(keep _ _ _ h2).2]; exact h6, fun v hv => ?_⟩
    exact h7 v (hknown _ _ _ _ e hv)
   | map es =>
    simp only [ObjOk] at ho ⊢
    obtain ⟨b, f, hb, h1, ents, clock, h2, h3, h4⟩ := ho
    rw [← hbase m e] at hb
    refine ⟨b, f, hb, fun o => p1 b o (m, 0) (h1 o) e, ents, clock, ?_, ?_, h4⟩
    ·rw [p4' b (fun o i => by rw [h1 o]; simp; intro e'; exact absurd e' e) (hlt b 0 (m, 0) (h1 0))]; exact h2
    ·intro en hen
     obtain ⟨x, h5, h6⟩ := h3 en hen
     exact ⟨x, h5, h6.mono hk⟩
 ·intro b o v h
  obtain ⟨q1, q2, q3⟩ := o5 b o v (hyoung b o v h)
  refine ⟨by rw [hk.low]; exact q1, by omega, fun q => ?_⟩
  cases ho : owner' b q with
  | none => rfl
  | some m =>
   rcases p2 b q m ho with h1 | ⟨_, h1, _⟩
   ·rw [q3] at h1; cases h1
   ·omega
 ·intro m hm
  rw [hdm] at hm
  have e : m ≠ n := by rintro rfl; omega
  obtain ⟨h1, h2, h3, h4⟩ := hs.fresh m hm
  exact ⟨by simp [AHeap.set, e, h1], by rw [hbase m e]; exact h2, by rw [htip m e]; exact h3, fun h => h4 (hpend m h)⟩
 ·intro m hm
  have e : m ≠ n := by rintro rfl; exact hpn hm
  rw [hbase m e, htip m e]
  exact hs.pend m (hpend m hm)
 ·intro m b o v h
  by_cases e : m = n
  ·subst e; exact htk ⟨b, o, v, h⟩
  ·rw [htip m e]
   exact hs.tk m b o v (hknown _ _ _ _ e h)
 ·rw [hk.low]; omega
 ·intro m cs hm
  by_cases e : m = n
  ·subst e
   simp [AHeap.set] at hm
   exact hbs cs hm
  ·simp [AHeap.set, e] at hm
   rw [hbase m e]; exact hs.based m cs hm
 ·intro b o hf
  rw [hfe] at hf
  obtain ⟨h1, h2⟩ := hs.fixd b o hf
  exact ⟨hfx b o h1 h2, h2⟩
end Go.Al
