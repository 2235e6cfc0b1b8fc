/- What writes memory, and what makes it. -/
import Derived.Test.YtejlgalnkblndaaAlG
set_option linter.unusedSimpArgs false
set_option linter.unusedVariables false
namespace Go.Al
open Go.RowKit

theorem cell_heap {w w' : World} {b : Nat} (h : w'.heap[b]? = w.heap[b]?) (o : Nat) : w'.cell? ⟨b, o, none⟩ = w.cell? ⟨b, o, none⟩ ∧ w'.frozen? ⟨b, o, none⟩ = w.frozen? ⟨b, o, none⟩ :=
  ⟨World.cell?_of_block (w := w) h, World.frozen?_of_block (w := w) h⟩

theorem cell_lt {w : World} {b o : Nat} {v : Value} (h : w.cell? ⟨b, o, none⟩ = some v) : b < w.heap.size := World.block_lt_of_cell? _ _ h

/-- **A world in which nothing has turned but blocks that one object owns.** What is known may have grown by what speaks of that object. -/
theorem Sat.turn {K K' : Kn} {S : AHeap} {w w' : World} {n : Name} {obj : AObj} (hs : Sat K S w) {D : Nat} (hk : Kle D K K')
    (hsize : w.heap.size ≤ w'.heap.size)
    (own' : ∀ owner : Nat → Option Name, (∀ b n, owner b = some n → K.low ≤ b ∧ b < w.heap.size) → (∀ b o v, K.known b o .perm v → owner b = none) →
      (∀ b o n v, K.known b o (.buf n) v → (∃ len, S n = some (.buf len)) → owner b = some n ∧ w.cell? ⟨b, o, none⟩ = some v) →
      (∀ n obj, S n = some obj → ObjOk K owner w n obj) →
      ∃ owner' : Nat → Option Name, (∀ b m, owner b = some m → m ≠ n → owner' b = some m) ∧ (∀ b m, owner' b = some m → owner b = some m ∨ (m = n ∧ (owner b = none ∨ owner b = some n) ∧ w.heap.size ≤ b ∧ b < w'.heap.size) ∨ (m = n ∧ owner b = some n)) ∧
        (∀ b o v, K.known b o .perm v → owner' b = none) ∧
        (∀ b, owner b ≠ some n → b < w.heap.size → w'.heap[b]? = w.heap[b]?) ∧
        (∀ b o v, K'.known b o (.buf n) v → (∃ len, obj = .buf len) → owner' b = some n ∧ w'.cell? ⟨b, o, none⟩ = some v) ∧
        ObjOk K' owner' w' n obj)
    (hknown : ∀ b o t v, K'.known b o t v → K.known b o t v ∨ t = .buf n)
    (hbase : ∀ m, m ≠ n → K'.base m = K.base m) (htip : ∀ m, m ≠ n → K'.tip m = K.tip m)
    (hpend : ∀ m, K'.pend m → K.pend m) (hpn : ¬ K'.pend n) (hdm : K'.dmax = K.dmax) (hn : n.1 < K.dmax)
    (htk : (∃ b o v, K'.known b o (.buf n) v) → K'.tip n ≠ none) (hlow : K.low ≤ w.heap.size) :
    Sat K' (S.set n obj) w' := by
  obtain ⟨owner, o1, o2, o3, o4⟩ := hs.objs
  obtain ⟨owner', p1, p2, p3, p4, p5, p6⟩ := own' owner o1 o2 o3 o4
  have hlt : ∀ b m, owner b = some m → b < w.heap.size := fun b m h => (o1 b m h).2
  refine ⟨?_, ⟨owner', ?_, ?_, ?_, ?_⟩, ?_, ?_, ?_, ?_⟩
  · intro b o v h
    have h' := (hknown _ _ _ _ h).resolve_right (by simp)
    have hc := hs.perm b o v h'
    have := p4 b (by rw [o2 b o v h']; simp) (cell_lt hc)
    rw [(cell_heap this o).1]; exact hc
  · intro b m h
    rcases p2 b m h with h | ⟨rfl, _, h1, h2⟩ | ⟨rfl, h⟩
    · exact ⟨by rw [hk.low]; exact (o1 b m h).1, Nat.lt_of_lt_of_le (o1 b m h).2 hsize⟩
    · exact ⟨by rw [hk.low]; omega, h2⟩
    · exact ⟨by rw [hk.low]; exact (o1 b _ h).1, Nat.lt_of_lt_of_le (o1 b _ h).2 hsize⟩
  · intro b o v h
    exact p3 b o v ((hknown _ _ _ _ h).resolve_right (by simp))
  · intro b o m v h hb
    by_cases e : m = n
    · subst e
      refine p5 b o v h ?_
      obtain ⟨len, hl⟩ := hb
      simp [AHeap.set] at hl
      exact ⟨len, hl⟩
    · have h' : K.known b o (.buf m) v := (hknown _ _ _ _ h).resolve_right (by simpa using e)
      obtain ⟨len, hl⟩ := hb
      simp [AHeap.set, e] at hl
      obtain ⟨h1, h2⟩ := o3 b o m v h' ⟨len, hl⟩
      refine ⟨p1 b m h1 e, ?_⟩
      have := p4 b (by rw [h1]; simpa using e) (hlt b m h1)
      rw [(cell_heap this o).1]; exact h2
  · intro m obj' hm
    by_cases e : m = n
    · subst e
      simp [AHeap.set] at hm
      subst hm
      exact p6
    · simp [AHeap.set, e] at hm
      have ho := o4 m obj' hm
      have keep : ∀ b o, owner b = some m → w'.cell? ⟨b, o, none⟩ = w.cell? ⟨b, o, none⟩ ∧ w'.frozen? ⟨b, o, none⟩ = w.frozen? ⟨b, o, none⟩ := by
        intro b o hb
        exact cell_heap (p4 b (by rw [hb]; simpa using e) (hlt b m hb)) o
      cases obj' with
      | box cs =>
        simp only [ObjOk] at ho ⊢
        intro b f hb
        rw [hbase m e] at hb
        obtain ⟨h1, h2⟩ := ho b f hb
        refine ⟨p1 b m h1 e, fun i c hc => ?_⟩
        obtain ⟨u, h3, h4, h5⟩ := h2 i c hc
        exact ⟨u, by rw [(keep b _ h1).1]; exact h3, by rw [(keep b _ h1).2]; exact h4, h5.mono hk⟩
      | buf len =>
        simp only [ObjOk] at ho ⊢
        intro t ht
        rw [htip m e] at ht
        obtain ⟨h1, h2, h3, h4⟩ := ho t ht
        refine ⟨h1, p1 _ m h2 e, h3, fun i hi1 hi2 => ?_⟩
        obtain ⟨⟨u, h5⟩, h6, h7⟩ := h4 i hi1 hi2
        refine ⟨⟨u, by rw [(keep _ _ h2).1]; exact h5⟩, by rw [(keep _ _ h2).2]; exact h6, fun v hv => ?_⟩
        exact h7 v ((hknown _ _ _ _ hv).resolve_right (by simpa using e))
      | map es =>
        simp only [ObjOk] at ho ⊢
        intro b f hb
        rw [hbase m e] at hb
        obtain ⟨h1, ents, clock, h2, h3, h4⟩ := ho b f hb
        refine ⟨p1 b m h1 e, ents, clock, ?_, ?_, h4⟩
        · rw [p4 b (by rw [h1]; simpa using e) (hlt b m h1)]; exact h2
        · intro en hen
          obtain ⟨x, h5, h6⟩ := h3 en hen
          exact ⟨x, h5, h6.mono hk⟩
  · intro m hm
    rw [hdm] at hm
    have e : m ≠ n := by rintro rfl; omega
    obtain ⟨h1, h2, h3, h4⟩ := hs.fresh m hm
    exact ⟨by simp [AHeap.set, e, h1], by rw [hbase m e]; exact h2, by rw [htip m e]; exact h3, fun h => h4 (hpend m h)⟩
  · intro m hm
    have e : m ≠ n := by rintro rfl; exact hpn hm
    rw [hbase m e, htip m e]
    exact hs.pend m (hpend m hm)
  · intro m b o v h
    by_cases e : m = n
    · subst e; exact htk ⟨b, o, v, h⟩
    · rw [htip m e]
      exact hs.tk m b o v ((hknown _ _ _ _ h).resolve_right (by simpa using e))
  · rw [hk.low]; omega
end Go.Al
