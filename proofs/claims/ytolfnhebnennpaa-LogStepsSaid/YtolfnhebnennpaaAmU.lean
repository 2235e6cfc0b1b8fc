import Derived.Test.YtolfnhebnennpaaAlZ
set_option linter.unusedSimpArgs false
set_option linter.unusedVariables false
namespace Go.Al
open Go.RowKit
variable {K K' : Kn} {S : AHeap} {w w' : World}
theorem ObjOk.world {owner : Nat → Nat → Option Plot} {x : Name} {o : AObj} (h : ObjOk K owner w x o)
  (hc : ∀ b q j, owner b q = some (x, j) → w'.cell? ⟨b, q, none⟩ = w.cell? ⟨b, q, none⟩ ∧ w'.frozen? ⟨b, q, none⟩ = w.frozen? ⟨b, q, none⟩)
  (hm : ∀ b, (∀ q, owner b q = some (x, 0)) → w'.heap[b]? = w.heap[b]?) : ObjOk K owner w' x o := by
 cases o with
 | box cs =>
  simp only [ObjOk] at h ⊢
  intro b f hb i c hcc
  obtain ⟨h1, u, h2, h3, h4, h5⟩ := h b f hb i c hcc
  obtain ⟨e1, e2⟩ := hc _ _ _ h1
  exact ⟨h1, u, by rw [e1]; exact h2, by rw [e2]; exact h3, h4, h5.turn (Kle.refl 0 K) fun b o ho => ⟨ho, (hc _ _ _ ho).1, (hc _ _ _ ho).2⟩⟩
 | buf len =>
  simp only [ObjOk] at h ⊢
  intro t ht
  obtain ⟨h1, h2, h3⟩ := h t ht
  refine ⟨h1, h2, fun i a b => ?_⟩
  obtain ⟨g1, g2, g3, g4⟩ := h3 i a b
  obtain ⟨e1, e2⟩ := hc _ _ _ g1
  exact ⟨g1, by rw [e1]; exact g2, by rw [e2]; exact g3, g4⟩
 | map es =>
  simp only [ObjOk] at h ⊢
  obtain ⟨b, f, hb, h1, ents, clock, h2, h3⟩ := h
  exact ⟨b, f, hb, h1, ents, clock, by rw [hm b h1]; exact h2, h3⟩
theorem SatH.set {m : Name} {xs : List AV} {b o len cap : Nat} (hs : SatH K S w m 1 xs (.slice (some ⟨b, o, none⟩) len cap)) {j : Nat} (hj : j < xs.length) {c : AV} {v : Value} (hv : SimV K c v) :
  SatH K S (w.setCells b (o + j) [v]) m 1 (xs.set j c) (.slice (some ⟨b, o, none⟩) len cap) := by
 obtain ⟨owner, o1, o2, o3, o4, o5, hp⟩ := hs.objs
 obtain ⟨a, l, cp, hu, p1, p2, p3, p4⟩ := hp
 cases hu
 rcases p4 with ⟨rfl, -⟩ | ⟨b', o', hab, q1, q2⟩
 ·simp at hj
 cases hab
 have hlen : xs.length ≤ cap := by omega
 obtain ⟨k1, ⟨u0, k2⟩, k3⟩ := q1 j (by omega)
 have hout : ∀ (k q : Nat), owner k q ≠ some (m, 0) → (w.setCells b (o + j) [v]).cell? ⟨k, q, none⟩ = w.cell? ⟨k, q, none⟩ := by
  intro k q hk
  refine World.cell?_setCells_out b [v] (o + j) w ⟨k, q, none⟩ ?_
  intro hkb _
  simp only at hkb; subst hkb
  simp only [List.length_cons, List.length_nil]
  rcases Nat.lt_or_ge q (o + j) with h3 | h3
  ·exact .inl h3
  ·rcases Nat.lt_or_ge q (o + j + 1) with h4 | h4
   ·exfalso; apply hk
    rw [show q = o + j by omega]; exact k1
   ·exact .inr h4
 have hne : ∀ x ob, S x = some ob → x ≠ m := by rintro x ob h rfl; rw [hs.gone] at h; cases h
 have hin : (w.setCells b (o + j) [v]).cell? ⟨b, o + j, none⟩ = some v := by
  have := World.cell?_setCells_in b [v] (o + j) w (fun i hi => by
   have : i = 0 := by simpa using hi
   subst this
   rw [Nat.add_zero, k2]; rfl) 0 (by simp)
  simpa using this
 have hsame : ∀ q, q ≠ o + j → (w.setCells b (o + j) [v]).cell? ⟨b, q, none⟩ = w.cell? ⟨b, q, none⟩ := fun q hq => by
  refine World.cell?_setCells_out b [v] (o + j) w ⟨b, q, none⟩ (fun _ _ => ?_)
  simp only [List.length_cons, List.length_nil]
  omega
 refine ⟨fun k q x h => by rw [hout k q (by rw [o2 k q x h]; simp)]; exact hs.perm k q x h, ⟨owner, fun k q p h => by rw [size_setCells]; exact o1 k q p h, o2, fun k q n x h ⟨l, hl⟩ => ?_, fun n ob hn => ?_, fun k q x h => by rw [size_setCells]; exact o5 k q x h, ?_⟩, hs.fresh, hs.pend, hs.tk, by rw [size_setCells]; exact hs.low, hs.based, fun k ob h => ⟨fx_setCells _ _ _ _ k ob (hs.fixd k ob h).1 (hs.fixd k ob h).2, (hs.fixd k ob h).2⟩, hs.gone⟩
 ·obtain ⟨g1, g2, g3⟩ := o3 k q n x h ⟨l, hl⟩
  have hn := hne n _ hl
  refine ⟨g1, ?_, by rw [World.frozen?_setCells]; exact g3⟩
  rw [hout k q (by rw [g1]; intro e; cases e; exact hn rfl)]; exact g2
 ·have hnm := hne n _ hn
  refine (o4 n ob hn).world (fun k q i h => ⟨?_, World.frozen?_setCells _ _ _ _ _⟩) (fun k h => ?_)
  ·exact hout k q (by rw [h]; intro e; cases e; exact hnm rfl)
  ·refine heap_setCells b [v] _ _ k ?_
   rintro rfl
   have := h (o + j)
   rw [k1] at this; cases this; exact hnm rfl
 ·refine ⟨some ⟨b, o, none⟩, len, cap, rfl, by rw [List.length_set]; exact p1, p2, p3, .inr ⟨b, o, rfl, fun i hi => ?_, fun i x hx => ?_⟩⟩
  ·obtain ⟨g1, ⟨u, g2⟩, g3⟩ := q1 i hi
   refine ⟨g1, ?_, by rw [World.frozen?_setCells]; exact g3⟩
   by_cases e : i = j
   ·subst e; exact ⟨v, hin⟩
   ·exact ⟨u, by rw [hsame (o + i) (by omega)]; exact g2⟩
  ·rw [List.getElem?_set] at hx
   by_cases e : j = i
   ·subst e
    rw [if_pos rfl, if_pos hj] at hx
    cases hx
    exact ⟨v, hin, hv⟩
   ·rw [if_neg e] at hx
    obtain ⟨u, g1, g2⟩ := q2 i x hx
    exact ⟨u, by rw [hsame (o + i) (by omega)]; exact g1, g2⟩
theorem Sat.upd1 {m n : Name} {e len cap b o D : Nat} {xs : List AV} (hs : Sat K S w) (hS : S m = some (.buf e)) (hu : SimV K (.slice (.buf m e) 1 xs) (.slice (some ⟨b, o, none⟩) len cap)) {j : Nat} (hj : j < xs.length) {c : AV} {v : Value} (hv : SimV K c v)
  (hn : K.pend n) (hSn : S n = none) (hD : D ≤ n.1) : ∃ K', Kle D K K' ∧ K'.dmax = K.dmax ∧ (∀ x, K.pend x → x ≠ n → K'.pend x) ∧ Sat K' ((S.del m).set n (.buf xs.length)) (w.setCells b (o + j) [v]) ∧
   SimV K' (.slice (.buf n xs.length) 1 (xs.set j c)) (.slice (some ⟨b, o, none⟩) len cap) := by
 have h1 := (hs.hold hS hu).set hj hv
 have hSn' : (S.del m) n = none := by
  simp only [AHeap.del]
  split
  ·rfl
  ·exact hSn
 obtain ⟨K', k1, k2, k3, k4, k5⟩ := h1.buf hn hSn' hD
 rw [List.length_set] at k4 k5
 exact ⟨K', k1, k2, k3, k4, k5⟩
end Go.Al
