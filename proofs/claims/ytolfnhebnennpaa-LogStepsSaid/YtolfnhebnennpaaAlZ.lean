import Derived.Test.YtolfnhebnennpaaAlY
set_option linter.unusedSimpArgs false
set_option linter.unusedVariables false
namespace Go.Al
open Go Go.RowKit
theorem Sat.renameTip {K : Kn} {S : AHeap} {w : World} {D : Nat} (hs : Sat K S w) {n m : Name} {e sz : Nat} {xs : List AV} {u : Value} (hm : S m = some (.buf e)) (hu : SimV K (.slice (.tip m e) sz xs) u) (hn : K.pend n) (hSn : S n = none) (hD : D ≤ n.1) :
  ∃ K', Kle D K K' ∧ K'.dmax = K.dmax ∧ (∀ x, K.pend x → x ≠ n → K'.pend x) ∧ Sat K' ((S.del m).set n (.buf e)) w ∧ SimV K' (.slice (.tip n e) sz xs) u := by
 obtain ⟨hn1, hn2⟩ := hs.pend n hn
 have hnm : n ≠ m := by rintro rfl; rw [hm] at hSn; cases hSn
 have hnd : n.1 < K.dmax := by
  rcases Nat.lt_or_ge n.1 K.dmax with h | h
  ·exact h
  ·exact absurd hn (hs.fresh n h).2.2.2
 have hnk : ∀ b o v, ¬ K.known b o (.buf n) v := fun b o v h => hs.tk n b o v h hn2
 obtain ⟨owner, o1, o2, o3, o4, o5⟩ := hs.objs
 have hSx : ∀ x o, ((S.del m).set n (.buf e)) x = some o → (x = n ∧ o = .buf e) ∨ (x ≠ n ∧ x ≠ m ∧ S x = some o) := by
  intro x o h
  simp only [AHeap.set, AHeap.del] at h
  split at h
  ·rename_i h'; cases h; exact .inl ⟨h', rfl⟩
  ·split at h
   ·cases h
   ·rename_i h1 h2; exact .inr ⟨h1, h2, h⟩
 have keep : ∀ x, x ≠ m → ∀ b q j, owner b q = some (x, j) → (if owner b q = some (m, 0) then some (n, 0) else owner b q) = some (x, j) := by
  intro x e1 b q j h; rw [if_neg (by rw [h]; simp; intro h'; exact absurd h' e1)]; exact h
 let K' : Kn := { K with tip := fun x => if x = n then K.tip m else K.tip x, pend := fun x => K.pend x ∧ x ≠ n }
 have hk : Kle D K K' := by
  refine ⟨⟨rfl, Nat.le_refl _, fun _ _ h => h, fun x t h => ?_, fun _ _ _ _ h => h, fun x _ h => h.1, fun x hx hp => ⟨hp, by rintro rfl; omega⟩⟩, fun _ _ h => h, rfl⟩
  by_cases ex : x = n
  ·subst ex; rw [hn2] at h; cases h
  ·exact ⟨t, by simp only [K', if_neg ex]; exact h, .inl rfl⟩
 refine ⟨K', hk, rfl, fun x h1 h2 => ⟨h1, h2⟩, ⟨hs.perm, ⟨fun b o => if owner b o = some (m, 0) then some (n, 0) else owner b o, ?_, ?_, ?_, ?_, fun b o v h => ⟨(o5 b o v h).1, (o5 b o v h).2.1, fun q => by simp [(o5 b o v h).2.2 q]⟩⟩, ?_, ?_, ?_, hs.low, ?_, hs.fixd⟩, ?_⟩
 ·intro b o p h
  simp only at h
  split at h
  ·rename_i h'; exact o1 b o _ h'
  ·exact o1 b o _ h
 ·intro b o v h
  have := o2 b o v h
  simp only
  rw [if_neg (by rw [this]; simp)]; exact this
 ·intro b o x v h ⟨l, hl⟩
  rcases hSx x _ hl with ⟨rfl, _⟩ | ⟨_, e1, h2⟩
  ·exact absurd h (hnk b o v)
  ·obtain ⟨g1, g2, g3⟩ := o3 b o x v h ⟨l, h2⟩
   exact ⟨keep x e1 _ _ _ g1, g2, g3⟩
 ·intro x o hx
  rcases hSx x o hx with ⟨rfl, rfl⟩ | ⟨e1, e2, h2⟩
  ·have ho := o4 _ _ hm
   simp only [ObjOk] at ho ⊢
   intro t ht
   simp only [K', if_true] at ht
   obtain ⟨h1, h3, h4⟩ := ho t ht
   refine ⟨h1, h3, fun j hj1 hj2 => ?_⟩
   obtain ⟨g1, g2, g3, g4⟩ := h4 j hj1 hj2
   exact ⟨if_pos g1, g2, g3, fun v hv => hnk _ _ _ hv⟩
  ·exact (o4 x o h2).other hk rfl (by simp only [K', if_neg e1]) (fun _ _ _ h => h) (fun b q j => keep x e2 b q j)
 ·intro x hx
  obtain ⟨h1, h2, h3, h4⟩ := hs.fresh x hx
  have e1 : x ≠ n := by rintro rfl; have hx' : K.dmax ≤ x.1 := hx; omega
  refine ⟨?_, h2, by simp only [K', if_neg e1]; exact h3, fun h => h4 h.1⟩
  simp only [AHeap.set, AHeap.del, if_neg e1]
  split
  ·rfl
  ·exact h1
 ·intro x hx
  simp only [K'] at hx ⊢
  rw [if_neg hx.2]; exact hs.pend x hx.1
 ·intro x b o v h
  by_cases ex : x = n
  ·subst ex; exact absurd h (hnk _ _ _)
  ·simp only [K', if_neg ex]; exact hs.tk x b o v h
 ·intro x cs' hx
  rcases hSx x _ hx with ⟨_, h⟩ | ⟨_, _, h⟩
  ·cases h
  ·exact hs.based x _ h
 ·simp only [SimV] at hu ⊢
  obtain ⟨a, len, cap, rfl, p1, p2, p3, p4⟩ := hu
  refine ⟨a, len, cap, rfl, p1, p2, p3, ?_⟩
  rcases p4 with ⟨rfl, q1, q2, q3⟩ | ⟨b', o', rfl, q1, q0, t, ht, qe, q2⟩
  ·exact .inl ⟨rfl, q1, hnd, fun h => h.2 rfl⟩
  ·exact .inr ⟨b', o', rfl, q1.mono hk, q0, t, by simp only [K', if_true]; exact ht, qe, q2⟩
section
variable {P : Program} {T : Tab} {d : Nat} {S S1 : AHeap} {c : Nat} {kv : AV → AHeap → Nat → Prop} {kp : AV → AHeap → Prop}
theorem set_del {S : AHeap} {m : Name} {o : AObj} (h : S m = none) : (S.set m o).del m = S := by
 funext k; simp only [AHeap.set, AHeap.del]; split
 ·rename_i e; rw [e]; exact h.symm
 ·rfl
theorem fresh_new {K K' : Kn} {m : Name} {o o' : AObj} (hf : Fresh K (S1.set m o) d c) (hm : S1 m = none) (hd : K'.dmax = K.dmax) (hp : ∀ x, K.pend x → x ≠ (d, c) → K'.pend x) : Fresh K' (S1.set (d, c) o') d (c + 1) := by
 refine ⟨by rw [hd]; exact hf.1, fun i hi => ⟨hp _ (hf.2 i (by omega)).1 (by simp; omega), ?_⟩⟩
 have h2 := (hf.2 i (by omega)).2
 simp only [AHeap.set] at h2 ⊢
 rw [if_neg (by simp; omega)]
 split at h2
 ·cases h2
 ·exact h2
theorem names_new {m : Name} {o o' : AObj} : ∀ n : Name, n.1 < d → (S1.set m o) n = none → (S1.set (d, c) o') n = none := by
 intro n hn h
 simp only [AHeap.set] at h ⊢
 rw [if_neg (by rintro rfl; simp at hn)]
 split at h
 ·cases h
 ·exact h
end
theorem SimC_sub {K : Kn} {t : Tag} {b : Nat} : ∀ {cs cs' : List AV} {o : Nat}, SubL cs cs' → SimC K t b o cs → SimC K t b o cs'
 | _, _, _, .nil, _ => by simp [SimC]
 | _, _, _, .cons h k, hs => by
  simp only [SimC] at hs ⊢
  obtain ⟨⟨u, h1, h2⟩, h3⟩ := hs
  exact ⟨⟨u, h1, h _ _ h2⟩, SimC_sub k h3⟩
theorem OSub.of {o o' : AObj} (h : o = o') : OSub o o' := h ▸ .refl
def eB {α : Type} (L : Lay α) (n : Name) (xs : List α) : AV := .slice (.buf n (xs.length * L.sz)) L.sz (flat L xs)
def eW {α : Type} (L : Lay α) (o : Own) (xs : List α) : AV := .slice o L.sz (flat L xs)
def eO {α : Type} (L : Lay α) (xs : List α) : AV := .own L.sz (flat L xs)
def hrem : List (Name × AObj) → Name → List (Name × AObj)
 | [], _ => []
 | (k, o) :: L, m => if k = m then hrem L m else (k, o) :: hrem L m
theorem hrem_nil {m : Name} : hrem [] m = [] := rfl
theorem hrem_cons {k m : Name} {o : AObj} {L : List (Name × AObj)} : hrem ((k, o) :: L) m = if k = m then hrem L m else (k, o) :: hrem L m := rfl
theorem hp_del {S : AHeap} {m : Name} (h : S m = none) : ∀ {L : List (Name × AObj)}, (hp L S).del m = hp (hrem L m) S
 | [] => by
  funext x
  simp only [AHeap.del, hrem, hp]
  split
  ·rename_i e; rw [e, h]
  ·rfl
 | (k, o) :: L => by
  have ih := hp_del h (L := L)
  funext x
  have := congrFun ih x
  simp only [AHeap.del, hrem, hp] at this ⊢
  by_cases e : k = m
  ·rw [if_pos e, ← this]
   by_cases e2 : x = m
   ·rw [if_pos e2, if_pos e2]
   ·rw [if_neg e2, if_neg e2, if_neg (by rw [e]; exact e2)]
  ·rw [if_neg e]
   simp only [hp]
   by_cases e2 : x = m
   ·rw [if_pos e2] at this ⊢
    rw [if_neg (by rw [e2]; exact Ne.symm e), ← this]
   ·rw [if_neg e2] at this ⊢
    by_cases e3 : x = k
    ·rw [if_pos e3, if_pos e3]
    ·rw [if_neg e3, if_neg e3, ← this]
section
variable {P : Program} {T : Tab} {d : Nat} {sl : Slots} {S : AHeap} {c : Nat} {Q : Post} {kv : AV → AHeap → Nat → Prop} {α : Type} {L : Lay α} {xs ys : List α} {t tx : TypeId} {n m : Name} {o : Own}
@[go_sem] theorem asrc_eW {sz : Nat} : asrc S sz (eW L o xs) = some (o.alive S ∧ L.sz = sz, flat L xs) := rfl
theorem slice_own {lo hi : Option AV} : post1 (aslice T t (.slice o L.sz (flat L xs)) lo hi) S c kv = match T t with
  | some ⟨.slice e, _, _, _⟩ => match T e, abound 0 lo, abound (xs.length : Int) hi with
   | some ei, some l, some h => L.sz = ei.size ∧ (0 ≤ l ∧ l ≤ h ∧ h.toNat ≤ xs.length) ∧ kv (eW L (o.sub (l.toNat * L.sz) (h.toNat * L.sz) (flat L xs).length) ((xs.take h.toNat).drop l.toNat)) S c
   | _, _, _ => False
  | _ => False := by
 have hd : ((flat L xs).length / L.sz : Nat) = xs.length := flat_div
 unfold aslice
 rcases hT : T t with _ | ⟨dd, s1, s2, s3⟩ <;> (try cases dd) <;> simp only [post1]
 rename_i e
 rw [hd]
 rcases hE : T e with _ | ei
 ·rfl
 cases hl : abound 0 lo with
 | none => rfl
 | some l =>
  cases hh : abound (xs.length : Int) hi with
  | none => rfl
  | some h =>
   simp only
   by_cases hs : L.sz = ei.size
   ·rw [if_pos hs]
    simp only [hs, true_and]
    rw [← hs]
    have hle : h.toNat * L.sz ≤ (flat L xs).length ↔ h.toNat ≤ xs.length := by rw [flat_length]; exact Nat.mul_le_mul_right_iff L.pos
    have hv : ((flat L xs).take (h.toNat * L.sz)).drop (l.toNat * L.sz) = flat L ((xs.take h.toNat).drop l.toNat) := by rw [flat_take, flat_drop]
    rw [hv, hle]
    rfl
   ·rw [if_neg hs]; simp [hs]
@[go_sem] theorem slice_eB {lo hi : Option AV} : post1 (aslice T t (eB L n xs) lo hi) S c kv = match T t with
  | some ⟨.slice e, _, _, _⟩ => match T e, abound 0 lo, abound (xs.length : Int) hi with
   | some ei, some l, some h => L.sz = ei.size ∧ (0 ≤ l ∧ l ≤ h ∧ h.toNat ≤ xs.length) ∧ kv (eW L ((Own.buf n (xs.length * L.sz)).sub (l.toNat * L.sz) (h.toNat * L.sz) (flat L xs).length) ((xs.take h.toNat).drop l.toNat)) S c
   | _, _, _ => False
  | _ => False := slice_own
theorem append1_eB {e s1 s2 : Nat} {s3 : List Value} {tix ei : TI} {x : AV} {p : Prop} {cs : List AV} (ht : T t = some ⟨.slice e, s1, s2, s3⟩) (htx : T tx = some tix) (hei : T e = some ei) (hk : tix.d = .slice e ∨ tix.d = .string) (hsz : ei.size = L.sz)
  (hn : S n = some (oT L xs)) (hs : asrc S L.sz x = some (p, cs)) (hp : p) (hc : cs = flat L ys) (hb : (xs.length + ys.length) * ei.bytes ≤ 2 ^ 47 ∧ xs.length + ys.length < 2 ^ 63)
  (h : kv (eB L n (xs ++ ys)) (S.set n (oT L (xs ++ ys))) c) : append1 T d t tx (eB L n xs) x S c (k := ⟨kv⟩) := by
 subst hc
 have hdiv : ((flat L xs).length + (flat L ys).length) / L.sz = xs.length + ys.length := by rw [flat_length, flat_length, ← Nat.add_mul, Nat.mul_div_cancel _ L.pos]
 have e1 : xs.length * L.sz + (flat L ys).length = (xs ++ ys).length * L.sz := by rw [flat_length, List.length_append, Nat.add_mul]
 unfold append1 eB
 simp only [ht, htx, hei, hs, hdiv]
 refine .inr ⟨hk, hn, hsz, hp, flat_one, hb.1, hb.2, ?_⟩
 rw [e1, ← flat_append]
 exact h
end
section
variable {P : Program} {T : Tab} {d : Nat} {S S1 : AHeap} {c : Nat} {kv : AV → AHeap → Nat → Prop} {kp : AV → AHeap → Prop} {α : Type} {L : Lay α} {xs : List α}
end
theorem AC.slice {P : Program} {f : FuncId} {S : AHeap} {α : Type} {L : Lay α} {o : Own} {xs : List α} {as : List AV} {R : AEnd → AHeap → Prop} (h0 : xs = [] → AC P f (.lit (.slice none 0 0) :: as) S R) (h1 : xs = [] → ∀ a c, AC P f (.lit (.slice (some a) 0 c) :: as) S R)
  (h2 : xs ≠ [] → AC P f (eW L o xs :: as) S R) : AC P f (eW L o xs :: as) S R := by
 by_cases hx : xs = []
 ·refine ⟨(h0 hx).1, fun K w vs hs hv => ?_⟩
  obtain ⟨l⟩ := vs
  match l, hv with
  | [], hv => simp [SimL] at hv
  | v :: l, hv =>
   simp only [SimL, eW, SimV] at hv
   obtain ⟨⟨a, len, cap, rfl, p1, p2, p3, p4⟩, hrest⟩ := hv
   subst hx
   have hl0 : len = 0 := (Nat.mul_eq_zero.1 (by simpa [flat] using p1)).resolve_right (by omega)
   subst hl0
   cases a with
   | some a => exact (h1 rfl a cap).2 K w _ hs (by simp only [SimL, SimV]; exact ⟨trivial, hrest⟩)
   | none =>
    have hc : cap = 0 := by
     rcases p4 with ⟨_, hn⟩ | ⟨b, q, h, _⟩
     ·cases o with
      | perm => exact hn rfl
      | young => exact hn rfl
      | buf n e => exact hn.1
      | tip n e => exact hn.1
      | cut n e k => exact hn.elim
     ·cases h
    subst hc
    exact (h0 rfl).2 K w _ hs (by simp only [SimL, SimV]; exact ⟨trivial, hrest⟩)
 ·exact h2 hx
section
variable {T : Tab} {S : AHeap} {α : Type} {L : Lay α} {xs : List α} {o : Own} {t : TypeId}
@[go_sem] theorem abin_nil0 : abin T .eql t (.lit (.slice none 0 0)) (.lit (.slice none 0 0)) = match T t with
  | some ⟨.slice _, _, _, _⟩ => some (True, .lit (.bool true))
  | _ => none := by
 unfold abin aeq
 rcases T t with _ | ⟨dd, s1, s2, s3⟩ <;> (try cases dd) <;> rfl
@[go_sem] theorem abin_nil1 {a : Addr} {l c : Nat} : abin T .eql t (.lit (.slice (some a) l c)) (.lit (.slice none 0 0)) = match T t with
  | some ⟨.slice _, _, _, _⟩ => some (True, .lit (.bool false))
  | _ => none := by
 unfold abin aeq
 rcases T t with _ | ⟨dd, s1, s2, s3⟩ <;> (try cases dd) <;> rfl
@[go_sem] theorem abin_nil2 : abin T .eql t (eW L o xs) (.lit (.slice none 0 0)) = match T t with
  | some ⟨.slice _, _, _, _⟩ => some (flat L xs ≠ [], .lit (.bool false))
  | _ => none := by
 unfold abin aeq eW
 rcases T t with _ | ⟨dd, s1, s2, s3⟩ <;> (try cases dd) <;> rfl
theorem flat_ne (h : xs ≠ []) : flat L xs ≠ [] := by
 intro e
 have := congrArg List.length e
 rw [flat_length] at this
 simp only [List.length_nil] at this
 rcases Nat.mul_eq_zero.1 this with h' | h'
 ·exact h (List.eq_nil_of_length_eq_zero h')
 ·have := L.pos; omega
end
section
variable {P : Program} {T : Tab} {d : Nat} {S : AHeap} {c : Nat} {kv : AV → AHeap → Nat → Prop} {α : Type} {L : Lay α} {ys : List α} {t tx : TypeId} {o : Own}
theorem append1_newB {e s1 s2 : Nat} {s3 : List Value} {tix ei : TI} {x : AV} {p : Prop} {cs : List AV} (ht : T t = some ⟨.slice e, s1, s2, s3⟩) (htx : T tx = some tix) (hei : T e = some ei) (hk : tix.d = .slice e ∨ tix.d = .string) (hsz : ei.size = L.sz)
  (hs : asrc S L.sz x = some (p, cs)) (hp : p) (hc : cs = flat L ys) (hb : ys.length * ei.bytes ≤ 2 ^ 47 ∧ ys.length < 2 ^ 63)
  (h : kv (eB L (d, c) ys) (S.set (d, c) (oT L ys)) (c + 1)) : append1 T d t tx .empt x S c (k := ⟨kv⟩) := by
 subst hc
 unfold append1
 simp only [ht, htx, hei, hsz, hs, flat_div]
 refine .inr ⟨hk, L.pos, hp, flat_one, hb.1, hb.2, false, ?_⟩
 have e1 : (flat L ys).length = ys.length * L.sz := flat_length
 rw [e1]; exact h
theorem Ghost.nameB {sl sl' : Slots} {i : Nat} (h : Sub (sget sl i) .empt) (hs : ∀ j, j ≠ i → sget sl' j = sget sl j) (hi : sget sl' i = eB L (d, c) []) : Ghost d sl S c sl' (S.set (d, c) (oT L [])) (c + 1) := by
 intro K w ts hsat ht hf
 have hp := (hf.2 c (Nat.le_refl _)).1
 have hd : (d, c).1 < K.dmax := hf.1
 have hv := h K _ (ht i)
 simp only [SimV] at hv
 obtain ⟨ad, hv⟩ := hv
 obtain ⟨k1, k2, k3⟩ := hsat.openBuf hp hd (D := d) (Nat.le_refl _) L.pos false ad
 refine ⟨K.unpend (d, c), ⟨k1, by simpa [oT] using k2, Below.refl _ _, fun n hn h0 => ?_⟩, fun j => ?_, hf.1, fun j hj => ⟨⟨(hf.2 j (by omega)).1, by simp; omega⟩, ?_⟩⟩
 ·simp only [AHeap.set]
  rw [if_neg (by rintro rfl; simp at hn)]; exact h0
 ·by_cases e : j = i
  ·subst e
   rw [hi, hv]
   simpa [eB, flat, Own.at] using k3
  ·rw [hs j e]; exact (ht j).mono k1
 ·simp only [AHeap.set]
  rw [if_neg (by simp; omega)]; exact (hf.2 j (by omega)).2
theorem xnameB {α : Type} (L0 : Lay α) (i : Nat) {d : Nat} {sl : Slots} {S : AHeap} {c : Nat} {L : List (Name × AObj)} (h : Sub (sget sl i) .empt) : Ghost d sl (hp L S) c (sset sl i (eB L0 (d, c) [])) (hp (hset L (d, c) (oT L0 [])) S) (c + 1) := by
 rw [← hp_set]
 exact Ghost.nameB h (fun j hj => by rw [sget_sset, if_neg hj]) (by rw [sget_sset, if_pos rfl])
theorem Sub.bufTip {n : Name} : Sub (eB L n ([] : List α)) (eT L n []) := by
 intro K v h
 simp only [eB, eT, flat_nil, SimV] at h ⊢
 obtain ⟨a, len, cap, h1, h2, h3, h4, h5⟩ := h
 exact ⟨a, len, cap, h1, h2, h3, h4, h5.imp id fun ⟨b, o, k1, _, k3⟩ => ⟨b, o, k1, by simp [SimC], k3⟩⟩
theorem Ghost.cutB {xs : List α} {m : Name} {sl sl' : Slots} {i j h : Nat} (hh : h ≤ xs.length) (hi : sget sl i = eW L ((Own.buf m (xs.length * L.sz)).sub 0 (h * L.sz) (flat L xs).length) (xs.take h)) (hj : sget sl j = eB L m xs) (hm : S m = some (oT L xs))
  (hs : ∀ k, k ≠ i → sget sl' k = sget sl k) (hi' : sget sl' i = eB L (d, c) (xs.take h)) : Ghost d sl S c sl' ((S.del m).set (d, c) (oT L (xs.take h))) (c + 1) := by
 intro K w ts hsat ht hf
 have hvi := ht i
 have hvj := ht j
 rw [hi] at hvi
 rw [hj] at hvj
 have hfl : (flat L xs).take (h * L.sz) = flat L (xs.take h) := flat_take h
 have hH := hsat.holdSub (h := h * L.sz) (xs := flat L xs) (sz := L.sz) (m := m) (by rw [hm, flat_length]; rfl) (by rw [flat_length]; exact Nat.mul_le_mul_right _ hh) (by rw [hfl]; rw [eW, ← flat_length] at hvi; exact hvi) (by rw [flat_length]; exact hvj)
 rw [hfl] at hH
 have hnc : (S.del m) (d, c) = none := by
  simp only [AHeap.del]
  split
  ·rfl
  ·exact (hf.2 c (Nat.le_refl _)).2
 obtain ⟨K', k1, k2, k3, k4, k5⟩ := hH.buf (D := d) (hf.2 c (Nat.le_refl _)).1 hnc (Nat.le_refl _)
 rw [flat_length] at k4 k5
 refine ⟨K', ⟨k1, k4, Below.refl _ _, fun n hn h0 => ?_⟩, fun k => ?_, by rw [k2]; exact hf.1, fun q hq => ⟨k3 _ (hf.2 q (by omega)).1 (by simp; omega), ?_⟩⟩
 ·simp only [AHeap.set, AHeap.del]
  rw [if_neg (by rintro rfl; simp at hn)]
  split
  ·rfl
  ·exact h0
 ·by_cases e : k = i
  ·subst e
   rw [hi']; exact k5
  ·rw [hs k e]; exact (ht k).mono k1
 ·simp only [AHeap.set, AHeap.del]
  rw [if_neg (by simp; omega)]
  split
  ·rfl
  ·exact (hf.2 q (by omega)).2
theorem append1_zeros {e s1 s2 : Nat} {s3 : List Value} {tix ei : TI} {q : Int} (ht : T t = some ⟨.slice e, s1, s2, s3⟩) (htx : T tx = some tix) (hei : T e = some ei) (hk : tix.d = .int .i64) (hsz : ei.size = L.sz) (hz : zlist ei q.toNat = flat L ys) (hl : ys.length = q.toNat)
  (h0 : 0 < q) (h63 : q < 2 ^ 63) (hb : q.toNat * ei.bytes ≤ 2 ^ 47) (h : kv (eB L (d, c) ys) (S.set (d, c) (oT L ys)) (c + 1)) : append1 T d t tx (.lit (.slice none 0 0)) (.lit (.int .i64 q)) S c (k := ⟨kv⟩) := by
 unfold append1
 simp only [ht, htx, hei]
 refine .inl ⟨hk, h0, h63, hb, by rw [hsz]; exact L.pos, ?_⟩
 rw [hz, hsz, ← hl]
 exact h
theorem zlist_u8 {ei : TI} (hz : ei.zero = [.int .u8 0]) (n : Nat) : zlist ei n = flat (lI .u8) (List.replicate n 0) := by
 unfold zlist Builtin.zeroCells
 rw [hz]
 have h1 : ∀ i : Nat, (List.toArray [Value.int IntKind.u8 0])[i % (List.toArray [Value.int IntKind.u8 0]).size]! = .int .u8 0 := by
  intro i
  have : i % (List.toArray [Value.int IntKind.u8 0]).size = 0 := Nat.mod_one i
  rw [this]; rfl
 simp only [h1]
 have h2 : ∀ m : Nat, List.flatMap (lI .u8).cells (List.replicate m (0 : Int)) = List.replicate m (.lit (.int .u8 0)) := by
  intro m
  induction m with
  | zero => rfl
  | succ m ih => rw [List.replicate_succ, List.flatMap_cons, ih]; rfl
 rw [flat, h2]
 apply List.ext_getElem
 ·simp
 ·intro k _ _
  simp
theorem alive_sub {l h n : Nat} (ho : o.alive S) : (o.sub l h n).alive S := by
 cases o with
 | perm => trivial
 | young => trivial
 | tip m e => trivial
 | buf m e =>
  simp only [Own.sub]
  split
  ·split
   ·exact ho
   ·split
    ·trivial
    ·exact ho
  ·split
   ·trivial
   ·exact ho
 | cut m e k =>
  simp only [Own.sub]
  split
  ·trivial
  ·exact ho
end
end Go.Al
