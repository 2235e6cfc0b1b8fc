import Derived.Test.YtolfnhebnennpaaAmB
set_option linter.unusedSimpArgs false
set_option linter.unusedVariables false
namespace Go.Al
open Go Go.RowKit
def SObj.ob (ν : Nm) (H : SHp) : SObj → AObj
 | .box cs => .box (avs ν H cs)
 | .tip _ e xs => oT e.lay xs
 | .arr e xs => .box (flat e.lay xs)
 | .obox b cs => if b then .box (avs ν H cs) else .buf 0
def HOk (ν : Nm) (H : SHp) (S : AHeap) : Prop := ∀ m o, hget H m = some o → S (ν m) = some (o.ob ν H)
section
variable {T : Tab} {ν : Nm} {H : SHp} {S : AHeap}
theorem avs_part {o n : Nat} {cs a b c : List SV} (h : part3 o n cs = some (a, b, c)) : (avs ν H cs).drop o = avs ν H b ++ avs ν H c ∧ (avs ν H b).length = n ∧ o + n ≤ (avs ν H cs).length := by
 obtain ⟨e, h1, h2⟩ := part3_some h
 have la := avs_length (ν := ν) (H := H) (l := a)
 have lb := avs_length (ν := ν) (H := H) (l := b)
 refine ⟨?_, by omega, ?_⟩
 ·rw [e, avs_append, avs_append, List.append_assoc, List.drop_append, List.drop_eq_nil_of_le (by omega), List.nil_append, show o - (avs ν H a).length = 0 by omega, List.drop_zero]
 ·rw [e, avs_append, avs_append, List.length_append, List.length_append]; omega
theorem avs_take {o n : Nat} {cs a b c : List SV} (h : part3 o n cs = some (a, b, c)) : ((avs ν H cs).drop o).take n = avs ν H b := by
 obtain ⟨h1, h2, _⟩ := avs_part (ν := ν) (H := H) h
 rw [h1, List.take_append, h2, Nat.sub_self, List.take_zero, List.append_nil, List.take_of_length_le (by omega)]
theorem sapart_av {t : TypeId} {cs : List SV} {off : Nat} {v : SV} (h : sapart T t cs off = some v) : ∃ p, apart T t (avs ν H cs) off = some (p, v.av ν H) ∧ p := by
 unfold sapart at h
 unfold apart
 split at h <;> try (cases h; done)
 rename_i i hi
 simp only [hi]
 split at h
 ·rename_i ha
  rw [if_pos ha]
  split at h <;> try (cases h; done)
  rename_i a b c hp
  cases h
  exact ⟨off + i.size ≤ (avs ν H cs).length, by rw [avs_take hp]; simp only [SV.av], (avs_part hp).2.2⟩
 ·rename_i ha
  rw [if_neg ha]
  split at h <;> try (cases h; done)
  rename_i a x c hp
  split at h <;> try (cases h; done)
  rename_i hv
  cases h
  obtain ⟨h1, h2, h3⟩ := avs_part (ν := ν) (H := H) hp
  refine ⟨_, ?_, Nat.lt_of_lt_of_le (Nat.lt_succ_self off) h3⟩
  rw [h1, avs_one (by simpa using hv)]; rfl
theorem spick_av {t : Bool} {a b : SV} : (spick t a b).av ν H = apick t (a.av ν H) (b.av ν H) := by
 cases t
 ·rw [apick_false]
  unfold spick
  split
  ·simp only [SV.av]; rfl
  ·split
   ·rename_i hk; subst hk; simp only [SV.av]; rfl
   ·rfl
  ·rfl
 ·rw [apick_true]
  unfold spick
  split
  ·simp only [SV.av]; rfl
  ·split
   ·rename_i hk; subst hk; simp only [SV.av]; rfl
   ·rfl
  ·rfl
theorem sone_av {t : TypeId} {i : TI} {cs : List SV} {v : SV} (hi : T t = some i) (h : sone T t i cs = some v) {rest : List AV} (hl : i.size ≤ (avs ν H cs).length) (h2 : i.d.isAgg = true → (avs ν H cs).length = i.size) :
  ∃ p, readC T t (avs ν H cs ++ rest) = some (p, v.av ν H) ∧ p := by
 unfold sone at h
 unfold readC
 simp only [hi]
 split at h
 ·rename_i ha
  rw [if_pos ha]; cases h
  refine ⟨i.size ≤ (avs ν H cs ++ rest).length, by rw [← h2 ha, List.take_append, Nat.sub_self, List.take_zero, List.append_nil, List.take_of_length_le (Nat.le_refl _)]; simp only [SV.av], ?_⟩
  rw [List.length_append]; omega
 ·rename_i ha
  rw [if_neg ha]
  split at h <;> try (cases h; done)
  split at h <;> try (cases h; done)
  rename_i x hx
  cases h
  simp only [Bool.or_eq_true, not_or, Bool.not_eq_true] at hx
  rw [avs_one hx.1]
  exact ⟨_, rfl, by simp⟩
theorem OwnI.alive_of (hS : HOk ν H S) : ∀ {o : OwnI}, o.alive H = true → (o.of ν).alive S
 | .perm, _ => trivial
 | .young, _ => trivial
 | .tip _ _, _ => trivial
 | .buf m e, h => by
  simp only [OwnI.alive] at h
  split at h <;> try (cases h; done)
  rename_i pm y xs hm
  exact ⟨_, hS _ _ hm⟩
 | .sub o l k n, h => alive_sub (alive_of hS (o := o) h)
theorem vcont_box (hS : HOk ν H S) {m : Id} {o : Nat} {e : Ty} {xs : List e.den} (h : vcont H m o = some ⟨e, xs⟩) : ∃ as bs, S (ν m) = some (.box (as ++ flat e.lay xs ++ bs)) ∧ as.length = o := by
 unfold vcont at h
 split at h <;> try (cases h; done)
 ·rename_i cs hm
  split at h <;> try (cases h; done)
  rename_i a n y v r hc
  cases h
  obtain ⟨h1, h2⟩ := cutAt_some hc
  exact ⟨avs ν H a, avs ν H r, by rw [hS _ _ hm, SObj.ob, h1, avs_append, avs_vec, List.append_assoc], by rw [avs_length, h2]⟩
 ·rename_i y ys hm
  split at h <;> try (cases h; done)
  rename_i ho
  cases h
  exact ⟨[], [], by rw [hS _ _ hm, SObj.ob]; simp, by simp [ho]⟩
theorem sload_sound (hS : HOk ν H S) {t : TypeId} {x : SV} {pr : Pr} (h : sload T H t x = some pr) : pr.all fun v => ∃ p, aload T S t (x.av ν H) = some (p, v.av ν H) ∧ p := by
 unfold sload at h
 split at h <;> try (cases h; done)
 rename_i i hi
 split at h <;> try (cases h; done)
 ·rename_i m o
  split at h <;> try (cases h; done)
  rename_i cs hm
  split at h <;> try (cases h; done)
  rename_i a b c hp
  simp only [Option.map_eq_some_iff] at h
  obtain ⟨v, hv, rfl⟩ := h
  obtain ⟨h1, h2, h3⟩ := avs_part (ν := ν) (H := H) hp
  simp only [Pr.all, SV.av, aload, hS _ _ hm, SObj.ob, h1]
  exact sone_av hi hv (by omega) (fun _ => h2)
 ·rename_i m o j s
  split at h <;> try (cases h; done)
  rename_i e xs hc
  split at h <;> try (cases h; done)
  rename_i hes
  obtain ⟨he, his⟩ := hes
  split at h <;> try (cases h; done)
  rename_i v hv
  cases h
  obtain ⟨as, bs, g1, g2⟩ := vcont_box hS hc
  intro hj
  rw [hv]
  simp only [Option.getD_some, SV.av, vptr, aload, g1]
  have hd : (as ++ flat e.lay xs ++ bs).drop (o + j * s) = e.lay.cells (xs.getD j e.dflt) ++ (flat e.lay (xs.drop (j + 1)) ++ bs) := by
   rw [List.append_assoc, List.drop_append, List.drop_eq_nil_of_le (by omega), List.nil_append, show o + j * s - as.length = j * e.lay.sz by rw [e.lay_sz, he]; omega, List.drop_append_of_le_length (by rw [flat_length]; exact Nat.mul_le_mul_right _ (Nat.le_of_lt hj)), flat_dropAt hj, List.append_assoc, e.lay_dflt]
  rw [hd, ← Ty.un_cells (ν := ν) (H := H) e]
  have hl : (avs ν H (e.un (xs.getD j e.dflt))).length = i.size := by rw [Ty.un_cells, Lay.len, e.lay_sz]; omega
  exact sone_av hi hv (by omega) (fun _ => hl)
 ·rename_i o cs
  split at h <;> try (cases h; done)
  rename_i hal
  split at h <;> try (cases h; done)
  rename_i a b c hp
  simp only [Option.map_eq_some_iff] at h
  obtain ⟨v, hv, rfl⟩ := h
  obtain ⟨h1, h2, h3⟩ := avs_part (ν := ν) (H := H) hp
  rw [List.drop_zero] at h1
  simp only [Pr.all, SV.av, aload, h1]
  obtain ⟨p, g1, g2⟩ := sone_av (ν := ν) (H := H) (rest := avs ν H c) hi hv (by omega) (fun _ => h2)
  exact ⟨p ∧ (o.of ν).alive S, by rw [g1]; rfl, g2, OwnI.alive_of hS hal⟩
theorem Pr.all_t {v : SV} {Q : SV → Prop} (h : Q v) : (Pr.t v).all Q := h
theorem Pr.all_g {p : Prop} {d : Decidable p} {f : p → SV} {Q : SV → Prop} (h : ∀ hp : p, Q (f hp)) : (Pr.g p d f).all Q := h
theorem Pr.all_mono {pr : Pr} {Q R : SV → Prop} (h : pr.all Q) (k : ∀ v, Q v → R v) : pr.all R := by
 cases pr with
 | t v => exact k _ h
 | g p d f => exact fun hp => k _ (h hp)
 | c i vs => exact fun j v h1 h2 => k _ (h j v h1 h2)
theorem snilS_sound {x : SV} {pr : Pr} (h : snilS H x = some pr) : pr.all fun v => ∃ p b, nilS (x.av ν H) = some (p, b) ∧ p ∧ v = .lit (.bool b) := by
 unfold snilS at h
 split at h
 ·cases h; exact ⟨True, true, by simp only [SV.av]; rfl, trivial, rfl⟩
 ·cases h; exact ⟨True, false, by simp only [SV.av]; rfl, trivial, rfl⟩
 ·split at h <;> try (cases h; done)
  rename_i x h1 h2 o e xs hl
  cases h
  intro hp
  rw [lview_av hl]
  refine ⟨_, false, rfl, flat_ne ?_, rfl⟩
  rintro rfl; simp at hp
theorem seqL_av {f : TypeId → SV → SV → Option Bool} {g : TypeId → AV → AV → Option (Prop × Bool)} (hf : ∀ t a b u, f t a b = some u → ∃ p, g t (a.av ν H) (b.av ν H) = some (p, u) ∧ p) :
  ∀ {fs : List (Nat × TypeId)} {xs ys : List SV} {u : Bool}, seqL T f fs xs ys = some u → ∃ p, eqL T g fs (avs ν H xs) (avs ν H ys) = some (p, u) ∧ p
 | [], xs, ys, u, h => by simp only [seqL, Option.some.injEq] at h; subst h; exact ⟨True, rfl, trivial⟩
 | q :: r, xs, ys, u, h => by
  simp only [seqL] at h
  split at h <;> try (cases h; done)
  rename_i a b ha hb
  split at h <;> try (cases h; done)
  rename_i w hw
  obtain ⟨p1, g1, k1⟩ := sapart_av (ν := ν) (H := H) ha
  obtain ⟨p2, g2, k2⟩ := sapart_av (ν := ν) (H := H) hb
  obtain ⟨p3, g3, k3⟩ := hf _ _ _ _ hw
  cases r with
  | nil =>
   simp only [Option.some.injEq] at h; subst h
   exact ⟨p1 ∧ p2 ∧ p3, by simp only [eqL, g1, g2, g3], k1, k2, k3⟩
  | cons q' r' =>
   simp only at h
   split at h <;> try (cases h; done)
   rename_i v hv
   cases h
   obtain ⟨p4, g4, k4⟩ := seqL_av hf hv
   exact ⟨p1 ∧ p2 ∧ p3 ∧ p4, by simp only [eqL, g1, g2, g3] at g4 ⊢; simp only [g4], k1, k2, k3, k4⟩
theorem seqAt_av : ∀ {d : Dep} {t : TypeId} {x y : SV} {u : Bool}, seqAt T d t x y = some u → ∃ p, eqAt T d t (x.av ν H) (y.av ν H) = some (p, u) ∧ p
 | .z, t, x, y, u, h => by simp [seqAt] at h
 | .s d, t, x, y, u, h => by
  simp only [seqAt] at h
  split at h <;> try (cases h; done)
  ·rename_i hT
   split at h <;> try (cases h; done)
   rename_i hk
   cases h
   exact ⟨True, by simp only [eqAt, SV.av, hT, if_pos hk], trivial⟩
  ·rename_i hT
   cases h
   exact ⟨True, by simp only [eqAt, SV.av, hT], trivial⟩
  ·rename_i hT
   cases h
   exact ⟨True, by simp only [eqAt, SV.av, hT], trivial⟩
  ·rename_i hT
   split at h <;> try (cases h; done)
   rename_i hq
   obtain ⟨p, g1, g2⟩ := seqL_av (fun t a b u h => seqAt_av h) h
   exact ⟨p, by simp only [eqAt, SV.av, hT, if_pos hq, g1], g2⟩
theorem seq_sound {t : TypeId} {x y : SV} {pr : Pr} (h : seq T H t x y = some pr) : pr.all fun v => ∃ p b, aeq T t (x.av ν H) (y.av ν H) = some (p, b) ∧ p ∧ v = .lit (.bool b) := by
 unfold seq at h
 split at h <;> try (cases h; done)
 ·split at h <;> try (cases h; done)
  rename_i hT
  cases h
  exact ⟨True, _, by simp only [aeq, SV.av, hT], trivial, rfl⟩
 ·split at h <;> try (cases h; done)
  rename_i hq
  simp only [Option.map_eq_some_iff] at h
  obtain ⟨b, h1, rfl⟩ := h
  obtain ⟨p, g1, g2⟩ := seqAt_av (ν := ν) (H := H) h1
  simp only [SV.av] at g1
  exact ⟨p, b, by simp only [aeq, SV.av, if_pos hq, g1], g2, rfl⟩
 ·split at h <;> try (cases h; done)
  rename_i hT
  split at h <;> (try (cases h; done)) <;> cases h
  ·exact ⟨True, true, by simp only [aeq, SV.av, hT, nilP], trivial, rfl⟩
  ·exact ⟨True, false, by simp only [aeq, SV.av, hT, nilP], trivial, rfl⟩
  ·rename_i b m
   cases b
   ·exact ⟨True, true, by simp only [aeq, SV.av, hT, nilP, Bool.false_eq_true, if_false], trivial, rfl⟩
   ·exact ⟨True, false, by simp only [aeq, SV.av, hT, nilP, if_true], trivial, rfl⟩
 ·split at h <;> try (cases h; done)
  rename_i hT
  cases h
  exact ⟨True, false, by simp only [aeq, SV.av, hT, nilP], trivial, rfl⟩
 ·split at h <;> try (cases h; done)
  rename_i hT
  have ha : ∀ (X : AV) p b, nilS X = some (p, b) → aeq T t X (.lit (.slice none 0 0)) = some (p, b) := by
   intro X p b hX
   cases X <;> (try (simp [nilS] at hX; done)) <;> (try (simp only [aeq, hT]; exact hX))
   rename_i u
   cases u <;> (try (simp [nilS] at hX; done))
   rename_i a l c
   simp only [aeq, hT]; exact hX
  simp only [SV.av]
  exact Pr.all_mono (snilS_sound (ν := ν) h) fun v ⟨p, b, h1, h2, h3⟩ => ⟨p, b, ha _ _ _ h1, h2, h3⟩
theorem sint_sound {op : BinOp} {k k' : IntKind} {a b : Int} {pr : Pr} (h : sint op k a k' b = some pr) : pr.all fun v => ∃ p, aintOp op k a k' b = some (p, v.av ν H) ∧ p := by
 unfold sint at h
 split at h
 ·cases h; intro hp; exact ⟨_, by simp only [SV.av]; rfl, hp⟩
 ·cases h; intro hp; exact ⟨_, by simp only [SV.av]; rfl, hp⟩
 ·split at h <;> try (cases h; done)
  rename_i hk
  subst hk
  split at h <;> (try (cases h; done)) <;> cases h <;>
   first
    | (refine Pr.all_t ⟨True, ?_, trivial⟩; simp only [SV.av, aintOp, if_true]; done)
    | (refine Pr.all_t ⟨True, ?_, trivial⟩; simp only [SV.av, aintOp, if_true]; rfl)
    | (refine Pr.all_g fun hp => ⟨_, ?_, hp⟩; simp only [SV.av, aintOp, if_true]; done)
    | (refine Pr.all_g fun hp => ⟨_, ?_, hp⟩; simp only [SV.av, aintOp, if_true]; rfl)
theorem sstr_sound {op : BinOp} {a b : ByteArray} {pr : Pr} (h : sstr op a b = some pr) : pr.all fun v => ∃ p, astrOp op a b = some (p, v.av ν H) ∧ p := by
 unfold sstr at h
 split at h <;> (try (cases h; done)) <;> cases h <;>
   first
    | (refine Pr.all_t ⟨True, ?_, trivial⟩; simp only [SV.av, astrOp]; done)
    | (refine Pr.all_g fun hp => ⟨_, ?_, hp⟩; simp only [SV.av, astrOp]; done)
theorem Pr.all_neg {pr : Pr} {Q : SV → Prop} (h : pr.all fun v => ∃ b, v = .lit (.bool b) ∧ Q (.lit (.bool (!b)))) (hc : ∀ i vs, pr ≠ .c i vs) : pr.neg.all Q := by
 cases pr with
 | t v => obtain ⟨b, rfl, hq⟩ := h; exact hq
 | g p d f =>
  intro hp
  obtain ⟨b, hb, hq⟩ := h hp
  simp only [hb]; exact hq
 | c i vs => exact absurd rfl (hc i vs)
theorem seq_noc {t : TypeId} {x y : SV} {pr : Pr} (h : seq T H t x y = some pr) (i : Int) (vs : List SV) : pr ≠ .c i vs := by
 rintro rfl
 unfold seq snilS at h
 split at h <;> try (cases h; done)
 ·split at h <;> cases h
 ·split at h <;> try (cases h; done)
  simp only [Option.map_eq_some_iff] at h
  obtain ⟨_, _, h⟩ := h; cases h
 ·split at h <;> try (cases h; done)
  split at h <;> cases h
 ·split at h <;> cases h
 ·split at h <;> try (cases h; done)
  split at h <;> try (cases h; done)
  split at h <;> cases h
theorem sbin_sound {op : BinOp} {t : TypeId} {x y : SV} {pr : Pr} (h : sbin T H op t x y = some pr) : pr.all fun v => ∃ p, abin T op t (x.av ν H) (y.av ν H) = some (p, v.av ν H) ∧ p := by
 unfold sbin at h
 split at h
 ·exact Pr.all_mono (sint_sound (ν := ν) (H := H) h) fun v ⟨p, h1, h2⟩ => ⟨p, by simp only [SV.av, abin]; exact h1, h2⟩
 ·exact Pr.all_mono (sstr_sound (ν := ν) (H := H) h) fun v ⟨p, h1, h2⟩ => ⟨p, by simp only [SV.av, abin]; exact h1, h2⟩
 ·rename_i n1 n2
  have hx : ∀ {p b}, aeq T t (x.av ν H) (y.av ν H) = some (p, b) → abin T .eql t (x.av ν H) (y.av ν H) = some (p, .lit (.bool b)) ∧ abin T .neq t (x.av ν H) (y.av ν H) = some (p, .lit (.bool (!b))) := by
   intro p b hq
   have key : ∀ X Y : AV, aeq T t X Y = some (p, b) → (∀ k a k' b, ¬ (X = .lit (.int k a) ∧ Y = .lit (.int k' b))) → (∀ a b, ¬ (X = .lit (.string a) ∧ Y = .lit (.string b))) →
     abin T .eql t X Y = some (p, .lit (.bool b)) ∧ abin T .neq t X Y = some (p, .lit (.bool (!b))) := by
    intro X Y hq h1 h2
    constructor <;> unfold abin <;> split <;> first | exact absurd ⟨rfl, rfl⟩ (h1 _ _ _ _) | exact absurd ⟨rfl, rfl⟩ (h2 _ _) | (simp only [hq, Option.map_some])
   refine key _ _ hq ?_ ?_
   ·rintro k a k' b ⟨e1, e2⟩
    have f : ∀ (z : SV) k a, z.av ν H = .lit (.int k a) → z = .lit (.int k a) := by
     intro z k a hz
     cases z <;> simp only [SV.av] at hz <;> (try (cases hz; done)) <;> (try (cases hz; rfl))
     ·unfold curAV at hz
      split at hz <;> cases hz
     ·split at hz <;> cases hz
    exact n1 _ _ _ _ (f _ _ _ e1) (f _ _ _ e2)
   ·rintro a b ⟨e1, e2⟩
    have f : ∀ (z : SV) a, z.av ν H = .lit (.string a) → z = .lit (.string a) := by
     intro z a hz
     cases z <;> simp only [SV.av] at hz <;> (try (cases hz; done)) <;> (try (cases hz; rfl))
     ·unfold curAV at hz
      split at hz <;> cases hz
     ·split at hz <;> cases hz
    exact n2 _ _ (f _ _ e1) (f _ _ e2)
  split at h <;> try (cases h; done)
  ·exact Pr.all_mono (seq_sound (ν := ν) h) fun v ⟨p, b, h1, h2, h3⟩ => ⟨p, by rw [h3]; simp only [SV.av]; exact (hx h1).1, h2⟩
  ·simp only [Option.map_eq_some_iff] at h
   obtain ⟨pr', h1, rfl⟩ := h
   refine Pr.all_neg (Pr.all_mono (seq_sound (ν := ν) h1) fun v ⟨p, b, h1, h2, h3⟩ => ⟨b, h3, p, by simp only [SV.av]; exact (hx h1).2, h2⟩) (seq_noc h1)
theorem sun_sound {op : UnOp} {x : SV} {pr : Pr} (h : sun op x = some pr) : pr.all fun v => ∃ p, aunOp op (x.av ν H) = some (p, v.av ν H) ∧ p := by
 unfold sun at h
 split at h <;> (try (cases h; done)) <;> cases h <;> refine Pr.all_t ⟨True, ?_, trivial⟩ <;> simp only [SV.av, aunOp] <;> rfl
end
end Go.Al
