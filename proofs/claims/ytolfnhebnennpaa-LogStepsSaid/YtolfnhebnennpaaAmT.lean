import Derived.Test.YtolfnhebnennpaaAmQ
set_option linter.unusedSimpArgs false
set_option linter.unusedVariables false
namespace Go.Al
open Go Go.RowKit
structure ChunkOk (P : Program) (f g : FuncId) (t1 t2 : TypeId) : Prop where
 ent : enters P f = true
 run : ∀ (a : Option Addr) (len cap : Nat) (n : Int) (w : World), 0 < n → Calls P f #[.slice a len cap, .int .i64 n] w fun e w' =>
  e = .returned (.func (.func g) #[] #[.pointer (some ⟨w.heap.size, 0, none⟩), .pointer (some ⟨w.heap.size + 1, 0, none⟩)]) ∧ w' = (w.alloc (.cells #[.slice a len cap] t1)).alloc (.cells #[.int .i64 n] t2)
theorem chunk_ac {P : Program} {f g : FuncId} {t1 t2 : TypeId} (h : ChunkOk P f g t1 t2) {e : Ty} {xs : List e.den} {n : Int} (hn : 0 < n) (S : AHeap) :
  AC P f [eS e.lay xs, .lit (.int .i64 n)] S fun r S' => r = .ret (.fn (.func g) [] [.rptr .perm [eS e.lay xs], .rptr .perm [.lit (.int .i64 n)]]) ∧ S' = S := by
 refine ⟨h.ent, fun K w vs hs hv => ?_⟩
 obtain ⟨l⟩ := vs
 cases l with
 | nil => simp [SimL] at hv
 | cons v1 l =>
 cases l with
 | nil => simp [SimL] at hv
 | cons v2 l =>
 cases l with
 | cons => simp [SimL] at hv
 | nil =>
 simp only [SimL, and_true] at hv
 obtain ⟨h1, h2⟩ := hv
 have h1' := h1
 simp only [eS, SimV] at h1 h2
 obtain ⟨a, len, cap, rfl, -⟩ := h1
 subst h2
 refine (h.run a len cap n w hn).mono ?_
 rintro e' w' ⟨rfl, rfl⟩
 obtain ⟨k1, s1, c1⟩ := hs.newPerm (cs := [eS e.lay xs]) (vs := #[.slice a len cap]) (t := t1) (by simp only [SimL, and_true]; exact h1') K.dmax
 obtain ⟨k2, s2, c2⟩ := s1.newPerm (cs := [.lit (.int .i64 n)]) (vs := #[.int .i64 n]) (t := t2) (by simp [SimL, SimV]) K.dmax
 have hsz : (w.alloc (.cells #[.slice a len cap] t1)).heap.size = w.heap.size + 1 := World.size_alloc w _
 refine ⟨_, S, _, ?_, ⟨rfl, rfl⟩, k1.trans k2, s2, ?_, fun n _ h => h⟩
 ·simp only [SimE, SimV]
  refine ⟨_, _, rfl, by simp [SimL], ?_⟩
  simp only [SimL, SimV, and_true]
  exact ⟨⟨_, _, rfl, c1.mono k2⟩, _, _, by rw [hsz], c2⟩
 ·exact ((Below.refl K.low w).alloc hs.low _).alloc (by rw [hsz]; have := hs.low; omega) _
abbrev chunkPat (e : Ty) : Pat := ⟨[(0, .one (.pl (.list e))), (1, .one (.pl (.int .i64)))], [], 0⟩
def calChunk {P : Program} {Φ : Nat → FuncId × List AV × List AV} {f g : FuncId} {t1 t2 : TypeId} (h : ChunkOk P f g t1 t2) (e : Ty) : Cal P Φ f id where
 run F as st k := match decA (chunkPat e) (st.H F) as with
  | some x => gdd (0 < x.2.1) fun _ => k (.fn (.func g) [] [.rp .perm [.sl .perm e x.1], .rp .perm [.lit (.int .i64 x.2.1)]]) st
  | none => none
 touch _ _ := []
 pur H as k := match decA (chunkPat e) H as with
  | some x => gdd (0 < x.2.1) fun _ => k (.fn (.func g) [] [.rp .perm [.sl .perm e x.1], .rp .perm [.lit (.int .i64 x.2.1)]])
  | none => none
 pur_ok := by
  intro A H ν as k r hν hr
  split at hr
  ·rename_i x hx
   obtain ⟨hn, hr⟩ := gdd_some hr
   refine ⟨_, hr, fun S => ?_⟩
   have := (chunk_ac h (e := e) (xs := x.1) hn S).args (as := avl ν H as) (decA_ok hx rfl rfl ν)
   simpa only [SV.av, avl, avs, OwnI.of, eS, id] using this
  ·exact nomatch hr
 ok := by
  intro A pr df S0 F st ν d as k r kv kp hν hok hr hk
  split at hr
  ·rename_i x hx
   obtain ⟨hn, hr⟩ := gdd_some hr
   refine ⟨_, _, _, GhostL.refl, ?_⟩
   have := (chunk_ac h (e := e) (xs := x.1) hn (heapOf ν F st S0)).args (as := avl ν (st.H F) as) (decA_ok hx rfl rfl ν)
   refine this.mono ?_
   rintro e S' ⟨rfl, rfl⟩ _
   refine ⟨_, _, _, GhostL.refl, ?_⟩
   have := hk ν _ _ .refl hok hr (fun i => rfl) ⟨fun _ _ _ => rfl, fun n len h => ⟨len, h⟩⟩
   simpa only [SV.av, avl, avs, OwnI.of, eS, id] using this
  ·exact nomatch hr
def GrowOk (P : Program) (f : FuncId) (e : Ty) : Prop := ∀ (S : AHeap) (q : Int), 0 ≤ q → q ≤ 140737488355328 → AC P f [.lit (.slice none 0 0), .lit (.int .i64 q)] S fun r' S' => ∃ m : Name, S m = none ∧ r' = .ret (eT e.lay m []) ∧ S' = S.set m (oT e.lay [])
def calGrow {P : Program} {Φ : Nat → FuncId × List AV × List AV} {f : FuncId} {e : Ty} (h : GrowOk P f e) : Cal P Φ f id where
 run F as st k := match as with
  | [.lit (.slice none 0 0), .lit (.int .i64 q)] => gdd (0 ≤ q ∧ q ≤ 140737488355328) fun _ => match st.new F (.tip true e []) with
   | some (id, st') => k (.cur id) st'
   | none => none
  | _ => none
 touch _ _ := []
 pur _ _ _ := none
 pur_ok := by intro A H ν as k r hν hr; cases hr
 ok := by
  intro A pr df S0 F st ν d as k r kv kp hν hok hr hk
  split at hr
  ·rename_i q
   obtain ⟨hq, hr⟩ := gdd_some hr
   split at hr
   ·rename_i id st' hn
    obtain ⟨rfl, h2, h3, h4, h5, h6, h7, h8, h9⟩ := new_ok hok hn
    refine ⟨_, heapOf ν F st S0, st.nx, GhostL.refl, ?_⟩
    simp only [avl, SV.av, id]
    refine (h (heapOf ν F st S0) q hq.1 hq.2).mono ?_
    rintro _ _ ⟨m, hm, rfl, rfl⟩ -
    have hfree : heapOf ν F st S0 (d, st.nx) = none := by
     unfold heapOf
     rw [hp_miss (f := fun o => o.ob ν (st.H F)) (fun a ha => hok.fr a ha st.nx (Nat.le_refl _))]
     exact hok.none _ hok.low
    have hg : hget (st'.H F) (F.lv, st.nx) = some (.tip true e []) := by rw [SS.H, hget_append, h8]
    have hcur : (SV.cur (F.lv, st.nx)).av ν (st'.H F) = eT e.lay (d, st.nx) [] := by
     simp only [SV.av, curAV, hg, h2, if_true]
    have := hk ν _ st' .refl h5 hr h7 ⟨fun x hx _ => ?_, fun n len hl => ?_⟩
    ·rw [hcur, h6, h3] at this
     refine ⟨eT e.lay (d, st.nx) [], _, st.nx + 1, ?_, this⟩
     intro K w vs hs hv hf
     match vs, hv with
     | [u], hv =>
      simp only [SimL, and_true] at hv
      obtain ⟨K', hk', hd', hp', hs', hu'⟩ := hs.renameTip (D := d) (m := m) (n := (d, st.nx)) (e := ([] : List e.den).length * e.lay.sz) (by simp [AHeap.set, oT]) hv (hf.2 _ (Nat.le_refl _)).1 (hf.2 _ (Nat.le_refl _)).2 (Nat.le_refl _)
      rw [set_del hm] at hs'
      exact ⟨_, ⟨hk', hs', Below.refl _ _, names_new⟩, by simp only [SimL, and_true]; exact hu', fresh_new hf hm hd' hp'⟩
    ·rw [h6]
     simp only [AHeap.set]
     rw [if_neg]
     exact hok.fr x hx st.nx (Nat.le_refl _)
    ·rw [h6]
     simp only [AHeap.set]
     by_cases e1 : n = (d, st.nx)
     ·rw [if_pos e1]; exact ⟨_, rfl⟩
     ·rw [if_neg e1]; exact ⟨len, hl⟩
   ·exact nomatch hr
  ·exact nomatch hr
def CloneOk (P : Program) (f : FuncId) (e : Ty) (b : Nat) : Prop := ∀ (S : AHeap) (xs : List e.den), xs.length * b ≤ 140737488355328 ∧ xs.length < 9223372036854775808 → AC P f [eS e.lay xs] S fun r' S' => r' = .ret (eS e.lay xs) ∧ S' = S
abbrev clonePat (e : Ty) : Pat := ⟨[(0, .one (.pl (.list e)))], [], 0⟩
def calClone {P : Program} {Φ : Nat → FuncId × List AV × List AV} {f : FuncId} {e : Ty} {b : Nat} (h : CloneOk P f e b) : Cal P Φ f id where
 run F as st k := match decA (clonePat e) (st.H F) as with
  | some x => gdd (x.1.length * b ≤ 140737488355328 ∧ x.1.length < 9223372036854775808) fun _ => k (.sl .perm e x.1) st
  | none => none
 touch _ _ := []
 pur H as k := match decA (clonePat e) H as with
  | some x => gdd (x.1.length * b ≤ 140737488355328 ∧ x.1.length < 9223372036854775808) fun _ => k (.sl .perm e x.1)
  | none => none
 pur_ok := by
  intro A H ν as k r hν hr
  split at hr
  ·rename_i x hx
   obtain ⟨hn, hr⟩ := gdd_some hr
   refine ⟨_, hr, fun S => ?_⟩
   have := (h S x.1 hn).args (as := avl ν H as) (decA_ok hx rfl rfl ν)
   simpa only [SV.av, avl, avs, OwnI.of, eS, id] using this
  ·exact nomatch hr
 ok := by
  intro A pr df S0 F st ν d as k r kv kp hν hok hr hk
  split at hr
  ·rename_i x hx
   obtain ⟨hn, hr⟩ := gdd_some hr
   refine ⟨_, _, _, GhostL.refl, ?_⟩
   have := (h (heapOf ν F st S0) x.1 hn).args (as := avl ν (st.H F) as) (decA_ok hx rfl rfl ν)
   refine this.mono ?_
   rintro e S' ⟨rfl, rfl⟩ _
   refine ⟨_, _, _, GhostL.refl, ?_⟩
   have := hk ν _ _ .refl hok hr (fun i => rfl) ⟨fun _ _ _ => rfl, fun n len h => ⟨len, h⟩⟩
   simpa only [SV.av, avl, avs, OwnI.of, eS, id] using this
  ·exact nomatch hr
def CloneBOk (P : Program) (f : FuncId) (e : Ty) (b : Nat) : Prop := ∀ (S : AHeap) (o : Own) (xs : List e.den), o.alive S → xs.length * b ≤ 140737488355328 ∧ xs.length < 9223372036854775808 →
 AC P f [.slice o e.lay.sz (flat e.lay xs)] S fun r' S' => ∃ m : Name, S m = none ∧ r' = .ret (eB e.lay m xs) ∧ S' = S.set m (oT e.lay xs)
theorem cloneOk_of {P : Program} {f : FuncId} {e : Ty} {b : Nat} (h : CloneBOk P f e b) : CloneOk P f e b := by
 intro S xs hx
 obtain ⟨h1, h2⟩ := h S .perm xs trivial hx
 refine ⟨h1, fun K w vs hs hv => (h2 K w vs hs hv).mono ?_⟩
 rintro e' w' ⟨r, S', K', k1, ⟨m, m1, rfl, rfl⟩, k3⟩
 cases e' <;> try exact k1.elim
 rename_i v
 have k1 : SimV K' (eB e.lay m xs) v := k1
 have hm : (S.set m (oT e.lay xs)) m = some (.buf (xs.length * e.lay.sz)) := if_pos rfl
 obtain ⟨K2, a1, a2, a3, a4, a5⟩ := (k3.sat.hold hm k1).freeze K.dmax
 have hd : (S.set m (oT e.lay xs)).del m = S := by
  funext n
  simp only [AHeap.set, AHeap.del]
  split
  ·rename_i e; rw [e, m1]
  ·rfl
 rw [hd] at a4
 exact ⟨.ret (eS e.lay xs), S, K2, a5, ⟨rfl, rfl⟩, ⟨k3.le.trans a1, a4, k3.below, fun _ _ h => h⟩⟩
def svw (e : Ty) (H : SHp) (x : SV) : Option (OwnI × List e.den) :=
 match (Ty.list e).pk H [x] with
 | some (xs, []) => some (.perm, xs)
 | _ => match lview H x with
  | some (o, ⟨e', xs⟩) => if h : e' = e then if o.alive H then some (o, h ▸ xs) else none else none
  | none => none
theorem svw_ok {e : Ty} {H : SHp} {x : SV} {o : OwnI} {xs : List e.den} {ν : Nm} {S : AHeap} (hS : HOk ν H S) (hx : x.isVec = false) (h : svw e H x = some (o, xs)) : Sub (x.av ν H) (.slice (o.of ν) e.lay.sz (flat e.lay xs)) ∧ (o.of ν).alive S := by
 unfold svw at h
 split at h
 ·rename_i ys hp
  cases h
  obtain ⟨u, e1, e2⟩ := Ty.pk_sub (ν := ν) hp
  rw [List.append_nil] at e1; subst e1
  rw [avs_one hx, avs_nil] at e2
  cases e2 with
  | cons h1 _ => exact ⟨h1, trivial⟩
 ·split at h <;> try (cases h; done)
  rename_i o' e' ys hl
  split at h <;> try (cases h; done)
  rename_i he
  subst he
  split at h <;> try (cases h; done)
  rename_i ha
  cases h
  rw [lview_av hl]
  exact ⟨Sub.refl, OwnI.alive_of hS ha⟩
def calCloneB {P : Program} {Φ : Nat → FuncId × List AV × List AV} {f : FuncId} {e : Ty} {b : Nat} (h : CloneBOk P f e b) : Cal P Φ f id where
 run F as st k := match as with
  | [x] => if x.isVec then none else match svw e (st.H F) x with
   | some (_, xs) => gdd (xs.length * b ≤ 140737488355328 ∧ xs.length < 9223372036854775808) fun _ => match st.new F (.tip false e xs) with
    | some (id, st') => k (.cur id) st'
    | none => none
   | none => none
  | _ => none
 touch _ _ := []
 pur _ _ _ := none
 pur_ok := by intro A H ν as k r hν hr; cases hr
 ok := by
  intro A pr df S0 F st ν d as k r kv kp hν hok hr hk
  split at hr
  ·rename_i x
   split at hr
   ·exact nomatch hr
   rename_i hx
   split at hr
   ·rename_i o xs hv
    obtain ⟨hq, hr⟩ := gdd_some hr
    split at hr
    ·rename_i id st' hn
     obtain ⟨h1, h10⟩ := svw_ok hok.hok (by simpa using hx) hv
     obtain ⟨rfl, h2, h3, h4, h5, h6, h7, h8, h9⟩ := new_ok hok hn
     refine ⟨_, heapOf ν F st S0, st.nx, GhostL.refl, ?_⟩
     have hargs := (h (heapOf ν F st S0) (o.of ν) xs h10 hq).args (as := avl ν (st.H F) [x]) (by rw [avl_cons]; simp only [avl]; exact .cons h1 .nil)
     refine hargs.mono ?_
     rintro _ _ ⟨m, hm, rfl, rfl⟩ -
     have hfree : heapOf ν F st S0 (d, st.nx) = none := by
      unfold heapOf
      rw [hp_miss (f := fun o => o.ob ν (st.H F)) (fun a ha => hok.fr a ha st.nx (Nat.le_refl _))]
      exact hok.none _ hok.low
     have hg : hget (st'.H F) (F.lv, st.nx) = some (.tip false e xs) := by rw [SS.H, hget_append, h8]
     have hcur : (SV.cur (F.lv, st.nx)).av ν (st'.H F) = eB e.lay (d, st.nx) xs := by
      simp only [SV.av, curAV, hg, h2]
     have := hk ν _ st' .refl h5 hr h7 ⟨fun x hx _ => ?_, fun n len hl => ?_⟩
     ·rw [hcur, h6, h3] at this
      refine ⟨eB e.lay (d, st.nx) xs, _, st.nx + 1, ?_, this⟩
      intro K w vs hs hv hf
      match vs, hv with
      | [u], hv =>
       simp only [SimL, and_true] at hv
       have hh := hs.hold (m := m) (by simp [AHeap.set, oT]) hv
       rw [set_del hm] at hh
       obtain ⟨K', k1, k2, k3, k4, k5⟩ := hh.buf (D := d) (hf.2 st.nx (Nat.le_refl _)).1 hfree (Nat.le_refl _)
       rw [flat_length] at k4 k5
       exact ⟨_, ⟨k1, k4, Below.refl _ _, names_new⟩, by simp only [SimL, and_true]; exact k5, fresh_new hf hm k2 k3⟩
     ·rw [h6]
      simp only [AHeap.set]
      rw [if_neg]
      exact hok.fr x hx st.nx (Nat.le_refl _)
     ·rw [h6]
      simp only [AHeap.set]
      by_cases e1 : n = (d, st.nx)
      ·rw [if_pos e1]; exact ⟨_, rfl⟩
      ·rw [if_neg e1]; exact ⟨len, hl⟩
    ·exact nomatch hr
   ·exact nomatch hr
  ·exact nomatch hr
end Go.Al
