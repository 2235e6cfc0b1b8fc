/- The contract of conf.Ids; conditions: fewer than 100 roles or so, as stated. -/
import Derived.Test.YtejlgalnkblndaaPr7
namespace Go.Proofs.Ytejlgalnkblndaa
open Go Go.Al
set_option maxRecDepth 10000
set_option linter.unusedSimpArgs false
set_option linter.unusedVariables false
def idcells (ids : List (Int × Int)) : List AV := ids.flatMap fun p => [I p.1, I p.2]
def OutIs (S0 S : AHeap) (v : AV) (ids : List (Int × Int)) : Prop := (ids = [] ∧ v = .lit (.slice none 0 0)) ∨ ∃ m, v = .slice (.buf m (2 * ids.length)) 2 (idcells ids) ∧ S m = some (.buf (2 * ids.length)) ∧ S0 m = none
def Cf.of (c : Cf) (role : Int) (k : Nat) : List (Int × Int) := (List.range k).map fun (n : Nat) => (role, (n : Int))
def Cf.ids (c : Cf) (roles : List Int) : List (Int × Int) := roles.flatMap fun r => c.of r (c.count r).toNat
theorem less_swap {S : AHeap} {a n : Name} {x o : AObj} (ha : S a = none) : Less (S.set n o) ((S.set a x).set n o) := by
  intro m q hm
  simp only [AHeap.set] at hm ⊢
  split at hm
  · rename_i e; rw [if_pos e]; exact hm
  · rename_i e
    rw [if_neg e, if_neg]
    · exact hm
    · rintro rfl; rw [ha] at hm; cases hm
theorem less_set' {A S : AHeap} (h : Less A S) {n : Name} (hn : A n = none) (o : AObj) : Less A (S.set n o) := by
  intro m q hm
  simp only [AHeap.set]
  rw [if_neg (by rintro rfl; rw [hn] at hm; cases hm)]
  exact h m q hm
theorem idcells_len (L : List (Int × Int)) : (idcells L).length = 2 * L.length := by
  induction L with
  | nil => rfl
  | cons p L ih => simp only [idcells, List.flatMap_cons, List.length_append, List.length_cons, List.length_nil] at ih ⊢; omega
theorem idcells_snoc (L : List (Int × Int)) (p : Int × Int) : idcells (L ++ [p]) = idcells L ++ [I p.1, I p.2] := by
  simp [idcells]
theorem Cf.of_succ (c : Cf) (role : Int) (k : Nat) : c.of role (k + 1) = c.of role k ++ [(role, (k : Int))] := by
  simp [Cf.of, List.range_succ]
theorem Cf.ids_len (c : Cf) : ∀ (rs : List Int), (c.ids rs).length ≤ 8 * rs.length
  | [] => by simp [Cf.ids]
  | r :: rs => by
    have ih := c.ids_len rs
    have := c.count_bounds r
    simp only [Cf.ids, List.flatMap_cons, List.length_append, Cf.of, List.length_map, List.length_range, List.length_cons] at ih ⊢
    omega
theorem ids_ac (S : AHeap) (own own2 : Own) (c : Cf) (roles : List Int) (ha : own.alive S) (ha2 : own2.alive S) (hlen : roles.length < 2 ^ 30) :
    AC Try.prog n_conf_Ids [c.av own, .slice own2 1 (roles.map I)] S fun r S' => ∃ v, r = .ret v ∧ OutIs S S' v (c.ids roles) ∧ Less S S' := by
  refine AC_of tok mixed fits_conf_Ids fun d hd => ?_
  unfold c_conf_Ids
  have h0 : S (d, 0) = none := hd _ (Nat.le_refl _)
  simp [go_sem, Cf.av]
  refine LW_seq_reg fun k hk => ?_
  simp (maxSteps := 1000000) [go_sem, Cf.av]
  refine hk _ _ _ ?_
  clear hk k
  simp (maxSteps := 1000000) [go_sem, Cf.av]
  refine LW_seq_reg fun k hk => ?_
  simp (maxSteps := 1000000) [go_sem]
  refine hk _ _ _ ?_
  clear hk k
  simp (maxSteps := 1000000) [go_sem]
  refine LW_seq (LW_seq_reg fun k hk => ?_)
  simp [go_sem]
  refine hk _ _ _ ?_
  clear hk k
  simp [go_sem]
  have hbx : ∃ bx, bx = AObj.box [I c.u, I c.r, I c.p, I c.w, I c.e, I c.t, AV.slice own 1 (List.map (fun b => AV.lit (Value.int IntKind.u8 b)) c.s)] := ⟨_, rfl⟩
  obtain ⟨bx, hbx⟩ := hbx
  rw [← hbx]
  have hS0 : ∀ {S1 : AHeap}, Less (S.set (d, 0) bx) S1 → Less S S1 := fun h => ((Less.refl S).set h0 bx).trans h
  refine LW_block (LW_loop (fun n sl S' => ∃ (i : Nat) (out : AV), n = roles.length - i ∧ i ≤ roles.length ∧
      sl = [(2, .ptr (d, 0) 0), (5, out), (9, .slice own2 1 (roles.map I)), (10, I roles.length), (11, I i)] ∧ Less (S.set (d, 0) bx) S' ∧ OutIs (S.set (d, 0) bx) S' out (c.ids (roles.take i))) _
    ⟨0, .lit (.slice none 0 0), rfl, by omega, rfl, Less.refl _, .inl ⟨rfl, rfl⟩⟩ ?_)
  rintro n sl S1 d1 hdd hf1 ⟨i, out, rfl, hi, rfl, hL1, hO1⟩
  refine LW_seq_reg fun k hk => ?_
  simp (maxSteps := 1000000) [go_sem]
  refine hk _ _ _ ?_
  clear hk k
  simp (maxSteps := 1000000) [go_sem]
  by_cases hlt : i < roles.length
  case neg =>
    refine LW_seq (LW_cond (b := false) (by simp [go_sem]; omega) (fun h => by cases h) (fun h => LW_exit ?_))
    simp [go_sem]
    refine LW_seq_reg fun k hk => ?_
    simp (maxSteps := 1000000) [go_sem]
    refine hk _ _ _ ?_
    clear hk k
    simp (maxSteps := 1000000) [go_sem]
    refine LW_ret ?_
    simp [go_sem, FPost]
    refine ⟨S1, Less.refl _, ?_, hS0 hL1⟩
    have : roles.take i = roles := List.take_of_length_le (by omega)
    rw [this] at hO1
    rcases hO1 with h | ⟨m, h1, h2, h3⟩
    · exact .inl h
    · refine .inr ⟨m, h1, h2, ?_⟩
      simp only [AHeap.set] at h3
      split at h3
      · cases h3
      · exact h3
  refine LW_seq (LW_cond (b := true) (by simp [go_sem]; omega) (fun h => LW_skip ?_) (fun h => by cases h))
  simp [go_sem]
  have e0 := hd1 (xs := roles) (i := i) hlt
  have etake : c.ids (roles.take (i + 1)) = c.ids (roles.take i) ++ c.of (roles.getD i 0) (c.count (roles.getD i 0)).toNat := by
    have et : roles.take (i + 1) = roles.take i ++ [roles.getD i 0] := by
      rw [List.take_add_one, List.getElem?_eq_getElem hlt, List.getD_eq_getElem?_getD, List.getElem?_eq_getElem hlt]; rfl
    rw [et]
    simp only [Cf.ids, List.flatMap_append, List.flatMap_cons, List.flatMap_nil, List.append_nil]
  generalize roles.getD i 0 = role at e0 etake
  have hb1 : S1 (d, 0) = some (AObj.box [I c.u, I c.r, I c.p, I c.w, I c.e, I c.t, AV.slice own 1 (List.map (fun b => AV.lit (Value.int IntKind.u8 b)) c.s)]) := by
    rw [← hbx]; exact hL1 _ _ (by simp [AHeap.set])
  have hal2 : ∀ {S1 : AHeap}, Less (S.set (d, 0) bx) S1 → ∀ {ow : Own}, ow.alive S → ow.alive S1 := by
    intro S1 hL ow ha
    cases ow with
    | perm => exact trivial
    | buf m e => obtain ⟨len, hn⟩ := ha; exact ⟨len, hS0 hL _ _ hn⟩
  refine LW_seq (LW_block (LW_seq_reg fun k hk => ?_))
  simp (maxSteps := 1000000) [go_sem, e0]
  refine ⟨hlt, ⟨by omega, hal2 hL1 ha2⟩, hk _ _ _ ?_⟩
  clear hk k
  simp [go_sem]
  refine LW_seq_reg fun k hk => ?_
  simp (maxSteps := 1000000) [go_sem, hb1]
  refine (count_ac _ own c role (hal2 hL1 ha)).mono ?_
  rintro _ _ ⟨rfl, rfl⟩
  simp (maxSteps := 1000000) [go_sem]
  refine hk _ _ _ ?_
  clear hk k
  simp [go_sem]
  have hcb := c.count_bounds role
  obtain ⟨cnt, hcnt⟩ : ∃ k : Nat, c.count role = k := ⟨(c.count role).toNat, by omega⟩
  rw [hcnt] at etake ⊢
  simp only [Int.toNat_natCast] at etake
  refine LW_block (LW_loop (fun n sl S2 => ∃ (j : Nat) (out : AV), n = cnt - j ∧ j ≤ cnt ∧
      sl = [(2, .ptr (d, 0) 0), (5, out), (9, .slice own2 1 (roles.map I)), (10, I roles.length), (11, I i), (7, I role), (17, I cnt), (18, I j)] ∧ Less (S.set (d, 0) bx) S2 ∧ OutIs (S.set (d, 0) bx) S2 out (c.ids (roles.take i) ++ c.of role j)) _
    ⟨0, out, rfl, by omega, rfl, hL1, by simpa [Cf.of] using hO1⟩ ?_)
  rintro n sl S2 d2 hdd2 hf2 ⟨j, out2, rfl, hj, rfl, hL2, hO2⟩
  refine LW_seq_reg fun k hk => ?_
  simp (maxSteps := 1000000) [go_sem]
  refine hk _ _ _ ?_
  clear hk k
  simp (maxSteps := 1000000) [go_sem]
  by_cases hlt2 : j < cnt
  case neg =>
    refine LW_seq (LW_cond (b := false) (by simp [go_sem]; omega) (fun h => by cases h) (fun h => LW_exit ?_))
    simp [go_sem]
    refine LW_reg fun k hk => ?_
    simp (maxSteps := 1000000) [go_sem]
    refine hk _ _ _ ?_
    clear hk k
    simp (maxSteps := 1000000) [go_sem]
    have : j = cnt := by omega
    subst this
    have wi : IntKind.i64.wrap (↑i + 1) = ((i + 1 : Nat) : Int) := by rw [wrap64 (by omega) (by omega)]; rfl
    refine ⟨_, ?_, S2, Less.refl _, i + 1, rfl, hlt, out2, ⟨rfl, wi⟩, hL2, by rw [etake]; exact hO2⟩
    omega
  refine LW_seq (LW_cond (b := true) (by simp [go_sem]; omega) (fun h => LW_skip ?_) (fun h => by cases h))
  simp [go_sem]
  refine LW_seq (LW_block ?_)
  refine LW_seq_reg fun k hk => ?_
  simp (maxSteps := 1000000) [go_sem]
  refine hk _ _ _ ?_
  clear hk k
  simp (maxSteps := 1000000) [go_sem]
  refine LW_reg fun k hk => ?_
  have hlen2 : (c.ids (roles.take i) ++ c.of role j).length ≤ 8 * roles.length + 8 := by
    have := c.ids_len (roles.take i)
    simp only [List.length_append, Cf.of, List.length_map, List.length_range, List.length_take] at this ⊢
    omega
  have hnext : c.ids (roles.take i) ++ c.of role (j + 1) = (c.ids (roles.take i) ++ c.of role j) ++ [(role, (j : Int))] := by rw [Cf.of_succ, List.append_assoc]
  have wj : IntKind.i64.wrap (↑j + 1) = ((j + 1 : Nat) : Int) := by rw [wrap64 (by omega) (by omega)]; rfl
  have hd0 : S2 (d2, 0) = none := hf2 _ (Nat.le_refl _)
  have hd1 : S2 (d2, 1) = none := hf2 _ (Nat.le_refl _)
  generalize c.ids (roles.take i) ++ c.of role j = L at hO2 hlen2 hnext
  rcases hO2 with ⟨rfl, rfl⟩ | ⟨m, rfl, hm, hm0⟩
  · simp (maxSteps := 1000000) [go_sem]
    refine hk _ _ _ ?_
    clear hk k
    simp [go_sem]
    refine LW_reg fun k hk => ?_
    simp (maxSteps := 1000000) [go_sem]
    refine hk _ _ _ ?_
    clear hk k
    simp (maxSteps := 1000000) [go_sem]
    refine ⟨cnt - (j + 1), by omega, S2.set (d2, 1) (.buf 2), less_swap hd0, j + 1, rfl, hlt2, _, ⟨rfl, wj⟩, hL2.set hd1 _, ?_⟩
    rw [hnext]
    exact .inr ⟨(d2, 1), rfl, by simp [AHeap.set], hL2.none hd1⟩
  · have hmne : ¬ m = (d2, 0) := by rintro rfl; rw [hd0] at hm; cases hm
    simp (maxSteps := 1000000) [go_sem, hm, hmne]
    refine ⟨by rw [idcells_len]; omega, by rw [idcells_len]; omega, hk _ _ _ ?_⟩
    clear hk k
    simp [go_sem]
    refine LW_reg fun k hk => ?_
    simp (maxSteps := 1000000) [go_sem]
    refine hk _ _ _ ?_
    clear hk k
    simp (maxSteps := 1000000) [go_sem]
    refine ⟨cnt - (j + 1), by omega, S2.set m (.buf (2 * L.length + 2)), less_swap hd0, j + 1, rfl, hlt2, _, ⟨rfl, wj⟩, less_set' hL2 hm0 _, ?_⟩
    rw [hnext]
    refine .inr ⟨m, ?_, ?_, hm0⟩
    · rw [idcells_snoc, List.length_append]; rfl
    · simp [AHeap.set]; omega
end Go.Proofs.Ytejlgalnkblndaa
