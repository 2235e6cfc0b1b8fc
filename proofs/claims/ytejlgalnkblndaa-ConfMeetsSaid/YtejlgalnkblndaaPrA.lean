/- The contract of ConfMeets: it answers true at every configuration; conditions: none. -/
import Derived.Test.YtejlgalnkblndaaPr9
namespace Go.Proofs.Ytejlgalnkblndaa
open Go Go.Al
set_option maxRecDepth 10000
set_option linter.unusedSimpArgs false
set_option linter.unusedVariables false
theorem Cf.ids_bad {c : Cf} (h : c.ok = false) : ∀ rs, c.ids rs = []
  | [] => rfl
  | r :: rs => by
    have := Cf.ids_bad h rs
    simp [Cf.ids, Cf.of, Cf.count, h] at this ⊢
theorem meets_ac (c : Cf) : AC Try.prog n_stanchionlaw06_ConfMeets [c.av .perm] (fun _ => none) fun r _ => r = .ret (B true) := by
  refine AC_of tok mixed fits_stanchionlaw06_ConfMeets fun d hd => ?_
  unfold c_stanchionlaw06_ConfMeets
  simp [go_sem, Cf.av]
  refine LW_seq_reg fun k hk => ?_
  simp (maxSteps := 1000000) [go_sem, Cf.av]
  refine hk _ _ _ ?_
  clear hk k
  simp (maxSteps := 1000000) [go_sem, Cf.av]
  refine LW_seq (LW_seq_reg fun k hk => ?_)
  simp [go_sem]
  refine (alive_ac _).mono ?_
  rintro _ _ ⟨rfl, rfl⟩
  simp [go_sem]
  refine hk _ _ _ ?_
  clear hk k
  simp [go_sem]
  refine LW_cond (b := false) (by simp [go_sem]) (fun h => by cases h) (fun h => LW_skip ?_)
  simp [go_sem]
  refine LW_seq (LW_seq_reg fun k hk => ?_)
  simp [go_sem]
  refine (check_ac _ .perm c trivial).mono ?_
  rintro _ _ ⟨rfl, rfl⟩
  simp [go_sem]
  refine hk _ _ _ ?_
  clear hk k
  simp [go_sem]
  cases hok : c.ok with
  | false =>
    refine LW_cond (b := true) (by simp [go_sem]) (fun h => ?_) (fun h => by cases h)
    refine LW_seq_reg fun k hk => ?_
    simp (maxSteps := 1000000) [go_sem]
    refine (quorum_ac _ .perm c trivial).mono ?_
    rintro _ _ ⟨rfl, rfl⟩
    simp (maxSteps := 1000000) [go_sem, hok]
    refine (proof_ac _ .perm c trivial).mono ?_
    rintro _ _ ⟨rfl, rfl⟩
    simp (maxSteps := 1000000) [go_sem, hok]
    refine (ids_ac _ .perm (.buf (d, 1) 4) c [1, 2, 3, 4] trivial ⟨4, by simp [AHeap.set]⟩ (by decide)).mono ?_
    rintro _ S' ⟨v, rfl, hv, hL⟩
    rw [Cf.ids_bad hok] at hv
    rcases hv with ⟨_, rfl⟩ | ⟨m, rfl, h1, _⟩
    · simp (maxSteps := 1000000) [go_sem]
      refine hk _ _ _ (LW_ret ?_)
      clear hk
      simp [go_sem, FPost]
      exact ⟨_, Less.refl _⟩
    · simp (maxSteps := 1000000) [go_sem, idcells_len]
      refine hk _ _ _ (LW_ret ?_)
      clear hk
      simp [go_sem, FPost]
      exact ⟨_, Less.refl _⟩
  | true =>
    have hb := Cf.bounds hok
    refine LW_cond (b := false) (by simp [go_sem]) (fun h => by cases h) (fun h => LW_skip ?_)
    simp [go_sem]
    refine LW_seq_reg fun k hk => ?_
    simp (maxSteps := 1000000) [go_sem]
    refine (quorum_ac _ .perm c trivial).mono ?_
    rintro _ _ ⟨rfl, rfl⟩
    simp (maxSteps := 1000000) [go_sem, hok]
    refine hk _ _ _ ?_
    clear hk k
    simp [go_sem]
    refine LW_seq_reg fun k hk => ?_
    simp (maxSteps := 1000000) [go_sem]
    refine (proof_ac _ .perm c trivial).mono ?_
    rintro _ _ ⟨rfl, rfl⟩
    simp (maxSteps := 1000000) [go_sem, hok]
    refine hk _ _ _ ?_
    clear hk k
    simp [go_sem]
    refine LW_seq (LW_seq_reg fun k hk => ?_)
    simp [go_sem]
    refine hk _ _ _ ?_
    clear hk k
    simp [go_sem]
    generalize hH : AHeap.set (fun x => none) (d, 0) _ = Hp
    have hH0 : Hp (d, 0) = some (AObj.box [I c.u, I c.r, I c.p, I c.w, I c.e, I c.t, AV.slice .perm 1 (List.map (fun b => AV.lit (Value.int IntKind.u8 b)) c.s)]) := by rw [← hH]; simp [AHeap.set]
    refine LW_block (LW_loop (fun n sl S' => ∃ (i : Nat), n = 3 - i ∧ 1 ≤ i ∧ i ≤ 3 ∧ sl = [(1, .ptr (d, 0) 0), (3, I (c.u + c.r + 1)), (4, I (c.r + 1)), (5, I i)] ∧ S' = Hp) _ ⟨1, rfl, by omega, by omega, rfl, rfl⟩ ?_)
    rintro n sl S' d1 hdd hf1 ⟨i, rfl, hi1, hi3, rfl, rfl⟩
    refine LW_seq ?_
    refine LW_seq_reg fun k hk => ?_
    simp (maxSteps := 1000000) [go_sem]
    refine hk _ _ _ ?_
    clear hk k
    simp (maxSteps := 1000000) [go_sem]
    by_cases hi : i ≤ 2
    · refine LW_cond (b := true) (by simp [go_sem]; omega) (fun h => LW_skip ?_) (fun h => by cases h)
      simp [go_sem]
      refine LW_seq (LW_block (LW_seq_reg fun k hk => ?_))
      simp (maxSteps := 1000000) [go_sem, hH0]
      refine (count_ac _ .perm c i trivial).mono ?_
      rintro _ _ ⟨rfl, rfl⟩
      simp (maxSteps := 1000000) [go_sem]
      refine hk _ _ _ ?_
      clear hk k
      simp [go_sem]
      have hc : c.count i = 2 * c.u + c.r + 1 := by
        have : (i : Int) = 1 ∨ (i : Int) = 2 := by omega
        simp [Cf.count, hok, this]
      have w1 : IntKind.i64.wrap (2 * (c.u + c.r + 1)) = 2 * (c.u + c.r + 1) := wrap64 (by omega) (by omega)
      have w2 : IntKind.i64.wrap (2 * (c.u + c.r + 1) - c.count i) = 2 * (c.u + c.r + 1) - c.count i := wrap64 (by omega) (by omega)
      have w3 : IntKind.i64.wrap (c.count i - c.u) = c.count i - c.u := wrap64 (by omega) (by omega)
      refine LW_seq_reg fun k hk => ?_
      simp (maxSteps := 1000000) [go_sem, w1, w2, w3, hH0]
      refine ⟨fun h => hk _ _ _ ?_, fun h => by omega⟩
      clear hk
      simp [go_sem]
      refine LW_cond (b := false) (by simp [go_sem]; omega) (fun h => by cases h) (fun h => LW_skip ?_)
      simp [go_sem]
      refine LW_reg fun k hk => ?_
      simp (maxSteps := 1000000) [go_sem]
      refine hk _ _ _ ?_
      clear hk k
      simp (maxSteps := 1000000) [go_sem]
      refine ⟨3 - (i + 1), by omega, _, Less.refl _, i + 1, rfl, by omega, by omega, ?_, rfl⟩
      rw [wrap64 (by omega) (by omega)]; rfl
    · refine LW_cond (b := false) (by simp [go_sem]; omega) (fun h => by cases h) (fun h => LW_exit ?_)
      simp [go_sem]
      have hc : c.count 3 = c.u + c.r + 1 := by simp [Cf.count, hok]
      refine LW_seq_drw fun k hk => ?_
      simp (maxSteps := 1000000) [go_sem, hH0]
      refine (count_ac _ .perm c 3 trivial).mono ?_
      rintro _ _ ⟨rfl, rfl⟩
      have w4 : IntKind.i64.wrap (c.count 3 - c.u) = c.r + 1 := by rw [wrap64 (by omega) (by omega)]; omega
      have w5 : IntKind.i64.wrap (c.u + c.r + 1 - c.r) = c.u + 1 := by rw [wrap64 (by omega) (by omega)]; omega
      have w6 : IntKind.i64.wrap (c.u + 1) = c.u + 1 := wrap64 (by omega) (by omega)
      have w7 : IntKind.i64.wrap (c.r + 1 - c.r) = 1 := by rw [wrap64 (by omega) (by omega)]; omega
      simp (maxSteps := 1000000) [go_sem, hH0, Keep.ok, w4, w5, w6, w7]
      refine hk _ _ _ (LW_ret ?_)
      clear hk
      simp [go_sem, FPost]
      exact ⟨_, Less.refl _⟩
end Go.Proofs.Ytejlgalnkblndaa
