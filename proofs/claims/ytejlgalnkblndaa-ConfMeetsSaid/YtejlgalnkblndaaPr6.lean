/- The contract of conf.Count; conditions: none. -/
import Derived.Test.YtejlgalnkblndaaPr5
namespace Go.Proofs.Ytejlgalnkblndaa
open Go Go.Al
set_option maxRecDepth 10000
set_option linter.unusedSimpArgs false
set_option linter.unusedVariables false
theorem Cf.bounds {c : Cf} (h : c.ok = true) : (0 ≤ c.u ∧ c.u ≤ 2) ∧ (0 ≤ c.r ∧ c.r ≤ c.u) ∧ (1 ≤ c.p ∧ c.p ≤ 8) ∧ (1 ≤ c.w ∧ c.w ≤ 8) ∧ (1 ≤ c.e ∧ c.e ≤ c.w) ∧ (1 ≤ c.t ∧ c.t ≤ 1000) ∧ c.s.length ≤ 64 := by
  simp [Cf.ok, Cf.nums, btw] at h
  omega
def Cf.count (c : Cf) (role : Int) : Int := if c.ok then (if role = 1 ∨ role = 2 then 2 * c.u + c.r + 1 else if role = 3 then c.u + c.r + 1 else if role = 4 then c.p else 0) else 0
theorem count_ac (S : AHeap) (own : Own) (c : Cf) (role : Int) (ha : own.alive S) :
    AC Try.prog n_conf_Count [c.av own, I role] S fun r S' => r = .ret (I (c.count role)) ∧ S' = S := by
  refine AC_of tok mixed fits_conf_Count fun d hd => ?_
  unfold c_conf_Count
  have h0 : S (d, 0) = none := hd _ (Nat.le_refl _)
  have hL : ∀ (x : AObj), Less S (S.set (d, 0) x) := fun x => (Less.refl S).set h0 x
  have hal : ∀ x, own.alive (S.set (d, 0) x) := by
    intro x
    cases own with
    | perm => exact trivial
    | buf n e =>
      obtain ⟨len, hn⟩ := ha
      refine ⟨len, ?_⟩
      simp only [AHeap.set]
      rw [if_neg]; exact hn
      rintro rfl; rw [h0] at hn; cases hn
  simp [go_sem, Cf.av]
  refine LW_seq_reg fun k hk => ?_
  simp (maxSteps := 1000000) [go_sem, Cf.av]
  refine hk _ _ _ ?_
  clear hk k
  simp (maxSteps := 1000000) [go_sem, Cf.av]
  refine LW_seq (LW_seq_reg fun k hk => ?_)
  simp [go_sem]
  refine (check_ac _ own c (hal _)).mono ?_
  rintro _ _ ⟨rfl, rfl⟩
  simp [go_sem]
  refine hk _ _ _ ?_
  clear hk k
  simp [go_sem]
  cases hok : c.ok with
  | false =>
    refine LW_cond (b := true) (by simp [go_sem]) (fun h => ?_) (fun h => by cases h)
    refine LW_seq_reg fun k hk => ?_
    simp (maxSteps := 1000000) [go_sem]
    refine hk _ _ _ ?_
    clear hk k
    simp (maxSteps := 1000000) [go_sem]
    refine LW_ret ?_
    simp [go_sem, FPost]
    exact ⟨hL _, by simp [Cf.count, hok]⟩
  | true =>
    have hb := Cf.bounds hok
    have w1 : IntKind.i64.wrap (2 * c.u) = 2 * c.u := wrap64 (by omega) (by omega)
    have w2 : IntKind.i64.wrap (2 * c.u + c.r) = 2 * c.u + c.r := wrap64 (by omega) (by omega)
    have w3 : IntKind.i64.wrap (2 * c.u + c.r + 1) = 2 * c.u + c.r + 1 := wrap64 (by omega) (by omega)
    have w4 : IntKind.i64.wrap (c.u + c.r) = c.u + c.r := wrap64 (by omega) (by omega)
    have w5 : IntKind.i64.wrap (c.u + c.r + 1) = c.u + c.r + 1 := wrap64 (by omega) (by omega)
    refine LW_cond (b := false) (by simp [go_sem]) (fun h => by cases h) (fun h => ?_)
    refine LW_skip ?_
    simp [go_sem]
    refine LW_seq (LW_seq ?_)
    refine LW_reg fun k hk => ?_
    simp (maxSteps := 1000000) [go_sem]
    refine hk _ _ _ ?_
    clear hk k
    simp (maxSteps := 1000000) [go_sem]
    refine LW_block (LW_seq ?_)
    refine LW_seq_reg fun k hk => ?_
    simp (maxSteps := 1000000) [go_sem]
    refine hk _ _ _ ?_
    clear hk k
    simp (maxSteps := 1000000) [go_sem]
    have fin1 : (role = 1 ∨ role = 2) → c.count role = 2 * c.u + c.r + 1 := fun h => by simp [Cf.count, hok, h]
    by_cases r1 : role = 1
    · refine LW_cond (b := true) (by simp [go_sem, r1]) (fun h => ?_) (fun h => by cases h)
      refine LW_skip ?_
      simp [go_sem]
      refine LW_cond (b := true) (by simp [go_sem, r1]) (fun h => ?_) (fun h => by cases h)
      refine LW_seq_reg fun k hk => ?_
      simp (maxSteps := 1000000) [go_sem, w1, w2, w3]
      refine hk _ _ _ ?_
      clear hk k
      simp (maxSteps := 1000000) [go_sem, w1, w2, w3]
      refine LW_ret ?_
      simp [go_sem, FPost]
      exact ⟨hL _, (fin1 (.inl r1)).symm⟩
    refine LW_cond (b := false) (by simp [go_sem, r1]) (fun h => by cases h) (fun h => ?_)
    refine LW_reg fun k hk => ?_
    simp (maxSteps := 1000000) [go_sem]
    refine hk _ _ _ ?_
    clear hk k
    simp (maxSteps := 1000000) [go_sem]
    by_cases r2 : role = 2
    · refine LW_cond (b := true) (by simp [go_sem, r2]) (fun h => ?_) (fun h => by cases h)
      refine LW_seq_reg fun k hk => ?_
      simp (maxSteps := 1000000) [go_sem, w1, w2, w3]
      refine hk _ _ _ ?_
      clear hk k
      simp (maxSteps := 1000000) [go_sem, w1, w2, w3]
      refine LW_ret ?_
      simp [go_sem, FPost]
      exact ⟨hL _, (fin1 (.inr r2)).symm⟩
    refine LW_cond (b := false) (by simp [go_sem, r2]) (fun h => by cases h) (fun h => ?_)
    refine LW_seq_reg fun k hk => ?_
    simp (maxSteps := 1000000) [go_sem]
    refine hk _ _ _ ?_
    clear hk k
    simp (maxSteps := 1000000) [go_sem]
    by_cases r3 : role = 3
    · refine LW_cond (b := true) (by simp [go_sem, r3]) (fun h => ?_) (fun h => by cases h)
      refine LW_seq_reg fun k hk => ?_
      simp (maxSteps := 1000000) [go_sem, w4, w5]
      refine hk _ _ _ ?_
      clear hk k
      simp (maxSteps := 1000000) [go_sem, w4, w5]
      refine LW_ret ?_
      simp [go_sem, FPost]
      exact ⟨hL _, by simp [Cf.count, hok, r1, r2, r3]⟩
    refine LW_cond (b := false) (by simp [go_sem, r3]) (fun h => by cases h) (fun h => ?_)
    refine LW_seq_reg fun k hk => ?_
    simp (maxSteps := 1000000) [go_sem]
    refine hk _ _ _ ?_
    clear hk k
    simp (maxSteps := 1000000) [go_sem]
    by_cases r4 : role = 4
    · refine LW_cond (b := true) (by simp [go_sem, r4]) (fun h => ?_) (fun h => by cases h)
      refine LW_seq_reg fun k hk => ?_
      simp (maxSteps := 1000000) [go_sem]
      refine hk _ _ _ ?_
      clear hk k
      simp (maxSteps := 1000000) [go_sem]
      refine LW_ret ?_
      simp [go_sem, FPost]
      exact ⟨hL _, by simp [Cf.count, hok, r1, r2, r3, r4]⟩
    refine LW_cond (b := false) (by simp [go_sem, r4]) (fun h => by cases h) (fun h => ?_)
    refine LW_skip ?_
    simp [go_sem]
    refine LW_seq_reg fun k hk => ?_
    simp (maxSteps := 1000000) [go_sem]
    refine hk _ _ _ ?_
    clear hk k
    simp (maxSteps := 1000000) [go_sem]
    refine LW_ret ?_
    simp [go_sem, FPost]
    exact ⟨hL _, by simp [Cf.count, hok, r1, r2, r3, r4]⟩
end Go.Proofs.Ytejlgalnkblndaa
