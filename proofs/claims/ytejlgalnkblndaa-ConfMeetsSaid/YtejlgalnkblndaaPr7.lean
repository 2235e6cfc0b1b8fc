/- The contracts of conf.Quorum, Proof, Primary and There; conditions: none. -/
import Derived.Test.YtejlgalnkblndaaPr6
namespace Go.Proofs.Ytejlgalnkblndaa
open Go Go.Al
set_option maxRecDepth 10000
set_option linter.unusedSimpArgs false
set_option linter.unusedVariables false
theorem alive_set {S : AHeap} {own : Own} (ha : own.alive S) {n : Name} (h0 : S n = none) (x : AObj) : own.alive (S.set n x) := by
  cases own with
  | perm => exact trivial
  | buf m e =>
    obtain ⟨len, hn⟩ := ha
    refine ⟨len, ?_⟩
    simp only [AHeap.set]
    rw [if_neg]; exact hn
    rintro rfl; rw [h0] at hn; cases hn
theorem quorum_ac (S : AHeap) (own : Own) (c : Cf) (ha : own.alive S) :
    AC Try.prog n_conf_Quorum [c.av own] S fun r S' => r = .ret (I (if c.ok then c.u + c.r + 1 else 0)) ∧ S' = S := by
  refine AC_of tok mixed fits_conf_Quorum fun d hd => ?_
  unfold c_conf_Quorum
  have h0 : S (d, 0) = none := hd _ (Nat.le_refl _)
  have hL : ∀ (x : AObj), Less S (S.set (d, 0) x) := fun x => (Less.refl S).set h0 x
  simp [go_sem, Cf.av]
  refine LW_seq_reg fun k hk => ?_
  simp (maxSteps := 1000000) [go_sem, Cf.av]
  refine hk _ _ _ ?_
  clear hk k
  simp (maxSteps := 1000000) [go_sem, Cf.av]
  refine LW_seq (LW_seq_reg fun k hk => ?_)
  simp [go_sem]
  refine (check_ac _ own c (alive_set ha h0 _)).mono ?_
  rintro _ _ ⟨rfl, rfl⟩
  simp [go_sem]
  refine hk _ _ _ ?_
  clear hk k
  simp [go_sem]
  cases hok : c.ok with
  | false =>
    refine LW_cond (b := true) (by simp [go_sem]) (fun h => ?_) (fun h => by cases h)
    refine LW_seq_reg fun k hk => ?_
    simp (maxSteps := 1000000) [go_sem]
    refine hk _ _ _ ?_
    clear hk k
    simp (maxSteps := 1000000) [go_sem]
    refine LW_ret ?_
    simp [go_sem, FPost]
    exact hL _
  | true =>
    have hb := Cf.bounds hok
    have w4 : IntKind.i64.wrap (c.u + c.r) = c.u + c.r := wrap64 (by omega) (by omega)
    have w5 : IntKind.i64.wrap (c.u + c.r + 1) = c.u + c.r + 1 := wrap64 (by omega) (by omega)
    refine LW_cond (b := false) (by simp [go_sem]) (fun h => by cases h) (fun h => ?_)
    refine LW_skip ?_
    simp [go_sem]
    refine LW_seq_reg fun k hk => ?_
    simp (maxSteps := 1000000) [go_sem, w4, w5]
    refine hk _ _ _ ?_
    clear hk k
    simp (maxSteps := 1000000) [go_sem, w4, w5]
    refine LW_ret ?_
    simp [go_sem, FPost]
    exact hL _
theorem proof_ac (S : AHeap) (own : Own) (c : Cf) (ha : own.alive S) :
    AC Try.prog n_conf_Proof [c.av own] S fun r S' => r = .ret (I (if c.ok then c.r + 1 else 0)) ∧ S' = S := by
  refine AC_of tok mixed fits_conf_Proof fun d hd => ?_
  unfold c_conf_Proof
  have h0 : S (d, 0) = none := hd _ (Nat.le_refl _)
  have hL : ∀ (x : AObj), Less S (S.set (d, 0) x) := fun x => (Less.refl S).set h0 x
  simp [go_sem, Cf.av]
  refine LW_seq_reg fun k hk => ?_
  simp (maxSteps := 1000000) [go_sem, Cf.av]
  refine hk _ _ _ ?_
  clear hk k
  simp (maxSteps := 1000000) [go_sem, Cf.av]
  refine LW_seq (LW_seq_reg fun k hk => ?_)
  simp [go_sem]
  refine (check_ac _ own c (alive_set ha h0 _)).mono ?_
  rintro _ _ ⟨rfl, rfl⟩
  simp [go_sem]
  refine hk _ _ _ ?_
  clear hk k
  simp [go_sem]
  cases hok : c.ok with
  | false =>
    refine LW_cond (b := true) (by simp [go_sem]) (fun h => ?_) (fun h => by cases h)
    refine LW_seq_reg fun k hk => ?_
    simp (maxSteps := 1000000) [go_sem]
    refine hk _ _ _ ?_
    clear hk k
    simp (maxSteps := 1000000) [go_sem]
    refine LW_ret ?_
    simp [go_sem, FPost]
    exact hL _
  | true =>
    have hb := Cf.bounds hok
    have w5 : IntKind.i64.wrap (c.r + 1) = c.r + 1 := wrap64 (by omega) (by omega)
    refine LW_cond (b := false) (by simp [go_sem]) (fun h => by cases h) (fun h => ?_)
    refine LW_skip ?_
    simp [go_sem]
    refine LW_seq_reg fun k hk => ?_
    simp (maxSteps := 1000000) [go_sem, w5]
    refine hk _ _ _ ?_
    clear hk k
    simp (maxSteps := 1000000) [go_sem, w5]
    refine LW_ret ?_
    simp [go_sem, FPost]
    exact hL _
theorem Cf.count_bounds (c : Cf) (role : Int) : 0 ≤ c.count role ∧ c.count role ≤ 8 := by
  unfold Cf.count
  cases hok : c.ok with
  | false => simp
  | true =>
    have hb := Cf.bounds hok
    simp only [if_true]
    split
    · omega
    · split
      · omega
      · split <;> omega
def Cf.primary (c : Cf) (view : Int) : Int := if c.count 2 = 0 ∨ view < 0 then 0 else view.tmod (c.count 2)
theorem primary_ac (S : AHeap) (own : Own) (c : Cf) (view : Int) (ha : own.alive S) (hv : view < 2 ^ 63) :
    AC Try.prog n_conf_Primary [c.av own, I view] S fun r S' => r = .ret (I (c.primary view)) ∧ S' = S := by
  refine AC_of tok mixed fits_conf_Primary fun d hd => ?_
  unfold c_conf_Primary
  have h0 : S (d, 0) = none := hd _ (Nat.le_refl _)
  have hL : ∀ (x : AObj), Less S (S.set (d, 0) x) := fun x => (Less.refl S).set h0 x
  simp [go_sem, Cf.av]
  refine LW_seq_reg fun k hk => ?_
  simp (maxSteps := 1000000) [go_sem, Cf.av]
  refine hk _ _ _ ?_
  clear hk k
  simp (maxSteps := 1000000) [go_sem, Cf.av]
  refine LW_seq_reg fun k hk => ?_
  simp [go_sem]
  refine (count_ac _ own c 2 (alive_set ha h0 _)).mono ?_
  rintro _ _ ⟨rfl, rfl⟩
  simp [go_sem]
  refine hk _ _ _ ?_
  clear hk k
  simp [go_sem]
  refine LW_seq (LW_seq_reg fun k hk => ?_)
  simp (maxSteps := 1000000) [go_sem]
  refine ⟨fun hc0 => hk _ _ _ ?_, fun hc0 => hk _ _ _ ?_⟩ <;> clear hk k <;> simp [go_sem]
  · by_cases hv0 : view < 0
    · refine LW_cond (b := true) (by simp [go_sem, hv0]) (fun h => ?_) (fun h => by cases h)
      refine LW_seq_reg fun k hk => ?_
      simp (maxSteps := 1000000) [go_sem]
      refine hk _ _ _ ?_
      clear hk k
      simp (maxSteps := 1000000) [go_sem]
      refine LW_ret ?_
      simp [go_sem, FPost]
      exact ⟨hL _, by simp [Cf.primary, hv0]⟩
    · refine LW_cond (b := false) (by simp [go_sem, hv0]) (fun h => by cases h) (fun h => ?_)
      refine LW_skip ?_
      simp [go_sem]
      refine LW_seq_reg fun k hk => ?_
      simp (maxSteps := 1000000) [go_sem]
      refine ⟨hc0, hk _ _ _ (LW_ret ?_)⟩
      clear hk
      simp [go_sem, FPost]
      exact ⟨hL _, by simp [Cf.primary, hc0, hv0]⟩
  · refine LW_cond (b := true) (by simp [go_sem]) (fun h => ?_) (fun h => by cases h)
    refine LW_seq_reg fun k hk => ?_
    simp (maxSteps := 1000000) [go_sem]
    refine hk _ _ _ ?_
    clear hk k
    simp (maxSteps := 1000000) [go_sem]
    refine LW_ret ?_
    simp [go_sem, FPost]
    exact ⟨hL _, by simp [Cf.primary, hc0]⟩
theorem there_ac (S : AHeap) (own : Own) (c : Cf) (role n : Int) (ha : own.alive S) :
    AC Try.prog n_conf_There [c.av own, .agg [I role, I n]] S fun r S' => r = .ret (B (decide (n ≥ 0) && decide (n < c.count role))) ∧ S' = S := by
  refine AC_of tok mixed fits_conf_There fun d hd => ?_
  unfold c_conf_There
  have h0 : S (d, 0) = none := hd _ (Nat.le_refl _)
  have h1 : S (d, 1) = none := hd _ (Nat.le_refl _)
  have hL : ∀ (x y : AObj), Less S ((S.set (d, 0) x).set (d, 1) y) := fun x y => ((Less.refl S).set h0 x).set (by simp [go_sem, h1]) y
  simp [go_sem, Cf.av]
  refine LW_seq_reg fun k hk => ?_
  simp (maxSteps := 1000000) [go_sem, Cf.av]
  refine hk _ _ _ ?_
  clear hk k
  simp (maxSteps := 1000000) [go_sem, Cf.av]
  refine LW_seq_drw fun k hk => ?_
  simp (maxSteps := 1000000) [go_sem]
  refine ⟨fun hn => ?_, fun hn => hk _ _ _ (LW_ret ?_)⟩
  · refine (count_ac _ own c role (alive_set (alive_set ha h0 _) (by simp [go_sem, h1]) _)).mono ?_
    rintro _ _ ⟨rfl, rfl⟩
    simp [go_sem, Keep.ok]
    refine hk _ _ _ (LW_ret ?_)
    clear hk
    simp [go_sem, FPost]
    exact ⟨hL _ _, by simp [hn]⟩
  · clear hk
    simp [go_sem, FPost]
    exact ⟨hL _ _, fun h => by omega⟩
end Go.Proofs.Ytejlgalnkblndaa
