/- The contract of law06.alive: it answers true; conditions: none. -/
import Derived.Test.YtejlgalnkblndaaPr8
namespace Go.Proofs.Ytejlgalnkblndaa
open Go Go.Al
set_option maxRecDepth 10000
set_option linter.unusedSimpArgs false
set_option linter.unusedVariables false
theorem _root_.Go.Al.AC.le {P : Program} {f : FuncId} {xs ys : List AV} {S : AHeap} {R : AEnd → AHeap → Prop} (h : AC P f xs S R) (k : ∀ K vs, SimL K ys vs → SimL K xs vs) : AC P f ys S R :=
  ⟨h.1, fun K w vs hs hv => h.2 K w vs hs (k K _ hv)⟩
theorem SimV.nil {K : Kn} {sz : Nat} (hsz : 0 < sz) {v : Value} (h : SimV K (.lit (.slice none 0 0)) v) : SimV K (.slice .perm sz []) v := by
  simp only [SimV] at h ⊢
  subst h
  exact ⟨none, 0, 0, rfl, by simp, Nat.le_refl _, hsz, .inl ⟨trivial, fun _ => rfl⟩⟩
def cfA : Cf := ⟨1, 1, 1, 4, 2, 3, []⟩
def nilA : AV := .agg [I 1, I 1, I 1, I 4, I 2, I 3, .lit (.slice none 0 0)]
theorem nilA_le (rest : List AV) : ∀ K vs, SimL K (nilA :: rest) vs → SimL K (cfA.av .perm :: rest) vs := by
  intro K vs h
  cases vs with
  | nil => simp only [SimL] at h
  | cons v vs =>
    simp only [SimL] at h ⊢
    refine ⟨?_, h.2⟩
    have h := h.1
    simp only [nilA, cfA, Cf.av, SimV] at h ⊢
    obtain ⟨us, rfl, hu⟩ := h
    refine ⟨us, rfl, ?_⟩
    revert hu
    generalize us.toList = l
    intro hu
    match l, hu with
    | [a, b, c, d, e, f, g], hu =>
      simp only [SimL, and_true] at hu ⊢
      obtain ⟨h1, h2, h3, h4, h5, h6, h7⟩ := hu
      exact ⟨h1, h2, h3, h4, h5, h6, SimV.nil (by omega) h7⟩
theorem alive_ac (S : AHeap) : AC Try.prog n_stanchionlaw06_alive [] S fun r S' => r = .ret (B true) ∧ S' = S := by
  refine AC_of tok mixed fits_stanchionlaw06_alive fun d hd => ?_
  unfold c_stanchionlaw06_alive
  have h0 : S (d, 0) = none := hd _ (Nat.le_refl _)
  simp [go_sem]
  refine LW_seq_reg fun k hk => ?_
  simp (maxSteps := 1000000) [go_sem]
  refine hk _ _ _ ?_
  clear hk k
  simp (maxSteps := 1000000) [go_sem]
  refine LW_seq_reg fun k hk => ?_
  simp (maxSteps := 1000000) [go_sem]
  refine hk _ _ _ ?_
  clear hk k
  simp (maxSteps := 1000000) [go_sem]
  have hA : AV.agg [AV.lit (Value.int IntKind.i64 1), AV.lit (Value.int IntKind.i64 1), AV.lit (Value.int IntKind.i64 1), AV.lit (Value.int IntKind.i64 4), AV.lit (Value.int IntKind.i64 2), AV.lit (Value.int IntKind.i64 3), AV.lit (Value.slice none 0 0)] = nilA := rfl
  have c1 : cfA.ok = true := by decide
  have c2 : cfA.count 2 = 4 := by decide
  have c4 : cfA.primary 6 = 2 := by decide
  have c5 : cfA.count 1 = 4 := by decide
  have cu : cfA.u = 1 := rfl
  have cr : cfA.r = 1 := rfl
  have c3 : cfA.count 3 = 3 := by decide
  refine LW_seq_reg fun k hk => ?_
  simp (maxSteps := 1000000) [go_sem]
  refine ((check_ac _ .perm cfA trivial).le (nilA_le [])).mono ?_
  rintro _ _ ⟨rfl, rfl⟩
  simp (maxSteps := 1000000) [go_sem, c1]
  refine ((count_ac _ .perm cfA 2 trivial).le (nilA_le _)).mono ?_
  rintro _ _ ⟨rfl, rfl⟩
  simp (maxSteps := 1000000) [go_sem, c2]
  refine ((count_ac _ .perm cfA 3 trivial).le (nilA_le _)).mono ?_
  rintro _ _ ⟨rfl, rfl⟩
  simp (maxSteps := 1000000) [go_sem, c3]
  refine ((quorum_ac _ .perm cfA trivial).le (nilA_le _)).mono ?_
  rintro _ _ ⟨rfl, rfl⟩
  simp (maxSteps := 1000000) [go_sem, c1, cu, cr]
  refine ((proof_ac _ .perm cfA trivial).le (nilA_le _)).mono ?_
  rintro _ _ ⟨rfl, rfl⟩
  simp (maxSteps := 1000000) [go_sem, c1, cr]
  refine ((primary_ac _ .perm cfA 6 trivial (by decide)).le (nilA_le _)).mono ?_
  rintro _ _ ⟨rfl, rfl⟩
  simp (maxSteps := 1000000) [go_sem, c4]
  refine ((there_ac _ .perm cfA 1 3 trivial).le (nilA_le _)).mono ?_
  rintro _ _ ⟨rfl, rfl⟩
  simp (maxSteps := 1000000) [go_sem, c5]
  have hne : ¬ (d, 1) = (d, 0) := by simp
  refine ((ids_ac _ .perm (.buf (d, 1) 1) cfA [3] trivial ⟨1, by simp [AHeap.set]⟩ (by decide)).le (nilA_le _)).mono ?_
  rintro _ S' ⟨v, rfl, hv, hL⟩
  have c6 : (cfA.ids [3]).length = 3 := by decide
  rcases hv with ⟨h, _⟩ | ⟨m, rfl, h1, _⟩
  · exact absurd h (by decide)
  simp (maxSteps := 1000000) [go_sem, idcells_len, c6]
  refine hk _ _ _ (LW_ret ?_)
  clear hk
  simp [go_sem, FPost]
  refine Less.trans ?_ hL
  intro n o hn
  have e0 : ¬ n = (d, 0) := by rintro rfl; rw [h0] at hn; cases hn
  have e1 : ¬ n = (d, 1) := by rintro rfl; rw [hd _ (Nat.le_refl _)] at hn; cases hn
  simp only [AHeap.set, if_neg e0, if_neg e1]
  exact hn
end Go.Proofs.Ytejlgalnkblndaa
