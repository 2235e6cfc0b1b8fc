/- Go functions as Lean functions, and that their code does as these say. Printed by a program of this work. -/
import Derived.Test.YtejlgalnkblndaaXL
set_option linter.unusedVariables false
set_option linter.unusedSimpArgs false
set_option maxRecDepth 100000
set_option maxHeartbeats 4000000
namespace Go.Proofs.Ytejlgalnkblndaa
open Go Go.Al
noncomputable section
/-! stanchion/stanchionref00.CopyInts -/
def s_stanchionref00_CopyInts (s : List Int) : Option (List Int) :=
  gd (((0 + s.length) * 8 ≤ 140737488355328 ∧ 0 + s.length < 9223372036854775808)) (some s)
theorem s_stanchionref00_CopyInts_ok (S : AHeap) (s : List Int) {r : List Int} (h : s_stanchionref00_CopyInts s = some r) :
    AC Try.prog n_stanchionref00_CopyInts [eS (lI .i64) s] S fun r' S' => r' = .ret (eS (lI .i64) r) ∧ S' = S := by
  refine AC_of tok mixed fits_stanchionref00_CopyInts fun d hd => ?_
  unfold c_stanchionref00_CopyInts
  show LW _ _ _ _ [(0, eS (lI .i64) s)] (hp [] S) 0 _
  rw [s_stanchionref00_CopyInts] at h
  refine xseq [(0, eS (lI .i64) s)] (hp [] S) 0 ?_ (fun k kp hk => ?_)
  · refine xseq [(0, eS (lI .i64) s), (3, eT (lI .i64) (d, 0) [])] (hp [((d, 0), oT (lI .i64) [])] S) 1 ?_ (fun k kp hk => ?_)
    · obtain ⟨hg, h⟩ := gd_some h
      refine xseq [(3, eT (lI .i64) (d, 0) s)] (hp [((d, 0), oT (lI .i64) s)] S) 1 ?_ (fun k kp hk => ?_)
      · refine xseq [(2, eS (lI .i64) s)] (hp [((d, 0), oT (lI .i64) s)] S) 1 ?_ (fun k kp hk => ?_)
        · refine LW_ret ?_
          obtain rfl := Option.some.inj h
          show FPost _ _ _ _ _ _ _
          exact ⟨_, hp_less (L := []) (D := [((d, 0), oT (lI .i64) s)]) (by intro p hp; simp only [List.mem_cons, List.not_mem_nil, or_false] at hp; rcases hp with rfl <;> first | exact hd _ (Nat.le_refl _)), rfl, rfl⟩
        · try simp only [go_sem, Prod.mk.injEq, reduceIte, Nat.reduceEqDiff, Nat.reduceAdd, Nat.reduceSub, Nat.reduceMul, Nat.reduceDiv, Nat.reducePow, Nat.reduceLT, Nat.reduceLeDiff, Nat.reduceBEq, Nat.reduceBneDiff, Int.reduceToNat, Int.reduceEq, Int.reduceLE, Int.reduceLT, reduceCtorEq]
          repeat (with_reducible refine And.intro ?_ ?_; next => first | assumption | trivial | omega | decide | (constructor <;> first | assumption | omega) | (simp [Keep.ok, hp_cons_apply, hset_cons]; done))
          refine hk _ _ _ ?_
          refine xghost (D := []) ?_ ?_ ?_ ?_
          · exact (.cons Sub.tip .nil)
          · exact HpW.refl
          · exact (by intro p hp; cases hp)
          · omega
      · try simp only [go_sem, Prod.mk.injEq, reduceIte, Nat.reduceEqDiff, Nat.reduceAdd, Nat.reduceSub, Nat.reduceMul, Nat.reduceDiv, Nat.reducePow, Nat.reduceLT, Nat.reduceLeDiff, Nat.reduceBEq, Nat.reduceBneDiff, Int.reduceToNat, Int.reduceEq, Int.reduceLE, Int.reduceLT, reduceCtorEq]
        repeat (with_reducible refine And.intro ?_ ?_; next => first | assumption | trivial | omega | decide | (constructor <;> first | assumption | omega) | (simp [Keep.ok, hp_cons_apply, hset_cons]; done))
        refine append1_eT (L := (lI .i64)) (n := (d, 0)) (xs := []) (ys := s) T35 T35 T3 ?_ rfl ?_ asrc_eS ?_ rfl ?_ ?_
        · first | exact .inl rfl | exact .inr rfl
        · try simp only [go_sem, Prod.mk.injEq, reduceIte, Nat.reduceEqDiff, Nat.reduceAdd, Nat.reduceSub, Nat.reduceMul, Nat.reduceDiv, Nat.reducePow, Nat.reduceLT, Nat.reduceLeDiff, Nat.reduceBEq, Nat.reduceBneDiff, Int.reduceToNat, Int.reduceEq, Int.reduceLE, Int.reduceLT, reduceCtorEq]
        · exact ⟨trivial, rfl⟩
        · dsimp only [List.length]; omega
        try simp only [go_sem, Prod.mk.injEq, reduceIte, Nat.reduceEqDiff, Nat.reduceAdd, Nat.reduceSub, Nat.reduceMul, Nat.reduceDiv, Nat.reducePow, Nat.reduceLT, Nat.reduceLeDiff, Nat.reduceBEq, Nat.reduceBneDiff, Int.reduceToNat, Int.reduceEq, Int.reduceLE, Int.reduceLT, reduceCtorEq]
        repeat (with_reducible refine And.intro ?_ ?_; next => first | assumption | trivial | omega | decide | (constructor <;> first | assumption | omega) | (simp [Keep.ok, hp_cons_apply, hset_cons]; done))
        refine hk _ _ _ ?_
        refine xghost (D := []) ?_ ?_ ?_ ?_
        · exact (.cons (Sub.of_eq rfl) .nil)
        · exact HpW.refl
        · exact (by intro p hp; cases hp)
        · omega
    · try simp only [go_sem, Prod.mk.injEq, reduceIte, Nat.reduceEqDiff, Nat.reduceAdd, Nat.reduceSub, Nat.reduceMul, Nat.reduceDiv, Nat.reducePow, Nat.reduceLT, Nat.reduceLeDiff, Nat.reduceBEq, Nat.reduceBneDiff, Int.reduceToNat, Int.reduceEq, Int.reduceLE, Int.reduceLT, reduceCtorEq]
      repeat (with_reducible refine And.intro ?_ ?_; next => first | assumption | trivial | omega | decide | (constructor <;> first | assumption | omega) | (simp [Keep.ok, hp_cons_apply, hset_cons]; done))
      refine hk _ _ _ ?_
      refine Ghost.trans (xname (lI .i64) 3 Sub.refl) ?_
      try simp only [go_sem, Prod.mk.injEq, reduceIte, Nat.reduceEqDiff, Nat.reduceAdd, Nat.reduceSub, Nat.reduceMul, Nat.reduceDiv, Nat.reducePow, Nat.reduceLT, Nat.reduceLeDiff, Nat.reduceBEq, Nat.reduceBneDiff, Int.reduceToNat, Int.reduceEq, Int.reduceLE, Int.reduceLT, reduceCtorEq]
      refine xghost (D := []) ?_ ?_ ?_ ?_
      · exact (.cons (Sub.of_eq rfl) (.cons (Sub.of_eq rfl) .nil))
      · exact HpW.refl
      · exact (by intro p hp; cases hp)
      · omega
  · try simp only [go_sem, Prod.mk.injEq, reduceIte, Nat.reduceEqDiff, Nat.reduceAdd, Nat.reduceSub, Nat.reduceMul, Nat.reduceDiv, Nat.reducePow, Nat.reduceLT, Nat.reduceLeDiff, Nat.reduceBEq, Nat.reduceBneDiff, Int.reduceToNat, Int.reduceEq, Int.reduceLE, Int.reduceLT, reduceCtorEq]
    repeat (with_reducible refine And.intro ?_ ?_; next => first | assumption | trivial | omega | decide | (constructor <;> first | assumption | omega) | (simp [Keep.ok, hp_cons_apply, hset_cons]; done))
    refine hk _ _ _ ?_
    refine xghost (D := []) ?_ ?_ ?_ ?_
    · exact (.cons (Sub.of_eq rfl) .nil)
    · exact HpW.refl
    · exact (by intro p hp; cases hp)
    · omega
end
end Go.Proofs.Ytejlgalnkblndaa
