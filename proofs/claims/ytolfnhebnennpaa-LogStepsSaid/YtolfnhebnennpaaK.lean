import Derived.Test.YtolfnhebnennpaaCo0
import Derived.Test.YtolfnhebnennpaaAmT
set_option linter.unusedVariables false
set_option linter.unusedSimpArgs false
set_option maxRecDepth 100000
set_option maxHeartbeats 4000000
namespace Go.Proofs.Ytolfnhebnennpaa
open Go Go.Al
noncomputable section
def s_slices_Clone_byte_byte (xs : List Int) : Option (List Int) := gd (xs.length * 1 ≤ 140737488355328 ∧ xs.length < 9223372036854775808) (some xs)
theorem s_slices_Clone_byte_byte_B_ok (S : AHeap) {o : Al.Own} (ho : o.alive S) (xs : List Int) {r : List Int} (h : s_slices_Clone_byte_byte xs = some r) : AC Try.prog n_slices_Clone_byte_byte [eW (lI .u8) o xs] S fun r' S' => ∃ m : Name, S m = none ∧ r' = .ret (eB (lI .u8) m r) ∧ S' = S.set m (oT (lI .u8) r) := by
 obtain ⟨hg, h⟩ := gd_some h
 obtain rfl := Option.some.inj h
 refine AC.slice (fun e => ?_) (fun e a c => ?_) (fun e => ?_)
 ·subst e
  refine AC_of tok mixed fits_slices_Clone_byte_byte fun d hd => ?_
  unfold c_slices_Clone_byte_byte
  show LW _ _ _ _ [(0, .lit (.slice none 0 0))] (hp [] S) 0 _
  refine xseq [(0, .lit (.slice none 0 0))] (hp [] S) 0 ?_ (fun k kp hk => ?_)
  ·refine LW_seq ?_
   refine xseq [(0, .lit (.slice none 0 0)), (4, .lit (.bool true))] (hp [] S) 0 ?_ (fun k kp hk => ?_)
   ·refine xcond true rfl (fun _ => ?_) (fun h0 => by cases h0)
    refine xseq [(2, .lit (.slice none 0 0))] (hp [] S) 0 ?_ (fun k kp hk => ?_)
    ·refine LW_retX (xnameB (lI .u8) 2 Sub.nil_empt) ?_
     show FPost _ _ _ _ _ _ _
     exact ⟨_, hp_less (L := [((d, 0), oT (lI .u8) [])]) (D := []) (by intro p hp; cases hp), (d, 0), hd _ (Nat.le_refl _), rfl, rfl⟩
    ·try simp (maxSteps := 4000000) only [go_sem, Prod.mk.injEq, reduceIte, Nat.reduceEqDiff, Nat.reduceAdd, Nat.reduceSub, Nat.reduceMul, Nat.reduceDiv, Nat.reducePow, Nat.reduceLT, Nat.reduceLeDiff, Nat.reduceBEq, Nat.reduceBneDiff, Int.reduceToNat, Int.reduceEq, Int.reduceLE, Int.reduceLT, reduceCtorEq]
     repeat (with_reducible refine And.intro ?_ ?_; next => first | assumption | trivial | omega | decide | (constructor <;> first | assumption | omega) | (simp [Keep.ok, hp_cons_apply, hset_cons]; done))
     refine hk _ _ _ ?_
     refine xghost (D := []) ?_ ?_ ?_ ?_
     ·repeat (first | exact SlAll.nil | refine SlAll.cons (by first | exact Sub.refl | exact Sub.of_eq rfl | exact Sub.tip | exact Sub.nil | exact Sub.empt | exact Sub.young) ?_)
     ·exact HpW.refl
     ·intro p hp; cases hp
     ·omega
   ·try simp (maxSteps := 4000000) only [go_sem, Prod.mk.injEq, reduceIte, Nat.reduceEqDiff, Nat.reduceAdd, Nat.reduceSub, Nat.reduceMul, Nat.reduceDiv, Nat.reducePow, Nat.reduceLT, Nat.reduceLeDiff, Nat.reduceBEq, Nat.reduceBneDiff, Int.reduceToNat, Int.reduceEq, Int.reduceLE, Int.reduceLT, reduceCtorEq]
    repeat (with_reducible refine And.intro ?_ ?_; next => first | assumption | trivial | omega | decide | (constructor <;> first | assumption | omega) | (simp [Keep.ok, hp_cons_apply, hset_cons]; done))
    refine hk _ _ _ ?_
    refine xghost (D := []) ?_ ?_ ?_ ?_
    ·repeat (first | exact SlAll.nil | refine SlAll.cons (by first | exact Sub.refl | exact Sub.of_eq rfl | exact Sub.tip | exact Sub.nil | exact Sub.empt | exact Sub.young) ?_)
    ·exact HpW.refl
    ·intro p hp; cases hp
    ·omega
  ·try simp (maxSteps := 4000000) only [go_sem, Prod.mk.injEq, reduceIte, Nat.reduceEqDiff, Nat.reduceAdd, Nat.reduceSub, Nat.reduceMul, Nat.reduceDiv, Nat.reducePow, Nat.reduceLT, Nat.reduceLeDiff, Nat.reduceBEq, Nat.reduceBneDiff, Int.reduceToNat, Int.reduceEq, Int.reduceLE, Int.reduceLT, reduceCtorEq]
   repeat (with_reducible refine And.intro ?_ ?_; next => first | assumption | trivial | omega | decide | (constructor <;> first | assumption | omega) | (simp [Keep.ok, hp_cons_apply, hset_cons]; done))
   refine hk _ _ _ ?_
   refine xghost (D := []) ?_ ?_ ?_ ?_
   ·repeat (first | exact SlAll.nil | refine SlAll.cons (by first | exact Sub.refl | exact Sub.of_eq rfl | exact Sub.tip | exact Sub.nil | exact Sub.empt | exact Sub.young) ?_)
   ·exact HpW.refl
   ·intro p hp; cases hp
   ·omega
 ·subst e
  refine AC_of tok mixed fits_slices_Clone_byte_byte fun d hd => ?_
  unfold c_slices_Clone_byte_byte
  show LW _ _ _ _ [(0, .lit (.slice (some a) 0 c))] (hp [] S) 0 _
  refine xseq [(0, .lit (.slice (some a) 0 c))] (hp [] S) 0 ?_ (fun k kp hk => ?_)
  ·refine LW_seq ?_
   refine xseq [(0, .lit (.slice (some a) 0 c)), (4, .lit (.bool false))] (hp [] S) 0 ?_ (fun k kp hk => ?_)
   ·refine xcond false rfl (fun h0 => by cases h0) (fun _ => ?_)
    refine LW_skip ?_
    show LW _ _ _ _ _ _ _ _
    refine xseq [(2, eB (lI .u8) (d, 0) [])] (hp [((d, 0), oT (lI .u8) [])] S) 1 ?_ (fun k kp hk => ?_)
    ·refine LW_ret ?_
     show FPost _ _ _ _ _ _ _
     exact ⟨_, hp_less (L := [((d, 0), oT (lI .u8) [])]) (D := []) (by intro p hp; cases hp), (d, 0), hd _ (Nat.le_refl _), rfl, rfl⟩
    ·try simp (maxSteps := 4000000) only [go_sem, Prod.mk.injEq, reduceIte, Nat.reduceEqDiff, Nat.reduceAdd, Nat.reduceSub, Nat.reduceMul, Nat.reduceDiv, Nat.reducePow, Nat.reduceLT, Nat.reduceLeDiff, Nat.reduceBEq, Nat.reduceBneDiff, Int.reduceToNat, Int.reduceEq, Int.reduceLE, Int.reduceLT, reduceCtorEq]
     repeat (with_reducible refine And.intro ?_ ?_; next => first | assumption | trivial | omega | decide | (constructor <;> first | assumption | omega) | (simp [Keep.ok, hp_cons_apply, hset_cons]; done))
     refine append1_newB (L := (lI .u8)) (ys := []) T37 T37 T5 ?_ rfl rfl trivial rfl ?_ ?_
     ·first | exact .inl rfl | exact .inr rfl
     ·simp
     try simp (maxSteps := 4000000) only [go_sem, Prod.mk.injEq, reduceIte, Nat.reduceEqDiff, Nat.reduceAdd, Nat.reduceSub, Nat.reduceMul, Nat.reduceDiv, Nat.reducePow, Nat.reduceLT, Nat.reduceLeDiff, Nat.reduceBEq, Nat.reduceBneDiff, Int.reduceToNat, Int.reduceEq, Int.reduceLE, Int.reduceLT, reduceCtorEq]
     repeat (with_reducible refine And.intro ?_ ?_; next => first | assumption | trivial | omega | decide | (constructor <;> first | assumption | omega) | (simp [Keep.ok, hp_cons_apply, hset_cons]; done))
     refine hk _ _ _ ?_
     refine xghost (D := []) ?_ ?_ ?_ ?_
     ·repeat (first | exact SlAll.nil | refine SlAll.cons (by first | exact Sub.refl | exact Sub.of_eq rfl | exact Sub.tip | exact Sub.nil | exact Sub.empt | exact Sub.young) ?_)
     ·exact HpW.refl
     ·intro p hp; cases hp
     ·omega
   ·try simp (maxSteps := 4000000) only [go_sem, Prod.mk.injEq, reduceIte, Nat.reduceEqDiff, Nat.reduceAdd, Nat.reduceSub, Nat.reduceMul, Nat.reduceDiv, Nat.reducePow, Nat.reduceLT, Nat.reduceLeDiff, Nat.reduceBEq, Nat.reduceBneDiff, Int.reduceToNat, Int.reduceEq, Int.reduceLE, Int.reduceLT, reduceCtorEq]
    repeat (with_reducible refine And.intro ?_ ?_; next => first | assumption | trivial | omega | decide | (constructor <;> first | assumption | omega) | (simp [Keep.ok, hp_cons_apply, hset_cons]; done))
    refine hk _ _ _ ?_
    refine xghost (D := []) ?_ ?_ ?_ ?_
    ·repeat (first | exact SlAll.nil | refine SlAll.cons (by first | exact Sub.refl | exact Sub.of_eq rfl | exact Sub.tip | exact Sub.nil | exact Sub.empt | exact Sub.young) ?_)
    ·exact HpW.refl
    ·intro p hp; cases hp
    ·omega
  ·try simp (maxSteps := 4000000) only [go_sem, Prod.mk.injEq, reduceIte, Nat.reduceEqDiff, Nat.reduceAdd, Nat.reduceSub, Nat.reduceMul, Nat.reduceDiv, Nat.reducePow, Nat.reduceLT, Nat.reduceLeDiff, Nat.reduceBEq, Nat.reduceBneDiff, Int.reduceToNat, Int.reduceEq, Int.reduceLE, Int.reduceLT, reduceCtorEq]
   repeat (with_reducible refine And.intro ?_ ?_; next => first | assumption | trivial | omega | decide | (constructor <;> first | assumption | omega) | (simp [Keep.ok, hp_cons_apply, hset_cons]; done))
   refine hk _ _ _ ?_
   refine xghost (D := []) ?_ ?_ ?_ ?_
   ·repeat (first | exact SlAll.nil | refine SlAll.cons (by first | exact Sub.refl | exact Sub.of_eq rfl | exact Sub.tip | exact Sub.nil | exact Sub.empt | exact Sub.young) ?_)
   ·exact HpW.refl
   ·intro p hp; cases hp
   ·omega
 ·refine AC_of tok mixed fits_slices_Clone_byte_byte fun d hd => ?_
  have hne : flat (lI .u8) xs ≠ [] := flat_ne e
  unfold c_slices_Clone_byte_byte
  show LW _ _ _ _ [(0, eW (lI .u8) o xs)] (hp [] S) 0 _
  refine xseq [(0, eW (lI .u8) o xs)] (hp [] S) 0 ?_ (fun k kp hk => ?_)
  ·refine LW_seq ?_
   refine xseq [(0, eW (lI .u8) o xs), (4, .lit (.bool false))] (hp [] S) 0 ?_ (fun k kp hk => ?_)
   ·refine xcond false rfl (fun h0 => by cases h0) (fun _ => ?_)
    refine LW_skip ?_
    show LW _ _ _ _ _ _ _ _
    refine xseq [(2, eB (lI .u8) (d, 0) xs)] (hp [((d, 0), oT (lI .u8) xs)] S) 1 ?_ (fun k kp hk => ?_)
    ·refine LW_ret ?_
     show FPost _ _ _ _ _ _ _
     exact ⟨_, hp_less (L := [((d, 0), oT (lI .u8) xs)]) (D := []) (by intro p hp; cases hp), (d, 0), hd _ (Nat.le_refl _), rfl, rfl⟩
    ·try simp (maxSteps := 4000000) only [go_sem, Prod.mk.injEq, reduceIte, Nat.reduceEqDiff, Nat.reduceAdd, Nat.reduceSub, Nat.reduceMul, Nat.reduceDiv, Nat.reducePow, Nat.reduceLT, Nat.reduceLeDiff, Nat.reduceBEq, Nat.reduceBneDiff, Int.reduceToNat, Int.reduceEq, Int.reduceLE, Int.reduceLT, reduceCtorEq]
     repeat (with_reducible refine And.intro ?_ ?_; next => first | assumption | trivial | omega | decide | (constructor <;> first | assumption | omega) | (simp [Keep.ok, hp_cons_apply, hset_cons]; done))
     refine append1_newB (L := (lI .u8)) (ys := xs) T37 T37 T5 ?_ rfl asrc_eW ⟨ho, rfl⟩ rfl ?_ ?_
     ·first | exact .inl rfl | exact .inr rfl
     ·exact hg
     try simp (maxSteps := 4000000) only [go_sem, Prod.mk.injEq, reduceIte, Nat.reduceEqDiff, Nat.reduceAdd, Nat.reduceSub, Nat.reduceMul, Nat.reduceDiv, Nat.reducePow, Nat.reduceLT, Nat.reduceLeDiff, Nat.reduceBEq, Nat.reduceBneDiff, Int.reduceToNat, Int.reduceEq, Int.reduceLE, Int.reduceLT, reduceCtorEq]
     repeat (with_reducible refine And.intro ?_ ?_; next => first | assumption | trivial | omega | decide | (constructor <;> first | assumption | omega) | (simp [Keep.ok, hp_cons_apply, hset_cons]; done))
     refine hk _ _ _ ?_
     refine xghost (D := []) ?_ ?_ ?_ ?_
     ·repeat (first | exact SlAll.nil | refine SlAll.cons (by first | exact Sub.refl | exact Sub.of_eq rfl | exact Sub.tip | exact Sub.nil | exact Sub.empt | exact Sub.young) ?_)
     ·exact HpW.refl
     ·intro p hp; cases hp
     ·omega
   ·try simp (maxSteps := 4000000) only [go_sem, Prod.mk.injEq, reduceIte, Nat.reduceEqDiff, Nat.reduceAdd, Nat.reduceSub, Nat.reduceMul, Nat.reduceDiv, Nat.reducePow, Nat.reduceLT, Nat.reduceLeDiff, Nat.reduceBEq, Nat.reduceBneDiff, Int.reduceToNat, Int.reduceEq, Int.reduceLE, Int.reduceLT, reduceCtorEq]
    repeat (with_reducible refine And.intro ?_ ?_; next => first | assumption | trivial | omega | decide | (constructor <;> first | assumption | omega) | (simp [Keep.ok, hp_cons_apply, hset_cons]; done))
    refine hk _ _ _ ?_
    refine xghost (D := []) ?_ ?_ ?_ ?_
    ·repeat (first | exact SlAll.nil | refine SlAll.cons (by first | exact Sub.refl | exact Sub.of_eq rfl | exact Sub.tip | exact Sub.nil | exact Sub.empt | exact Sub.young) ?_)
    ·exact HpW.refl
    ·intro p hp; cases hp
    ·omega
  ·try simp (maxSteps := 4000000) only [go_sem, Prod.mk.injEq, reduceIte, Nat.reduceEqDiff, Nat.reduceAdd, Nat.reduceSub, Nat.reduceMul, Nat.reduceDiv, Nat.reducePow, Nat.reduceLT, Nat.reduceLeDiff, Nat.reduceBEq, Nat.reduceBneDiff, Int.reduceToNat, Int.reduceEq, Int.reduceLE, Int.reduceLT, reduceCtorEq]
   repeat (with_reducible refine And.intro ?_ ?_; next => first | assumption | trivial | omega | decide | (constructor <;> first | assumption | omega) | (simp [Keep.ok, hp_cons_apply, hset_cons]; done))
   refine hk _ _ _ ?_
   refine xghost (D := []) ?_ ?_ ?_ ?_
   ·repeat (first | exact SlAll.nil | refine SlAll.cons (by first | exact Sub.refl | exact Sub.of_eq rfl | exact Sub.tip | exact Sub.nil | exact Sub.empt | exact Sub.young) ?_)
   ·exact HpW.refl
   ·intro p hp; cases hp
   ·omega
theorem cloneB_ok : CloneBOk Try.prog 42 (.int .u8) 1 := fun S o xs ha h => s_slices_Clone_byte_byte_B_ok S ha xs (by unfold s_slices_Clone_byte_byte gd; rw [if_pos h])
theorem clone_ok : CloneOk Try.prog 42 (.int .u8) 1 := cloneOk_of cloneB_ok
def c_42 (Φ : Nat → FuncId × List AV × List AV) : Cal Try.prog Φ 42 id := calClone clone_ok
def c_42b (Φ : Nat → FuncId × List AV × List AV) : Cal Try.prog Φ 42 id := calCloneB cloneB_ok
end
end Go.Proofs.Ytolfnhebnennpaa
