import Derived.Test.YtolfnhebnennpaaCo1
import Derived.Test.YtolfnhebnennpaaAmT
set_option linter.unusedVariables false
set_option linter.unusedSimpArgs false
set_option maxRecDepth 100000
set_option maxHeartbeats 4000000
namespace Go.Proofs.Ytolfnhebnennpaa
open Go Go.Al
noncomputable section
def s_slices_Grow_byte_byte (xs : List Int) (q : Int) : Option (List Int) := gd (0 ≤ q ∧ q ≤ 140737488355328) (some [])
theorem s_slices_Grow_byte_byte_ok (S : AHeap) (xs : List Int) (q : Int) {r : List Int} (h : s_slices_Grow_byte_byte xs q = some r) : AC Try.prog n_slices_Grow_byte_byte [.lit (.slice none 0 0), .lit (.int .i64 q)] S fun r' S' => ∃ m : Name, S m = none ∧ r' = .ret (eT (lI .u8) m r) ∧ S' = S.set m (oT (lI .u8) r) := by
 obtain ⟨⟨g0, g1⟩, h⟩ := gd_some h
 obtain rfl := Option.some.inj h
 have hlt : decide (q < 0) = false := decide_eq_false (by omega)
 have hw : IntKind.i64.wrap (q - IntKind.i64.wrap (((0 : Nat) : Int) - ((0 : Nat) : Int))) = q := by rw [IntKind.wrap_i64, IntKind.wrap_i64]; omega
 refine AC_of tok mixed fits_slices_Grow_byte_byte fun d hd => ?_
 have hnone : ∀ i, S (d, i) = none := fun i => hd _ (Nat.le_refl _)
 unfold c_slices_Grow_byte_byte
 show LW _ _ _ _ [(0, .lit (.slice none 0 0)), (1, .lit (.int .i64 q))] (hp [] S) 0 _
 refine xseq [(0, .lit (.slice none 0 0)), (1, .lit (.int .i64 q))] (hp [] S) 0 ?_ (fun k kp hk => ?_)
 ·refine LW_seq ?_
  refine xseq [(0, .lit (.slice none 0 0)), (1, .lit (.int .i64 q)), (6, .lit (.bool false))] (hp [] S) 0 ?_ (fun k kp hk => ?_)
  ·refine xcond false rfl (fun h0 => by cases h0) (fun _ => ?_)
   refine LW_skip ?_
   show LW _ _ _ _ _ _ _ _
   refine LW_seq ?_
   refine xseq [(0, .lit (.slice none 0 0)), (1, .lit (.int .i64 q))] (hp [] S) 0 ?_ (fun k kp hk => ?_)
   ·refine LW_seq ?_
    refine xseq [(0, .lit (.slice none 0 0)), (1, .lit (.int .i64 q)), (16, .lit (.bool (decide (0 < q))))] (hp [] S) 0 ?_ (fun k kp hk => ?_)
    ·refine xcond (decide (0 < q)) rfl (fun h0 => ?_) (fun h0 => ?_)
     ·have hq : 0 < q := of_decide_eq_true h0
      refine xseq [(0, eT (lI .u8) (d, 1) [])] (hp [((d, 1), oT (lI .u8) [])] S) 2 ?_ (fun k kp hk => ?_)
      ·refine xseq [(4, eT (lI .u8) (d, 1) [])] (hp [((d, 1), oT (lI .u8) [])] S) 2 ?_ (fun k kp hk => ?_)
       ·refine LW_ret ?_
        show FPost _ _ _ _ _ _ _
        exact ⟨_, hp_less (L := [((d, 1), oT (lI .u8) [])]) (D := []) (by intro p hp; cases hp), (d, 1), hnone _, rfl, rfl⟩
       ·try simp (maxSteps := 4000000) only [go_sem, Prod.mk.injEq, reduceIte, Nat.reduceEqDiff, Nat.reduceAdd, Nat.reduceSub, Nat.reduceMul, Nat.reduceDiv, Nat.reducePow, Nat.reduceLT, Nat.reduceLeDiff, Nat.reduceBEq, Nat.reduceBneDiff, Int.reduceToNat, Int.reduceEq, Int.reduceLE, Int.reduceLT, reduceCtorEq]
        repeat (with_reducible refine And.intro ?_ ?_; next => first | assumption | trivial | omega | decide | (constructor <;> first | assumption | omega) | (simp [Keep.ok, hp_cons_apply, hset_cons]; done))
        refine hk _ _ _ ?_
        refine xghost (D := []) ?_ ?_ ?_ ?_
        ·repeat (first | exact SlAll.nil | refine SlAll.cons (by first | exact Sub.refl | exact Sub.of_eq rfl | exact Sub.tip | exact Sub.nil | exact Sub.empt | exact Sub.young) ?_)
        ·exact HpW.refl
        ·intro p hp; cases hp
        ·omega
      ·try simp (maxSteps := 4000000) only [go_sem, Prod.mk.injEq, reduceIte, Nat.reduceEqDiff, Nat.reduceAdd, Nat.reduceSub, Nat.reduceMul, Nat.reduceDiv, Nat.reducePow, Nat.reduceLT, Nat.reduceLeDiff, Nat.reduceBEq, Nat.reduceBneDiff, Int.reduceToNat, Int.reduceEq, Int.reduceLE, Int.reduceLT, reduceCtorEq]
       repeat (with_reducible refine And.intro ?_ ?_; next => first | assumption | trivial | omega | decide | (constructor <;> first | assumption | omega) | (simp [Keep.ok, hp_cons_apply, hset_cons]; done))
       refine append1_zeros (L := (lI .u8)) (ys := List.replicate q.toNat 0) T37 T3 T5 rfl rfl (zlist_u8 rfl _) (by simp) hq (by omega) (by show q.toNat * 1 ≤ 2 ^ 47; omega) ?_
       try simp (maxSteps := 4000000) only [go_sem, Prod.mk.injEq, reduceIte, Nat.reduceEqDiff, Nat.reduceAdd, Nat.reduceSub, Nat.reduceMul, Nat.reduceDiv, Nat.reducePow, Nat.reduceLT, Nat.reduceLeDiff, Nat.reduceBEq, Nat.reduceBneDiff, Int.reduceToNat, Int.reduceEq, Int.reduceLE, Int.reduceLT, reduceCtorEq]
       repeat (with_reducible refine And.intro ?_ ?_; next => first | assumption | trivial | omega | decide | (constructor <;> first | assumption | omega) | (simp [Keep.ok, hp_cons_apply, hset_cons]; done))
       refine hk _ _ _ ?_
       refine Ghost.trans (Ghost.cutB (L := (lI .u8)) (xs := List.replicate q.toNat 0) (m := (d, 0)) (i := 0) (j := 22) (h := 0) (sl' := sset _ 0 (eB (lI .u8) (d, 1) [])) (Nat.zero_le _) ?_ rfl (by simp only [hp_cons_apply, reduceIte]) (fun k hk' => by rw [sget_sset, if_neg hk']) (by rw [sget_sset, if_pos rfl]; rfl)) ?_
       ·rfl
       ·rw [hp_del (hnone 0), hp_set]
        simp only [hrem_cons, hrem_nil, hset_nil, reduceIte]
        refine xghost (D := []) ?_ ?_ ?_ ?_
        ·exact (.cons Sub.bufTip .nil)
        ·exact HpW.refl
        ·intro p hp; cases hp
        ·omega
     ·refine LW_skip ?_
      show LW _ _ _ _ _ _ _ _
      refine xseq [(4, .lit (.slice none 0 0))] (hp [] S) 0 ?_ (fun k kp hk => ?_)
      ·refine LW_retX (xname (lI .u8) 4 Sub.nil_empt) ?_
       show FPost _ _ _ _ _ _ _
       exact ⟨_, hp_less (L := [((d, 0), oT (lI .u8) [])]) (D := []) (by intro p hp; cases hp), (d, 0), hnone _, rfl, rfl⟩
      ·try simp (maxSteps := 4000000) only [go_sem, Prod.mk.injEq, reduceIte, Nat.reduceEqDiff, Nat.reduceAdd, Nat.reduceSub, Nat.reduceMul, Nat.reduceDiv, Nat.reducePow, Nat.reduceLT, Nat.reduceLeDiff, Nat.reduceBEq, Nat.reduceBneDiff, Int.reduceToNat, Int.reduceEq, Int.reduceLE, Int.reduceLT, reduceCtorEq]
       repeat (with_reducible refine And.intro ?_ ?_; next => first | assumption | trivial | omega | decide | (constructor <;> first | assumption | omega) | (simp [Keep.ok, hp_cons_apply, hset_cons]; done))
       refine hk _ _ _ ?_
       refine xghost (D := []) ?_ ?_ ?_ ?_
       ·repeat (first | exact SlAll.nil | refine SlAll.cons (by first | exact Sub.refl | exact Sub.of_eq rfl | exact Sub.tip | exact Sub.nil | exact Sub.empt | exact Sub.young) ?_)
       ·exact HpW.refl
       ·intro p hp; cases hp
       ·omega
    ·try simp (maxSteps := 4000000) only [go_sem, Prod.mk.injEq, reduceIte, Nat.reduceEqDiff, Nat.reduceAdd, Nat.reduceSub, Nat.reduceMul, Nat.reduceDiv, Nat.reducePow, Nat.reduceLT, Nat.reduceLeDiff, Nat.reduceBEq, Nat.reduceBneDiff, Int.reduceToNat, Int.reduceEq, Int.reduceLE, Int.reduceLT, reduceCtorEq]
     repeat (with_reducible refine And.intro ?_ ?_; next => first | assumption | trivial | omega | decide | (constructor <;> first | assumption | omega) | (simp [Keep.ok, hp_cons_apply, hset_cons]; done))
     refine hk _ _ _ ?_
     refine xghost (D := []) ?_ ?_ ?_ ?_
     ·repeat (first | exact SlAll.nil | refine SlAll.cons (by first | exact Sub.refl | exact Sub.of_eq rfl | exact Sub.tip | exact Sub.nil | exact Sub.empt | exact Sub.young) ?_)
     ·exact HpW.refl
     ·intro p hp; cases hp
     ·omega
   ·try simp (maxSteps := 4000000) only [go_sem, Prod.mk.injEq, reduceIte, Nat.reduceEqDiff, Nat.reduceAdd, Nat.reduceSub, Nat.reduceMul, Nat.reduceDiv, Nat.reducePow, Nat.reduceLT, Nat.reduceLeDiff, Nat.reduceBEq, Nat.reduceBneDiff, Int.reduceToNat, Int.reduceEq, Int.reduceLE, Int.reduceLT, reduceCtorEq, hw]
    repeat (with_reducible refine And.intro ?_ ?_; next => first | assumption | trivial | omega | decide | (constructor <;> first | assumption | omega) | (simp [Keep.ok, hp_cons_apply, hset_cons, hw]; done))
    refine hk _ _ _ ?_
    refine xghost (D := []) ?_ ?_ ?_ ?_
    ·repeat (first | exact SlAll.nil | refine SlAll.cons (by first | exact Sub.refl | exact Sub.of_eq rfl | exact Sub.tip | exact Sub.nil | exact Sub.empt | exact Sub.young) ?_)
    ·exact HpW.refl
    ·intro p hp; cases hp
    ·omega
  ·try simp (maxSteps := 4000000) only [go_sem, Prod.mk.injEq, reduceIte, Nat.reduceEqDiff, Nat.reduceAdd, Nat.reduceSub, Nat.reduceMul, Nat.reduceDiv, Nat.reducePow, Nat.reduceLT, Nat.reduceLeDiff, Nat.reduceBEq, Nat.reduceBneDiff, Int.reduceToNat, Int.reduceEq, Int.reduceLE, Int.reduceLT, reduceCtorEq, hlt]
   repeat (with_reducible refine And.intro ?_ ?_; next => first | assumption | trivial | omega | decide | (constructor <;> first | assumption | omega) | (simp [Keep.ok, hp_cons_apply, hset_cons, hlt]; done))
   refine hk _ _ _ ?_
   refine xghost (D := []) ?_ ?_ ?_ ?_
   ·repeat (first | exact SlAll.nil | refine SlAll.cons (by first | exact Sub.refl | exact Sub.of_eq rfl | exact Sub.tip | exact Sub.nil | exact Sub.empt | exact Sub.young) ?_)
   ·exact HpW.refl
   ·intro p hp; cases hp
   ·omega
 ·try simp (maxSteps := 4000000) only [go_sem, Prod.mk.injEq, reduceIte, Nat.reduceEqDiff, Nat.reduceAdd, Nat.reduceSub, Nat.reduceMul, Nat.reduceDiv, Nat.reducePow, Nat.reduceLT, Nat.reduceLeDiff, Nat.reduceBEq, Nat.reduceBneDiff, Int.reduceToNat, Int.reduceEq, Int.reduceLE, Int.reduceLT, reduceCtorEq]
  repeat (with_reducible refine And.intro ?_ ?_; next => first | assumption | trivial | omega | decide | (constructor <;> first | assumption | omega) | (simp [Keep.ok, hp_cons_apply, hset_cons]; done))
  refine hk _ _ _ ?_
  refine xghost (D := []) ?_ ?_ ?_ ?_
  ·repeat (first | exact SlAll.nil | refine SlAll.cons (by first | exact Sub.refl | exact Sub.of_eq rfl | exact Sub.tip | exact Sub.nil | exact Sub.empt | exact Sub.young) ?_)
  ·exact HpW.refl
  ·intro p hp; cases hp
  ·omega
theorem grow_ok : GrowOk Try.prog 64 (.int .u8) := fun S q h0 h1 => s_slices_Grow_byte_byte_ok S [] q (by unfold s_slices_Grow_byte_byte gd; rw [if_pos ⟨h0, h1⟩])
def c_64g (Φ : Nat → FuncId × List AV × List AV) : Cal Try.prog Φ 64 id := calGrow grow_ok
end
end Go.Proofs.Ytolfnhebnennpaa
