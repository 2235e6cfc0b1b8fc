/- Go functions as Lean functions, and that their code does as these say. Printed by a program of this work. -/
import Derived.Test.YtejlgalnkblndaaXL
import Derived.Test.YtejlgalnkblndaaXa
import Derived.Test.YtejlgalnkblndaaXb
import Derived.Test.YtejlgalnkblndaaXd
set_option linter.unusedVariables false
set_option linter.unusedSimpArgs false
set_option maxRecDepth 100000
set_option maxHeartbeats 4000000
namespace Go.Proofs.Ytejlgalnkblndaa
open Go Go.Al
noncomputable section
/-! stanchion/stanchionref06.Primary -/
def s_stanchionref06_Primary (cx : GapiConf) (view : Int) : Option Int :=
  bd (s_stanchionref06_Count cx 2) fun (v : Int) => if ((v == 0) || (decide (view < 0))) = true then some 0 else gd (v ≠ 0) (some (Int.tmod view v))
theorem s_stanchionref06_Primary_ok (S : AHeap) (cx : GapiConf) (view : Int) {r : Int} (h : s_stanchionref06_Primary cx view = some r) :
    AC Try.prog n_stanchionref06_Primary [.agg [.lit (.int .i64 cx.U), .lit (.int .i64 cx.R), .lit (.int .i64 cx.Peers), .lit (.int .i64 cx.Window), .lit (.int .i64 cx.Every), .lit (.int .i64 cx.Patience), eS (lI .u8) cx.Secret], .lit (.int .i64 view)] S fun r' S' => r' = .ret (.lit (.int .i64 r)) ∧ S' = S := by
  refine AC_of tok mixed fits_stanchionref06_Primary fun d hd => ?_
  unfold c_stanchionref06_Primary
  show LW _ _ _ _ [(0, .agg [.lit (.int .i64 cx.U), .lit (.int .i64 cx.R), .lit (.int .i64 cx.Peers), .lit (.int .i64 cx.Window), .lit (.int .i64 cx.Every), .lit (.int .i64 cx.Patience), eS (lI .u8) cx.Secret]), (1, .lit (.int .i64 view))] (hp [] S) 0 _
  rw [s_stanchionref06_Primary] at h
  refine xseq [(1, .lit (.int .i64 view)), (2, .ptr (d, 0) 0)] (hp [((d, 0), .box [.lit (.int .i64 cx.U), .lit (.int .i64 cx.R), .lit (.int .i64 cx.Peers), .lit (.int .i64 cx.Window), .lit (.int .i64 cx.Every), .lit (.int .i64 cx.Patience), eS (lI .u8) cx.Secret])] S) 1 ?_ (fun k kp hk => ?_)
  · obtain ⟨v, hv, h⟩ := bd_some h
    refine xseq [(1, .lit (.int .i64 view)), (5, .lit (.int .i64 v))] (hp [((d, 0), .box [.lit (.int .i64 cx.U), .lit (.int .i64 cx.R), .lit (.int .i64 cx.Peers), .lit (.int .i64 cx.Window), .lit (.int .i64 cx.Every), .lit (.int .i64 cx.Patience), eS (lI .u8) cx.Secret])] S) 1 ?_ (fun k kp hk => ?_)
    · refine LW_seq ?_
      refine xseq [(1, .lit (.int .i64 view)), (5, .lit (.int .i64 v)), (13, .lit (.bool ((v == 0) || (decide (view < 0)))))] (hp [((d, 0), .box [.lit (.int .i64 cx.U), .lit (.int .i64 cx.R), .lit (.int .i64 cx.Peers), .lit (.int .i64 cx.Window), .lit (.int .i64 cx.Every), .lit (.int .i64 cx.Patience), eS (lI .u8) cx.Secret])] S) 1 ?_ (fun k kp hk => ?_)
      · refine xcond ((v == 0) || (decide (view < 0))) rfl (fun hc => ?_) (fun hc => ?_)
        · rw [ite_t hc] at h
          refine xseq [(4, .lit (.int .i64 0))] (hp [((d, 0), .box [.lit (.int .i64 cx.U), .lit (.int .i64 cx.R), .lit (.int .i64 cx.Peers), .lit (.int .i64 cx.Window), .lit (.int .i64 cx.Every), .lit (.int .i64 cx.Patience), eS (lI .u8) cx.Secret])] S) 1 ?_ (fun k kp hk => ?_)
          · refine LW_ret ?_
            obtain rfl := Option.some.inj h
            show FPost _ _ _ _ _ _ _
            exact ⟨_, hp_less (L := []) (D := [((d, 0), .box [.lit (.int .i64 cx.U), .lit (.int .i64 cx.R), .lit (.int .i64 cx.Peers), .lit (.int .i64 cx.Window), .lit (.int .i64 cx.Every), .lit (.int .i64 cx.Patience), eS (lI .u8) cx.Secret])]) (by intro p hp; simp only [List.mem_cons, List.not_mem_nil, or_false] at hp; rcases hp with rfl <;> first | exact hd _ (Nat.le_refl _)), rfl, rfl⟩
          · try simp only [go_sem, Prod.mk.injEq, reduceIte, Nat.reduceEqDiff, Nat.reduceAdd, Nat.reduceSub, Nat.reduceMul, Nat.reduceDiv, Nat.reducePow, Nat.reduceLT, Nat.reduceLeDiff, Nat.reduceBEq, Nat.reduceBneDiff, Int.reduceToNat, Int.reduceEq, Int.reduceLE, Int.reduceLT, reduceCtorEq]
            repeat (with_reducible refine And.intro ?_ ?_; next => first | assumption | trivial | omega | decide | (constructor <;> first | assumption | omega) | (simp [Keep.ok, hp_cons_apply, hset_cons]; done))
            refine hk _ _ _ ?_
            refine xghost (D := []) ?_ ?_ ?_ ?_
            · exact (.cons (Sub.of_eq rfl) .nil)
            · exact HpW.refl
            · exact (by intro p hp; cases hp)
            · omega
        · rw [ite_f hc] at h
          refine LW_skip ?_
          show LW _ _ _ _ _ _ _ _
          obtain ⟨hg, h⟩ := gd_some h
          refine xseq [(4, .lit (.int .i64 (Int.tmod view v)))] (hp [((d, 0), .box [.lit (.int .i64 cx.U), .lit (.int .i64 cx.R), .lit (.int .i64 cx.Peers), .lit (.int .i64 cx.Window), .lit (.int .i64 cx.Every), .lit (.int .i64 cx.Patience), eS (lI .u8) cx.Secret])] S) 1 ?_ (fun k kp hk => ?_)
          · refine LW_ret ?_
            obtain rfl := Option.some.inj h
            show FPost _ _ _ _ _ _ _
            exact ⟨_, hp_less (L := []) (D := [((d, 0), .box [.lit (.int .i64 cx.U), .lit (.int .i64 cx.R), .lit (.int .i64 cx.Peers), .lit (.int .i64 cx.Window), .lit (.int .i64 cx.Every), .lit (.int .i64 cx.Patience), eS (lI .u8) cx.Secret])]) (by intro p hp; simp only [List.mem_cons, List.not_mem_nil, or_false] at hp; rcases hp with rfl <;> first | exact hd _ (Nat.le_refl _)), rfl, rfl⟩
          · try simp only [go_sem, Prod.mk.injEq, reduceIte, Nat.reduceEqDiff, Nat.reduceAdd, Nat.reduceSub, Nat.reduceMul, Nat.reduceDiv, Nat.reducePow, Nat.reduceLT, Nat.reduceLeDiff, Nat.reduceBEq, Nat.reduceBneDiff, Int.reduceToNat, Int.reduceEq, Int.reduceLE, Int.reduceLT, reduceCtorEq]
            repeat (with_reducible refine And.intro ?_ ?_; next => first | assumption | trivial | omega | decide | (constructor <;> first | assumption | omega) | (simp [Keep.ok, hp_cons_apply, hset_cons]; done))
            refine hk _ _ _ ?_
            refine xghost (D := []) ?_ ?_ ?_ ?_
            · exact (.cons (Sub.of_eq rfl) .nil)
            · exact HpW.refl
            · exact (by intro p hp; cases hp)
            · omega
      · try simp only [go_sem, Prod.mk.injEq, reduceIte, Nat.reduceEqDiff, Nat.reduceAdd, Nat.reduceSub, Nat.reduceMul, Nat.reduceDiv, Nat.reducePow, Nat.reduceLT, Nat.reduceLeDiff, Nat.reduceBEq, Nat.reduceBneDiff, Int.reduceToNat, Int.reduceEq, Int.reduceLE, Int.reduceLT, reduceCtorEq]
        repeat (with_reducible refine And.intro ?_ ?_; next => first | assumption | trivial | omega | decide | (constructor <;> first | assumption | omega) | (simp [Keep.ok, hp_cons_apply, hset_cons]; done))
        refine xo_guard (v == 0) rfl (fun hc_1 => ?_) (fun hc_1 => ?_)
        · try simp only [go_sem, Prod.mk.injEq, reduceIte, Nat.reduceEqDiff, Nat.reduceAdd, Nat.reduceSub, Nat.reduceMul, Nat.reduceDiv, Nat.reducePow, Nat.reduceLT, Nat.reduceLeDiff, Nat.reduceBEq, Nat.reduceBneDiff, Int.reduceToNat, Int.reduceEq, Int.reduceLE, Int.reduceLT, reduceCtorEq, hc_1]
          repeat (with_reducible refine And.intro ?_ ?_; next => first | assumption | trivial | omega | decide | (constructor <;> first | assumption | omega) | (simp [Keep.ok, hp_cons_apply, hset_cons]; done))
          refine hk _ _ _ ?_
          refine xghost (D := []) ?_ ?_ ?_ ?_
          · exact (.cons (Sub.of_eq rfl) (.cons (Sub.of_eq rfl) (.cons (Sub.of_eq (by first | rfl | (simp only [sget_cons, reduceIte, Nat.reduceEqDiff, Bool.and_true, Bool.true_and, Bool.and_false, Bool.false_and, Bool.or_true, Bool.true_or, Bool.or_false, Bool.false_or, Bool.not_true, Bool.not_false, Bool.not_not, hc_1]; done))) .nil)))
          · exact HpW.refl
          · exact (by intro p hp; cases hp)
          · omega
        · try simp only [go_sem, Prod.mk.injEq, reduceIte, Nat.reduceEqDiff, Nat.reduceAdd, Nat.reduceSub, Nat.reduceMul, Nat.reduceDiv, Nat.reducePow, Nat.reduceLT, Nat.reduceLeDiff, Nat.reduceBEq, Nat.reduceBneDiff, Int.reduceToNat, Int.reduceEq, Int.reduceLE, Int.reduceLT, reduceCtorEq, hc_1]
          repeat (with_reducible refine And.intro ?_ ?_; next => first | assumption | trivial | omega | decide | (constructor <;> first | assumption | omega) | (simp [Keep.ok, hp_cons_apply, hset_cons]; done))
          refine hk _ _ _ ?_
          refine xghost (D := []) ?_ ?_ ?_ ?_
          · exact (.cons (Sub.of_eq rfl) (.cons (Sub.of_eq rfl) (.cons (Sub.of_eq (by first | rfl | (simp only [sget_cons, reduceIte, Nat.reduceEqDiff, Bool.and_true, Bool.true_and, Bool.and_false, Bool.false_and, Bool.or_true, Bool.true_or, Bool.or_false, Bool.false_or, Bool.not_true, Bool.not_false, Bool.not_not, hc_1]; done))) .nil)))
          · exact HpW.refl
          · exact (by intro p hp; cases hp)
          · omega
    · try simp only [go_sem, Prod.mk.injEq, reduceIte, Nat.reduceEqDiff, Nat.reduceAdd, Nat.reduceSub, Nat.reduceMul, Nat.reduceDiv, Nat.reducePow, Nat.reduceLT, Nat.reduceLeDiff, Nat.reduceBEq, Nat.reduceBneDiff, Int.reduceToNat, Int.reduceEq, Int.reduceLE, Int.reduceLT, reduceCtorEq]
      repeat (with_reducible refine And.intro ?_ ?_; next => first | assumption | trivial | omega | decide | (constructor <;> first | assumption | omega) | (simp [Keep.ok, hp_cons_apply, hset_cons]; done))
      have hcall := s_stanchionref06_Count_ok (hp [((d, 0), .box [.lit (.int .i64 cx.U), .lit (.int .i64 cx.R), .lit (.int .i64 cx.Peers), .lit (.int .i64 cx.Window), .lit (.int .i64 cx.Every), .lit (.int .i64 cx.Patience), eS (lI .u8) cx.Secret])] S) cx 2 hv
      refine call1_x hcall rfl ?_ ?_
      · exact (.cons Sub.refl (.cons Sub.refl .nil))
      clear hcall
      rintro _ SS ⟨rfl, hSS⟩ -
      rw [hSS]
      clear hSS
      try simp only [go_sem, Prod.mk.injEq, reduceIte, Nat.reduceEqDiff, Nat.reduceAdd, Nat.reduceSub, Nat.reduceMul, Nat.reduceDiv, Nat.reducePow, Nat.reduceLT, Nat.reduceLeDiff, Nat.reduceBEq, Nat.reduceBneDiff, Int.reduceToNat, Int.reduceEq, Int.reduceLE, Int.reduceLT, reduceCtorEq]
      repeat (with_reducible refine And.intro ?_ ?_; next => first | assumption | trivial | omega | decide | (constructor <;> first | assumption | omega) | (simp [Keep.ok, hp_cons_apply, hset_cons]; done))
      refine hk _ _ _ ?_
      refine xghost (D := []) ?_ ?_ ?_ ?_
      · exact (.cons (Sub.of_eq rfl) (.cons (Sub.of_eq rfl) .nil))
      · exact HpW.refl
      · exact (by intro p hp; cases hp)
      · omega
  · try simp only [go_sem, Prod.mk.injEq, reduceIte, Nat.reduceEqDiff, Nat.reduceAdd, Nat.reduceSub, Nat.reduceMul, Nat.reduceDiv, Nat.reducePow, Nat.reduceLT, Nat.reduceLeDiff, Nat.reduceBEq, Nat.reduceBneDiff, Int.reduceToNat, Int.reduceEq, Int.reduceLE, Int.reduceLT, reduceCtorEq]
    repeat (with_reducible refine And.intro ?_ ?_; next => first | assumption | trivial | omega | decide | (constructor <;> first | assumption | omega) | (simp [Keep.ok, hp_cons_apply, hset_cons]; done))
    refine hk _ _ _ ?_
    refine xghost (D := []) ?_ ?_ ?_ ?_
    · exact (.cons (Sub.of_eq rfl) (.cons (Sub.of_eq rfl) .nil))
    · exact HpW.refl
    · exact (by intro p hp; cases hp)
    · omega
/-! stanchion/stanchionref06.There -/
def s_stanchionref06_There (cx : GapiConf) (id : GapiId) : Option Bool :=
  bd (if (decide (0 ≤ id.N)) = true then s_stanchionref06_Count cx id.Role else some 0) fun (v : Int) => some ((decide (0 ≤ id.N)) && (decide (id.N < v)))
theorem s_stanchionref06_There_ok (S : AHeap) (cx : GapiConf) (id : GapiId) {r : Bool} (h : s_stanchionref06_There cx id = some r) :
    AC Try.prog n_stanchionref06_There [.agg [.lit (.int .i64 cx.U), .lit (.int .i64 cx.R), .lit (.int .i64 cx.Peers), .lit (.int .i64 cx.Window), .lit (.int .i64 cx.Every), .lit (.int .i64 cx.Patience), eS (lI .u8) cx.Secret], .agg [.lit (.int .i64 id.Role), .lit (.int .i64 id.N)]] S fun r' S' => r' = .ret (.lit (.bool r)) ∧ S' = S := by
  refine AC_of tok mixed fits_stanchionref06_There fun d hd => ?_
  unfold c_stanchionref06_There
  show LW _ _ _ _ [(0, .agg [.lit (.int .i64 cx.U), .lit (.int .i64 cx.R), .lit (.int .i64 cx.Peers), .lit (.int .i64 cx.Window), .lit (.int .i64 cx.Every), .lit (.int .i64 cx.Patience), eS (lI .u8) cx.Secret]), (1, .agg [.lit (.int .i64 id.Role), .lit (.int .i64 id.N)])] (hp [] S) 0 _
  rw [s_stanchionref06_There] at h
  refine xseq [(2, .ptr (d, 0) 0), (3, .ptr (d, 1) 0)] (hp [((d, 0), .box [.lit (.int .i64 cx.U), .lit (.int .i64 cx.R), .lit (.int .i64 cx.Peers), .lit (.int .i64 cx.Window), .lit (.int .i64 cx.Every), .lit (.int .i64 cx.Patience), eS (lI .u8) cx.Secret]), ((d, 1), .box [.lit (.int .i64 id.Role), .lit (.int .i64 id.N)])] S) 2 ?_ (fun k kp hk => ?_)
  · obtain ⟨v, hv, h⟩ := bd_some h
    refine xseqd [(4, .lit (.bool ((decide (0 ≤ id.N)) && (decide (id.N < v)))))] (hp [((d, 0), .box [.lit (.int .i64 cx.U), .lit (.int .i64 cx.R), .lit (.int .i64 cx.Peers), .lit (.int .i64 cx.Window), .lit (.int .i64 cx.Every), .lit (.int .i64 cx.Patience), eS (lI .u8) cx.Secret]), ((d, 1), .box [.lit (.int .i64 id.Role), .lit (.int .i64 id.N)])] S) 2 ?_ (fun k kp hk => ?_)
    · refine LW_ret ?_
      obtain rfl := Option.some.inj h
      show FPost _ _ _ _ _ _ _
      exact ⟨_, hp_less (L := []) (D := [((d, 0), .box [.lit (.int .i64 cx.U), .lit (.int .i64 cx.R), .lit (.int .i64 cx.Peers), .lit (.int .i64 cx.Window), .lit (.int .i64 cx.Every), .lit (.int .i64 cx.Patience), eS (lI .u8) cx.Secret]), ((d, 1), .box [.lit (.int .i64 id.Role), .lit (.int .i64 id.N)])]) (by intro p hp; simp only [List.mem_cons, List.not_mem_nil, or_false] at hp; rcases hp with rfl | rfl <;> first | exact hd _ (Nat.le_refl _)), rfl, rfl⟩
    · try simp only [go_sem, Prod.mk.injEq, reduceIte, Nat.reduceEqDiff, Nat.reduceAdd, Nat.reduceSub, Nat.reduceMul, Nat.reduceDiv, Nat.reducePow, Nat.reduceLT, Nat.reduceLeDiff, Nat.reduceBEq, Nat.reduceBneDiff, Int.reduceToNat, Int.reduceEq, Int.reduceLE, Int.reduceLT, reduceCtorEq]
      repeat (with_reducible refine And.intro ?_ ?_; next => first | assumption | trivial | omega | decide | (constructor <;> first | assumption | omega) | (simp [Keep.ok, hp_cons_apply, hset_cons]; done))
      refine xd_guard (decide (0 ≤ id.N)) rfl (fun hc => ?_) (fun hc => ?_)
      · try simp only [go_sem, Prod.mk.injEq, reduceIte, Nat.reduceEqDiff, Nat.reduceAdd, Nat.reduceSub, Nat.reduceMul, Nat.reduceDiv, Nat.reducePow, Nat.reduceLT, Nat.reduceLeDiff, Nat.reduceBEq, Nat.reduceBneDiff, Int.reduceToNat, Int.reduceEq, Int.reduceLE, Int.reduceLT, reduceCtorEq, hc]
        repeat (with_reducible refine And.intro ?_ ?_; next => first | assumption | trivial | omega | decide | (constructor <;> first | assumption | omega) | (simp [Keep.ok, hp_cons_apply, hset_cons]; done))
        rw [if_pos (by simp only [Bool.and_true, Bool.true_and, Bool.and_false, Bool.false_and, Bool.or_true, Bool.true_or, Bool.or_false, Bool.false_or, Bool.not_true, Bool.not_false, Bool.not_not, hc])] at hv
        have hcall := s_stanchionref06_Count_ok (hp [((d, 0), .box [.lit (.int .i64 cx.U), .lit (.int .i64 cx.R), .lit (.int .i64 cx.Peers), .lit (.int .i64 cx.Window), .lit (.int .i64 cx.Every), .lit (.int .i64 cx.Patience), eS (lI .u8) cx.Secret]), ((d, 1), .box [.lit (.int .i64 id.Role), .lit (.int .i64 id.N)])] S) cx id.Role hv
        refine call1_x hcall rfl ?_ ?_
        · exact (.cons Sub.refl (.cons Sub.refl .nil))
        clear hcall
        rintro _ SS ⟨rfl, hSS⟩ -
        rw [hSS]
        clear hSS
        try simp only [go_sem, Prod.mk.injEq, reduceIte, Nat.reduceEqDiff, Nat.reduceAdd, Nat.reduceSub, Nat.reduceMul, Nat.reduceDiv, Nat.reducePow, Nat.reduceLT, Nat.reduceLeDiff, Nat.reduceBEq, Nat.reduceBneDiff, Int.reduceToNat, Int.reduceEq, Int.reduceLE, Int.reduceLT, reduceCtorEq, hc]
        repeat (with_reducible refine And.intro ?_ ?_; next => first | assumption | trivial | omega | decide | (constructor <;> first | assumption | omega) | (simp [Keep.ok, hp_cons_apply, hset_cons]; done))
        try simp only [go_sem, Prod.mk.injEq, reduceIte, Nat.reduceEqDiff, Nat.reduceAdd, Nat.reduceSub, Nat.reduceMul, Nat.reduceDiv, Nat.reducePow, Nat.reduceLT, Nat.reduceLeDiff, Nat.reduceBEq, Nat.reduceBneDiff, Int.reduceToNat, Int.reduceEq, Int.reduceLE, Int.reduceLT, reduceCtorEq, hc]
        repeat (with_reducible refine And.intro ?_ ?_; next => first | assumption | trivial | omega | decide | (constructor <;> first | assumption | omega) | (simp [Keep.ok, hp_cons_apply, hset_cons]; done))
        refine hk _ _ _ ?_
        refine xghost (D := []) ?_ ?_ ?_ ?_
        · exact (.cons (Sub.of_eq (by first | rfl | (simp only [sget_cons, reduceIte, Nat.reduceEqDiff, Bool.and_true, Bool.true_and, Bool.and_false, Bool.false_and, Bool.or_true, Bool.true_or, Bool.or_false, Bool.false_or, Bool.not_true, Bool.not_false, Bool.not_not, hc]; done))) .nil)
        · exact HpW.refl
        · exact (by intro p hp; cases hp)
        · omega
      · try simp only [go_sem, Prod.mk.injEq, reduceIte, Nat.reduceEqDiff, Nat.reduceAdd, Nat.reduceSub, Nat.reduceMul, Nat.reduceDiv, Nat.reducePow, Nat.reduceLT, Nat.reduceLeDiff, Nat.reduceBEq, Nat.reduceBneDiff, Int.reduceToNat, Int.reduceEq, Int.reduceLE, Int.reduceLT, reduceCtorEq, hc]
        repeat (with_reducible refine And.intro ?_ ?_; next => first | assumption | trivial | omega | decide | (constructor <;> first | assumption | omega) | (simp [Keep.ok, hp_cons_apply, hset_cons]; done))
        refine hk _ _ _ ?_
        refine xghost (D := []) ?_ ?_ ?_ ?_
        · exact (.cons (Sub.of_eq (by first | rfl | (simp only [sget_cons, reduceIte, Nat.reduceEqDiff, Bool.and_true, Bool.true_and, Bool.and_false, Bool.false_and, Bool.or_true, Bool.true_or, Bool.or_false, Bool.false_or, Bool.not_true, Bool.not_false, Bool.not_not, hc]; done))) .nil)
        · exact HpW.refl
        · exact (by intro p hp; cases hp)
        · omega
  · try simp only [go_sem, Prod.mk.injEq, reduceIte, Nat.reduceEqDiff, Nat.reduceAdd, Nat.reduceSub, Nat.reduceMul, Nat.reduceDiv, Nat.reducePow, Nat.reduceLT, Nat.reduceLeDiff, Nat.reduceBEq, Nat.reduceBneDiff, Int.reduceToNat, Int.reduceEq, Int.reduceLE, Int.reduceLT, reduceCtorEq]
    repeat (with_reducible refine And.intro ?_ ?_; next => first | assumption | trivial | omega | decide | (constructor <;> first | assumption | omega) | (simp [Keep.ok, hp_cons_apply, hset_cons]; done))
    refine hk _ _ _ ?_
    refine xghost (D := []) ?_ ?_ ?_ ?_
    · exact (.cons (Sub.of_eq rfl) (.cons (Sub.of_eq rfl) .nil))
    · exact HpW.refl
    · exact (by intro p hp; cases hp)
    · omega
/-! stanchion/stanchionlaw06.ConfAnswers -/
def s_stanchionlaw06_ConfAnswers (cx : GapiConf) (role : Int) (view : Int) (id : GapiId) : Option Bool :=
  bd (s_stanchionlaw06_alive ) fun (v : Bool) => if (!v) = true then some false else bd (s_stanchionref00_CopyConf cx) fun (v_1 : GapiConf) => bd (s_conf_Check v_1) fun (v_2 : Int) => bd (s_stanchionref06_Check cx) fun (v_3 : Int) => bd (if (v_2 == v_3) = true then s_conf_Count v_1 role else some 0) fun (v_4 : Int) => bd (if (v_2 == v_3) = true then s_stanchionref06_Count cx role else some 0) fun (v_5 : Int) => bd (if ((v_2 == v_3) && (v_4 == v_5)) = true then s_conf_Quorum v_1 else some 0) fun (v_6 : Int) => bd (if ((v_2 == v_3) && (v_4 == v_5)) = true then s_stanchionref06_Quorum cx else some 0) fun (v_7 : Int) => bd (if (((v_2 == v_3) && (v_4 == v_5)) && (v_6 == v_7)) = true then s_conf_Proof v_1 else some 0) fun (v_8 : Int) => bd (if (((v_2 == v_3) && (v_4 == v_5)) && (v_6 == v_7)) = true then s_stanchionref06_Proof cx else some 0) fun (v_9 : Int) => bd (if ((((v_2 == v_3) && (v_4 == v_5)) && (v_6 == v_7)) && (v_8 == v_9)) = true then s_conf_Primary v_1 view else some 0) fun (v_10 : Int) => bd (if ((((v_2 == v_3) && (v_4 == v_5)) && (v_6 == v_7)) && (v_8 == v_9)) = true then s_stanchionref06_Primary cx view else some 0) fun (v_11 : Int) => bd (if (((((v_2 == v_3) && (v_4 == v_5)) && (v_6 == v_7)) && (v_8 == v_9)) && (v_10 == v_11)) = true then s_conf_There v_1 id else some false) fun (v_12 : Bool) => bd (if (((((v_2 == v_3) && (v_4 == v_5)) && (v_6 == v_7)) && (v_8 == v_9)) && (v_10 == v_11)) = true then s_stanchionref06_There cx id else some false) fun (v_13 : Bool) => some ((((((v_2 == v_3) && (v_4 == v_5)) && (v_6 == v_7)) && (v_8 == v_9)) && (v_10 == v_11)) && (v_12 == v_13))
theorem s_stanchionlaw06_ConfAnswers_ok (S : AHeap) (cx : GapiConf) (role : Int) (view : Int) (id : GapiId) {r : Bool} (h : s_stanchionlaw06_ConfAnswers cx role view id = some r) :
    AC Try.prog n_stanchionlaw06_ConfAnswers [.agg [.lit (.int .i64 cx.U), .lit (.int .i64 cx.R), .lit (.int .i64 cx.Peers), .lit (.int .i64 cx.Window), .lit (.int .i64 cx.Every), .lit (.int .i64 cx.Patience), eS (lI .u8) cx.Secret], .lit (.int .i64 role), .lit (.int .i64 view), .agg [.lit (.int .i64 id.Role), .lit (.int .i64 id.N)]] S fun r' S' => r' = .ret (.lit (.bool r)) ∧ S' = S := by
  refine AC_of tok mixed fits_stanchionlaw06_ConfAnswers fun d hd => ?_
  unfold c_stanchionlaw06_ConfAnswers
  show LW _ _ _ _ [(0, .agg [.lit (.int .i64 cx.U), .lit (.int .i64 cx.R), .lit (.int .i64 cx.Peers), .lit (.int .i64 cx.Window), .lit (.int .i64 cx.Every), .lit (.int .i64 cx.Patience), eS (lI .u8) cx.Secret]), (1, .lit (.int .i64 role)), (2, .lit (.int .i64 view)), (3, .agg [.lit (.int .i64 id.Role), .lit (.int .i64 id.N)])] (hp [] S) 0 _
  rw [s_stanchionlaw06_ConfAnswers] at h
  refine xseq [(1, .lit (.int .i64 role)), (2, .lit (.int .i64 view)), (4, .ptr (d, 0) 0), (7, .ptr (d, 1) 0)] (hp [((d, 0), .box [.lit (.int .i64 cx.U), .lit (.int .i64 cx.R), .lit (.int .i64 cx.Peers), .lit (.int .i64 cx.Window), .lit (.int .i64 cx.Every), .lit (.int .i64 cx.Patience), eS (lI .u8) cx.Secret]), ((d, 1), .box [.lit (.int .i64 id.Role), .lit (.int .i64 id.N)])] S) 2 ?_ (fun k kp hk => ?_)
  · refine LW_seq ?_
    obtain ⟨v, hv, h⟩ := bd_some h
    refine xseq [(1, .lit (.int .i64 role)), (2, .lit (.int .i64 view)), (4, .ptr (d, 0) 0), (7, .ptr (d, 1) 0), (11, .lit (.bool (!v)))] (hp [((d, 0), .box [.lit (.int .i64 cx.U), .lit (.int .i64 cx.R), .lit (.int .i64 cx.Peers), .lit (.int .i64 cx.Window), .lit (.int .i64 cx.Every), .lit (.int .i64 cx.Patience), eS (lI .u8) cx.Secret]), ((d, 1), .box [.lit (.int .i64 id.Role), .lit (.int .i64 id.N)])] S) 2 ?_ (fun k kp hk => ?_)
    · refine xcond (!v) rfl (fun hc => ?_) (fun hc => ?_)
      · rw [ite_t hc] at h
        refine xseq [(8, .lit (.bool false))] (hp [((d, 0), .box [.lit (.int .i64 cx.U), .lit (.int .i64 cx.R), .lit (.int .i64 cx.Peers), .lit (.int .i64 cx.Window), .lit (.int .i64 cx.Every), .lit (.int .i64 cx.Patience), eS (lI .u8) cx.Secret]), ((d, 1), .box [.lit (.int .i64 id.Role), .lit (.int .i64 id.N)])] S) 2 ?_ (fun k kp hk => ?_)
        · refine LW_ret ?_
          obtain rfl := Option.some.inj h
          show FPost _ _ _ _ _ _ _
          exact ⟨_, hp_less (L := []) (D := [((d, 0), .box [.lit (.int .i64 cx.U), .lit (.int .i64 cx.R), .lit (.int .i64 cx.Peers), .lit (.int .i64 cx.Window), .lit (.int .i64 cx.Every), .lit (.int .i64 cx.Patience), eS (lI .u8) cx.Secret]), ((d, 1), .box [.lit (.int .i64 id.Role), .lit (.int .i64 id.N)])]) (by intro p hp; simp only [List.mem_cons, List.not_mem_nil, or_false] at hp; rcases hp with rfl | rfl <;> first | exact hd _ (Nat.le_refl _)), rfl, rfl⟩
        · try simp only [go_sem, Prod.mk.injEq, reduceIte, Nat.reduceEqDiff, Nat.reduceAdd, Nat.reduceSub, Nat.reduceMul, Nat.reduceDiv, Nat.reducePow, Nat.reduceLT, Nat.reduceLeDiff, Nat.reduceBEq, Nat.reduceBneDiff, Int.reduceToNat, Int.reduceEq, Int.reduceLE, Int.reduceLT, reduceCtorEq]
          repeat (with_reducible refine And.intro ?_ ?_; next => first | assumption | trivial | omega | decide | (constructor <;> first | assumption | omega) | (simp [Keep.ok, hp_cons_apply, hset_cons]; done))
          refine hk _ _ _ ?_
          refine xghost (D := []) ?_ ?_ ?_ ?_
          · exact (.cons (Sub.of_eq rfl) .nil)
          · exact HpW.refl
          · exact (by intro p hp; cases hp)
          · omega
      · rw [ite_f hc] at h
        refine LW_skip ?_
        show LW _ _ _ _ _ _ _ _
        obtain ⟨v_1, hv_1, h⟩ := bd_some h
        refine xseq [(1, .lit (.int .i64 role)), (2, .lit (.int .i64 view)), (4, .ptr (d, 0) 0), (7, .ptr (d, 1) 0), (9, .ptr (d, 2) 0)] (hp [((d, 0), .box [.lit (.int .i64 cx.U), .lit (.int .i64 cx.R), .lit (.int .i64 cx.Peers), .lit (.int .i64 cx.Window), .lit (.int .i64 cx.Every), .lit (.int .i64 cx.Patience), eS (lI .u8) cx.Secret]), ((d, 1), .box [.lit (.int .i64 id.Role), .lit (.int .i64 id.N)]), ((d, 2), .box [.lit (.int .i64 v_1.U), .lit (.int .i64 v_1.R), .lit (.int .i64 v_1.Peers), .lit (.int .i64 v_1.Window), .lit (.int .i64 v_1.Every), .lit (.int .i64 v_1.Patience), eS (lI .u8) v_1.Secret])] S) 3 ?_ (fun k kp hk => ?_)
        · obtain ⟨v_2, hv_2, h⟩ := bd_some h
          obtain ⟨v_3, hv_3, h⟩ := bd_some h
          obtain ⟨v_4, hv_4, h⟩ := bd_some h
          obtain ⟨v_5, hv_5, h⟩ := bd_some h
          obtain ⟨v_6, hv_6, h⟩ := bd_some h
          obtain ⟨v_7, hv_7, h⟩ := bd_some h
          obtain ⟨v_8, hv_8, h⟩ := bd_some h
          obtain ⟨v_9, hv_9, h⟩ := bd_some h
          obtain ⟨v_10, hv_10, h⟩ := bd_some h
          obtain ⟨v_11, hv_11, h⟩ := bd_some h
          obtain ⟨v_12, hv_12, h⟩ := bd_some h
          obtain ⟨v_13, hv_13, h⟩ := bd_some h
          refine xseqd [(8, .lit (.bool ((((((v_2 == v_3) && (v_4 == v_5)) && (v_6 == v_7)) && (v_8 == v_9)) && (v_10 == v_11)) && (v_12 == v_13))))] (hp [((d, 0), .box [.lit (.int .i64 cx.U), .lit (.int .i64 cx.R), .lit (.int .i64 cx.Peers), .lit (.int .i64 cx.Window), .lit (.int .i64 cx.Every), .lit (.int .i64 cx.Patience), eS (lI .u8) cx.Secret]), ((d, 1), .box [.lit (.int .i64 id.Role), .lit (.int .i64 id.N)]), ((d, 2), .box [.lit (.int .i64 v_1.U), .lit (.int .i64 v_1.R), .lit (.int .i64 v_1.Peers), .lit (.int .i64 v_1.Window), .lit (.int .i64 v_1.Every), .lit (.int .i64 v_1.Patience), eS (lI .u8) v_1.Secret])] S) 3 ?_ (fun k kp hk => ?_)
          · refine LW_ret ?_
            obtain rfl := Option.some.inj h
            show FPost _ _ _ _ _ _ _
            exact ⟨_, hp_less (L := []) (D := [((d, 0), .box [.lit (.int .i64 cx.U), .lit (.int .i64 cx.R), .lit (.int .i64 cx.Peers), .lit (.int .i64 cx.Window), .lit (.int .i64 cx.Every), .lit (.int .i64 cx.Patience), eS (lI .u8) cx.Secret]), ((d, 1), .box [.lit (.int .i64 id.Role), .lit (.int .i64 id.N)]), ((d, 2), .box [.lit (.int .i64 v_1.U), .lit (.int .i64 v_1.R), .lit (.int .i64 v_1.Peers), .lit (.int .i64 v_1.Window), .lit (.int .i64 v_1.Every), .lit (.int .i64 v_1.Patience), eS (lI .u8) v_1.Secret])]) (by intro p hp; simp only [List.mem_cons, List.not_mem_nil, or_false] at hp; rcases hp with rfl | rfl | rfl <;> first | exact hd _ (Nat.le_refl _)), rfl, rfl⟩
          · try simp only [go_sem, Prod.mk.injEq, reduceIte, Nat.reduceEqDiff, Nat.reduceAdd, Nat.reduceSub, Nat.reduceMul, Nat.reduceDiv, Nat.reducePow, Nat.reduceLT, Nat.reduceLeDiff, Nat.reduceBEq, Nat.reduceBneDiff, Int.reduceToNat, Int.reduceEq, Int.reduceLE, Int.reduceLT, reduceCtorEq]
            repeat (with_reducible refine And.intro ?_ ?_; next => first | assumption | trivial | omega | decide | (constructor <;> first | assumption | omega) | (simp [Keep.ok, hp_cons_apply, hset_cons]; done))
            have hcall := s_conf_Check_ok (hp [((d, 0), .box [.lit (.int .i64 cx.U), .lit (.int .i64 cx.R), .lit (.int .i64 cx.Peers), .lit (.int .i64 cx.Window), .lit (.int .i64 cx.Every), .lit (.int .i64 cx.Patience), eS (lI .u8) cx.Secret]), ((d, 1), .box [.lit (.int .i64 id.Role), .lit (.int .i64 id.N)]), ((d, 2), .box [.lit (.int .i64 v_1.U), .lit (.int .i64 v_1.R), .lit (.int .i64 v_1.Peers), .lit (.int .i64 v_1.Window), .lit (.int .i64 v_1.Every), .lit (.int .i64 v_1.Patience), eS (lI .u8) v_1.Secret])] S) v_1 hv_2
            refine call1_x hcall rfl ?_ ?_
            · exact (.cons Sub.refl .nil)
            clear hcall
            rintro _ SS ⟨rfl, hSS⟩ -
            rw [hSS]
            clear hSS
            try simp only [go_sem, Prod.mk.injEq, reduceIte, Nat.reduceEqDiff, Nat.reduceAdd, Nat.reduceSub, Nat.reduceMul, Nat.reduceDiv, Nat.reducePow, Nat.reduceLT, Nat.reduceLeDiff, Nat.reduceBEq, Nat.reduceBneDiff, Int.reduceToNat, Int.reduceEq, Int.reduceLE, Int.reduceLT, reduceCtorEq]
            repeat (with_reducible refine And.intro ?_ ?_; next => first | assumption | trivial | omega | decide | (constructor <;> first | assumption | omega) | (simp [Keep.ok, hp_cons_apply, hset_cons]; done))
            try simp only [go_sem, Prod.mk.injEq, reduceIte, Nat.reduceEqDiff, Nat.reduceAdd, Nat.reduceSub, Nat.reduceMul, Nat.reduceDiv, Nat.reducePow, Nat.reduceLT, Nat.reduceLeDiff, Nat.reduceBEq, Nat.reduceBneDiff, Int.reduceToNat, Int.reduceEq, Int.reduceLE, Int.reduceLT, reduceCtorEq]
            repeat (with_reducible refine And.intro ?_ ?_; next => first | assumption | trivial | omega | decide | (constructor <;> first | assumption | omega) | (simp [Keep.ok, hp_cons_apply, hset_cons]; done))
            have hcall := s_stanchionref06_Check_ok (hp [((d, 0), .box [.lit (.int .i64 cx.U), .lit (.int .i64 cx.R), .lit (.int .i64 cx.Peers), .lit (.int .i64 cx.Window), .lit (.int .i64 cx.Every), .lit (.int .i64 cx.Patience), eS (lI .u8) cx.Secret]), ((d, 1), .box [.lit (.int .i64 id.Role), .lit (.int .i64 id.N)]), ((d, 2), .box [.lit (.int .i64 v_1.U), .lit (.int .i64 v_1.R), .lit (.int .i64 v_1.Peers), .lit (.int .i64 v_1.Window), .lit (.int .i64 v_1.Every), .lit (.int .i64 v_1.Patience), eS (lI .u8) v_1.Secret])] S) cx hv_3
            refine call1_x hcall rfl ?_ ?_
            · exact (.cons Sub.refl .nil)
            clear hcall
            rintro _ SS ⟨rfl, hSS⟩ -
            rw [hSS]
            clear hSS
            try simp only [go_sem, Prod.mk.injEq, reduceIte, Nat.reduceEqDiff, Nat.reduceAdd, Nat.reduceSub, Nat.reduceMul, Nat.reduceDiv, Nat.reducePow, Nat.reduceLT, Nat.reduceLeDiff, Nat.reduceBEq, Nat.reduceBneDiff, Int.reduceToNat, Int.reduceEq, Int.reduceLE, Int.reduceLT, reduceCtorEq]
            repeat (with_reducible refine And.intro ?_ ?_; next => first | assumption | trivial | omega | decide | (constructor <;> first | assumption | omega) | (simp [Keep.ok, hp_cons_apply, hset_cons]; done))
            try simp only [go_sem, Prod.mk.injEq, reduceIte, Nat.reduceEqDiff, Nat.reduceAdd, Nat.reduceSub, Nat.reduceMul, Nat.reduceDiv, Nat.reducePow, Nat.reduceLT, Nat.reduceLeDiff, Nat.reduceBEq, Nat.reduceBneDiff, Int.reduceToNat, Int.reduceEq, Int.reduceLE, Int.reduceLT, reduceCtorEq]
            repeat (with_reducible refine And.intro ?_ ?_; next => first | assumption | trivial | omega | decide | (constructor <;> first | assumption | omega) | (simp [Keep.ok, hp_cons_apply, hset_cons]; done))
            refine xd_guard (v_2 == v_3) rfl (fun hc_1 => ?_) (fun hc_1 => ?_)
            · try simp only [go_sem, Prod.mk.injEq, reduceIte, Nat.reduceEqDiff, Nat.reduceAdd, Nat.reduceSub, Nat.reduceMul, Nat.reduceDiv, Nat.reducePow, Nat.reduceLT, Nat.reduceLeDiff, Nat.reduceBEq, Nat.reduceBneDiff, Int.reduceToNat, Int.reduceEq, Int.reduceLE, Int.reduceLT, reduceCtorEq, hc_1]
              repeat (with_reducible refine And.intro ?_ ?_; next => first | assumption | trivial | omega | decide | (constructor <;> first | assumption | omega) | (simp [Keep.ok, hp_cons_apply, hset_cons]; done))
              rw [if_pos (by simp only [Bool.and_true, Bool.true_and, Bool.and_false, Bool.false_and, Bool.or_true, Bool.true_or, Bool.or_false, Bool.false_or, Bool.not_true, Bool.not_false, Bool.not_not, hc_1])] at hv_4
              have hcall := s_conf_Count_ok (hp [((d, 0), .box [.lit (.int .i64 cx.U), .lit (.int .i64 cx.R), .lit (.int .i64 cx.Peers), .lit (.int .i64 cx.Window), .lit (.int .i64 cx.Every), .lit (.int .i64 cx.Patience), eS (lI .u8) cx.Secret]), ((d, 1), .box [.lit (.int .i64 id.Role), .lit (.int .i64 id.N)]), ((d, 2), .box [.lit (.int .i64 v_1.U), .lit (.int .i64 v_1.R), .lit (.int .i64 v_1.Peers), .lit (.int .i64 v_1.Window), .lit (.int .i64 v_1.Every), .lit (.int .i64 v_1.Patience), eS (lI .u8) v_1.Secret])] S) v_1 role hv_4
              refine call1_x hcall rfl ?_ ?_
              · exact (.cons Sub.refl (.cons Sub.refl .nil))
              clear hcall
              rintro _ SS ⟨rfl, hSS⟩ -
              rw [hSS]
              clear hSS
              try simp only [go_sem, Prod.mk.injEq, reduceIte, Nat.reduceEqDiff, Nat.reduceAdd, Nat.reduceSub, Nat.reduceMul, Nat.reduceDiv, Nat.reducePow, Nat.reduceLT, Nat.reduceLeDiff, Nat.reduceBEq, Nat.reduceBneDiff, Int.reduceToNat, Int.reduceEq, Int.reduceLE, Int.reduceLT, reduceCtorEq, hc_1]
              repeat (with_reducible refine And.intro ?_ ?_; next => first | assumption | trivial | omega | decide | (constructor <;> first | assumption | omega) | (simp [Keep.ok, hp_cons_apply, hset_cons]; done))
              try simp only [go_sem, Prod.mk.injEq, reduceIte, Nat.reduceEqDiff, Nat.reduceAdd, Nat.reduceSub, Nat.reduceMul, Nat.reduceDiv, Nat.reducePow, Nat.reduceLT, Nat.reduceLeDiff, Nat.reduceBEq, Nat.reduceBneDiff, Int.reduceToNat, Int.reduceEq, Int.reduceLE, Int.reduceLT, reduceCtorEq, hc_1]
              repeat (with_reducible refine And.intro ?_ ?_; next => first | assumption | trivial | omega | decide | (constructor <;> first | assumption | omega) | (simp [Keep.ok, hp_cons_apply, hset_cons]; done))
              rw [if_pos (by simp only [Bool.and_true, Bool.true_and, Bool.and_false, Bool.false_and, Bool.or_true, Bool.true_or, Bool.or_false, Bool.false_or, Bool.not_true, Bool.not_false, Bool.not_not, hc_1])] at hv_5
              have hcall := s_stanchionref06_Count_ok (hp [((d, 0), .box [.lit (.int .i64 cx.U), .lit (.int .i64 cx.R), .lit (.int .i64 cx.Peers), .lit (.int .i64 cx.Window), .lit (.int .i64 cx.Every), .lit (.int .i64 cx.Patience), eS (lI .u8) cx.Secret]), ((d, 1), .box [.lit (.int .i64 id.Role), .lit (.int .i64 id.N)]), ((d, 2), .box [.lit (.int .i64 v_1.U), .lit (.int .i64 v_1.R), .lit (.int .i64 v_1.Peers), .lit (.int .i64 v_1.Window), .lit (.int .i64 v_1.Every), .lit (.int .i64 v_1.Patience), eS (lI .u8) v_1.Secret])] S) cx role hv_5
              refine call1_x hcall rfl ?_ ?_
              · exact (.cons Sub.refl (.cons Sub.refl .nil))
              clear hcall
              rintro _ SS ⟨rfl, hSS⟩ -
              rw [hSS]
              clear hSS
              try simp only [go_sem, Prod.mk.injEq, reduceIte, Nat.reduceEqDiff, Nat.reduceAdd, Nat.reduceSub, Nat.reduceMul, Nat.reduceDiv, Nat.reducePow, Nat.reduceLT, Nat.reduceLeDiff, Nat.reduceBEq, Nat.reduceBneDiff, Int.reduceToNat, Int.reduceEq, Int.reduceLE, Int.reduceLT, reduceCtorEq, hc_1]
              repeat (with_reducible refine And.intro ?_ ?_; next => first | assumption | trivial | omega | decide | (constructor <;> first | assumption | omega) | (simp [Keep.ok, hp_cons_apply, hset_cons]; done))
              try simp only [go_sem, Prod.mk.injEq, reduceIte, Nat.reduceEqDiff, Nat.reduceAdd, Nat.reduceSub, Nat.reduceMul, Nat.reduceDiv, Nat.reducePow, Nat.reduceLT, Nat.reduceLeDiff, Nat.reduceBEq, Nat.reduceBneDiff, Int.reduceToNat, Int.reduceEq, Int.reduceLE, Int.reduceLT, reduceCtorEq, hc_1]
              repeat (with_reducible refine And.intro ?_ ?_; next => first | assumption | trivial | omega | decide | (constructor <;> first | assumption | omega) | (simp [Keep.ok, hp_cons_apply, hset_cons]; done))
              refine xd_guard (v_4 == v_5) rfl (fun hc_2 => ?_) (fun hc_2 => ?_)
              · try simp only [go_sem, Prod.mk.injEq, reduceIte, Nat.reduceEqDiff, Nat.reduceAdd, Nat.reduceSub, Nat.reduceMul, Nat.reduceDiv, Nat.reducePow, Nat.reduceLT, Nat.reduceLeDiff, Nat.reduceBEq, Nat.reduceBneDiff, Int.reduceToNat, Int.reduceEq, Int.reduceLE, Int.reduceLT, reduceCtorEq, hc_1, hc_2]
                repeat (with_reducible refine And.intro ?_ ?_; next => first | assumption | trivial | omega | decide | (constructor <;> first | assumption | omega) | (simp [Keep.ok, hp_cons_apply, hset_cons]; done))
                rw [if_pos (by simp only [Bool.and_true, Bool.true_and, Bool.and_false, Bool.false_and, Bool.or_true, Bool.true_or, Bool.or_false, Bool.false_or, Bool.not_true, Bool.not_false, Bool.not_not, hc_1, hc_2])] at hv_6
                have hcall := s_conf_Quorum_ok (hp [((d, 0), .box [.lit (.int .i64 cx.U), .lit (.int .i64 cx.R), .lit (.int .i64 cx.Peers), .lit (.int .i64 cx.Window), .lit (.int .i64 cx.Every), .lit (.int .i64 cx.Patience), eS (lI .u8) cx.Secret]), ((d, 1), .box [.lit (.int .i64 id.Role), .lit (.int .i64 id.N)]), ((d, 2), .box [.lit (.int .i64 v_1.U), .lit (.int .i64 v_1.R), .lit (.int .i64 v_1.Peers), .lit (.int .i64 v_1.Window), .lit (.int .i64 v_1.Every), .lit (.int .i64 v_1.Patience), eS (lI .u8) v_1.Secret])] S) v_1 hv_6
                refine call1_x hcall rfl ?_ ?_
                · exact (.cons Sub.refl .nil)
                clear hcall
                rintro _ SS ⟨rfl, hSS⟩ -
                rw [hSS]
                clear hSS
                try simp only [go_sem, Prod.mk.injEq, reduceIte, Nat.reduceEqDiff, Nat.reduceAdd, Nat.reduceSub, Nat.reduceMul, Nat.reduceDiv, Nat.reducePow, Nat.reduceLT, Nat.reduceLeDiff, Nat.reduceBEq, Nat.reduceBneDiff, Int.reduceToNat, Int.reduceEq, Int.reduceLE, Int.reduceLT, reduceCtorEq, hc_1, hc_2]
                repeat (with_reducible refine And.intro ?_ ?_; next => first | assumption | trivial | omega | decide | (constructor <;> first | assumption | omega) | (simp [Keep.ok, hp_cons_apply, hset_cons]; done))
                try simp only [go_sem, Prod.mk.injEq, reduceIte, Nat.reduceEqDiff, Nat.reduceAdd, Nat.reduceSub, Nat.reduceMul, Nat.reduceDiv, Nat.reducePow, Nat.reduceLT, Nat.reduceLeDiff, Nat.reduceBEq, Nat.reduceBneDiff, Int.reduceToNat, Int.reduceEq, Int.reduceLE, Int.reduceLT, reduceCtorEq, hc_1, hc_2]
                repeat (with_reducible refine And.intro ?_ ?_; next => first | assumption | trivial | omega | decide | (constructor <;> first | assumption | omega) | (simp [Keep.ok, hp_cons_apply, hset_cons]; done))
                rw [if_pos (by simp only [Bool.and_true, Bool.true_and, Bool.and_false, Bool.false_and, Bool.or_true, Bool.true_or, Bool.or_false, Bool.false_or, Bool.not_true, Bool.not_false, Bool.not_not, hc_1, hc_2])] at hv_7
                have hcall := s_stanchionref06_Quorum_ok (hp [((d, 0), .box [.lit (.int .i64 cx.U), .lit (.int .i64 cx.R), .lit (.int .i64 cx.Peers), .lit (.int .i64 cx.Window), .lit (.int .i64 cx.Every), .lit (.int .i64 cx.Patience), eS (lI .u8) cx.Secret]), ((d, 1), .box [.lit (.int .i64 id.Role), .lit (.int .i64 id.N)]), ((d, 2), .box [.lit (.int .i64 v_1.U), .lit (.int .i64 v_1.R), .lit (.int .i64 v_1.Peers), .lit (.int .i64 v_1.Window), .lit (.int .i64 v_1.Every), .lit (.int .i64 v_1.Patience), eS (lI .u8) v_1.Secret])] S) cx hv_7
                refine call1_x hcall rfl ?_ ?_
                · exact (.cons Sub.refl .nil)
                clear hcall
                rintro _ SS ⟨rfl, hSS⟩ -
                rw [hSS]
                clear hSS
                try simp only [go_sem, Prod.mk.injEq, reduceIte, Nat.reduceEqDiff, Nat.reduceAdd, Nat.reduceSub, Nat.reduceMul, Nat.reduceDiv, Nat.reducePow, Nat.reduceLT, Nat.reduceLeDiff, Nat.reduceBEq, Nat.reduceBneDiff, Int.reduceToNat, Int.reduceEq, Int.reduceLE, Int.reduceLT, reduceCtorEq, hc_1, hc_2]
                repeat (with_reducible refine And.intro ?_ ?_; next => first | assumption | trivial | omega | decide | (constructor <;> first | assumption | omega) | (simp [Keep.ok, hp_cons_apply, hset_cons]; done))
                try simp only [go_sem, Prod.mk.injEq, reduceIte, Nat.reduceEqDiff, Nat.reduceAdd, Nat.reduceSub, Nat.reduceMul, Nat.reduceDiv, Nat.reducePow, Nat.reduceLT, Nat.reduceLeDiff, Nat.reduceBEq, Nat.reduceBneDiff, Int.reduceToNat, Int.reduceEq, Int.reduceLE, Int.reduceLT, reduceCtorEq, hc_1, hc_2]
                repeat (with_reducible refine And.intro ?_ ?_; next => first | assumption | trivial | omega | decide | (constructor <;> first | assumption | omega) | (simp [Keep.ok, hp_cons_apply, hset_cons]; done))
                refine xd_guard (v_6 == v_7) rfl (fun hc_3 => ?_) (fun hc_3 => ?_)
                · try simp only [go_sem, Prod.mk.injEq, reduceIte, Nat.reduceEqDiff, Nat.reduceAdd, Nat.reduceSub, Nat.reduceMul, Nat.reduceDiv, Nat.reducePow, Nat.reduceLT, Nat.reduceLeDiff, Nat.reduceBEq, Nat.reduceBneDiff, Int.reduceToNat, Int.reduceEq, Int.reduceLE, Int.reduceLT, reduceCtorEq, hc_1, hc_2, hc_3]
                  repeat (with_reducible refine And.intro ?_ ?_; next => first | assumption | trivial | omega | decide | (constructor <;> first | assumption | omega) | (simp [Keep.ok, hp_cons_apply, hset_cons]; done))
                  rw [if_pos (by simp only [Bool.and_true, Bool.true_and, Bool.and_false, Bool.false_and, Bool.or_true, Bool.true_or, Bool.or_false, Bool.false_or, Bool.not_true, Bool.not_false, Bool.not_not, hc_1, hc_2, hc_3])] at hv_8
                  have hcall := s_conf_Proof_ok (hp [((d, 0), .box [.lit (.int .i64 cx.U), .lit (.int .i64 cx.R), .lit (.int .i64 cx.Peers), .lit (.int .i64 cx.Window), .lit (.int .i64 cx.Every), .lit (.int .i64 cx.Patience), eS (lI .u8) cx.Secret]), ((d, 1), .box [.lit (.int .i64 id.Role), .lit (.int .i64 id.N)]), ((d, 2), .box [.lit (.int .i64 v_1.U), .lit (.int .i64 v_1.R), .lit (.int .i64 v_1.Peers), .lit (.int .i64 v_1.Window), .lit (.int .i64 v_1.Every), .lit (.int .i64 v_1.Patience), eS (lI .u8) v_1.Secret])] S) v_1 hv_8
                  refine call1_x hcall rfl ?_ ?_
                  · exact (.cons Sub.refl .nil)
                  clear hcall
                  rintro _ SS ⟨rfl, hSS⟩ -
                  rw [hSS]
                  clear hSS
                  try simp only [go_sem, Prod.mk.injEq, reduceIte, Nat.reduceEqDiff, Nat.reduceAdd, Nat.reduceSub, Nat.reduceMul, Nat.reduceDiv, Nat.reducePow, Nat.reduceLT, Nat.reduceLeDiff, Nat.reduceBEq, Nat.reduceBneDiff, Int.reduceToNat, Int.reduceEq, Int.reduceLE, Int.reduceLT, reduceCtorEq, hc_1, hc_2, hc_3]
                  repeat (with_reducible refine And.intro ?_ ?_; next => first | assumption | trivial | omega | decide | (constructor <;> first | assumption | omega) | (simp [Keep.ok, hp_cons_apply, hset_cons]; done))
                  try simp only [go_sem, Prod.mk.injEq, reduceIte, Nat.reduceEqDiff, Nat.reduceAdd, Nat.reduceSub, Nat.reduceMul, Nat.reduceDiv, Nat.reducePow, Nat.reduceLT, Nat.reduceLeDiff, Nat.reduceBEq, Nat.reduceBneDiff, Int.reduceToNat, Int.reduceEq, Int.reduceLE, Int.reduceLT, reduceCtorEq, hc_1, hc_2, hc_3]
                  repeat (with_reducible refine And.intro ?_ ?_; next => first | assumption | trivial | omega | decide | (constructor <;> first | assumption | omega) | (simp [Keep.ok, hp_cons_apply, hset_cons]; done))
                  rw [if_pos (by simp only [Bool.and_true, Bool.true_and, Bool.and_false, Bool.false_and, Bool.or_true, Bool.true_or, Bool.or_false, Bool.false_or, Bool.not_true, Bool.not_false, Bool.not_not, hc_1, hc_2, hc_3])] at hv_9
                  have hcall := s_stanchionref06_Proof_ok (hp [((d, 0), .box [.lit (.int .i64 cx.U), .lit (.int .i64 cx.R), .lit (.int .i64 cx.Peers), .lit (.int .i64 cx.Window), .lit (.int .i64 cx.Every), .lit (.int .i64 cx.Patience), eS (lI .u8) cx.Secret]), ((d, 1), .box [.lit (.int .i64 id.Role), .lit (.int .i64 id.N)]), ((d, 2), .box [.lit (.int .i64 v_1.U), .lit (.int .i64 v_1.R), .lit (.int .i64 v_1.Peers), .lit (.int .i64 v_1.Window), .lit (.int .i64 v_1.Every), .lit (.int .i64 v_1.Patience), eS (lI .u8) v_1.Secret])] S) cx hv_9
                  refine call1_x hcall rfl ?_ ?_
                  · exact (.cons Sub.refl .nil)
                  clear hcall
                  rintro _ SS ⟨rfl, hSS⟩ -
                  rw [hSS]
                  clear hSS
                  try simp only [go_sem, Prod.mk.injEq, reduceIte, Nat.reduceEqDiff, Nat.reduceAdd, Nat.reduceSub, Nat.reduceMul, Nat.reduceDiv, Nat.reducePow, Nat.reduceLT, Nat.reduceLeDiff, Nat.reduceBEq, Nat.reduceBneDiff, Int.reduceToNat, Int.reduceEq, Int.reduceLE, Int.reduceLT, reduceCtorEq, hc_1, hc_2, hc_3]
                  repeat (with_reducible refine And.intro ?_ ?_; next => first | assumption | trivial | omega | decide | (constructor <;> first | assumption | omega) | (simp [Keep.ok, hp_cons_apply, hset_cons]; done))
                  try simp only [go_sem, Prod.mk.injEq, reduceIte, Nat.reduceEqDiff, Nat.reduceAdd, Nat.reduceSub, Nat.reduceMul, Nat.reduceDiv, Nat.reducePow, Nat.reduceLT, Nat.reduceLeDiff, Nat.reduceBEq, Nat.reduceBneDiff, Int.reduceToNat, Int.reduceEq, Int.reduceLE, Int.reduceLT, reduceCtorEq, hc_1, hc_2, hc_3]
                  repeat (with_reducible refine And.intro ?_ ?_; next => first | assumption | trivial | omega | decide | (constructor <;> first | assumption | omega) | (simp [Keep.ok, hp_cons_apply, hset_cons]; done))
                  refine xd_guard (v_8 == v_9) rfl (fun hc_4 => ?_) (fun hc_4 => ?_)
                  · try simp only [go_sem, Prod.mk.injEq, reduceIte, Nat.reduceEqDiff, Nat.reduceAdd, Nat.reduceSub, Nat.reduceMul, Nat.reduceDiv, Nat.reducePow, Nat.reduceLT, Nat.reduceLeDiff, Nat.reduceBEq, Nat.reduceBneDiff, Int.reduceToNat, Int.reduceEq, Int.reduceLE, Int.reduceLT, reduceCtorEq, hc_1, hc_2, hc_3, hc_4]
                    repeat (with_reducible refine And.intro ?_ ?_; next => first | assumption | trivial | omega | decide | (constructor <;> first | assumption | omega) | (simp [Keep.ok, hp_cons_apply, hset_cons]; done))
                    rw [if_pos (by simp only [Bool.and_true, Bool.true_and, Bool.and_false, Bool.false_and, Bool.or_true, Bool.true_or, Bool.or_false, Bool.false_or, Bool.not_true, Bool.not_false, Bool.not_not, hc_1, hc_2, hc_3, hc_4])] at hv_10
                    have hcall := s_conf_Primary_ok (hp [((d, 0), .box [.lit (.int .i64 cx.U), .lit (.int .i64 cx.R), .lit (.int .i64 cx.Peers), .lit (.int .i64 cx.Window), .lit (.int .i64 cx.Every), .lit (.int .i64 cx.Patience), eS (lI .u8) cx.Secret]), ((d, 1), .box [.lit (.int .i64 id.Role), .lit (.int .i64 id.N)]), ((d, 2), .box [.lit (.int .i64 v_1.U), .lit (.int .i64 v_1.R), .lit (.int .i64 v_1.Peers), .lit (.int .i64 v_1.Window), .lit (.int .i64 v_1.Every), .lit (.int .i64 v_1.Patience), eS (lI .u8) v_1.Secret])] S) v_1 view hv_10
                    refine call1_x hcall rfl ?_ ?_
                    · exact (.cons Sub.refl (.cons Sub.refl .nil))
                    clear hcall
                    rintro _ SS ⟨rfl, hSS⟩ -
                    rw [hSS]
                    clear hSS
                    try simp only [go_sem, Prod.mk.injEq, reduceIte, Nat.reduceEqDiff, Nat.reduceAdd, Nat.reduceSub, Nat.reduceMul, Nat.reduceDiv, Nat.reducePow, Nat.reduceLT, Nat.reduceLeDiff, Nat.reduceBEq, Nat.reduceBneDiff, Int.reduceToNat, Int.reduceEq, Int.reduceLE, Int.reduceLT, reduceCtorEq, hc_1, hc_2, hc_3, hc_4]
                    repeat (with_reducible refine And.intro ?_ ?_; next => first | assumption | trivial | omega | decide | (constructor <;> first | assumption | omega) | (simp [Keep.ok, hp_cons_apply, hset_cons]; done))
                    try simp only [go_sem, Prod.mk.injEq, reduceIte, Nat.reduceEqDiff, Nat.reduceAdd, Nat.reduceSub, Nat.reduceMul, Nat.reduceDiv, Nat.reducePow, Nat.reduceLT, Nat.reduceLeDiff, Nat.reduceBEq, Nat.reduceBneDiff, Int.reduceToNat, Int.reduceEq, Int.reduceLE, Int.reduceLT, reduceCtorEq, hc_1, hc_2, hc_3, hc_4]
                    repeat (with_reducible refine And.intro ?_ ?_; next => first | assumption | trivial | omega | decide | (constructor <;> first | assumption | omega) | (simp [Keep.ok, hp_cons_apply, hset_cons]; done))
                    rw [if_pos (by simp only [Bool.and_true, Bool.true_and, Bool.and_false, Bool.false_and, Bool.or_true, Bool.true_or, Bool.or_false, Bool.false_or, Bool.not_true, Bool.not_false, Bool.not_not, hc_1, hc_2, hc_3, hc_4])] at hv_11
                    have hcall := s_stanchionref06_Primary_ok (hp [((d, 0), .box [.lit (.int .i64 cx.U), .lit (.int .i64 cx.R), .lit (.int .i64 cx.Peers), .lit (.int .i64 cx.Window), .lit (.int .i64 cx.Every), .lit (.int .i64 cx.Patience), eS (lI .u8) cx.Secret]), ((d, 1), .box [.lit (.int .i64 id.Role), .lit (.int .i64 id.N)]), ((d, 2), .box [.lit (.int .i64 v_1.U), .lit (.int .i64 v_1.R), .lit (.int .i64 v_1.Peers), .lit (.int .i64 v_1.Window), .lit (.int .i64 v_1.Every), .lit (.int .i64 v_1.Patience), eS (lI .u8) v_1.Secret])] S) cx view hv_11
                    refine call1_x hcall rfl ?_ ?_
                    · exact (.cons Sub.refl (.cons Sub.refl .nil))
                    clear hcall
                    rintro _ SS ⟨rfl, hSS⟩ -
                    rw [hSS]
                    clear hSS
                    try simp only [go_sem, Prod.mk.injEq, reduceIte, Nat.reduceEqDiff, Nat.reduceAdd, Nat.reduceSub, Nat.reduceMul, Nat.reduceDiv, Nat.reducePow, Nat.reduceLT, Nat.reduceLeDiff, Nat.reduceBEq, Nat.reduceBneDiff, Int.reduceToNat, Int.reduceEq, Int.reduceLE, Int.reduceLT, reduceCtorEq, hc_1, hc_2, hc_3, hc_4]
                    repeat (with_reducible refine And.intro ?_ ?_; next => first | assumption | trivial | omega | decide | (constructor <;> first | assumption | omega) | (simp [Keep.ok, hp_cons_apply, hset_cons]; done))
                    try simp only [go_sem, Prod.mk.injEq, reduceIte, Nat.reduceEqDiff, Nat.reduceAdd, Nat.reduceSub, Nat.reduceMul, Nat.reduceDiv, Nat.reducePow, Nat.reduceLT, Nat.reduceLeDiff, Nat.reduceBEq, Nat.reduceBneDiff, Int.reduceToNat, Int.reduceEq, Int.reduceLE, Int.reduceLT, reduceCtorEq, hc_1, hc_2, hc_3, hc_4]
                    repeat (with_reducible refine And.intro ?_ ?_; next => first | assumption | trivial | omega | decide | (constructor <;> first | assumption | omega) | (simp [Keep.ok, hp_cons_apply, hset_cons]; done))
                    refine xd_guard (v_10 == v_11) rfl (fun hc_5 => ?_) (fun hc_5 => ?_)
                    · try simp only [go_sem, Prod.mk.injEq, reduceIte, Nat.reduceEqDiff, Nat.reduceAdd, Nat.reduceSub, Nat.reduceMul, Nat.reduceDiv, Nat.reducePow, Nat.reduceLT, Nat.reduceLeDiff, Nat.reduceBEq, Nat.reduceBneDiff, Int.reduceToNat, Int.reduceEq, Int.reduceLE, Int.reduceLT, reduceCtorEq, hc_1, hc_2, hc_3, hc_4, hc_5]
                      repeat (with_reducible refine And.intro ?_ ?_; next => first | assumption | trivial | omega | decide | (constructor <;> first | assumption | omega) | (simp [Keep.ok, hp_cons_apply, hset_cons]; done))
                      rw [if_pos (by simp only [Bool.and_true, Bool.true_and, Bool.and_false, Bool.false_and, Bool.or_true, Bool.true_or, Bool.or_false, Bool.false_or, Bool.not_true, Bool.not_false, Bool.not_not, hc_1, hc_2, hc_3, hc_4, hc_5])] at hv_12
                      have hcall := s_conf_There_ok (hp [((d, 0), .box [.lit (.int .i64 cx.U), .lit (.int .i64 cx.R), .lit (.int .i64 cx.Peers), .lit (.int .i64 cx.Window), .lit (.int .i64 cx.Every), .lit (.int .i64 cx.Patience), eS (lI .u8) cx.Secret]), ((d, 1), .box [.lit (.int .i64 id.Role), .lit (.int .i64 id.N)]), ((d, 2), .box [.lit (.int .i64 v_1.U), .lit (.int .i64 v_1.R), .lit (.int .i64 v_1.Peers), .lit (.int .i64 v_1.Window), .lit (.int .i64 v_1.Every), .lit (.int .i64 v_1.Patience), eS (lI .u8) v_1.Secret])] S) v_1 id hv_12
                      refine call1_x hcall rfl ?_ ?_
                      · exact (.cons Sub.refl (.cons Sub.refl .nil))
                      clear hcall
                      rintro _ SS ⟨rfl, hSS⟩ -
                      rw [hSS]
                      clear hSS
                      try simp only [go_sem, Prod.mk.injEq, reduceIte, Nat.reduceEqDiff, Nat.reduceAdd, Nat.reduceSub, Nat.reduceMul, Nat.reduceDiv, Nat.reducePow, Nat.reduceLT, Nat.reduceLeDiff, Nat.reduceBEq, Nat.reduceBneDiff, Int.reduceToNat, Int.reduceEq, Int.reduceLE, Int.reduceLT, reduceCtorEq, hc_1, hc_2, hc_3, hc_4, hc_5]
                      repeat (with_reducible refine And.intro ?_ ?_; next => first | assumption | trivial | omega | decide | (constructor <;> first | assumption | omega) | (simp [Keep.ok, hp_cons_apply, hset_cons]; done))
                      try simp only [go_sem, Prod.mk.injEq, reduceIte, Nat.reduceEqDiff, Nat.reduceAdd, Nat.reduceSub, Nat.reduceMul, Nat.reduceDiv, Nat.reducePow, Nat.reduceLT, Nat.reduceLeDiff, Nat.reduceBEq, Nat.reduceBneDiff, Int.reduceToNat, Int.reduceEq, Int.reduceLE, Int.reduceLT, reduceCtorEq, hc_1, hc_2, hc_3, hc_4, hc_5]
                      repeat (with_reducible refine And.intro ?_ ?_; next => first | assumption | trivial | omega | decide | (constructor <;> first | assumption | omega) | (simp [Keep.ok, hp_cons_apply, hset_cons]; done))
                      rw [if_pos (by simp only [Bool.and_true, Bool.true_and, Bool.and_false, Bool.false_and, Bool.or_true, Bool.true_or, Bool.or_false, Bool.false_or, Bool.not_true, Bool.not_false, Bool.not_not, hc_1, hc_2, hc_3, hc_4, hc_5])] at hv_13
                      have hcall := s_stanchionref06_There_ok (hp [((d, 0), .box [.lit (.int .i64 cx.U), .lit (.int .i64 cx.R), .lit (.int .i64 cx.Peers), .lit (.int .i64 cx.Window), .lit (.int .i64 cx.Every), .lit (.int .i64 cx.Patience), eS (lI .u8) cx.Secret]), ((d, 1), .box [.lit (.int .i64 id.Role), .lit (.int .i64 id.N)]), ((d, 2), .box [.lit (.int .i64 v_1.U), .lit (.int .i64 v_1.R), .lit (.int .i64 v_1.Peers), .lit (.int .i64 v_1.Window), .lit (.int .i64 v_1.Every), .lit (.int .i64 v_1.Patience), eS (lI .u8) v_1.Secret])] S) cx id hv_13
                      refine call1_x hcall rfl ?_ ?_
                      · exact (.cons Sub.refl (.cons Sub.refl .nil))
                      clear hcall
                      rintro _ SS ⟨rfl, hSS⟩ -
                      rw [hSS]
                      clear hSS
                      try simp only [go_sem, Prod.mk.injEq, reduceIte, Nat.reduceEqDiff, Nat.reduceAdd, Nat.reduceSub, Nat.reduceMul, Nat.reduceDiv, Nat.reducePow, Nat.reduceLT, Nat.reduceLeDiff, Nat.reduceBEq, Nat.reduceBneDiff, Int.reduceToNat, Int.reduceEq, Int.reduceLE, Int.reduceLT, reduceCtorEq, hc_1, hc_2, hc_3, hc_4, hc_5]
                      repeat (with_reducible refine And.intro ?_ ?_; next => first | assumption | trivial | omega | decide | (constructor <;> first | assumption | omega) | (simp [Keep.ok, hp_cons_apply, hset_cons]; done))
                      try simp only [go_sem, Prod.mk.injEq, reduceIte, Nat.reduceEqDiff, Nat.reduceAdd, Nat.reduceSub, Nat.reduceMul, Nat.reduceDiv, Nat.reducePow, Nat.reduceLT, Nat.reduceLeDiff, Nat.reduceBEq, Nat.reduceBneDiff, Int.reduceToNat, Int.reduceEq, Int.reduceLE, Int.reduceLT, reduceCtorEq, hc_1, hc_2, hc_3, hc_4, hc_5]
                      repeat (with_reducible refine And.intro ?_ ?_; next => first | assumption | trivial | omega | decide | (constructor <;> first | assumption | omega) | (simp [Keep.ok, hp_cons_apply, hset_cons]; done))
                      refine hk _ _ _ ?_
                      refine xghost (D := []) ?_ ?_ ?_ ?_
                      · exact (.cons (Sub.of_eq (by first | rfl | (simp only [sget_cons, reduceIte, Nat.reduceEqDiff, Bool.and_true, Bool.true_and, Bool.and_false, Bool.false_and, Bool.or_true, Bool.true_or, Bool.or_false, Bool.false_or, Bool.not_true, Bool.not_false, Bool.not_not, hc_1, hc_2, hc_3, hc_4, hc_5]; done))) .nil)
                      · exact HpW.refl
                      · exact (by intro p hp; cases hp)
                      · omega
                    · try simp only [go_sem, Prod.mk.injEq, reduceIte, Nat.reduceEqDiff, Nat.reduceAdd, Nat.reduceSub, Nat.reduceMul, Nat.reduceDiv, Nat.reducePow, Nat.reduceLT, Nat.reduceLeDiff, Nat.reduceBEq, Nat.reduceBneDiff, Int.reduceToNat, Int.reduceEq, Int.reduceLE, Int.reduceLT, reduceCtorEq, hc_1, hc_2, hc_3, hc_4, hc_5]
                      repeat (with_reducible refine And.intro ?_ ?_; next => first | assumption | trivial | omega | decide | (constructor <;> first | assumption | omega) | (simp [Keep.ok, hp_cons_apply, hset_cons]; done))
                      refine hk _ _ _ ?_
                      refine xghost (D := []) ?_ ?_ ?_ ?_
                      · exact (.cons (Sub.of_eq (by first | rfl | (simp only [sget_cons, reduceIte, Nat.reduceEqDiff, Bool.and_true, Bool.true_and, Bool.and_false, Bool.false_and, Bool.or_true, Bool.true_or, Bool.or_false, Bool.false_or, Bool.not_true, Bool.not_false, Bool.not_not, hc_1, hc_2, hc_3, hc_4, hc_5]; done))) .nil)
                      · exact HpW.refl
                      · exact (by intro p hp; cases hp)
                      · omega
                  · try simp only [go_sem, Prod.mk.injEq, reduceIte, Nat.reduceEqDiff, Nat.reduceAdd, Nat.reduceSub, Nat.reduceMul, Nat.reduceDiv, Nat.reducePow, Nat.reduceLT, Nat.reduceLeDiff, Nat.reduceBEq, Nat.reduceBneDiff, Int.reduceToNat, Int.reduceEq, Int.reduceLE, Int.reduceLT, reduceCtorEq, hc_1, hc_2, hc_3, hc_4]
                    repeat (with_reducible refine And.intro ?_ ?_; next => first | assumption | trivial | omega | decide | (constructor <;> first | assumption | omega) | (simp [Keep.ok, hp_cons_apply, hset_cons]; done))
                    refine hk _ _ _ ?_
                    refine xghost (D := []) ?_ ?_ ?_ ?_
                    · exact (.cons (Sub.of_eq (by first | rfl | (simp only [sget_cons, reduceIte, Nat.reduceEqDiff, Bool.and_true, Bool.true_and, Bool.and_false, Bool.false_and, Bool.or_true, Bool.true_or, Bool.or_false, Bool.false_or, Bool.not_true, Bool.not_false, Bool.not_not, hc_1, hc_2, hc_3, hc_4]; done))) .nil)
                    · exact HpW.refl
                    · exact (by intro p hp; cases hp)
                    · omega
                · try simp only [go_sem, Prod.mk.injEq, reduceIte, Nat.reduceEqDiff, Nat.reduceAdd, Nat.reduceSub, Nat.reduceMul, Nat.reduceDiv, Nat.reducePow, Nat.reduceLT, Nat.reduceLeDiff, Nat.reduceBEq, Nat.reduceBneDiff, Int.reduceToNat, Int.reduceEq, Int.reduceLE, Int.reduceLT, reduceCtorEq, hc_1, hc_2, hc_3]
                  repeat (with_reducible refine And.intro ?_ ?_; next => first | assumption | trivial | omega | decide | (constructor <;> first | assumption | omega) | (simp [Keep.ok, hp_cons_apply, hset_cons]; done))
                  refine hk _ _ _ ?_
                  refine xghost (D := []) ?_ ?_ ?_ ?_
                  · exact (.cons (Sub.of_eq (by first | rfl | (simp only [sget_cons, reduceIte, Nat.reduceEqDiff, Bool.and_true, Bool.true_and, Bool.and_false, Bool.false_and, Bool.or_true, Bool.true_or, Bool.or_false, Bool.false_or, Bool.not_true, Bool.not_false, Bool.not_not, hc_1, hc_2, hc_3]; done))) .nil)
                  · exact HpW.refl
                  · exact (by intro p hp; cases hp)
                  · omega
              · try simp only [go_sem, Prod.mk.injEq, reduceIte, Nat.reduceEqDiff, Nat.reduceAdd, Nat.reduceSub, Nat.reduceMul, Nat.reduceDiv, Nat.reducePow, Nat.reduceLT, Nat.reduceLeDiff, Nat.reduceBEq, Nat.reduceBneDiff, Int.reduceToNat, Int.reduceEq, Int.reduceLE, Int.reduceLT, reduceCtorEq, hc_1, hc_2]
                repeat (with_reducible refine And.intro ?_ ?_; next => first | assumption | trivial | omega | decide | (constructor <;> first | assumption | omega) | (simp [Keep.ok, hp_cons_apply, hset_cons]; done))
                refine hk _ _ _ ?_
                refine xghost (D := []) ?_ ?_ ?_ ?_
                · exact (.cons (Sub.of_eq (by first | rfl | (simp only [sget_cons, reduceIte, Nat.reduceEqDiff, Bool.and_true, Bool.true_and, Bool.and_false, Bool.false_and, Bool.or_true, Bool.true_or, Bool.or_false, Bool.false_or, Bool.not_true, Bool.not_false, Bool.not_not, hc_1, hc_2]; done))) .nil)
                · exact HpW.refl
                · exact (by intro p hp; cases hp)
                · omega
            · try simp only [go_sem, Prod.mk.injEq, reduceIte, Nat.reduceEqDiff, Nat.reduceAdd, Nat.reduceSub, Nat.reduceMul, Nat.reduceDiv, Nat.reducePow, Nat.reduceLT, Nat.reduceLeDiff, Nat.reduceBEq, Nat.reduceBneDiff, Int.reduceToNat, Int.reduceEq, Int.reduceLE, Int.reduceLT, reduceCtorEq, hc_1]
              repeat (with_reducible refine And.intro ?_ ?_; next => first | assumption | trivial | omega | decide | (constructor <;> first | assumption | omega) | (simp [Keep.ok, hp_cons_apply, hset_cons]; done))
              refine hk _ _ _ ?_
              refine xghost (D := []) ?_ ?_ ?_ ?_
              · exact (.cons (Sub.of_eq (by first | rfl | (simp only [sget_cons, reduceIte, Nat.reduceEqDiff, Bool.and_true, Bool.true_and, Bool.and_false, Bool.false_and, Bool.or_true, Bool.true_or, Bool.or_false, Bool.false_or, Bool.not_true, Bool.not_false, Bool.not_not, hc_1]; done))) .nil)
              · exact HpW.refl
              · exact (by intro p hp; cases hp)
              · omega
        · try simp only [go_sem, Prod.mk.injEq, reduceIte, Nat.reduceEqDiff, Nat.reduceAdd, Nat.reduceSub, Nat.reduceMul, Nat.reduceDiv, Nat.reducePow, Nat.reduceLT, Nat.reduceLeDiff, Nat.reduceBEq, Nat.reduceBneDiff, Int.reduceToNat, Int.reduceEq, Int.reduceLE, Int.reduceLT, reduceCtorEq]
          repeat (with_reducible refine And.intro ?_ ?_; next => first | assumption | trivial | omega | decide | (constructor <;> first | assumption | omega) | (simp [Keep.ok, hp_cons_apply, hset_cons]; done))
          have hcall := s_stanchionref00_CopyConf_ok (hp [((d, 0), .box [.lit (.int .i64 cx.U), .lit (.int .i64 cx.R), .lit (.int .i64 cx.Peers), .lit (.int .i64 cx.Window), .lit (.int .i64 cx.Every), .lit (.int .i64 cx.Patience), eS (lI .u8) cx.Secret]), ((d, 1), .box [.lit (.int .i64 id.Role), .lit (.int .i64 id.N)])] S) cx hv_1
          refine call1_x hcall rfl ?_ ?_
          · exact (.cons Sub.refl .nil)
          clear hcall
          rintro _ SS ⟨rfl, hSS⟩ -
          rw [hSS]
          clear hSS
          try simp only [go_sem, Prod.mk.injEq, reduceIte, Nat.reduceEqDiff, Nat.reduceAdd, Nat.reduceSub, Nat.reduceMul, Nat.reduceDiv, Nat.reducePow, Nat.reduceLT, Nat.reduceLeDiff, Nat.reduceBEq, Nat.reduceBneDiff, Int.reduceToNat, Int.reduceEq, Int.reduceLE, Int.reduceLT, reduceCtorEq]
          repeat (with_reducible refine And.intro ?_ ?_; next => first | assumption | trivial | omega | decide | (constructor <;> first | assumption | omega) | (simp [Keep.ok, hp_cons_apply, hset_cons]; done))
          refine hk _ _ _ ?_
          refine xghost (D := []) ?_ ?_ ?_ ?_
          · exact (.cons (Sub.of_eq rfl) (.cons (Sub.of_eq rfl) (.cons (Sub.of_eq rfl) (.cons (Sub.of_eq rfl) (.cons (Sub.of_eq rfl) .nil)))))
          · exact HpW.refl
          · exact (by intro p hp; cases hp)
          · omega
    · try simp only [go_sem, Prod.mk.injEq, reduceIte, Nat.reduceEqDiff, Nat.reduceAdd, Nat.reduceSub, Nat.reduceMul, Nat.reduceDiv, Nat.reducePow, Nat.reduceLT, Nat.reduceLeDiff, Nat.reduceBEq, Nat.reduceBneDiff, Int.reduceToNat, Int.reduceEq, Int.reduceLE, Int.reduceLT, reduceCtorEq]
      repeat (with_reducible refine And.intro ?_ ?_; next => first | assumption | trivial | omega | decide | (constructor <;> first | assumption | omega) | (simp [Keep.ok, hp_cons_apply, hset_cons]; done))
      have hcall := s_stanchionlaw06_alive_ok (hp [((d, 0), .box [.lit (.int .i64 cx.U), .lit (.int .i64 cx.R), .lit (.int .i64 cx.Peers), .lit (.int .i64 cx.Window), .lit (.int .i64 cx.Every), .lit (.int .i64 cx.Patience), eS (lI .u8) cx.Secret]), ((d, 1), .box [.lit (.int .i64 id.Role), .lit (.int .i64 id.N)])] S)  hv
      refine call1_x hcall rfl ?_ ?_
      · exact .nil
      clear hcall
      rintro _ SS ⟨rfl, hSS⟩ -
      rw [hSS]
      clear hSS
      try simp only [go_sem, Prod.mk.injEq, reduceIte, Nat.reduceEqDiff, Nat.reduceAdd, Nat.reduceSub, Nat.reduceMul, Nat.reduceDiv, Nat.reducePow, Nat.reduceLT, Nat.reduceLeDiff, Nat.reduceBEq, Nat.reduceBneDiff, Int.reduceToNat, Int.reduceEq, Int.reduceLE, Int.reduceLT, reduceCtorEq]
      repeat (with_reducible refine And.intro ?_ ?_; next => first | assumption | trivial | omega | decide | (constructor <;> first | assumption | omega) | (simp [Keep.ok, hp_cons_apply, hset_cons]; done))
      refine hk _ _ _ ?_
      refine xghost (D := []) ?_ ?_ ?_ ?_
      · exact (.cons (Sub.of_eq rfl) (.cons (Sub.of_eq rfl) (.cons (Sub.of_eq rfl) (.cons (Sub.of_eq rfl) (.cons (Sub.of_eq rfl) .nil)))))
      · exact HpW.refl
      · exact (by intro p hp; cases hp)
      · omega
  · try simp only [go_sem, Prod.mk.injEq, reduceIte, Nat.reduceEqDiff, Nat.reduceAdd, Nat.reduceSub, Nat.reduceMul, Nat.reduceDiv, Nat.reducePow, Nat.reduceLT, Nat.reduceLeDiff, Nat.reduceBEq, Nat.reduceBneDiff, Int.reduceToNat, Int.reduceEq, Int.reduceLE, Int.reduceLT, reduceCtorEq]
    repeat (with_reducible refine And.intro ?_ ?_; next => first | assumption | trivial | omega | decide | (constructor <;> first | assumption | omega) | (simp [Keep.ok, hp_cons_apply, hset_cons]; done))
    refine hk _ _ _ ?_
    refine xghost (D := []) ?_ ?_ ?_ ?_
    · exact (.cons (Sub.of_eq rfl) (.cons (Sub.of_eq rfl) (.cons (Sub.of_eq rfl) (.cons (Sub.of_eq rfl) .nil))))
    · exact HpW.refl
    · exact (by intro p hp; cases hp)
    · omega
end
end Go.Proofs.Ytejlgalnkblndaa
