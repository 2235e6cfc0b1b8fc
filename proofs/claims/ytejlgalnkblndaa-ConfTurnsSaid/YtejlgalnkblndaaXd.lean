/- Go functions as Lean functions, and that their code does as these say. Printed by a program of this work. -/
import Derived.Test.YtejlgalnkblndaaXL
import Derived.Test.YtejlgalnkblndaaXc
set_option linter.unusedVariables false
set_option linter.unusedSimpArgs false
set_option maxRecDepth 100000
set_option maxHeartbeats 4000000
namespace Go.Proofs.Ytejlgalnkblndaa
open Go Go.Al
noncomputable section
/-! stanchion/stanchionref00.CopyConf -/
def s_stanchionref00_CopyConf (cx : GapiConf) : Option GapiConf :=
  bd (s_stanchionref00_CopyBytes cx.Secret) fun (v : List Int) => some (GapiConf.mk cx.U cx.R cx.Peers cx.Window cx.Every cx.Patience v)
theorem s_stanchionref00_CopyConf_ok (S : AHeap) (cx : GapiConf) {r : GapiConf} (h : s_stanchionref00_CopyConf cx = some r) :
    AC Try.prog n_stanchionref00_CopyConf [.agg [.lit (.int .i64 cx.U), .lit (.int .i64 cx.R), .lit (.int .i64 cx.Peers), .lit (.int .i64 cx.Window), .lit (.int .i64 cx.Every), .lit (.int .i64 cx.Patience), eS (lI .u8) cx.Secret]] S fun r' S' => r' = .ret (.agg [.lit (.int .i64 r.U), .lit (.int .i64 r.R), .lit (.int .i64 r.Peers), .lit (.int .i64 r.Window), .lit (.int .i64 r.Every), .lit (.int .i64 r.Patience), eS (lI .u8) r.Secret]) ∧ S' = S := by
  refine AC_of tok mixed fits_stanchionref00_CopyConf fun d hd => ?_
  unfold c_stanchionref00_CopyConf
  show LW _ _ _ _ [(0, .agg [.lit (.int .i64 cx.U), .lit (.int .i64 cx.R), .lit (.int .i64 cx.Peers), .lit (.int .i64 cx.Window), .lit (.int .i64 cx.Every), .lit (.int .i64 cx.Patience), eS (lI .u8) cx.Secret])] (hp [] S) 0 _
  rw [s_stanchionref00_CopyConf] at h
  refine xseq [(1, .ptr (d, 0) 0), (2, .ptr (d, 1) 0)] (hp [((d, 0), .box [.lit (.int .i64 cx.U), .lit (.int .i64 cx.R), .lit (.int .i64 cx.Peers), .lit (.int .i64 cx.Window), .lit (.int .i64 cx.Every), .lit (.int .i64 cx.Patience), eS (lI .u8) cx.Secret]), ((d, 1), .box [.lit (.int .i64 0), .lit (.int .i64 0), .lit (.int .i64 0), .lit (.int .i64 0), .lit (.int .i64 0), .lit (.int .i64 0), .lit (.slice none 0 0)])] S) 2 ?_ (fun k kp hk => ?_)
  · obtain ⟨v, hv, h⟩ := bd_some h
    refine xseq [(1, .ptr (d, 0) 0), (2, .ptr (d, 1) 0)] (hp [((d, 0), .box [.lit (.int .i64 cx.U), .lit (.int .i64 cx.R), .lit (.int .i64 cx.Peers), .lit (.int .i64 cx.Window), .lit (.int .i64 cx.Every), .lit (.int .i64 cx.Patience), eS (lI .u8) v]), ((d, 1), .box [.lit (.int .i64 0), .lit (.int .i64 0), .lit (.int .i64 0), .lit (.int .i64 0), .lit (.int .i64 0), .lit (.int .i64 0), .lit (.slice none 0 0)])] S) 2 ?_ (fun k kp hk => ?_)
    · refine xseq [(2, .ptr (d, 1) 0)] (hp [((d, 0), .box [.lit (.int .i64 cx.U), .lit (.int .i64 cx.R), .lit (.int .i64 cx.Peers), .lit (.int .i64 cx.Window), .lit (.int .i64 cx.Every), .lit (.int .i64 cx.Patience), eS (lI .u8) v]), ((d, 1), .box [.lit (.int .i64 cx.U), .lit (.int .i64 cx.R), .lit (.int .i64 cx.Peers), .lit (.int .i64 cx.Window), .lit (.int .i64 cx.Every), .lit (.int .i64 cx.Patience), eS (lI .u8) v])] S) 2 ?_ (fun k kp hk => ?_)
      · refine LW_ret ?_
        obtain rfl := Option.some.inj h
        show FPost _ _ _ _ _ _ _
        simp only [FPost, ares, one1, go_sem, Prod.mk.injEq, reduceIte, Nat.reduceEqDiff, Nat.reduceAdd, Nat.reduceSub, Nat.reduceMul, Nat.reduceDiv, Nat.reducePow, Nat.reduceLT, Nat.reduceLeDiff, Nat.reduceBEq, Nat.reduceBneDiff, Int.reduceToNat, Int.reduceEq, Int.reduceLE, Int.reduceLT, reduceCtorEq]
        repeat (with_reducible refine And.intro ?_ ?_; next => first | assumption | trivial | omega | decide | (constructor <;> first | assumption | omega) | (simp [Keep.ok, hp_cons_apply, hset_cons]; done))
        first | exact ⟨_, hp_less (L := []) (D := [((d, 0), .box [.lit (.int .i64 cx.U), .lit (.int .i64 cx.R), .lit (.int .i64 cx.Peers), .lit (.int .i64 cx.Window), .lit (.int .i64 cx.Every), .lit (.int .i64 cx.Patience), eS (lI .u8) v]), ((d, 1), .box [.lit (.int .i64 cx.U), .lit (.int .i64 cx.R), .lit (.int .i64 cx.Peers), .lit (.int .i64 cx.Window), .lit (.int .i64 cx.Every), .lit (.int .i64 cx.Patience), eS (lI .u8) v])]) (by intro p hp; simp only [List.mem_cons, List.not_mem_nil, or_false] at hp; rcases hp with rfl | rfl <;> first | exact hd _ (Nat.le_refl _)), rfl, rfl⟩ | exact ⟨_, hp_less (L := []) (D := [((d, 0), .box [.lit (.int .i64 cx.U), .lit (.int .i64 cx.R), .lit (.int .i64 cx.Peers), .lit (.int .i64 cx.Window), .lit (.int .i64 cx.Every), .lit (.int .i64 cx.Patience), eS (lI .u8) v]), ((d, 1), .box [.lit (.int .i64 cx.U), .lit (.int .i64 cx.R), .lit (.int .i64 cx.Peers), .lit (.int .i64 cx.Window), .lit (.int .i64 cx.Every), .lit (.int .i64 cx.Patience), eS (lI .u8) v])]) (by intro p hp; simp only [List.mem_cons, List.not_mem_nil, or_false] at hp; rcases hp with rfl | rfl <;> first | exact hd _ (Nat.le_refl _)), rfl⟩
      · try simp only [go_sem, Prod.mk.injEq, reduceIte, Nat.reduceEqDiff, Nat.reduceAdd, Nat.reduceSub, Nat.reduceMul, Nat.reduceDiv, Nat.reducePow, Nat.reduceLT, Nat.reduceLeDiff, Nat.reduceBEq, Nat.reduceBneDiff, Int.reduceToNat, Int.reduceEq, Int.reduceLE, Int.reduceLT, reduceCtorEq]
        repeat (with_reducible refine And.intro ?_ ?_; next => first | assumption | trivial | omega | decide | (constructor <;> first | assumption | omega) | (simp [Keep.ok, hp_cons_apply, hset_cons]; done))
        refine hk _ _ _ ?_
        refine xghost (D := []) ?_ ?_ ?_ ?_
        · exact (.cons (Sub.of_eq rfl) .nil)
        · exact HpW.refl
        · exact (by intro p hp; cases hp)
        · omega
    · try simp only [go_sem, Prod.mk.injEq, reduceIte, Nat.reduceEqDiff, Nat.reduceAdd, Nat.reduceSub, Nat.reduceMul, Nat.reduceDiv, Nat.reducePow, Nat.reduceLT, Nat.reduceLeDiff, Nat.reduceBEq, Nat.reduceBneDiff, Int.reduceToNat, Int.reduceEq, Int.reduceLE, Int.reduceLT, reduceCtorEq]
      repeat (with_reducible refine And.intro ?_ ?_; next => first | assumption | trivial | omega | decide | (constructor <;> first | assumption | omega) | (simp [Keep.ok, hp_cons_apply, hset_cons]; done))
      have hcall := s_stanchionref00_CopyBytes_ok (hp [((d, 0), .box [.lit (.int .i64 cx.U), .lit (.int .i64 cx.R), .lit (.int .i64 cx.Peers), .lit (.int .i64 cx.Window), .lit (.int .i64 cx.Every), .lit (.int .i64 cx.Patience), eS (lI .u8) cx.Secret]), ((d, 1), .box [.lit (.int .i64 0), .lit (.int .i64 0), .lit (.int .i64 0), .lit (.int .i64 0), .lit (.int .i64 0), .lit (.int .i64 0), .lit (.slice none 0 0)])] S) cx.Secret hv
      refine call1_x hcall rfl ?_ ?_
      · exact (.cons Sub.refl .nil)
      clear hcall
      rintro _ SS ⟨rfl, hSS⟩ -
      rw [hSS]
      clear hSS
      try simp only [go_sem, Prod.mk.injEq, reduceIte, Nat.reduceEqDiff, Nat.reduceAdd, Nat.reduceSub, Nat.reduceMul, Nat.reduceDiv, Nat.reducePow, Nat.reduceLT, Nat.reduceLeDiff, Nat.reduceBEq, Nat.reduceBneDiff, Int.reduceToNat, Int.reduceEq, Int.reduceLE, Int.reduceLT, reduceCtorEq]
      repeat (with_reducible refine And.intro ?_ ?_; next => first | assumption | trivial | omega | decide | (constructor <;> first | assumption | omega) | (simp [Keep.ok, hp_cons_apply, hset_cons]; done))
      refine hk _ _ _ ?_
      refine xghost (D := []) ?_ ?_ ?_ ?_
      · exact (.cons (Sub.of_eq rfl) (.cons (Sub.of_eq rfl) .nil))
      · exact HpW.refl
      · exact (by intro p hp; cases hp)
      · omega
  · try simp only [go_sem, Prod.mk.injEq, reduceIte, Nat.reduceEqDiff, Nat.reduceAdd, Nat.reduceSub, Nat.reduceMul, Nat.reduceDiv, Nat.reducePow, Nat.reduceLT, Nat.reduceLeDiff, Nat.reduceBEq, Nat.reduceBneDiff, Int.reduceToNat, Int.reduceEq, Int.reduceLE, Int.reduceLT, reduceCtorEq]
    repeat (with_reducible refine And.intro ?_ ?_; next => first | assumption | trivial | omega | decide | (constructor <;> first | assumption | omega) | (simp [Keep.ok, hp_cons_apply, hset_cons]; done))
    refine hk _ _ _ ?_
    refine xghost (D := []) ?_ ?_ ?_ ?_
    · exact (.cons (Sub.of_eq rfl) (.cons (Sub.of_eq rfl) .nil))
    · exact HpW.refl
    · exact (by intro p hp; cases hp)
    · omega
/-! stanchion/stanchionref06.Check -/
def s_stanchionref06_Check (t : GapiConf) : Option Int :=
  if ((((((((((((decide (t.R < 0)) || (decide (t.U < t.R))) || (decide (2 < t.U))) || (decide (t.Peers < 1))) || (decide (8 < t.Peers))) || (decide (t.Window < 1))) || (decide (8 < t.Window))) || (decide (t.Every < 1))) || (decide (t.Window < t.Every))) || (decide (t.Patience < 1))) || (decide (1000 < t.Patience))) || (decide (64 < (t.Secret.length : Int)))) = true then some 60 else some 0
theorem s_stanchionref06_Check_ok (S : AHeap) (t : GapiConf) {r : Int} (h : s_stanchionref06_Check t = some r) :
    AC Try.prog n_stanchionref06_Check [.agg [.lit (.int .i64 t.U), .lit (.int .i64 t.R), .lit (.int .i64 t.Peers), .lit (.int .i64 t.Window), .lit (.int .i64 t.Every), .lit (.int .i64 t.Patience), eS (lI .u8) t.Secret]] S fun r' S' => r' = .ret (.lit (.int .i64 r)) ∧ S' = S := by
  refine AC_of tok mixed fits_stanchionref06_Check fun d hd => ?_
  unfold c_stanchionref06_Check
  show LW _ _ _ _ [(0, .agg [.lit (.int .i64 t.U), .lit (.int .i64 t.R), .lit (.int .i64 t.Peers), .lit (.int .i64 t.Window), .lit (.int .i64 t.Every), .lit (.int .i64 t.Patience), eS (lI .u8) t.Secret])] (hp [] S) 0 _
  rw [s_stanchionref06_Check] at h
  refine xseq [(1, .ptr (d, 0) 0)] (hp [((d, 0), .box [.lit (.int .i64 t.U), .lit (.int .i64 t.R), .lit (.int .i64 t.Peers), .lit (.int .i64 t.Window), .lit (.int .i64 t.Every), .lit (.int .i64 t.Patience), eS (lI .u8) t.Secret])] S) 1 ?_ (fun k kp hk => ?_)
  · refine LW_seq ?_
    refine xseq [(65, .lit (.bool ((((((((((((decide (t.R < 0)) || (decide (t.U < t.R))) || (decide (2 < t.U))) || (decide (t.Peers < 1))) || (decide (8 < t.Peers))) || (decide (t.Window < 1))) || (decide (8 < t.Window))) || (decide (t.Every < 1))) || (decide (t.Window < t.Every))) || (decide (t.Patience < 1))) || (decide (1000 < t.Patience))) || (decide (64 < (t.Secret.length : Int))))))] (hp [((d, 0), .box [.lit (.int .i64 t.U), .lit (.int .i64 t.R), .lit (.int .i64 t.Peers), .lit (.int .i64 t.Window), .lit (.int .i64 t.Every), .lit (.int .i64 t.Patience), eS (lI .u8) t.Secret])] S) 1 ?_ (fun k kp hk => ?_)
    · refine xcond ((((((((((((decide (t.R < 0)) || (decide (t.U < t.R))) || (decide (2 < t.U))) || (decide (t.Peers < 1))) || (decide (8 < t.Peers))) || (decide (t.Window < 1))) || (decide (8 < t.Window))) || (decide (t.Every < 1))) || (decide (t.Window < t.Every))) || (decide (t.Patience < 1))) || (decide (1000 < t.Patience))) || (decide (64 < (t.Secret.length : Int)))) rfl (fun hc => ?_) (fun hc => ?_)
      · rw [ite_t hc] at h
        refine xseq [(2, .lit (.int .i64 60))] (hp [((d, 0), .box [.lit (.int .i64 t.U), .lit (.int .i64 t.R), .lit (.int .i64 t.Peers), .lit (.int .i64 t.Window), .lit (.int .i64 t.Every), .lit (.int .i64 t.Patience), eS (lI .u8) t.Secret])] S) 1 ?_ (fun k kp hk => ?_)
        · refine LW_ret ?_
          obtain rfl := Option.some.inj h
          show FPost _ _ _ _ _ _ _
          exact ⟨_, hp_less (L := []) (D := [((d, 0), .box [.lit (.int .i64 t.U), .lit (.int .i64 t.R), .lit (.int .i64 t.Peers), .lit (.int .i64 t.Window), .lit (.int .i64 t.Every), .lit (.int .i64 t.Patience), eS (lI .u8) t.Secret])]) (by intro p hp; simp only [List.mem_cons, List.not_mem_nil, or_false] at hp; rcases hp with rfl <;> first | exact hd _ (Nat.le_refl _)), rfl, rfl⟩
        · try simp only [go_sem, Prod.mk.injEq, reduceIte, Nat.reduceEqDiff, Nat.reduceAdd, Nat.reduceSub, Nat.reduceMul, Nat.reduceDiv, Nat.reducePow, Nat.reduceLT, Nat.reduceLeDiff, Nat.reduceBEq, Nat.reduceBneDiff, Int.reduceToNat, Int.reduceEq, Int.reduceLE, Int.reduceLT, reduceCtorEq]
          repeat (with_reducible refine And.intro ?_ ?_; next => first | assumption | trivial | omega | decide | (constructor <;> first | assumption | omega) | (simp [Keep.ok, hp_cons_apply, hset_cons]; done))
          refine hk _ _ _ ?_
          refine xghost (D := []) ?_ ?_ ?_ ?_
          · exact (.cons (Sub.of_eq rfl) .nil)
          · exact HpW.refl
          · exact (by intro p hp; cases hp)
          · omega
      · rw [ite_f hc] at h
        refine LW_skip ?_
        show LW _ _ _ _ _ _ _ _
        refine xseq [(2, .lit (.int .i64 0))] (hp [((d, 0), .box [.lit (.int .i64 t.U), .lit (.int .i64 t.R), .lit (.int .i64 t.Peers), .lit (.int .i64 t.Window), .lit (.int .i64 t.Every), .lit (.int .i64 t.Patience), eS (lI .u8) t.Secret])] S) 1 ?_ (fun k kp hk => ?_)
        · refine LW_ret ?_
          obtain rfl := Option.some.inj h
          show FPost _ _ _ _ _ _ _
          exact ⟨_, hp_less (L := []) (D := [((d, 0), .box [.lit (.int .i64 t.U), .lit (.int .i64 t.R), .lit (.int .i64 t.Peers), .lit (.int .i64 t.Window), .lit (.int .i64 t.Every), .lit (.int .i64 t.Patience), eS (lI .u8) t.Secret])]) (by intro p hp; simp only [List.mem_cons, List.not_mem_nil, or_false] at hp; rcases hp with rfl <;> first | exact hd _ (Nat.le_refl _)), rfl, rfl⟩
        · try simp only [go_sem, Prod.mk.injEq, reduceIte, Nat.reduceEqDiff, Nat.reduceAdd, Nat.reduceSub, Nat.reduceMul, Nat.reduceDiv, Nat.reducePow, Nat.reduceLT, Nat.reduceLeDiff, Nat.reduceBEq, Nat.reduceBneDiff, Int.reduceToNat, Int.reduceEq, Int.reduceLE, Int.reduceLT, reduceCtorEq]
          repeat (with_reducible refine And.intro ?_ ?_; next => first | assumption | trivial | omega | decide | (constructor <;> first | assumption | omega) | (simp [Keep.ok, hp_cons_apply, hset_cons]; done))
          refine hk _ _ _ ?_
          refine xghost (D := []) ?_ ?_ ?_ ?_
          · exact (.cons (Sub.of_eq rfl) .nil)
          · exact HpW.refl
          · exact (by intro p hp; cases hp)
          · omega
    · try simp only [go_sem, Prod.mk.injEq, reduceIte, Nat.reduceEqDiff, Nat.reduceAdd, Nat.reduceSub, Nat.reduceMul, Nat.reduceDiv, Nat.reducePow, Nat.reduceLT, Nat.reduceLeDiff, Nat.reduceBEq, Nat.reduceBneDiff, Int.reduceToNat, Int.reduceEq, Int.reduceLE, Int.reduceLT, reduceCtorEq]
      repeat (with_reducible refine And.intro ?_ ?_; next => first | assumption | trivial | omega | decide | (constructor <;> first | assumption | omega) | (simp [Keep.ok, hp_cons_apply, hset_cons]; done))
      refine xo_guard (decide (t.R < 0)) rfl (fun hc_1 => ?_) (fun hc_1 => ?_)
      · try simp only [go_sem, Prod.mk.injEq, reduceIte, Nat.reduceEqDiff, Nat.reduceAdd, Nat.reduceSub, Nat.reduceMul, Nat.reduceDiv, Nat.reducePow, Nat.reduceLT, Nat.reduceLeDiff, Nat.reduceBEq, Nat.reduceBneDiff, Int.reduceToNat, Int.reduceEq, Int.reduceLE, Int.reduceLT, reduceCtorEq, hc_1]
        repeat (with_reducible refine And.intro ?_ ?_; next => first | assumption | trivial | omega | decide | (constructor <;> first | assumption | omega) | (simp [Keep.ok, hp_cons_apply, hset_cons]; done))
        refine xo_guard (decide (t.U < t.R)) rfl (fun hc_2 => ?_) (fun hc_2 => ?_)
        · try simp only [go_sem, Prod.mk.injEq, reduceIte, Nat.reduceEqDiff, Nat.reduceAdd, Nat.reduceSub, Nat.reduceMul, Nat.reduceDiv, Nat.reducePow, Nat.reduceLT, Nat.reduceLeDiff, Nat.reduceBEq, Nat.reduceBneDiff, Int.reduceToNat, Int.reduceEq, Int.reduceLE, Int.reduceLT, reduceCtorEq, hc_1, hc_2]
          repeat (with_reducible refine And.intro ?_ ?_; next => first | assumption | trivial | omega | decide | (constructor <;> first | assumption | omega) | (simp [Keep.ok, hp_cons_apply, hset_cons]; done))
          refine xo_guard (decide (2 < t.U)) rfl (fun hc_3 => ?_) (fun hc_3 => ?_)
          · try simp only [go_sem, Prod.mk.injEq, reduceIte, Nat.reduceEqDiff, Nat.reduceAdd, Nat.reduceSub, Nat.reduceMul, Nat.reduceDiv, Nat.reducePow, Nat.reduceLT, Nat.reduceLeDiff, Nat.reduceBEq, Nat.reduceBneDiff, Int.reduceToNat, Int.reduceEq, Int.reduceLE, Int.reduceLT, reduceCtorEq, hc_1, hc_2, hc_3]
            repeat (with_reducible refine And.intro ?_ ?_; next => first | assumption | trivial | omega | decide | (constructor <;> first | assumption | omega) | (simp [Keep.ok, hp_cons_apply, hset_cons]; done))
            refine xo_guard (decide (t.Peers < 1)) rfl (fun hc_4 => ?_) (fun hc_4 => ?_)
            · try simp only [go_sem, Prod.mk.injEq, reduceIte, Nat.reduceEqDiff, Nat.reduceAdd, Nat.reduceSub, Nat.reduceMul, Nat.reduceDiv, Nat.reducePow, Nat.reduceLT, Nat.reduceLeDiff, Nat.reduceBEq, Nat.reduceBneDiff, Int.reduceToNat, Int.reduceEq, Int.reduceLE, Int.reduceLT, reduceCtorEq, hc_1, hc_2, hc_3, hc_4]
              repeat (with_reducible refine And.intro ?_ ?_; next => first | assumption | trivial | omega | decide | (constructor <;> first | assumption | omega) | (simp [Keep.ok, hp_cons_apply, hset_cons]; done))
              refine xo_guard (decide (8 < t.Peers)) rfl (fun hc_5 => ?_) (fun hc_5 => ?_)
              · try simp only [go_sem, Prod.mk.injEq, reduceIte, Nat.reduceEqDiff, Nat.reduceAdd, Nat.reduceSub, Nat.reduceMul, Nat.reduceDiv, Nat.reducePow, Nat.reduceLT, Nat.reduceLeDiff, Nat.reduceBEq, Nat.reduceBneDiff, Int.reduceToNat, Int.reduceEq, Int.reduceLE, Int.reduceLT, reduceCtorEq, hc_1, hc_2, hc_3, hc_4, hc_5]
                repeat (with_reducible refine And.intro ?_ ?_; next => first | assumption | trivial | omega | decide | (constructor <;> first | assumption | omega) | (simp [Keep.ok, hp_cons_apply, hset_cons]; done))
                refine xo_guard (decide (t.Window < 1)) rfl (fun hc_6 => ?_) (fun hc_6 => ?_)
                · try simp only [go_sem, Prod.mk.injEq, reduceIte, Nat.reduceEqDiff, Nat.reduceAdd, Nat.reduceSub, Nat.reduceMul, Nat.reduceDiv, Nat.reducePow, Nat.reduceLT, Nat.reduceLeDiff, Nat.reduceBEq, Nat.reduceBneDiff, Int.reduceToNat, Int.reduceEq, Int.reduceLE, Int.reduceLT, reduceCtorEq, hc_1, hc_2, hc_3, hc_4, hc_5, hc_6]
                  repeat (with_reducible refine And.intro ?_ ?_; next => first | assumption | trivial | omega | decide | (constructor <;> first | assumption | omega) | (simp [Keep.ok, hp_cons_apply, hset_cons]; done))
                  refine xo_guard (decide (8 < t.Window)) rfl (fun hc_7 => ?_) (fun hc_7 => ?_)
                  · try simp only [go_sem, Prod.mk.injEq, reduceIte, Nat.reduceEqDiff, Nat.reduceAdd, Nat.reduceSub, Nat.reduceMul, Nat.reduceDiv, Nat.reducePow, Nat.reduceLT, Nat.reduceLeDiff, Nat.reduceBEq, Nat.reduceBneDiff, Int.reduceToNat, Int.reduceEq, Int.reduceLE, Int.reduceLT, reduceCtorEq, hc_1, hc_2, hc_3, hc_4, hc_5, hc_6, hc_7]
                    repeat (with_reducible refine And.intro ?_ ?_; next => first | assumption | trivial | omega | decide | (constructor <;> first | assumption | omega) | (simp [Keep.ok, hp_cons_apply, hset_cons]; done))
                    refine xo_guard (decide (t.Every < 1)) rfl (fun hc_8 => ?_) (fun hc_8 => ?_)
                    · try simp only [go_sem, Prod.mk.injEq, reduceIte, Nat.reduceEqDiff, Nat.reduceAdd, Nat.reduceSub, Nat.reduceMul, Nat.reduceDiv, Nat.reducePow, Nat.reduceLT, Nat.reduceLeDiff, Nat.reduceBEq, Nat.reduceBneDiff, Int.reduceToNat, Int.reduceEq, Int.reduceLE, Int.reduceLT, reduceCtorEq, hc_1, hc_2, hc_3, hc_4, hc_5, hc_6, hc_7, hc_8]
                      repeat (with_reducible refine And.intro ?_ ?_; next => first | assumption | trivial | omega | decide | (constructor <;> first | assumption | omega) | (simp [Keep.ok, hp_cons_apply, hset_cons]; done))
                      refine xo_guard (decide (t.Window < t.Every)) rfl (fun hc_9 => ?_) (fun hc_9 => ?_)
                      · try simp only [go_sem, Prod.mk.injEq, reduceIte, Nat.reduceEqDiff, Nat.reduceAdd, Nat.reduceSub, Nat.reduceMul, Nat.reduceDiv, Nat.reducePow, Nat.reduceLT, Nat.reduceLeDiff, Nat.reduceBEq, Nat.reduceBneDiff, Int.reduceToNat, Int.reduceEq, Int.reduceLE, Int.reduceLT, reduceCtorEq, hc_1, hc_2, hc_3, hc_4, hc_5, hc_6, hc_7, hc_8, hc_9]
                        repeat (with_reducible refine And.intro ?_ ?_; next => first | assumption | trivial | omega | decide | (constructor <;> first | assumption | omega) | (simp [Keep.ok, hp_cons_apply, hset_cons]; done))
                        refine xo_guard (decide (t.Patience < 1)) rfl (fun hc_10 => ?_) (fun hc_10 => ?_)
                        · try simp only [go_sem, Prod.mk.injEq, reduceIte, Nat.reduceEqDiff, Nat.reduceAdd, Nat.reduceSub, Nat.reduceMul, Nat.reduceDiv, Nat.reducePow, Nat.reduceLT, Nat.reduceLeDiff, Nat.reduceBEq, Nat.reduceBneDiff, Int.reduceToNat, Int.reduceEq, Int.reduceLE, Int.reduceLT, reduceCtorEq, hc_1, hc_2, hc_3, hc_4, hc_5, hc_6, hc_7, hc_8, hc_9, hc_10]
                          repeat (with_reducible refine And.intro ?_ ?_; next => first | assumption | trivial | omega | decide | (constructor <;> first | assumption | omega) | (simp [Keep.ok, hp_cons_apply, hset_cons]; done))
                          refine xo_guard (decide (1000 < t.Patience)) rfl (fun hc_11 => ?_) (fun hc_11 => ?_)
                          · try simp only [go_sem, Prod.mk.injEq, reduceIte, Nat.reduceEqDiff, Nat.reduceAdd, Nat.reduceSub, Nat.reduceMul, Nat.reduceDiv, Nat.reducePow, Nat.reduceLT, Nat.reduceLeDiff, Nat.reduceBEq, Nat.reduceBneDiff, Int.reduceToNat, Int.reduceEq, Int.reduceLE, Int.reduceLT, reduceCtorEq, hc_1, hc_2, hc_3, hc_4, hc_5, hc_6, hc_7, hc_8, hc_9, hc_10, hc_11]
                            repeat (with_reducible refine And.intro ?_ ?_; next => first | assumption | trivial | omega | decide | (constructor <;> first | assumption | omega) | (simp [Keep.ok, hp_cons_apply, hset_cons]; done))
                            refine hk _ _ _ ?_
                            refine xghost (D := []) ?_ ?_ ?_ ?_
                            · exact (.cons (Sub.of_eq (by first | rfl | (simp only [sget_cons, reduceIte, Nat.reduceEqDiff, Bool.and_true, Bool.true_and, Bool.and_false, Bool.false_and, Bool.or_true, Bool.true_or, Bool.or_false, Bool.false_or, Bool.not_true, Bool.not_false, Bool.not_not, hc_1, hc_2, hc_3, hc_4, hc_5, hc_6, hc_7, hc_8, hc_9, hc_10, hc_11]; done))) .nil)
                            · exact HpW.refl
                            · exact (by intro p hp; cases hp)
                            · omega
                          · try simp only [go_sem, Prod.mk.injEq, reduceIte, Nat.reduceEqDiff, Nat.reduceAdd, Nat.reduceSub, Nat.reduceMul, Nat.reduceDiv, Nat.reducePow, Nat.reduceLT, Nat.reduceLeDiff, Nat.reduceBEq, Nat.reduceBneDiff, Int.reduceToNat, Int.reduceEq, Int.reduceLE, Int.reduceLT, reduceCtorEq, hc_1, hc_2, hc_3, hc_4, hc_5, hc_6, hc_7, hc_8, hc_9, hc_10, hc_11]
                            repeat (with_reducible refine And.intro ?_ ?_; next => first | assumption | trivial | omega | decide | (constructor <;> first | assumption | omega) | (simp [Keep.ok, hp_cons_apply, hset_cons]; done))
                            refine hk _ _ _ ?_
                            refine xghost (D := []) ?_ ?_ ?_ ?_
                            · exact (.cons (Sub.of_eq (by first | rfl | (simp only [sget_cons, reduceIte, Nat.reduceEqDiff, Bool.and_true, Bool.true_and, Bool.and_false, Bool.false_and, Bool.or_true, Bool.true_or, Bool.or_false, Bool.false_or, Bool.not_true, Bool.not_false, Bool.not_not, hc_1, hc_2, hc_3, hc_4, hc_5, hc_6, hc_7, hc_8, hc_9, hc_10, hc_11]; done))) .nil)
                            · exact HpW.refl
                            · exact (by intro p hp; cases hp)
                            · omega
                        · try simp only [go_sem, Prod.mk.injEq, reduceIte, Nat.reduceEqDiff, Nat.reduceAdd, Nat.reduceSub, Nat.reduceMul, Nat.reduceDiv, Nat.reducePow, Nat.reduceLT, Nat.reduceLeDiff, Nat.reduceBEq, Nat.reduceBneDiff, Int.reduceToNat, Int.reduceEq, Int.reduceLE, Int.reduceLT, reduceCtorEq, hc_1, hc_2, hc_3, hc_4, hc_5, hc_6, hc_7, hc_8, hc_9, hc_10]
                          repeat (with_reducible refine And.intro ?_ ?_; next => first | assumption | trivial | omega | decide | (constructor <;> first | assumption | omega) | (simp [Keep.ok, hp_cons_apply, hset_cons]; done))
                          refine hk _ _ _ ?_
                          refine xghost (D := []) ?_ ?_ ?_ ?_
                          · exact (.cons (Sub.of_eq (by first | rfl | (simp only [sget_cons, reduceIte, Nat.reduceEqDiff, Bool.and_true, Bool.true_and, Bool.and_false, Bool.false_and, Bool.or_true, Bool.true_or, Bool.or_false, Bool.false_or, Bool.not_true, Bool.not_false, Bool.not_not, hc_1, hc_2, hc_3, hc_4, hc_5, hc_6, hc_7, hc_8, hc_9, hc_10]; done))) .nil)
                          · exact HpW.refl
                          · exact (by intro p hp; cases hp)
                          · omega
                      · try simp only [go_sem, Prod.mk.injEq, reduceIte, Nat.reduceEqDiff, Nat.reduceAdd, Nat.reduceSub, Nat.reduceMul, Nat.reduceDiv, Nat.reducePow, Nat.reduceLT, Nat.reduceLeDiff, Nat.reduceBEq, Nat.reduceBneDiff, Int.reduceToNat, Int.reduceEq, Int.reduceLE, Int.reduceLT, reduceCtorEq, hc_1, hc_2, hc_3, hc_4, hc_5, hc_6, hc_7, hc_8, hc_9]
                        repeat (with_reducible refine And.intro ?_ ?_; next => first | assumption | trivial | omega | decide | (constructor <;> first | assumption | omega) | (simp [Keep.ok, hp_cons_apply, hset_cons]; done))
                        refine hk _ _ _ ?_
                        refine xghost (D := []) ?_ ?_ ?_ ?_
                        · exact (.cons (Sub.of_eq (by first | rfl | (simp only [sget_cons, reduceIte, Nat.reduceEqDiff, Bool.and_true, Bool.true_and, Bool.and_false, Bool.false_and, Bool.or_true, Bool.true_or, Bool.or_false, Bool.false_or, Bool.not_true, Bool.not_false, Bool.not_not, hc_1, hc_2, hc_3, hc_4, hc_5, hc_6, hc_7, hc_8, hc_9]; done))) .nil)
                        · exact HpW.refl
                        · exact (by intro p hp; cases hp)
                        · omega
                    · try simp only [go_sem, Prod.mk.injEq, reduceIte, Nat.reduceEqDiff, Nat.reduceAdd, Nat.reduceSub, Nat.reduceMul, Nat.reduceDiv, Nat.reducePow, Nat.reduceLT, Nat.reduceLeDiff, Nat.reduceBEq, Nat.reduceBneDiff, Int.reduceToNat, Int.reduceEq, Int.reduceLE, Int.reduceLT, reduceCtorEq, hc_1, hc_2, hc_3, hc_4, hc_5, hc_6, hc_7, hc_8]
                      repeat (with_reducible refine And.intro ?_ ?_; next => first | assumption | trivial | omega | decide | (constructor <;> first | assumption | omega) | (simp [Keep.ok, hp_cons_apply, hset_cons]; done))
                      refine hk _ _ _ ?_
                      refine xghost (D := []) ?_ ?_ ?_ ?_
                      · exact (.cons (Sub.of_eq (by first | rfl | (simp only [sget_cons, reduceIte, Nat.reduceEqDiff, Bool.and_true, Bool.true_and, Bool.and_false, Bool.false_and, Bool.or_true, Bool.true_or, Bool.or_false, Bool.false_or, Bool.not_true, Bool.not_false, Bool.not_not, hc_1, hc_2, hc_3, hc_4, hc_5, hc_6, hc_7, hc_8]; done))) .nil)
                      · exact HpW.refl
                      · exact (by intro p hp; cases hp)
                      · omega
                  · try simp only [go_sem, Prod.mk.injEq, reduceIte, Nat.reduceEqDiff, Nat.reduceAdd, Nat.reduceSub, Nat.reduceMul, Nat.reduceDiv, Nat.reducePow, Nat.reduceLT, Nat.reduceLeDiff, Nat.reduceBEq, Nat.reduceBneDiff, Int.reduceToNat, Int.reduceEq, Int.reduceLE, Int.reduceLT, reduceCtorEq, hc_1, hc_2, hc_3, hc_4, hc_5, hc_6, hc_7]
                    repeat (with_reducible refine And.intro ?_ ?_; next => first | assumption | trivial | omega | decide | (constructor <;> first | assumption | omega) | (simp [Keep.ok, hp_cons_apply, hset_cons]; done))
                    refine hk _ _ _ ?_
                    refine xghost (D := []) ?_ ?_ ?_ ?_
                    · exact (.cons (Sub.of_eq (by first | rfl | (simp only [sget_cons, reduceIte, Nat.reduceEqDiff, Bool.and_true, Bool.true_and, Bool.and_false, Bool.false_and, Bool.or_true, Bool.true_or, Bool.or_false, Bool.false_or, Bool.not_true, Bool.not_false, Bool.not_not, hc_1, hc_2, hc_3, hc_4, hc_5, hc_6, hc_7]; done))) .nil)
                    · exact HpW.refl
                    · exact (by intro p hp; cases hp)
                    · omega
                · try simp only [go_sem, Prod.mk.injEq, reduceIte, Nat.reduceEqDiff, Nat.reduceAdd, Nat.reduceSub, Nat.reduceMul, Nat.reduceDiv, Nat.reducePow, Nat.reduceLT, Nat.reduceLeDiff, Nat.reduceBEq, Nat.reduceBneDiff, Int.reduceToNat, Int.reduceEq, Int.reduceLE, Int.reduceLT, reduceCtorEq, hc_1, hc_2, hc_3, hc_4, hc_5, hc_6]
                  repeat (with_reducible refine And.intro ?_ ?_; next => first | assumption | trivial | omega | decide | (constructor <;> first | assumption | omega) | (simp [Keep.ok, hp_cons_apply, hset_cons]; done))
                  refine hk _ _ _ ?_
                  refine xghost (D := []) ?_ ?_ ?_ ?_
                  · exact (.cons (Sub.of_eq (by first | rfl | (simp only [sget_cons, reduceIte, Nat.reduceEqDiff, Bool.and_true, Bool.true_and, Bool.and_false, Bool.false_and, Bool.or_true, Bool.true_or, Bool.or_false, Bool.false_or, Bool.not_true, Bool.not_false, Bool.not_not, hc_1, hc_2, hc_3, hc_4, hc_5, hc_6]; done))) .nil)
                  · exact HpW.refl
                  · exact (by intro p hp; cases hp)
                  · omega
              · try simp only [go_sem, Prod.mk.injEq, reduceIte, Nat.reduceEqDiff, Nat.reduceAdd, Nat.reduceSub, Nat.reduceMul, Nat.reduceDiv, Nat.reducePow, Nat.reduceLT, Nat.reduceLeDiff, Nat.reduceBEq, Nat.reduceBneDiff, Int.reduceToNat, Int.reduceEq, Int.reduceLE, Int.reduceLT, reduceCtorEq, hc_1, hc_2, hc_3, hc_4, hc_5]
                repeat (with_reducible refine And.intro ?_ ?_; next => first | assumption | trivial | omega | decide | (constructor <;> first | assumption | omega) | (simp [Keep.ok, hp_cons_apply, hset_cons]; done))
                refine hk _ _ _ ?_
                refine xghost (D := []) ?_ ?_ ?_ ?_
                · exact (.cons (Sub.of_eq (by first | rfl | (simp only [sget_cons, reduceIte, Nat.reduceEqDiff, Bool.and_true, Bool.true_and, Bool.and_false, Bool.false_and, Bool.or_true, Bool.true_or, Bool.or_false, Bool.false_or, Bool.not_true, Bool.not_false, Bool.not_not, hc_1, hc_2, hc_3, hc_4, hc_5]; done))) .nil)
                · exact HpW.refl
                · exact (by intro p hp; cases hp)
                · omega
            · try simp only [go_sem, Prod.mk.injEq, reduceIte, Nat.reduceEqDiff, Nat.reduceAdd, Nat.reduceSub, Nat.reduceMul, Nat.reduceDiv, Nat.reducePow, Nat.reduceLT, Nat.reduceLeDiff, Nat.reduceBEq, Nat.reduceBneDiff, Int.reduceToNat, Int.reduceEq, Int.reduceLE, Int.reduceLT, reduceCtorEq, hc_1, hc_2, hc_3, hc_4]
              repeat (with_reducible refine And.intro ?_ ?_; next => first | assumption | trivial | omega | decide | (constructor <;> first | assumption | omega) | (simp [Keep.ok, hp_cons_apply, hset_cons]; done))
              refine hk _ _ _ ?_
              refine xghost (D := []) ?_ ?_ ?_ ?_
              · exact (.cons (Sub.of_eq (by first | rfl | (simp only [sget_cons, reduceIte, Nat.reduceEqDiff, Bool.and_true, Bool.true_and, Bool.and_false, Bool.false_and, Bool.or_true, Bool.true_or, Bool.or_false, Bool.false_or, Bool.not_true, Bool.not_false, Bool.not_not, hc_1, hc_2, hc_3, hc_4]; done))) .nil)
              · exact HpW.refl
              · exact (by intro p hp; cases hp)
              · omega
          · try simp only [go_sem, Prod.mk.injEq, reduceIte, Nat.reduceEqDiff, Nat.reduceAdd, Nat.reduceSub, Nat.reduceMul, Nat.reduceDiv, Nat.reducePow, Nat.reduceLT, Nat.reduceLeDiff, Nat.reduceBEq, Nat.reduceBneDiff, Int.reduceToNat, Int.reduceEq, Int.reduceLE, Int.reduceLT, reduceCtorEq, hc_1, hc_2, hc_3]
            repeat (with_reducible refine And.intro ?_ ?_; next => first | assumption | trivial | omega | decide | (constructor <;> first | assumption | omega) | (simp [Keep.ok, hp_cons_apply, hset_cons]; done))
            refine hk _ _ _ ?_
            refine xghost (D := []) ?_ ?_ ?_ ?_
            · exact (.cons (Sub.of_eq (by first | rfl | (simp only [sget_cons, reduceIte, Nat.reduceEqDiff, Bool.and_true, Bool.true_and, Bool.and_false, Bool.false_and, Bool.or_true, Bool.true_or, Bool.or_false, Bool.false_or, Bool.not_true, Bool.not_false, Bool.not_not, hc_1, hc_2, hc_3]; done))) .nil)
            · exact HpW.refl
            · exact (by intro p hp; cases hp)
            · omega
        · try simp only [go_sem, Prod.mk.injEq, reduceIte, Nat.reduceEqDiff, Nat.reduceAdd, Nat.reduceSub, Nat.reduceMul, Nat.reduceDiv, Nat.reducePow, Nat.reduceLT, Nat.reduceLeDiff, Nat.reduceBEq, Nat.reduceBneDiff, Int.reduceToNat, Int.reduceEq, Int.reduceLE, Int.reduceLT, reduceCtorEq, hc_1, hc_2]
          repeat (with_reducible refine And.intro ?_ ?_; next => first | assumption | trivial | omega | decide | (constructor <;> first | assumption | omega) | (simp [Keep.ok, hp_cons_apply, hset_cons]; done))
          refine hk _ _ _ ?_
          refine xghost (D := []) ?_ ?_ ?_ ?_
          · exact (.cons (Sub.of_eq (by first | rfl | (simp only [sget_cons, reduceIte, Nat.reduceEqDiff, Bool.and_true, Bool.true_and, Bool.and_false, Bool.false_and, Bool.or_true, Bool.true_or, Bool.or_false, Bool.false_or, Bool.not_true, Bool.not_false, Bool.not_not, hc_1, hc_2]; done))) .nil)
          · exact HpW.refl
          · exact (by intro p hp; cases hp)
          · omega
      · try simp only [go_sem, Prod.mk.injEq, reduceIte, Nat.reduceEqDiff, Nat.reduceAdd, Nat.reduceSub, Nat.reduceMul, Nat.reduceDiv, Nat.reducePow, Nat.reduceLT, Nat.reduceLeDiff, Nat.reduceBEq, Nat.reduceBneDiff, Int.reduceToNat, Int.reduceEq, Int.reduceLE, Int.reduceLT, reduceCtorEq, hc_1]
        repeat (with_reducible refine And.intro ?_ ?_; next => first | assumption | trivial | omega | decide | (constructor <;> first | assumption | omega) | (simp [Keep.ok, hp_cons_apply, hset_cons]; done))
        refine hk _ _ _ ?_
        refine xghost (D := []) ?_ ?_ ?_ ?_
        · exact (.cons (Sub.of_eq (by first | rfl | (simp only [sget_cons, reduceIte, Nat.reduceEqDiff, Bool.and_true, Bool.true_and, Bool.and_false, Bool.false_and, Bool.or_true, Bool.true_or, Bool.or_false, Bool.false_or, Bool.not_true, Bool.not_false, Bool.not_not, hc_1]; done))) .nil)
        · exact HpW.refl
        · exact (by intro p hp; cases hp)
        · omega
  · try simp only [go_sem, Prod.mk.injEq, reduceIte, Nat.reduceEqDiff, Nat.reduceAdd, Nat.reduceSub, Nat.reduceMul, Nat.reduceDiv, Nat.reducePow, Nat.reduceLT, Nat.reduceLeDiff, Nat.reduceBEq, Nat.reduceBneDiff, Int.reduceToNat, Int.reduceEq, Int.reduceLE, Int.reduceLT, reduceCtorEq]
    repeat (with_reducible refine And.intro ?_ ?_; next => first | assumption | trivial | omega | decide | (constructor <;> first | assumption | omega) | (simp [Keep.ok, hp_cons_apply, hset_cons]; done))
    refine hk _ _ _ ?_
    refine xghost (D := []) ?_ ?_ ?_ ?_
    · exact (.cons (Sub.of_eq rfl) .nil)
    · exact HpW.refl
    · exact (by intro p hp; cases hp)
    · omega
/-! stanchion/stanchionref06.Count -/
def s_stanchionref06_Count_j1 (cx : GapiConf) (role : Int) (t9 : Bool) : Option Int :=
  if t9 = true then some (IntKind.i64.wrap ((IntKind.i64.wrap ((IntKind.i64.wrap (2 * cx.U)) + cx.R)) + 1)) else if (role == 3) = true then some (IntKind.i64.wrap ((IntKind.i64.wrap (cx.U + cx.R)) + 1)) else if (role == 4) = true then some cx.Peers else some 0
def s_stanchionref06_Count (cx : GapiConf) (role : Int) : Option Int :=
  bd (s_stanchionref06_Check cx) fun (v : Int) => if (v != 0) = true then some 0 else if (role == 1) = true then s_stanchionref06_Count_j1 cx role (role == 1) else s_stanchionref06_Count_j1 cx role (role == 2)
theorem s_stanchionref06_Count_ok (S : AHeap) (cx : GapiConf) (role : Int) {r : Int} (h : s_stanchionref06_Count cx role = some r) :
    AC Try.prog n_stanchionref06_Count [.agg [.lit (.int .i64 cx.U), .lit (.int .i64 cx.R), .lit (.int .i64 cx.Peers), .lit (.int .i64 cx.Window), .lit (.int .i64 cx.Every), .lit (.int .i64 cx.Patience), eS (lI .u8) cx.Secret], .lit (.int .i64 role)] S fun r' S' => r' = .ret (.lit (.int .i64 r)) ∧ S' = S := by
  refine AC_of tok mixed fits_stanchionref06_Count fun d hd => ?_
  unfold c_stanchionref06_Count
  show LW _ _ _ _ [(0, .agg [.lit (.int .i64 cx.U), .lit (.int .i64 cx.R), .lit (.int .i64 cx.Peers), .lit (.int .i64 cx.Window), .lit (.int .i64 cx.Every), .lit (.int .i64 cx.Patience), eS (lI .u8) cx.Secret]), (1, .lit (.int .i64 role))] (hp [] S) 0 _
  rw [s_stanchionref06_Count] at h
  refine xseq [(1, .lit (.int .i64 role)), (2, .ptr (d, 0) 0)] (hp [((d, 0), .box [.lit (.int .i64 cx.U), .lit (.int .i64 cx.R), .lit (.int .i64 cx.Peers), .lit (.int .i64 cx.Window), .lit (.int .i64 cx.Every), .lit (.int .i64 cx.Patience), eS (lI .u8) cx.Secret])] S) 1 ?_ (fun k kp hk => ?_)
  · refine LW_seq ?_
    obtain ⟨v, hv, h⟩ := bd_some h
    refine xseq [(1, .lit (.int .i64 role)), (2, .ptr (d, 0) 0), (7, .lit (.bool (v != 0)))] (hp [((d, 0), .box [.lit (.int .i64 cx.U), .lit (.int .i64 cx.R), .lit (.int .i64 cx.Peers), .lit (.int .i64 cx.Window), .lit (.int .i64 cx.Every), .lit (.int .i64 cx.Patience), eS (lI .u8) cx.Secret])] S) 1 ?_ (fun k kp hk => ?_)
    · refine xcond (v != 0) rfl (fun hc => ?_) (fun hc => ?_)
      · rw [ite_t hc] at h
        refine xseq [(4, .lit (.int .i64 0))] (hp [((d, 0), .box [.lit (.int .i64 cx.U), .lit (.int .i64 cx.R), .lit (.int .i64 cx.Peers), .lit (.int .i64 cx.Window), .lit (.int .i64 cx.Every), .lit (.int .i64 cx.Patience), eS (lI .u8) cx.Secret])] S) 1 ?_ (fun k kp hk => ?_)
        · refine LW_ret ?_
          obtain rfl := Option.some.inj h
          show FPost _ _ _ _ _ _ _
          exact ⟨_, hp_less (L := []) (D := [((d, 0), .box [.lit (.int .i64 cx.U), .lit (.int .i64 cx.R), .lit (.int .i64 cx.Peers), .lit (.int .i64 cx.Window), .lit (.int .i64 cx.Every), .lit (.int .i64 cx.Patience), eS (lI .u8) cx.Secret])]) (by intro p hp; simp only [List.mem_cons, List.not_mem_nil, or_false] at hp; rcases hp with rfl <;> first | exact hd _ (Nat.le_refl _)), rfl, rfl⟩
        · try simp only [go_sem, Prod.mk.injEq, reduceIte, Nat.reduceEqDiff, Nat.reduceAdd, Nat.reduceSub, Nat.reduceMul, Nat.reduceDiv, Nat.reducePow, Nat.reduceLT, Nat.reduceLeDiff, Nat.reduceBEq, Nat.reduceBneDiff, Int.reduceToNat, Int.reduceEq, Int.reduceLE, Int.reduceLT, reduceCtorEq]
          repeat (with_reducible refine And.intro ?_ ?_; next => first | assumption | trivial | omega | decide | (constructor <;> first | assumption | omega) | (simp [Keep.ok, hp_cons_apply, hset_cons]; done))
          refine hk _ _ _ ?_
          refine xghost (D := []) ?_ ?_ ?_ ?_
          · exact (.cons (Sub.of_eq rfl) .nil)
          · exact HpW.refl
          · exact (by intro p hp; cases hp)
          · omega
      · rw [ite_f hc] at h
        refine LW_skip ?_
        show LW _ _ _ _ _ _ _ _
        refine LW_seq ?_
        refine xseq [(2, .ptr (d, 0) 0), (8, .lit (.int .i64 role))] (hp [((d, 0), .box [.lit (.int .i64 cx.U), .lit (.int .i64 cx.R), .lit (.int .i64 cx.Peers), .lit (.int .i64 cx.Window), .lit (.int .i64 cx.Every), .lit (.int .i64 cx.Patience), eS (lI .u8) cx.Secret])] S) 1 ?_ (fun k kp hk => ?_)
        · refine LW_block ?_
          refine xjoin (J := Bool) (fun jj => [(2, .ptr (d, 0) 0), (8, .lit (.int .i64 role)), (9, .lit (.bool jj))]) (fun jj => (hp [((d, 0), .box [.lit (.int .i64 cx.U), .lit (.int .i64 cx.R), .lit (.int .i64 cx.Peers), .lit (.int .i64 cx.Window), .lit (.int .i64 cx.Every), .lit (.int .i64 cx.Patience), eS (lI .u8) cx.Secret])] S)) 1 (fun jj => s_stanchionref06_Count_j1 cx role jj = some r) ?_ (fun hj => ?_)
          · rintro t9 h
            show LW _ _ _ _ [(2, .ptr (d, 0) 0), (8, .lit (.int .i64 role)), (9, .lit (.bool t9))] (hp [((d, 0), .box [.lit (.int .i64 cx.U), .lit (.int .i64 cx.R), .lit (.int .i64 cx.Peers), .lit (.int .i64 cx.Window), .lit (.int .i64 cx.Every), .lit (.int .i64 cx.Patience), eS (lI .u8) cx.Secret])] S) 1 _
            replace h : s_stanchionref06_Count_j1 cx role t9 = some r := h
            rw [s_stanchionref06_Count_j1] at h
            refine xcond t9 rfl (fun hc_1 => ?_) (fun hc_1 => ?_)
            · rw [ite_t hc_1] at h
              refine xseq [(4, .lit (.int .i64 (IntKind.i64.wrap ((IntKind.i64.wrap ((IntKind.i64.wrap (2 * cx.U)) + cx.R)) + 1))))] (hp [((d, 0), .box [.lit (.int .i64 cx.U), .lit (.int .i64 cx.R), .lit (.int .i64 cx.Peers), .lit (.int .i64 cx.Window), .lit (.int .i64 cx.Every), .lit (.int .i64 cx.Patience), eS (lI .u8) cx.Secret])] S) 1 ?_ (fun k kp hk => ?_)
              · refine LW_ret ?_
                obtain rfl := Option.some.inj h
                show FPost _ _ _ _ _ _ _
                exact ⟨_, hp_less (L := []) (D := [((d, 0), .box [.lit (.int .i64 cx.U), .lit (.int .i64 cx.R), .lit (.int .i64 cx.Peers), .lit (.int .i64 cx.Window), .lit (.int .i64 cx.Every), .lit (.int .i64 cx.Patience), eS (lI .u8) cx.Secret])]) (by intro p hp; simp only [List.mem_cons, List.not_mem_nil, or_false] at hp; rcases hp with rfl <;> first | exact hd _ (Nat.le_refl _)), rfl, rfl⟩
              · try simp only [go_sem, Prod.mk.injEq, reduceIte, Nat.reduceEqDiff, Nat.reduceAdd, Nat.reduceSub, Nat.reduceMul, Nat.reduceDiv, Nat.reducePow, Nat.reduceLT, Nat.reduceLeDiff, Nat.reduceBEq, Nat.reduceBneDiff, Int.reduceToNat, Int.reduceEq, Int.reduceLE, Int.reduceLT, reduceCtorEq]
                repeat (with_reducible refine And.intro ?_ ?_; next => first | assumption | trivial | omega | decide | (constructor <;> first | assumption | omega) | (simp [Keep.ok, hp_cons_apply, hset_cons]; done))
                refine hk _ _ _ ?_
                refine xghost (D := []) ?_ ?_ ?_ ?_
                · exact (.cons (Sub.of_eq rfl) .nil)
                · exact HpW.refl
                · exact (by intro p hp; cases hp)
                · omega
            · rw [ite_f hc_1] at h
              refine xseq [(2, .ptr (d, 0) 0), (8, .lit (.int .i64 role)), (19, .lit (.bool (role == 3)))] (hp [((d, 0), .box [.lit (.int .i64 cx.U), .lit (.int .i64 cx.R), .lit (.int .i64 cx.Peers), .lit (.int .i64 cx.Window), .lit (.int .i64 cx.Every), .lit (.int .i64 cx.Patience), eS (lI .u8) cx.Secret])] S) 1 ?_ (fun k kp hk => ?_)
              · refine xcond (role == 3) rfl (fun hc_2 => ?_) (fun hc_2 => ?_)
                · rw [ite_t hc_2] at h
                  refine xseq [(4, .lit (.int .i64 (IntKind.i64.wrap ((IntKind.i64.wrap (cx.U + cx.R)) + 1))))] (hp [((d, 0), .box [.lit (.int .i64 cx.U), .lit (.int .i64 cx.R), .lit (.int .i64 cx.Peers), .lit (.int .i64 cx.Window), .lit (.int .i64 cx.Every), .lit (.int .i64 cx.Patience), eS (lI .u8) cx.Secret])] S) 1 ?_ (fun k kp hk => ?_)
                  · refine LW_ret ?_
                    obtain rfl := Option.some.inj h
                    show FPost _ _ _ _ _ _ _
                    exact ⟨_, hp_less (L := []) (D := [((d, 0), .box [.lit (.int .i64 cx.U), .lit (.int .i64 cx.R), .lit (.int .i64 cx.Peers), .lit (.int .i64 cx.Window), .lit (.int .i64 cx.Every), .lit (.int .i64 cx.Patience), eS (lI .u8) cx.Secret])]) (by intro p hp; simp only [List.mem_cons, List.not_mem_nil, or_false] at hp; rcases hp with rfl <;> first | exact hd _ (Nat.le_refl _)), rfl, rfl⟩
                  · try simp only [go_sem, Prod.mk.injEq, reduceIte, Nat.reduceEqDiff, Nat.reduceAdd, Nat.reduceSub, Nat.reduceMul, Nat.reduceDiv, Nat.reducePow, Nat.reduceLT, Nat.reduceLeDiff, Nat.reduceBEq, Nat.reduceBneDiff, Int.reduceToNat, Int.reduceEq, Int.reduceLE, Int.reduceLT, reduceCtorEq]
                    repeat (with_reducible refine And.intro ?_ ?_; next => first | assumption | trivial | omega | decide | (constructor <;> first | assumption | omega) | (simp [Keep.ok, hp_cons_apply, hset_cons]; done))
                    refine hk _ _ _ ?_
                    refine xghost (D := []) ?_ ?_ ?_ ?_
                    · exact (.cons (Sub.of_eq rfl) .nil)
                    · exact HpW.refl
                    · exact (by intro p hp; cases hp)
                    · omega
                · rw [ite_f hc_2] at h
                  refine xseq [(2, .ptr (d, 0) 0), (27, .lit (.bool (role == 4)))] (hp [((d, 0), .box [.lit (.int .i64 cx.U), .lit (.int .i64 cx.R), .lit (.int .i64 cx.Peers), .lit (.int .i64 cx.Window), .lit (.int .i64 cx.Every), .lit (.int .i64 cx.Patience), eS (lI .u8) cx.Secret])] S) 1 ?_ (fun k kp hk => ?_)
                  · refine xcond (role == 4) rfl (fun hc_3 => ?_) (fun hc_3 => ?_)
                    · rw [ite_t hc_3] at h
                      refine xseq [(4, .lit (.int .i64 cx.Peers))] (hp [((d, 0), .box [.lit (.int .i64 cx.U), .lit (.int .i64 cx.R), .lit (.int .i64 cx.Peers), .lit (.int .i64 cx.Window), .lit (.int .i64 cx.Every), .lit (.int .i64 cx.Patience), eS (lI .u8) cx.Secret])] S) 1 ?_ (fun k kp hk => ?_)
                      · refine LW_ret ?_
                        obtain rfl := Option.some.inj h
                        show FPost _ _ _ _ _ _ _
                        exact ⟨_, hp_less (L := []) (D := [((d, 0), .box [.lit (.int .i64 cx.U), .lit (.int .i64 cx.R), .lit (.int .i64 cx.Peers), .lit (.int .i64 cx.Window), .lit (.int .i64 cx.Every), .lit (.int .i64 cx.Patience), eS (lI .u8) cx.Secret])]) (by intro p hp; simp only [List.mem_cons, List.not_mem_nil, or_false] at hp; rcases hp with rfl <;> first | exact hd _ (Nat.le_refl _)), rfl, rfl⟩
                      · try simp only [go_sem, Prod.mk.injEq, reduceIte, Nat.reduceEqDiff, Nat.reduceAdd, Nat.reduceSub, Nat.reduceMul, Nat.reduceDiv, Nat.reducePow, Nat.reduceLT, Nat.reduceLeDiff, Nat.reduceBEq, Nat.reduceBneDiff, Int.reduceToNat, Int.reduceEq, Int.reduceLE, Int.reduceLT, reduceCtorEq]
                        repeat (with_reducible refine And.intro ?_ ?_; next => first | assumption | trivial | omega | decide | (constructor <;> first | assumption | omega) | (simp [Keep.ok, hp_cons_apply, hset_cons]; done))
                        refine hk _ _ _ ?_
                        refine xghost (D := []) ?_ ?_ ?_ ?_
                        · exact (.cons (Sub.of_eq rfl) .nil)
                        · exact HpW.refl
                        · exact (by intro p hp; cases hp)
                        · omega
                    · rw [ite_f hc_3] at h
                      refine LW_skip ?_
                      show LW _ _ _ _ _ _ _ _
                      refine xseq [(4, .lit (.int .i64 0))] (hp [((d, 0), .box [.lit (.int .i64 cx.U), .lit (.int .i64 cx.R), .lit (.int .i64 cx.Peers), .lit (.int .i64 cx.Window), .lit (.int .i64 cx.Every), .lit (.int .i64 cx.Patience), eS (lI .u8) cx.Secret])] S) 1 ?_ (fun k kp hk => ?_)
                      · refine LW_ret ?_
                        obtain rfl := Option.some.inj h
                        show FPost _ _ _ _ _ _ _
                        exact ⟨_, hp_less (L := []) (D := [((d, 0), .box [.lit (.int .i64 cx.U), .lit (.int .i64 cx.R), .lit (.int .i64 cx.Peers), .lit (.int .i64 cx.Window), .lit (.int .i64 cx.Every), .lit (.int .i64 cx.Patience), eS (lI .u8) cx.Secret])]) (by intro p hp; simp only [List.mem_cons, List.not_mem_nil, or_false] at hp; rcases hp with rfl <;> first | exact hd _ (Nat.le_refl _)), rfl, rfl⟩
                      · try simp only [go_sem, Prod.mk.injEq, reduceIte, Nat.reduceEqDiff, Nat.reduceAdd, Nat.reduceSub, Nat.reduceMul, Nat.reduceDiv, Nat.reducePow, Nat.reduceLT, Nat.reduceLeDiff, Nat.reduceBEq, Nat.reduceBneDiff, Int.reduceToNat, Int.reduceEq, Int.reduceLE, Int.reduceLT, reduceCtorEq]
                        repeat (with_reducible refine And.intro ?_ ?_; next => first | assumption | trivial | omega | decide | (constructor <;> first | assumption | omega) | (simp [Keep.ok, hp_cons_apply, hset_cons]; done))
                        refine hk _ _ _ ?_
                        refine xghost (D := []) ?_ ?_ ?_ ?_
                        · exact (.cons (Sub.of_eq rfl) .nil)
                        · exact HpW.refl
                        · exact (by intro p hp; cases hp)
                        · omega
                  · try simp only [go_sem, Prod.mk.injEq, reduceIte, Nat.reduceEqDiff, Nat.reduceAdd, Nat.reduceSub, Nat.reduceMul, Nat.reduceDiv, Nat.reducePow, Nat.reduceLT, Nat.reduceLeDiff, Nat.reduceBEq, Nat.reduceBneDiff, Int.reduceToNat, Int.reduceEq, Int.reduceLE, Int.reduceLT, reduceCtorEq]
                    repeat (with_reducible refine And.intro ?_ ?_; next => first | assumption | trivial | omega | decide | (constructor <;> first | assumption | omega) | (simp [Keep.ok, hp_cons_apply, hset_cons]; done))
                    refine hk _ _ _ ?_
                    refine xghost (D := []) ?_ ?_ ?_ ?_
                    · exact (.cons (Sub.of_eq rfl) (.cons (Sub.of_eq rfl) .nil))
                    · exact HpW.refl
                    · exact (by intro p hp; cases hp)
                    · omega
              · try simp only [go_sem, Prod.mk.injEq, reduceIte, Nat.reduceEqDiff, Nat.reduceAdd, Nat.reduceSub, Nat.reduceMul, Nat.reduceDiv, Nat.reducePow, Nat.reduceLT, Nat.reduceLeDiff, Nat.reduceBEq, Nat.reduceBneDiff, Int.reduceToNat, Int.reduceEq, Int.reduceLE, Int.reduceLT, reduceCtorEq]
                repeat (with_reducible refine And.intro ?_ ?_; next => first | assumption | trivial | omega | decide | (constructor <;> first | assumption | omega) | (simp [Keep.ok, hp_cons_apply, hset_cons]; done))
                refine hk _ _ _ ?_
                refine xghost (D := []) ?_ ?_ ?_ ?_
                · exact (.cons (Sub.of_eq rfl) (.cons (Sub.of_eq rfl) (.cons (Sub.of_eq rfl) .nil)))
                · exact HpW.refl
                · exact (by intro p hp; cases hp)
                · omega
          · refine xseq [(2, .ptr (d, 0) 0), (8, .lit (.int .i64 role)), (9, .lit (.bool (role == 1)))] (hp [((d, 0), .box [.lit (.int .i64 cx.U), .lit (.int .i64 cx.R), .lit (.int .i64 cx.Peers), .lit (.int .i64 cx.Window), .lit (.int .i64 cx.Every), .lit (.int .i64 cx.Patience), eS (lI .u8) cx.Secret])] S) 1 ?_ (fun k kp hk => ?_)
            · refine xcond (role == 1) rfl (fun hc_4 => ?_) (fun hc_4 => ?_)
              · rw [ite_t hc_4] at h
                refine LW_skip ?_
                exact hj (role == 1) h
              · rw [ite_f hc_4] at h
                refine xreg [(2, .ptr (d, 0) 0), (8, .lit (.int .i64 role)), (9, .lit (.bool (role == 2)))] (hp [((d, 0), .box [.lit (.int .i64 cx.U), .lit (.int .i64 cx.R), .lit (.int .i64 cx.Peers), .lit (.int .i64 cx.Window), .lit (.int .i64 cx.Every), .lit (.int .i64 cx.Patience), eS (lI .u8) cx.Secret])] S) 1 ?_ (fun k kp hk => ?_)
                · exact hj (role == 2) h
                · try simp only [go_sem, Prod.mk.injEq, reduceIte, Nat.reduceEqDiff, Nat.reduceAdd, Nat.reduceSub, Nat.reduceMul, Nat.reduceDiv, Nat.reducePow, Nat.reduceLT, Nat.reduceLeDiff, Nat.reduceBEq, Nat.reduceBneDiff, Int.reduceToNat, Int.reduceEq, Int.reduceLE, Int.reduceLT, reduceCtorEq]
                  repeat (with_reducible refine And.intro ?_ ?_; next => first | assumption | trivial | omega | decide | (constructor <;> first | assumption | omega) | (simp [Keep.ok, hp_cons_apply, hset_cons]; done))
                  refine hk _ _ _ ?_
                  refine xghost (D := []) ?_ ?_ ?_ ?_
                  · exact (.cons (Sub.of_eq rfl) (.cons (Sub.of_eq rfl) (.cons (Sub.of_eq rfl) .nil)))
                  · exact HpW.refl
                  · exact (by intro p hp; cases hp)
                  · omega
            · try simp only [go_sem, Prod.mk.injEq, reduceIte, Nat.reduceEqDiff, Nat.reduceAdd, Nat.reduceSub, Nat.reduceMul, Nat.reduceDiv, Nat.reducePow, Nat.reduceLT, Nat.reduceLeDiff, Nat.reduceBEq, Nat.reduceBneDiff, Int.reduceToNat, Int.reduceEq, Int.reduceLE, Int.reduceLT, reduceCtorEq]
              repeat (with_reducible refine And.intro ?_ ?_; next => first | assumption | trivial | omega | decide | (constructor <;> first | assumption | omega) | (simp [Keep.ok, hp_cons_apply, hset_cons]; done))
              refine hk _ _ _ ?_
              refine xghost (D := []) ?_ ?_ ?_ ?_
              · exact (.cons (Sub.of_eq rfl) (.cons (Sub.of_eq rfl) (.cons (Sub.of_eq rfl) .nil)))
              · exact HpW.refl
              · exact (by intro p hp; cases hp)
              · omega
        · try simp only [go_sem, Prod.mk.injEq, reduceIte, Nat.reduceEqDiff, Nat.reduceAdd, Nat.reduceSub, Nat.reduceMul, Nat.reduceDiv, Nat.reducePow, Nat.reduceLT, Nat.reduceLeDiff, Nat.reduceBEq, Nat.reduceBneDiff, Int.reduceToNat, Int.reduceEq, Int.reduceLE, Int.reduceLT, reduceCtorEq]
          repeat (with_reducible refine And.intro ?_ ?_; next => first | assumption | trivial | omega | decide | (constructor <;> first | assumption | omega) | (simp [Keep.ok, hp_cons_apply, hset_cons]; done))
          refine hk _ _ _ ?_
          refine xghost (D := []) ?_ ?_ ?_ ?_
          · exact (.cons (Sub.of_eq rfl) (.cons (Sub.of_eq rfl) .nil))
          · exact HpW.refl
          · exact (by intro p hp; cases hp)
          · omega
    · try simp only [go_sem, Prod.mk.injEq, reduceIte, Nat.reduceEqDiff, Nat.reduceAdd, Nat.reduceSub, Nat.reduceMul, Nat.reduceDiv, Nat.reducePow, Nat.reduceLT, Nat.reduceLeDiff, Nat.reduceBEq, Nat.reduceBneDiff, Int.reduceToNat, Int.reduceEq, Int.reduceLE, Int.reduceLT, reduceCtorEq]
      repeat (with_reducible refine And.intro ?_ ?_; next => first | assumption | trivial | omega | decide | (constructor <;> first | assumption | omega) | (simp [Keep.ok, hp_cons_apply, hset_cons]; done))
      have hcall := s_stanchionref06_Check_ok (hp [((d, 0), .box [.lit (.int .i64 cx.U), .lit (.int .i64 cx.R), .lit (.int .i64 cx.Peers), .lit (.int .i64 cx.Window), .lit (.int .i64 cx.Every), .lit (.int .i64 cx.Patience), eS (lI .u8) cx.Secret])] S) cx hv
      refine call1_x hcall rfl ?_ ?_
      · exact (.cons Sub.refl .nil)
      clear hcall
      rintro _ SS ⟨rfl, hSS⟩ -
      rw [hSS]
      clear hSS
      try simp only [go_sem, Prod.mk.injEq, reduceIte, Nat.reduceEqDiff, Nat.reduceAdd, Nat.reduceSub, Nat.reduceMul, Nat.reduceDiv, Nat.reducePow, Nat.reduceLT, Nat.reduceLeDiff, Nat.reduceBEq, Nat.reduceBneDiff, Int.reduceToNat, Int.reduceEq, Int.reduceLE, Int.reduceLT, reduceCtorEq]
      repeat (with_reducible refine And.intro ?_ ?_; next => first | assumption | trivial | omega | decide | (constructor <;> first | assumption | omega) | (simp [Keep.ok, hp_cons_apply, hset_cons]; done))
      refine hk _ _ _ ?_
      refine xghost (D := []) ?_ ?_ ?_ ?_
      · exact (.cons (Sub.of_eq rfl) (.cons (Sub.of_eq rfl) (.cons (Sub.of_eq rfl) .nil)))
      · exact HpW.refl
      · exact (by intro p hp; cases hp)
      · omega
  · try simp only [go_sem, Prod.mk.injEq, reduceIte, Nat.reduceEqDiff, Nat.reduceAdd, Nat.reduceSub, Nat.reduceMul, Nat.reduceDiv, Nat.reducePow, Nat.reduceLT, Nat.reduceLeDiff, Nat.reduceBEq, Nat.reduceBneDiff, Int.reduceToNat, Int.reduceEq, Int.reduceLE, Int.reduceLT, reduceCtorEq]
    repeat (with_reducible refine And.intro ?_ ?_; next => first | assumption | trivial | omega | decide | (constructor <;> first | assumption | omega) | (simp [Keep.ok, hp_cons_apply, hset_cons]; done))
    refine hk _ _ _ ?_
    refine xghost (D := []) ?_ ?_ ?_ ?_
    · exact (.cons (Sub.of_eq rfl) (.cons (Sub.of_eq rfl) .nil))
    · exact HpW.refl
    · exact (by intro p hp; cases hp)
    · omega
/-! stanchion/stanchionref06.Quorum -/
def s_stanchionref06_Quorum (cx : GapiConf) : Option Int :=
  bd (s_stanchionref06_Count cx 3) fun (v : Int) => some v
theorem s_stanchionref06_Quorum_ok (S : AHeap) (cx : GapiConf) {r : Int} (h : s_stanchionref06_Quorum cx = some r) :
    AC Try.prog n_stanchionref06_Quorum [.agg [.lit (.int .i64 cx.U), .lit (.int .i64 cx.R), .lit (.int .i64 cx.Peers), .lit (.int .i64 cx.Window), .lit (.int .i64 cx.Every), .lit (.int .i64 cx.Patience), eS (lI .u8) cx.Secret]] S fun r' S' => r' = .ret (.lit (.int .i64 r)) ∧ S' = S := by
  refine AC_of tok mixed fits_stanchionref06_Quorum fun d hd => ?_
  unfold c_stanchionref06_Quorum
  show LW _ _ _ _ [(0, .agg [.lit (.int .i64 cx.U), .lit (.int .i64 cx.R), .lit (.int .i64 cx.Peers), .lit (.int .i64 cx.Window), .lit (.int .i64 cx.Every), .lit (.int .i64 cx.Patience), eS (lI .u8) cx.Secret])] (hp [] S) 0 _
  rw [s_stanchionref06_Quorum] at h
  refine xseq [(1, .ptr (d, 0) 0)] (hp [((d, 0), .box [.lit (.int .i64 cx.U), .lit (.int .i64 cx.R), .lit (.int .i64 cx.Peers), .lit (.int .i64 cx.Window), .lit (.int .i64 cx.Every), .lit (.int .i64 cx.Patience), eS (lI .u8) cx.Secret])] S) 1 ?_ (fun k kp hk => ?_)
  · obtain ⟨v, hv, h⟩ := bd_some h
    refine xseq [(2, .lit (.int .i64 v))] (hp [((d, 0), .box [.lit (.int .i64 cx.U), .lit (.int .i64 cx.R), .lit (.int .i64 cx.Peers), .lit (.int .i64 cx.Window), .lit (.int .i64 cx.Every), .lit (.int .i64 cx.Patience), eS (lI .u8) cx.Secret])] S) 1 ?_ (fun k kp hk => ?_)
    · refine LW_ret ?_
      obtain rfl := Option.some.inj h
      show FPost _ _ _ _ _ _ _
      exact ⟨_, hp_less (L := []) (D := [((d, 0), .box [.lit (.int .i64 cx.U), .lit (.int .i64 cx.R), .lit (.int .i64 cx.Peers), .lit (.int .i64 cx.Window), .lit (.int .i64 cx.Every), .lit (.int .i64 cx.Patience), eS (lI .u8) cx.Secret])]) (by intro p hp; simp only [List.mem_cons, List.not_mem_nil, or_false] at hp; rcases hp with rfl <;> first | exact hd _ (Nat.le_refl _)), rfl, rfl⟩
    · try simp only [go_sem, Prod.mk.injEq, reduceIte, Nat.reduceEqDiff, Nat.reduceAdd, Nat.reduceSub, Nat.reduceMul, Nat.reduceDiv, Nat.reducePow, Nat.reduceLT, Nat.reduceLeDiff, Nat.reduceBEq, Nat.reduceBneDiff, Int.reduceToNat, Int.reduceEq, Int.reduceLE, Int.reduceLT, reduceCtorEq]
      repeat (with_reducible refine And.intro ?_ ?_; next => first | assumption | trivial | omega | decide | (constructor <;> first | assumption | omega) | (simp [Keep.ok, hp_cons_apply, hset_cons]; done))
      have hcall := s_stanchionref06_Count_ok (hp [((d, 0), .box [.lit (.int .i64 cx.U), .lit (.int .i64 cx.R), .lit (.int .i64 cx.Peers), .lit (.int .i64 cx.Window), .lit (.int .i64 cx.Every), .lit (.int .i64 cx.Patience), eS (lI .u8) cx.Secret])] S) cx 3 hv
      refine call1_x hcall rfl ?_ ?_
      · exact (.cons Sub.refl (.cons Sub.refl .nil))
      clear hcall
      rintro _ SS ⟨rfl, hSS⟩ -
      rw [hSS]
      clear hSS
      try simp only [go_sem, Prod.mk.injEq, reduceIte, Nat.reduceEqDiff, Nat.reduceAdd, Nat.reduceSub, Nat.reduceMul, Nat.reduceDiv, Nat.reducePow, Nat.reduceLT, Nat.reduceLeDiff, Nat.reduceBEq, Nat.reduceBneDiff, Int.reduceToNat, Int.reduceEq, Int.reduceLE, Int.reduceLT, reduceCtorEq]
      repeat (with_reducible refine And.intro ?_ ?_; next => first | assumption | trivial | omega | decide | (constructor <;> first | assumption | omega) | (simp [Keep.ok, hp_cons_apply, hset_cons]; done))
      refine hk _ _ _ ?_
      refine xghost (D := []) ?_ ?_ ?_ ?_
      · exact (.cons (Sub.of_eq rfl) .nil)
      · exact HpW.refl
      · exact (by intro p hp; cases hp)
      · omega
  · try simp only [go_sem, Prod.mk.injEq, reduceIte, Nat.reduceEqDiff, Nat.reduceAdd, Nat.reduceSub, Nat.reduceMul, Nat.reduceDiv, Nat.reducePow, Nat.reduceLT, Nat.reduceLeDiff, Nat.reduceBEq, Nat.reduceBneDiff, Int.reduceToNat, Int.reduceEq, Int.reduceLE, Int.reduceLT, reduceCtorEq]
    repeat (with_reducible refine And.intro ?_ ?_; next => first | assumption | trivial | omega | decide | (constructor <;> first | assumption | omega) | (simp [Keep.ok, hp_cons_apply, hset_cons]; done))
    refine hk _ _ _ ?_
    refine xghost (D := []) ?_ ?_ ?_ ?_
    · exact (.cons (Sub.of_eq rfl) .nil)
    · exact HpW.refl
    · exact (by intro p hp; cases hp)
    · omega
/-! stanchion/stanchionref06.Proof -/
def s_stanchionref06_Proof (cx : GapiConf) : Option Int :=
  bd (s_stanchionref06_Check cx) fun (v : Int) => if (v != 0) = true then some 0 else some (IntKind.i64.wrap (cx.R + 1))
theorem s_stanchionref06_Proof_ok (S : AHeap) (cx : GapiConf) {r : Int} (h : s_stanchionref06_Proof cx = some r) :
    AC Try.prog n_stanchionref06_Proof [.agg [.lit (.int .i64 cx.U), .lit (.int .i64 cx.R), .lit (.int .i64 cx.Peers), .lit (.int .i64 cx.Window), .lit (.int .i64 cx.Every), .lit (.int .i64 cx.Patience), eS (lI .u8) cx.Secret]] S fun r' S' => r' = .ret (.lit (.int .i64 r)) ∧ S' = S := by
  refine AC_of tok mixed fits_stanchionref06_Proof fun d hd => ?_
  unfold c_stanchionref06_Proof
  show LW _ _ _ _ [(0, .agg [.lit (.int .i64 cx.U), .lit (.int .i64 cx.R), .lit (.int .i64 cx.Peers), .lit (.int .i64 cx.Window), .lit (.int .i64 cx.Every), .lit (.int .i64 cx.Patience), eS (lI .u8) cx.Secret])] (hp [] S) 0 _
  rw [s_stanchionref06_Proof] at h
  refine xseq [(1, .ptr (d, 0) 0)] (hp [((d, 0), .box [.lit (.int .i64 cx.U), .lit (.int .i64 cx.R), .lit (.int .i64 cx.Peers), .lit (.int .i64 cx.Window), .lit (.int .i64 cx.Every), .lit (.int .i64 cx.Patience), eS (lI .u8) cx.Secret])] S) 1 ?_ (fun k kp hk => ?_)
  · refine LW_seq ?_
    obtain ⟨v, hv, h⟩ := bd_some h
    refine xseq [(1, .ptr (d, 0) 0), (5, .lit (.bool (v != 0)))] (hp [((d, 0), .box [.lit (.int .i64 cx.U), .lit (.int .i64 cx.R), .lit (.int .i64 cx.Peers), .lit (.int .i64 cx.Window), .lit (.int .i64 cx.Every), .lit (.int .i64 cx.Patience), eS (lI .u8) cx.Secret])] S) 1 ?_ (fun k kp hk => ?_)
    · refine xcond (v != 0) rfl (fun hc => ?_) (fun hc => ?_)
      · rw [ite_t hc] at h
        refine xseq [(2, .lit (.int .i64 0))] (hp [((d, 0), .box [.lit (.int .i64 cx.U), .lit (.int .i64 cx.R), .lit (.int .i64 cx.Peers), .lit (.int .i64 cx.Window), .lit (.int .i64 cx.Every), .lit (.int .i64 cx.Patience), eS (lI .u8) cx.Secret])] S) 1 ?_ (fun k kp hk => ?_)
        · refine LW_ret ?_
          obtain rfl := Option.some.inj h
          show FPost _ _ _ _ _ _ _
          exact ⟨_, hp_less (L := []) (D := [((d, 0), .box [.lit (.int .i64 cx.U), .lit (.int .i64 cx.R), .lit (.int .i64 cx.Peers), .lit (.int .i64 cx.Window), .lit (.int .i64 cx.Every), .lit (.int .i64 cx.Patience), eS (lI .u8) cx.Secret])]) (by intro p hp; simp only [List.mem_cons, List.not_mem_nil, or_false] at hp; rcases hp with rfl <;> first | exact hd _ (Nat.le_refl _)), rfl, rfl⟩
        · try simp only [go_sem, Prod.mk.injEq, reduceIte, Nat.reduceEqDiff, Nat.reduceAdd, Nat.reduceSub, Nat.reduceMul, Nat.reduceDiv, Nat.reducePow, Nat.reduceLT, Nat.reduceLeDiff, Nat.reduceBEq, Nat.reduceBneDiff, Int.reduceToNat, Int.reduceEq, Int.reduceLE, Int.reduceLT, reduceCtorEq]
          repeat (with_reducible refine And.intro ?_ ?_; next => first | assumption | trivial | omega | decide | (constructor <;> first | assumption | omega) | (simp [Keep.ok, hp_cons_apply, hset_cons]; done))
          refine hk _ _ _ ?_
          refine xghost (D := []) ?_ ?_ ?_ ?_
          · exact (.cons (Sub.of_eq rfl) .nil)
          · exact HpW.refl
          · exact (by intro p hp; cases hp)
          · omega
      · rw [ite_f hc] at h
        refine LW_skip ?_
        show LW _ _ _ _ _ _ _ _
        refine xseq [(2, .lit (.int .i64 (IntKind.i64.wrap (cx.R + 1))))] (hp [((d, 0), .box [.lit (.int .i64 cx.U), .lit (.int .i64 cx.R), .lit (.int .i64 cx.Peers), .lit (.int .i64 cx.Window), .lit (.int .i64 cx.Every), .lit (.int .i64 cx.Patience), eS (lI .u8) cx.Secret])] S) 1 ?_ (fun k kp hk => ?_)
        · refine LW_ret ?_
          obtain rfl := Option.some.inj h
          show FPost _ _ _ _ _ _ _
          exact ⟨_, hp_less (L := []) (D := [((d, 0), .box [.lit (.int .i64 cx.U), .lit (.int .i64 cx.R), .lit (.int .i64 cx.Peers), .lit (.int .i64 cx.Window), .lit (.int .i64 cx.Every), .lit (.int .i64 cx.Patience), eS (lI .u8) cx.Secret])]) (by intro p hp; simp only [List.mem_cons, List.not_mem_nil, or_false] at hp; rcases hp with rfl <;> first | exact hd _ (Nat.le_refl _)), rfl, rfl⟩
        · try simp only [go_sem, Prod.mk.injEq, reduceIte, Nat.reduceEqDiff, Nat.reduceAdd, Nat.reduceSub, Nat.reduceMul, Nat.reduceDiv, Nat.reducePow, Nat.reduceLT, Nat.reduceLeDiff, Nat.reduceBEq, Nat.reduceBneDiff, Int.reduceToNat, Int.reduceEq, Int.reduceLE, Int.reduceLT, reduceCtorEq]
          repeat (with_reducible refine And.intro ?_ ?_; next => first | assumption | trivial | omega | decide | (constructor <;> first | assumption | omega) | (simp [Keep.ok, hp_cons_apply, hset_cons]; done))
          refine hk _ _ _ ?_
          refine xghost (D := []) ?_ ?_ ?_ ?_
          · exact (.cons (Sub.of_eq rfl) .nil)
          · exact HpW.refl
          · exact (by intro p hp; cases hp)
          · omega
    · try simp only [go_sem, Prod.mk.injEq, reduceIte, Nat.reduceEqDiff, Nat.reduceAdd, Nat.reduceSub, Nat.reduceMul, Nat.reduceDiv, Nat.reducePow, Nat.reduceLT, Nat.reduceLeDiff, Nat.reduceBEq, Nat.reduceBneDiff, Int.reduceToNat, Int.reduceEq, Int.reduceLE, Int.reduceLT, reduceCtorEq]
      repeat (with_reducible refine And.intro ?_ ?_; next => first | assumption | trivial | omega | decide | (constructor <;> first | assumption | omega) | (simp [Keep.ok, hp_cons_apply, hset_cons]; done))
      have hcall := s_stanchionref06_Check_ok (hp [((d, 0), .box [.lit (.int .i64 cx.U), .lit (.int .i64 cx.R), .lit (.int .i64 cx.Peers), .lit (.int .i64 cx.Window), .lit (.int .i64 cx.Every), .lit (.int .i64 cx.Patience), eS (lI .u8) cx.Secret])] S) cx hv
      refine call1_x hcall rfl ?_ ?_
      · exact (.cons Sub.refl .nil)
      clear hcall
      rintro _ SS ⟨rfl, hSS⟩ -
      rw [hSS]
      clear hSS
      try simp only [go_sem, Prod.mk.injEq, reduceIte, Nat.reduceEqDiff, Nat.reduceAdd, Nat.reduceSub, Nat.reduceMul, Nat.reduceDiv, Nat.reducePow, Nat.reduceLT, Nat.reduceLeDiff, Nat.reduceBEq, Nat.reduceBneDiff, Int.reduceToNat, Int.reduceEq, Int.reduceLE, Int.reduceLT, reduceCtorEq]
      repeat (with_reducible refine And.intro ?_ ?_; next => first | assumption | trivial | omega | decide | (constructor <;> first | assumption | omega) | (simp [Keep.ok, hp_cons_apply, hset_cons]; done))
      refine hk _ _ _ ?_
      refine xghost (D := []) ?_ ?_ ?_ ?_
      · exact (.cons (Sub.of_eq rfl) (.cons (Sub.of_eq rfl) .nil))
      · exact HpW.refl
      · exact (by intro p hp; cases hp)
      · omega
  · try simp only [go_sem, Prod.mk.injEq, reduceIte, Nat.reduceEqDiff, Nat.reduceAdd, Nat.reduceSub, Nat.reduceMul, Nat.reduceDiv, Nat.reducePow, Nat.reduceLT, Nat.reduceLeDiff, Nat.reduceBEq, Nat.reduceBneDiff, Int.reduceToNat, Int.reduceEq, Int.reduceLE, Int.reduceLT, reduceCtorEq]
    repeat (with_reducible refine And.intro ?_ ?_; next => first | assumption | trivial | omega | decide | (constructor <;> first | assumption | omega) | (simp [Keep.ok, hp_cons_apply, hset_cons]; done))
    refine hk _ _ _ ?_
    refine xghost (D := []) ?_ ?_ ?_ ?_
    · exact (.cons (Sub.of_eq rfl) .nil)
    · exact HpW.refl
    · exact (by intro p hp; cases hp)
    · omega
end
end Go.Proofs.Ytejlgalnkblndaa
