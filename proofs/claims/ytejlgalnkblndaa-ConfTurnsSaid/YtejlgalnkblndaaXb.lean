/- Go functions as Lean functions, and that their code does as these say. Printed by a program of this work. -/
import Derived.Test.YtejlgalnkblndaaXL
import Derived.Test.YtejlgalnkblndaaXa
set_option linter.unusedVariables false
set_option linter.unusedSimpArgs false
set_option maxRecDepth 100000
set_option maxHeartbeats 4000000
namespace Go.Proofs.Ytejlgalnkblndaa
open Go Go.Al
noncomputable section
/-! stanchion/conf.There -/
def s_conf_There (cx : GapiConf) (id : GapiId) : Option Bool :=
  bd (if (decide (0 ≤ id.N)) = true then s_conf_Count cx id.Role else some 0) fun (v : Int) => some ((decide (0 ≤ id.N)) && (decide (id.N < v)))
theorem s_conf_There_ok (S : AHeap) (cx : GapiConf) (id : GapiId) {r : Bool} (h : s_conf_There cx id = some r) :
    AC Try.prog n_conf_There [.agg [.lit (.int .i64 cx.U), .lit (.int .i64 cx.R), .lit (.int .i64 cx.Peers), .lit (.int .i64 cx.Window), .lit (.int .i64 cx.Every), .lit (.int .i64 cx.Patience), eS (lI .u8) cx.Secret], .agg [.lit (.int .i64 id.Role), .lit (.int .i64 id.N)]] S fun r' S' => r' = .ret (.lit (.bool r)) ∧ S' = S := by
  refine AC_of tok mixed fits_conf_There fun d hd => ?_
  unfold c_conf_There
  show LW _ _ _ _ [(0, .agg [.lit (.int .i64 cx.U), .lit (.int .i64 cx.R), .lit (.int .i64 cx.Peers), .lit (.int .i64 cx.Window), .lit (.int .i64 cx.Every), .lit (.int .i64 cx.Patience), eS (lI .u8) cx.Secret]), (1, .agg [.lit (.int .i64 id.Role), .lit (.int .i64 id.N)])] (hp [] S) 0 _
  rw [s_conf_There] at h
  refine xseq [(2, .ptr (d, 0) 0), (3, .ptr (d, 1) 0)] (hp [((d, 0), .box [.lit (.int .i64 cx.U), .lit (.int .i64 cx.R), .lit (.int .i64 cx.Peers), .lit (.int .i64 cx.Window), .lit (.int .i64 cx.Every), .lit (.int .i64 cx.Patience), eS (lI .u8) cx.Secret]), ((d, 1), .box [.lit (.int .i64 id.Role), .lit (.int .i64 id.N)])] S) 2 ?_ (fun k kp hk => ?_)
  · obtain ⟨v, hv, h⟩ := bd_some h
    refine xseqd [(4, .lit (.bool ((decide (0 ≤ id.N)) && (decide (id.N < v)))))] (hp [((d, 0), .box [.lit (.int .i64 cx.U), .lit (.int .i64 cx.R), .lit (.int .i64 cx.Peers), .lit (.int .i64 cx.Window), .lit (.int .i64 cx.Every), .lit (.int .i64 cx.Patience), eS (lI .u8) cx.Secret]), ((d, 1), .box [.lit (.int .i64 id.Role), .lit (.int .i64 id.N)])] S) 2 ?_ (fun k kp hk => ?_)
    · refine LW_ret ?_
      obtain rfl := Option.some.inj h
      show FPost _ _ _ _ _ _ _
      exact ⟨_, hp_less (L := []) (D := [((d, 0), .box [.lit (.int .i64 cx.U), .lit (.int .i64 cx.R), .lit (.int .i64 cx.Peers), .lit (.int .i64 cx.Window), .lit (.int .i64 cx.Every), .lit (.int .i64 cx.Patience), eS (lI .u8) cx.Secret]), ((d, 1), .box [.lit (.int .i64 id.Role), .lit (.int .i64 id.N)])]) (by intro p hp; simp only [List.mem_cons, List.not_mem_nil, or_false] at hp; rcases hp with rfl | rfl <;> first | exact hd _ (Nat.le_refl _)), rfl, rfl⟩
    · try simp only [go_sem, Prod.mk.injEq, reduceIte, Nat.reduceEqDiff, Nat.reduceAdd, Nat.reduceSub, Nat.reduceMul, Nat.reduceDiv, Nat.reducePow, Nat.reduceLT, Nat.reduceLeDiff, Nat.reduceBEq, Nat.reduceBneDiff, Int.reduceToNat, Int.reduceEq, Int.reduceLE, Int.reduceLT, reduceCtorEq]
      repeat (with_reducible refine And.intro ?_ ?_; next => first | assumption | trivial | omega | decide | (constructor <;> first | assumption | omega) | (simp [Keep.ok, hp_cons_apply, hset_cons]; done))
      refine xd_guard (decide (0 ≤ id.N)) rfl (fun hc => ?_) (fun hc => ?_)
      · try simp only [go_sem, Prod.mk.injEq, reduceIte, Nat.reduceEqDiff, Nat.reduceAdd, Nat.reduceSub, Nat.reduceMul, Nat.reduceDiv, Nat.reducePow, Nat.reduceLT, Nat.reduceLeDiff, Nat.reduceBEq, Nat.reduceBneDiff, Int.reduceToNat, Int.reduceEq, Int.reduceLE, Int.reduceLT, reduceCtorEq, hc]
        repeat (with_reducible refine And.intro ?_ ?_; next => first | assumption | trivial | omega | decide | (constructor <;> first | assumption | omega) | (simp [Keep.ok, hp_cons_apply, hset_cons]; done))
        rw [if_pos (by simp only [Bool.and_true, Bool.true_and, Bool.and_false, Bool.false_and, Bool.or_true, Bool.true_or, Bool.or_false, Bool.false_or, Bool.not_true, Bool.not_false, Bool.not_not, hc])] at hv
        have hcall := s_conf_Count_ok (hp [((d, 0), .box [.lit (.int .i64 cx.U), .lit (.int .i64 cx.R), .lit (.int .i64 cx.Peers), .lit (.int .i64 cx.Window), .lit (.int .i64 cx.Every), .lit (.int .i64 cx.Patience), eS (lI .u8) cx.Secret]), ((d, 1), .box [.lit (.int .i64 id.Role), .lit (.int .i64 id.N)])] S) cx id.Role hv
        refine call1_x hcall rfl ?_ ?_
        · exact (.cons Sub.refl (.cons Sub.refl .nil))
        clear hcall
        rintro _ SS ⟨rfl, hSS⟩ -
        rw [hSS]
        clear hSS
        try simp only [go_sem, Prod.mk.injEq, reduceIte, Nat.reduceEqDiff, Nat.reduceAdd, Nat.reduceSub, Nat.reduceMul, Nat.reduceDiv, Nat.reducePow, Nat.reduceLT, Nat.reduceLeDiff, Nat.reduceBEq, Nat.reduceBneDiff, Int.reduceToNat, Int.reduceEq, Int.reduceLE, Int.reduceLT, reduceCtorEq, hc]
        repeat (with_reducible refine And.intro ?_ ?_; next => first | assumption | trivial | omega | decide | (constructor <;> first | assumption | omega) | (simp [Keep.ok, hp_cons_apply, hset_cons]; done))
        try simp only [go_sem, Prod.mk.injEq, reduceIte, Nat.reduceEqDiff, Nat.reduceAdd, Nat.reduceSub, Nat.reduceMul, Nat.reduceDiv, Nat.reducePow, Nat.reduceLT, Nat.reduceLeDiff, Nat.reduceBEq, Nat.reduceBneDiff, Int.reduceToNat, Int.reduceEq, Int.reduceLE, Int.reduceLT, reduceCtorEq, hc]
        repeat (with_reducible refine And.intro ?_ ?_; next => first | assumption | trivial | omega | decide | (constructor <;> first | assumption | omega) | (simp [Keep.ok, hp_cons_apply, hset_cons]; done))
        refine hk _ _ _ ?_
        refine xghost (D := []) ?_ ?_ ?_ ?_
        · exact (.cons (Sub.of_eq (by first | rfl | (simp only [sget_cons, reduceIte, Nat.reduceEqDiff, Bool.and_true, Bool.true_and, Bool.and_false, Bool.false_and, Bool.or_true, Bool.true_or, Bool.or_false, Bool.false_or, Bool.not_true, Bool.not_false, Bool.not_not, hc]; done))) .nil)
        · exact HpW.refl
        · exact (by intro p hp; cases hp)
        · omega
      · try simp only [go_sem, Prod.mk.injEq, reduceIte, Nat.reduceEqDiff, Nat.reduceAdd, Nat.reduceSub, Nat.reduceMul, Nat.reduceDiv, Nat.reducePow, Nat.reduceLT, Nat.reduceLeDiff, Nat.reduceBEq, Nat.reduceBneDiff, Int.reduceToNat, Int.reduceEq, Int.reduceLE, Int.reduceLT, reduceCtorEq, hc]
        repeat (with_reducible refine And.intro ?_ ?_; next => first | assumption | trivial | omega | decide | (constructor <;> first | assumption | omega) | (simp [Keep.ok, hp_cons_apply, hset_cons]; done))
        refine hk _ _ _ ?_
        refine xghost (D := []) ?_ ?_ ?_ ?_
        · exact (.cons (Sub.of_eq (by first | rfl | (simp only [sget_cons, reduceIte, Nat.reduceEqDiff, Bool.and_true, Bool.true_and, Bool.and_false, Bool.false_and, Bool.or_true, Bool.true_or, Bool.or_false, Bool.false_or, Bool.not_true, Bool.not_false, Bool.not_not, hc]; done))) .nil)
        · exact HpW.refl
        · exact (by intro p hp; cases hp)
        · omega
  · try simp only [go_sem, Prod.mk.injEq, reduceIte, Nat.reduceEqDiff, Nat.reduceAdd, Nat.reduceSub, Nat.reduceMul, Nat.reduceDiv, Nat.reducePow, Nat.reduceLT, Nat.reduceLeDiff, Nat.reduceBEq, Nat.reduceBneDiff, Int.reduceToNat, Int.reduceEq, Int.reduceLE, Int.reduceLT, reduceCtorEq]
    repeat (with_reducible refine And.intro ?_ ?_; next => first | assumption | trivial | omega | decide | (constructor <;> first | assumption | omega) | (simp [Keep.ok, hp_cons_apply, hset_cons]; done))
    refine hk _ _ _ ?_
    refine xghost (D := []) ?_ ?_ ?_ ?_
    · exact (.cons (Sub.of_eq rfl) (.cons (Sub.of_eq rfl) .nil))
    · exact HpW.refl
    · exact (by intro p hp; cases hp)
    · omega
/-! stanchion/conf.Ids -/
def s_conf_Ids_b2 (roles : List Int) (t11 : Int) (v : Int) : (List GapiId × Int) → Option ((List GapiId × Int) ⊕ ((List GapiId × Int) ⊕ (List GapiId)))
  | (out_1, t18) => if (decide (t18 < v)) = true then gd (((out_1.length + 1) * 16 ≤ 140737488355328 ∧ out_1.length + 1 < 9223372036854775808)) (some (.inl ((out_1 ++ [(GapiId.mk (roles.getD (Int.toNat t11) 0) t18)]), (IntKind.i64.wrap (t18 + 1))))) else mr (some (.inl (out_1, (IntKind.i64.wrap (t11 + 1)))))
def s_conf_Ids_b1 (cx : GapiConf) (roles : List Int) : (List GapiId × Int) → Option ((List GapiId × Int) ⊕ (List GapiId))
  | (out, t11) => if (decide (t11 < (roles.length : Int))) = true then gd ((0 ≤ t11 ∧ Int.toNat t11 < roles.length)) (bd (s_conf_Count cx (roles.getD (Int.toNat t11) 0)) fun (v : Int) => loop (s_conf_Ids_b2 roles t11 v) (out, 0)) else mr (some out)
def s_conf_Ids (cx : GapiConf) (roles : List Int) : Option (List GapiId) :=
  loop (s_conf_Ids_b1 cx roles) ([], 0)
theorem s_conf_Ids_ok (S : AHeap) (cx : GapiConf) (roles : List Int) {r : List GapiId} (h : s_conf_Ids cx roles = some r) :
    AC Try.prog n_conf_Ids [.agg [.lit (.int .i64 cx.U), .lit (.int .i64 cx.R), .lit (.int .i64 cx.Peers), .lit (.int .i64 cx.Window), .lit (.int .i64 cx.Every), .lit (.int .i64 cx.Patience), eS (lI .u8) cx.Secret], eS (lI .i64) roles] S fun r' S' => r' = .ret (eS yGapiId r) ∧ S' = S := by
  refine AC_of tok mixed fits_conf_Ids fun d hd => ?_
  unfold c_conf_Ids
  show LW _ _ _ _ [(0, .agg [.lit (.int .i64 cx.U), .lit (.int .i64 cx.R), .lit (.int .i64 cx.Peers), .lit (.int .i64 cx.Window), .lit (.int .i64 cx.Every), .lit (.int .i64 cx.Patience), eS (lI .u8) cx.Secret]), (1, eS (lI .i64) roles)] (hp [] S) 0 _
  rw [s_conf_Ids] at h
  refine xseq [(1, eS (lI .i64) roles), (2, .ptr (d, 0) 0)] (hp [((d, 0), .box [.lit (.int .i64 cx.U), .lit (.int .i64 cx.R), .lit (.int .i64 cx.Peers), .lit (.int .i64 cx.Window), .lit (.int .i64 cx.Every), .lit (.int .i64 cx.Patience), eS (lI .u8) cx.Secret])] S) 1 ?_ (fun k kp hk => ?_)
  · refine xseq [(1, eS (lI .i64) roles), (2, .ptr (d, 0) 0), (5, eT yGapiId (d, 1) [])] (hp [((d, 0), .box [.lit (.int .i64 cx.U), .lit (.int .i64 cx.R), .lit (.int .i64 cx.Peers), .lit (.int .i64 cx.Window), .lit (.int .i64 cx.Every), .lit (.int .i64 cx.Patience), eS (lI .u8) cx.Secret]), ((d, 1), oT yGapiId [])] S) 2 ?_ (fun k kp hk => ?_)
    · refine LW_seq ?_
      refine xseq [(2, .ptr (d, 0) 0), (5, eT yGapiId (d, 1) []), (9, eS (lI .i64) roles), (10, .lit (.int .i64 (roles.length : Int))), (11, .lit (.int .i64 0))] (hp [((d, 0), .box [.lit (.int .i64 cx.U), .lit (.int .i64 cx.R), .lit (.int .i64 cx.Peers), .lit (.int .i64 cx.Window), .lit (.int .i64 cx.Every), .lit (.int .i64 cx.Patience), eS (lI .u8) cx.Secret]), ((d, 1), oT yGapiId [])] S) 2 ?_ (fun k kp hk => ?_)
      · refine LW_block ?_
        refine LW_loopX (σ := List GapiId × Int) (s := ([], 0)) (fun zz => [(2, .ptr (d, 0) 0), (5, eT yGapiId (d, 1) zz.1), (9, eS (lI .i64) roles), (10, .lit (.int .i64 (roles.length : Int))), (11, .lit (.int .i64 zz.2))]) (fun zz => (hp [((d, 0), .box [.lit (.int .i64 cx.U), .lit (.int .i64 cx.R), .lit (.int .i64 cx.Peers), .lit (.int .i64 cx.Window), .lit (.int .i64 cx.Every), .lit (.int .i64 cx.Patience), eS (lI .u8) cx.Secret]), ((d, 1), oT yGapiId zz.1)] S)) h ?_ ?_
        · clear h
          rintro ⟨out, t11⟩ x1 d1 hd1 hf1 h hx1
          show LW _ _ _ _ [(2, .ptr (d, 0) 0), (5, eT yGapiId (d, 1) out), (9, eS (lI .i64) roles), (10, .lit (.int .i64 (roles.length : Int))), (11, .lit (.int .i64 t11))] (hp [((d, 0), .box [.lit (.int .i64 cx.U), .lit (.int .i64 cx.R), .lit (.int .i64 cx.Peers), .lit (.int .i64 cx.Window), .lit (.int .i64 cx.Every), .lit (.int .i64 cx.Patience), eS (lI .u8) cx.Secret]), ((d, 1), oT yGapiId out)] S) 0 _
          have hn1d : (d = d1) = False := by simp; omega
          have hm1d : (d1 = d) = False := by simp; omega
          rw [s_conf_Ids_b1] at h
          refine xseq [(2, .ptr (d, 0) 0), (5, eT yGapiId (d, 1) out), (9, eS (lI .i64) roles), (10, .lit (.int .i64 (roles.length : Int))), (11, .lit (.int .i64 t11)), (12, .lit (.bool (decide (t11 < (roles.length : Int)))))] (hp [((d, 0), .box [.lit (.int .i64 cx.U), .lit (.int .i64 cx.R), .lit (.int .i64 cx.Peers), .lit (.int .i64 cx.Window), .lit (.int .i64 cx.Every), .lit (.int .i64 cx.Patience), eS (lI .u8) cx.Secret]), ((d, 1), oT yGapiId out)] S) 0 ?_ (fun k kp hk => ?_)
          · refine LW_seq ?_
            refine xcond (decide (t11 < (roles.length : Int))) rfl (fun hc => ?_) (fun hc => ?_)
            · rw [ite_t hc] at h
              refine LW_skip ?_
              show LW _ _ _ _ _ _ _ _
              refine LW_seq ?_
              refine LW_block ?_
              obtain ⟨hg, h⟩ := gd_some h
              refine xseq [(2, .ptr (d, 0) 0), (5, eT yGapiId (d, 1) out), (7, .lit (.int .i64 (roles.getD (Int.toNat t11) 0))), (9, eS (lI .i64) roles), (10, .lit (.int .i64 (roles.length : Int))), (11, .lit (.int .i64 t11))] (hp [((d, 0), .box [.lit (.int .i64 cx.U), .lit (.int .i64 cx.R), .lit (.int .i64 cx.Peers), .lit (.int .i64 cx.Window), .lit (.int .i64 cx.Every), .lit (.int .i64 cx.Patience), eS (lI .u8) cx.Secret]), ((d, 1), oT yGapiId out)] S) 0 ?_ (fun k kp hk => ?_)
              · obtain ⟨v, hv, h⟩ := bd_some h
                refine xseq [(2, .ptr (d, 0) 0), (5, eT yGapiId (d, 1) out), (7, .lit (.int .i64 (roles.getD (Int.toNat t11) 0))), (9, eS (lI .i64) roles), (10, .lit (.int .i64 (roles.length : Int))), (11, .lit (.int .i64 t11)), (17, .lit (.int .i64 v)), (18, .lit (.int .i64 0))] (hp [((d, 0), .box [.lit (.int .i64 cx.U), .lit (.int .i64 cx.R), .lit (.int .i64 cx.Peers), .lit (.int .i64 cx.Window), .lit (.int .i64 cx.Every), .lit (.int .i64 cx.Patience), eS (lI .u8) cx.Secret]), ((d, 1), oT yGapiId out)] S) 0 ?_ (fun k kp hk => ?_)
                · refine LW_block ?_
                  refine LW_loopX (σ := List GapiId × Int) (s := (out, 0)) (fun zz => [(2, .ptr (d, 0) 0), (5, eT yGapiId (d, 1) zz.1), (7, .lit (.int .i64 (roles.getD (Int.toNat t11) 0))), (9, eS (lI .i64) roles), (10, .lit (.int .i64 (roles.length : Int))), (11, .lit (.int .i64 t11)), (17, .lit (.int .i64 v)), (18, .lit (.int .i64 zz.2))]) (fun zz => (hp [((d, 0), .box [.lit (.int .i64 cx.U), .lit (.int .i64 cx.R), .lit (.int .i64 cx.Peers), .lit (.int .i64 cx.Window), .lit (.int .i64 cx.Every), .lit (.int .i64 cx.Patience), eS (lI .u8) cx.Secret]), ((d, 1), oT yGapiId zz.1)] S)) h ?_ ?_
                  · clear h
                    rintro ⟨out_1, t18⟩ x2 d2 hd2 hf2 h hx2
                    show LW _ _ _ _ [(2, .ptr (d, 0) 0), (5, eT yGapiId (d, 1) out_1), (7, .lit (.int .i64 (roles.getD (Int.toNat t11) 0))), (9, eS (lI .i64) roles), (10, .lit (.int .i64 (roles.length : Int))), (11, .lit (.int .i64 t11)), (17, .lit (.int .i64 v)), (18, .lit (.int .i64 t18))] (hp [((d, 0), .box [.lit (.int .i64 cx.U), .lit (.int .i64 cx.R), .lit (.int .i64 cx.Peers), .lit (.int .i64 cx.Window), .lit (.int .i64 cx.Every), .lit (.int .i64 cx.Patience), eS (lI .u8) cx.Secret]), ((d, 1), oT yGapiId out_1)] S) 0 _
                    have hn2d : (d = d2) = False := by simp; omega
                    have hm2d : (d2 = d) = False := by simp; omega
                    have hn2d1 : (d1 = d2) = False := by simp; omega
                    have hm2d1 : (d2 = d1) = False := by simp; omega
                    rw [s_conf_Ids_b2] at h
                    refine xseq [(2, .ptr (d, 0) 0), (5, eT yGapiId (d, 1) out_1), (7, .lit (.int .i64 (roles.getD (Int.toNat t11) 0))), (9, eS (lI .i64) roles), (10, .lit (.int .i64 (roles.length : Int))), (11, .lit (.int .i64 t11)), (17, .lit (.int .i64 v)), (18, .lit (.int .i64 t18)), (19, .lit (.bool (decide (t18 < v))))] (hp [((d, 0), .box [.lit (.int .i64 cx.U), .lit (.int .i64 cx.R), .lit (.int .i64 cx.Peers), .lit (.int .i64 cx.Window), .lit (.int .i64 cx.Every), .lit (.int .i64 cx.Patience), eS (lI .u8) cx.Secret]), ((d, 1), oT yGapiId out_1)] S) 0 ?_ (fun k kp hk => ?_)
                    · refine LW_seq ?_
                      refine xcond (decide (t18 < v)) rfl (fun hc_1 => ?_) (fun hc_1 => ?_)
                      · rw [ite_t hc_1] at h
                        refine LW_skip ?_
                        show LW _ _ _ _ _ _ _ _
                        refine LW_seq ?_
                        refine LW_block ?_
                        refine xseq [(2, .ptr (d, 0) 0), (5, eT yGapiId (d, 1) out_1), (7, .lit (.int .i64 (roles.getD (Int.toNat t11) 0))), (8, .lit (.int .i64 t18)), (9, eS (lI .i64) roles), (10, .lit (.int .i64 (roles.length : Int))), (11, .lit (.int .i64 t11)), (17, .lit (.int .i64 v)), (18, .lit (.int .i64 t18))] (hp [((d, 0), .box [.lit (.int .i64 cx.U), .lit (.int .i64 cx.R), .lit (.int .i64 cx.Peers), .lit (.int .i64 cx.Window), .lit (.int .i64 cx.Every), .lit (.int .i64 cx.Patience), eS (lI .u8) cx.Secret]), ((d, 1), oT yGapiId out_1)] S) 0 ?_ (fun k kp hk => ?_)
                        · obtain ⟨hg_1, h⟩ := gd_some h
                          refine xreg [(2, .ptr (d, 0) 0), (5, eT yGapiId (d, 1) (out_1 ++ [(GapiId.mk (roles.getD (Int.toNat t11) 0) t18)])), (7, .lit (.int .i64 (roles.getD (Int.toNat t11) 0))), (9, eS (lI .i64) roles), (10, .lit (.int .i64 (roles.length : Int))), (11, .lit (.int .i64 t11)), (17, .lit (.int .i64 v)), (18, .lit (.int .i64 t18))] (hp [((d, 0), .box [.lit (.int .i64 cx.U), .lit (.int .i64 cx.R), .lit (.int .i64 cx.Peers), .lit (.int .i64 cx.Window), .lit (.int .i64 cx.Every), .lit (.int .i64 cx.Patience), eS (lI .u8) cx.Secret]), ((d, 1), oT yGapiId (out_1 ++ [(GapiId.mk (roles.getD (Int.toNat t11) 0) t18)]))] S) 0 ?_ (fun k kp hk => ?_)
                          · show LW _ _ _ _ _ _ _ _
                            refine xreg [(2, .ptr (d, 0) 0), (5, eT yGapiId (d, 1) (out_1 ++ [(GapiId.mk (roles.getD (Int.toNat t11) 0) t18)])), (7, .lit (.int .i64 (roles.getD (Int.toNat t11) 0))), (9, eS (lI .i64) roles), (10, .lit (.int .i64 (roles.length : Int))), (11, .lit (.int .i64 t11)), (17, .lit (.int .i64 v)), (18, .lit (.int .i64 (IntKind.i64.wrap (t18 + 1))))] (hp [((d, 0), .box [.lit (.int .i64 cx.U), .lit (.int .i64 cx.R), .lit (.int .i64 cx.Peers), .lit (.int .i64 cx.Window), .lit (.int .i64 cx.Every), .lit (.int .i64 cx.Patience), eS (lI .u8) cx.Secret]), ((d, 1), oT yGapiId (out_1 ++ [(GapiId.mk (roles.getD (Int.toNat t11) 0) t18)]))] S) 0 ?_ (fun k kp hk => ?_)
                            · cases h
                              exact ⟨rfl, Less.refl _⟩
                            · try simp only [go_sem, Prod.mk.injEq, reduceIte, Nat.reduceEqDiff, Nat.reduceAdd, Nat.reduceSub, Nat.reduceMul, Nat.reduceDiv, Nat.reducePow, Nat.reduceLT, Nat.reduceLeDiff, Nat.reduceBEq, Nat.reduceBneDiff, Int.reduceToNat, Int.reduceEq, Int.reduceLE, Int.reduceLT, reduceCtorEq, hn1d, hm1d, hn2d, hm2d, hn2d1, hm2d1]
                              repeat (with_reducible refine And.intro ?_ ?_; next => first | assumption | trivial | omega | decide | (constructor <;> first | assumption | omega) | (simp [Keep.ok, hp_cons_apply, hset_cons, hn1d, hm1d, hn2d, hm2d, hn2d1, hm2d1]; done))
                              refine hk _ _ _ ?_
                              refine xghost (D := []) ?_ ?_ ?_ ?_
                              · exact (.cons (Sub.of_eq rfl) (.cons (Sub.of_eq rfl) (.cons (Sub.of_eq rfl) (.cons (Sub.of_eq rfl) (.cons (Sub.of_eq rfl) (.cons (Sub.of_eq rfl) (.cons (Sub.of_eq rfl) (.cons (Sub.of_eq rfl) .nil))))))))
                              · exact HpW.refl
                              · exact (by intro p hp; cases hp)
                              · omega
                          · try simp only [go_sem, Prod.mk.injEq, reduceIte, Nat.reduceEqDiff, Nat.reduceAdd, Nat.reduceSub, Nat.reduceMul, Nat.reduceDiv, Nat.reducePow, Nat.reduceLT, Nat.reduceLeDiff, Nat.reduceBEq, Nat.reduceBneDiff, Int.reduceToNat, Int.reduceEq, Int.reduceLE, Int.reduceLT, reduceCtorEq, hn1d, hm1d, hn2d, hm2d, hn2d1, hm2d1]
                            repeat (with_reducible refine And.intro ?_ ?_; next => first | assumption | trivial | omega | decide | (constructor <;> first | assumption | omega) | (simp [Keep.ok, hp_cons_apply, hset_cons, hn1d, hm1d, hn2d, hm2d, hn2d1, hm2d1]; done))
                            refine append1_eT (L := yGapiId) (n := (d, 1)) (xs := out_1) (ys := [(GapiId.mk (roles.getD (Int.toNat t11) 0) t18)]) T37 T37 T26 ?_ rfl ?_ asrc_row ?_ rfl ?_ ?_
                            · first | exact .inl rfl | exact .inr rfl
                            · try simp only [go_sem, Prod.mk.injEq, reduceIte, Nat.reduceEqDiff, Nat.reduceAdd, Nat.reduceSub, Nat.reduceMul, Nat.reduceDiv, Nat.reducePow, Nat.reduceLT, Nat.reduceLeDiff, Nat.reduceBEq, Nat.reduceBneDiff, Int.reduceToNat, Int.reduceEq, Int.reduceLE, Int.reduceLT, reduceCtorEq, hn1d, hm1d, hn2d, hm2d, hn2d1, hm2d1]
                            · exact ⟨trivial, rfl⟩
                            · dsimp only [List.length]; omega
                            try simp only [go_sem, Prod.mk.injEq, reduceIte, Nat.reduceEqDiff, Nat.reduceAdd, Nat.reduceSub, Nat.reduceMul, Nat.reduceDiv, Nat.reducePow, Nat.reduceLT, Nat.reduceLeDiff, Nat.reduceBEq, Nat.reduceBneDiff, Int.reduceToNat, Int.reduceEq, Int.reduceLE, Int.reduceLT, reduceCtorEq, hn1d, hm1d, hn2d, hm2d, hn2d1, hm2d1]
                            repeat (with_reducible refine And.intro ?_ ?_; next => first | assumption | trivial | omega | decide | (constructor <;> first | assumption | omega) | (simp [Keep.ok, hp_cons_apply, hset_cons, hn1d, hm1d, hn2d, hm2d, hn2d1, hm2d1]; done))
                            refine hk _ _ _ ?_
                            refine xghost (D := []) ?_ ?_ ?_ ?_
                            · exact (.cons (Sub.of_eq rfl) (.cons (Sub.of_eq rfl) (.cons (Sub.of_eq rfl) (.cons (Sub.of_eq rfl) (.cons (Sub.of_eq rfl) (.cons (Sub.of_eq rfl) (.cons (Sub.of_eq rfl) (.cons (Sub.of_eq rfl) .nil))))))))
                            · exact HpW.refl
                            · exact (by intro p hp; cases hp)
                            · omega
                        · try simp only [go_sem, Prod.mk.injEq, reduceIte, Nat.reduceEqDiff, Nat.reduceAdd, Nat.reduceSub, Nat.reduceMul, Nat.reduceDiv, Nat.reducePow, Nat.reduceLT, Nat.reduceLeDiff, Nat.reduceBEq, Nat.reduceBneDiff, Int.reduceToNat, Int.reduceEq, Int.reduceLE, Int.reduceLT, reduceCtorEq, hn1d, hm1d, hn2d, hm2d, hn2d1, hm2d1]
                          repeat (with_reducible refine And.intro ?_ ?_; next => first | assumption | trivial | omega | decide | (constructor <;> first | assumption | omega) | (simp [Keep.ok, hp_cons_apply, hset_cons, hn1d, hm1d, hn2d, hm2d, hn2d1, hm2d1]; done))
                          refine hk _ _ _ ?_
                          refine xghost (D := []) ?_ ?_ ?_ ?_
                          · exact (.cons (Sub.of_eq rfl) (.cons (Sub.of_eq rfl) (.cons (Sub.of_eq rfl) (.cons (Sub.of_eq rfl) (.cons (Sub.of_eq rfl) (.cons (Sub.of_eq rfl) (.cons (Sub.of_eq rfl) (.cons (Sub.of_eq rfl) (.cons (Sub.of_eq rfl) .nil)))))))))
                          · exact HpW.refl
                          · exact (by intro p hp; cases hp)
                          · omega
                      · rw [ite_f hc_1] at h
                        obtain ⟨hq, hxe⟩ := mr_go h hx2
                        clear h hx2
                        subst hxe
                        have h := hq
                        clear hq
                        refine LW_exitX (sl' := [(2, .ptr (d, 0) 0), (5, eT yGapiId (d, 1) out_1), (7, .lit (.int .i64 (roles.getD (Int.toNat t11) 0))), (9, eS (lI .i64) roles), (10, .lit (.int .i64 (roles.length : Int))), (11, .lit (.int .i64 t11)), (17, .lit (.int .i64 v)), (18, .lit (.int .i64 t18)), (19, .lit (.bool (decide (t18 < v))))]) (S' := (hp [((d, 0), .box [.lit (.int .i64 cx.U), .lit (.int .i64 cx.R), .lit (.int .i64 cx.Peers), .lit (.int .i64 cx.Window), .lit (.int .i64 cx.Every), .lit (.int .i64 cx.Patience), eS (lI .u8) cx.Secret]), ((d, 1), oT yGapiId out_1)] S)) (c' := 0) ?_ ?_
                        · refine xghost (D := []) ?_ ?_ ?_ ?_
                          · exact (.cons (Sub.of_eq rfl) (.cons (Sub.of_eq rfl) (.cons (Sub.of_eq rfl) (.cons (Sub.of_eq rfl) (.cons (Sub.of_eq rfl) (.cons (Sub.of_eq rfl) (.cons (Sub.of_eq rfl) (.cons (Sub.of_eq rfl) (.cons (Sub.of_eq rfl) .nil)))))))))
                          · exact HpW.refl
                          · exact (by intro p hp; cases hp)
                          · omega
                        · show LW _ _ _ _ _ _ _ _
                          refine xreg [(2, .ptr (d, 0) 0), (5, eT yGapiId (d, 1) out_1), (9, eS (lI .i64) roles), (10, .lit (.int .i64 (roles.length : Int))), (11, .lit (.int .i64 (IntKind.i64.wrap (t11 + 1))))] (hp [((d, 0), .box [.lit (.int .i64 cx.U), .lit (.int .i64 cx.R), .lit (.int .i64 cx.Peers), .lit (.int .i64 cx.Window), .lit (.int .i64 cx.Every), .lit (.int .i64 cx.Patience), eS (lI .u8) cx.Secret]), ((d, 1), oT yGapiId out_1)] S) 0 ?_ (fun k kp hk => ?_)
                          · cases h
                            exact ⟨rfl, Less.refl _⟩
                          · try simp only [go_sem, Prod.mk.injEq, reduceIte, Nat.reduceEqDiff, Nat.reduceAdd, Nat.reduceSub, Nat.reduceMul, Nat.reduceDiv, Nat.reducePow, Nat.reduceLT, Nat.reduceLeDiff, Nat.reduceBEq, Nat.reduceBneDiff, Int.reduceToNat, Int.reduceEq, Int.reduceLE, Int.reduceLT, reduceCtorEq, hn1d, hm1d, hn2d, hm2d, hn2d1, hm2d1]
                            repeat (with_reducible refine And.intro ?_ ?_; next => first | assumption | trivial | omega | decide | (constructor <;> first | assumption | omega) | (simp [Keep.ok, hp_cons_apply, hset_cons, hn1d, hm1d, hn2d, hm2d, hn2d1, hm2d1]; done))
                            refine hk _ _ _ ?_
                            refine xghost (D := []) ?_ ?_ ?_ ?_
                            · exact (.cons (Sub.of_eq rfl) (.cons (Sub.of_eq rfl) (.cons (Sub.of_eq rfl) (.cons (Sub.of_eq rfl) (.cons (Sub.of_eq rfl) .nil)))))
                            · exact HpW.refl
                            · exact (by intro p hp; cases hp)
                            · omega
                    · try simp only [go_sem, Prod.mk.injEq, reduceIte, Nat.reduceEqDiff, Nat.reduceAdd, Nat.reduceSub, Nat.reduceMul, Nat.reduceDiv, Nat.reducePow, Nat.reduceLT, Nat.reduceLeDiff, Nat.reduceBEq, Nat.reduceBneDiff, Int.reduceToNat, Int.reduceEq, Int.reduceLE, Int.reduceLT, reduceCtorEq, hn1d, hm1d, hn2d, hm2d, hn2d1, hm2d1]
                      repeat (with_reducible refine And.intro ?_ ?_; next => first | assumption | trivial | omega | decide | (constructor <;> first | assumption | omega) | (simp [Keep.ok, hp_cons_apply, hset_cons, hn1d, hm1d, hn2d, hm2d, hn2d1, hm2d1]; done))
                      refine hk _ _ _ ?_
                      refine xghost (D := []) ?_ ?_ ?_ ?_
                      · exact (.cons (Sub.of_eq rfl) (.cons (Sub.of_eq rfl) (.cons (Sub.of_eq rfl) (.cons (Sub.of_eq rfl) (.cons (Sub.of_eq rfl) (.cons (Sub.of_eq rfl) (.cons (Sub.of_eq rfl) (.cons (Sub.of_eq rfl) (.cons (Sub.of_eq rfl) .nil)))))))))
                      · exact HpW.refl
                      · exact (by intro p hp; cases hp)
                      · omega
                  · refine xghost (D := []) ?_ ?_ ?_ ?_
                    · exact (.cons (Sub.of_eq rfl) (.cons (Sub.of_eq rfl) (.cons (Sub.of_eq rfl) (.cons (Sub.of_eq rfl) (.cons (Sub.of_eq rfl) (.cons (Sub.of_eq rfl) (.cons (Sub.of_eq rfl) (.cons (Sub.of_eq rfl) .nil))))))))
                    · exact HpW.refl
                    · exact (by intro p hp; cases hp)
                    · omega
                · try simp only [go_sem, Prod.mk.injEq, reduceIte, Nat.reduceEqDiff, Nat.reduceAdd, Nat.reduceSub, Nat.reduceMul, Nat.reduceDiv, Nat.reducePow, Nat.reduceLT, Nat.reduceLeDiff, Nat.reduceBEq, Nat.reduceBneDiff, Int.reduceToNat, Int.reduceEq, Int.reduceLE, Int.reduceLT, reduceCtorEq, hn1d, hm1d]
                  repeat (with_reducible refine And.intro ?_ ?_; next => first | assumption | trivial | omega | decide | (constructor <;> first | assumption | omega) | (simp [Keep.ok, hp_cons_apply, hset_cons, hn1d, hm1d]; done))
                  have hcall := s_conf_Count_ok (hp [((d, 0), .box [.lit (.int .i64 cx.U), .lit (.int .i64 cx.R), .lit (.int .i64 cx.Peers), .lit (.int .i64 cx.Window), .lit (.int .i64 cx.Every), .lit (.int .i64 cx.Patience), eS (lI .u8) cx.Secret]), ((d, 1), oT yGapiId out)] S) cx (roles.getD (Int.toNat t11) 0) hv
                  refine call1_x hcall rfl ?_ ?_
                  · exact (.cons Sub.refl (.cons Sub.refl .nil))
                  clear hcall
                  rintro _ SS ⟨rfl, hSS⟩ -
                  rw [hSS]
                  clear hSS
                  try simp only [go_sem, Prod.mk.injEq, reduceIte, Nat.reduceEqDiff, Nat.reduceAdd, Nat.reduceSub, Nat.reduceMul, Nat.reduceDiv, Nat.reducePow, Nat.reduceLT, Nat.reduceLeDiff, Nat.reduceBEq, Nat.reduceBneDiff, Int.reduceToNat, Int.reduceEq, Int.reduceLE, Int.reduceLT, reduceCtorEq, hn1d, hm1d]
                  repeat (with_reducible refine And.intro ?_ ?_; next => first | assumption | trivial | omega | decide | (constructor <;> first | assumption | omega) | (simp [Keep.ok, hp_cons_apply, hset_cons, hn1d, hm1d]; done))
                  refine hk _ _ _ ?_
                  refine xghost (D := []) ?_ ?_ ?_ ?_
                  · exact (.cons (Sub.of_eq rfl) (.cons (Sub.of_eq rfl) (.cons (Sub.of_eq rfl) (.cons (Sub.of_eq rfl) (.cons (Sub.of_eq rfl) (.cons (Sub.of_eq rfl) (.cons (Sub.of_eq rfl) (.cons (Sub.of_eq rfl) .nil))))))))
                  · exact HpW.refl
                  · exact (by intro p hp; cases hp)
                  · omega
              · try simp only [go_sem, Prod.mk.injEq, reduceIte, Nat.reduceEqDiff, Nat.reduceAdd, Nat.reduceSub, Nat.reduceMul, Nat.reduceDiv, Nat.reducePow, Nat.reduceLT, Nat.reduceLeDiff, Nat.reduceBEq, Nat.reduceBneDiff, Int.reduceToNat, Int.reduceEq, Int.reduceLE, Int.reduceLT, reduceCtorEq, hn1d, hm1d]
                repeat (with_reducible refine And.intro ?_ ?_; next => first | assumption | trivial | omega | decide | (constructor <;> first | assumption | omega) | (simp [Keep.ok, hp_cons_apply, hset_cons, hn1d, hm1d]; done))
                refine hk _ _ _ ?_
                refine xghost (D := []) ?_ ?_ ?_ ?_
                · exact (.cons (Sub.of_eq rfl) (.cons (Sub.of_eq rfl) (.cons (Sub.of_eq rfl) (.cons (Sub.of_eq rfl) (.cons (Sub.of_eq rfl) (.cons (Sub.of_eq rfl) .nil))))))
                · exact HpW.refl
                · exact (by intro p hp; cases hp)
                · omega
            · rw [ite_f hc] at h
              obtain ⟨hq, hxe⟩ := mr_go h hx1
              clear h hx1
              subst hxe
              have h := hq
              clear hq
              refine LW_exitX (sl' := [(2, .ptr (d, 0) 0), (5, eT yGapiId (d, 1) out), (9, eS (lI .i64) roles), (10, .lit (.int .i64 (roles.length : Int))), (11, .lit (.int .i64 t11)), (12, .lit (.bool (decide (t11 < (roles.length : Int)))))]) (S' := (hp [((d, 0), .box [.lit (.int .i64 cx.U), .lit (.int .i64 cx.R), .lit (.int .i64 cx.Peers), .lit (.int .i64 cx.Window), .lit (.int .i64 cx.Every), .lit (.int .i64 cx.Patience), eS (lI .u8) cx.Secret]), ((d, 1), oT yGapiId out)] S)) (c' := 0) ?_ ?_
              · refine xghost (D := []) ?_ ?_ ?_ ?_
                · exact (.cons (Sub.of_eq rfl) (.cons (Sub.of_eq rfl) (.cons (Sub.of_eq rfl) (.cons (Sub.of_eq rfl) (.cons (Sub.of_eq rfl) (.cons (Sub.of_eq rfl) .nil))))))
                · exact HpW.refl
                · exact (by intro p hp; cases hp)
                · omega
              · show LW _ _ _ _ _ _ _ _
                refine xseq [(4, eS yGapiId out)] (hp [((d, 0), .box [.lit (.int .i64 cx.U), .lit (.int .i64 cx.R), .lit (.int .i64 cx.Peers), .lit (.int .i64 cx.Window), .lit (.int .i64 cx.Every), .lit (.int .i64 cx.Patience), eS (lI .u8) cx.Secret]), ((d, 1), oT yGapiId out)] S) 2 ?_ (fun k kp hk => ?_)
                · refine LW_ret ?_
                  obtain rfl := Option.some.inj h
                  show FPost _ _ _ _ _ _ _
                  exact ⟨_, hp_less (L := []) (D := [((d, 0), .box [.lit (.int .i64 cx.U), .lit (.int .i64 cx.R), .lit (.int .i64 cx.Peers), .lit (.int .i64 cx.Window), .lit (.int .i64 cx.Every), .lit (.int .i64 cx.Patience), eS (lI .u8) cx.Secret]), ((d, 1), oT yGapiId out)]) (by intro p hp; simp only [List.mem_cons, List.not_mem_nil, or_false] at hp; rcases hp with rfl | rfl <;> first | exact hd _ (Nat.le_refl _)), rfl, rfl⟩
                · try simp only [go_sem, Prod.mk.injEq, reduceIte, Nat.reduceEqDiff, Nat.reduceAdd, Nat.reduceSub, Nat.reduceMul, Nat.reduceDiv, Nat.reducePow, Nat.reduceLT, Nat.reduceLeDiff, Nat.reduceBEq, Nat.reduceBneDiff, Int.reduceToNat, Int.reduceEq, Int.reduceLE, Int.reduceLT, reduceCtorEq, hn1d, hm1d]
                  repeat (with_reducible refine And.intro ?_ ?_; next => first | assumption | trivial | omega | decide | (constructor <;> first | assumption | omega) | (simp [Keep.ok, hp_cons_apply, hset_cons, hn1d, hm1d]; done))
                  refine hk _ _ _ ?_
                  refine xghost (D := []) ?_ ?_ ?_ ?_
                  · exact (.cons Sub.tip .nil)
                  · exact HpW.refl
                  · exact (by intro p hp; cases hp)
                  · omega
          · try simp only [go_sem, Prod.mk.injEq, reduceIte, Nat.reduceEqDiff, Nat.reduceAdd, Nat.reduceSub, Nat.reduceMul, Nat.reduceDiv, Nat.reducePow, Nat.reduceLT, Nat.reduceLeDiff, Nat.reduceBEq, Nat.reduceBneDiff, Int.reduceToNat, Int.reduceEq, Int.reduceLE, Int.reduceLT, reduceCtorEq, hn1d, hm1d]
            repeat (with_reducible refine And.intro ?_ ?_; next => first | assumption | trivial | omega | decide | (constructor <;> first | assumption | omega) | (simp [Keep.ok, hp_cons_apply, hset_cons, hn1d, hm1d]; done))
            refine hk _ _ _ ?_
            refine xghost (D := []) ?_ ?_ ?_ ?_
            · exact (.cons (Sub.of_eq rfl) (.cons (Sub.of_eq rfl) (.cons (Sub.of_eq rfl) (.cons (Sub.of_eq rfl) (.cons (Sub.of_eq rfl) (.cons (Sub.of_eq rfl) .nil))))))
            · exact HpW.refl
            · exact (by intro p hp; cases hp)
            · omega
        · refine xghost (D := []) ?_ ?_ ?_ ?_
          · exact (.cons (Sub.of_eq rfl) (.cons (Sub.of_eq rfl) (.cons (Sub.of_eq rfl) (.cons (Sub.of_eq rfl) (.cons (Sub.of_eq rfl) .nil)))))
          · exact HpW.refl
          · exact (by intro p hp; cases hp)
          · omega
      · try simp only [go_sem, Prod.mk.injEq, reduceIte, Nat.reduceEqDiff, Nat.reduceAdd, Nat.reduceSub, Nat.reduceMul, Nat.reduceDiv, Nat.reducePow, Nat.reduceLT, Nat.reduceLeDiff, Nat.reduceBEq, Nat.reduceBneDiff, Int.reduceToNat, Int.reduceEq, Int.reduceLE, Int.reduceLT, reduceCtorEq]
        repeat (with_reducible refine And.intro ?_ ?_; next => first | assumption | trivial | omega | decide | (constructor <;> first | assumption | omega) | (simp [Keep.ok, hp_cons_apply, hset_cons]; done))
        refine hk _ _ _ ?_
        refine xghost (D := []) ?_ ?_ ?_ ?_
        · exact (.cons (Sub.of_eq rfl) (.cons (Sub.of_eq rfl) (.cons (Sub.of_eq rfl) (.cons (Sub.of_eq rfl) (.cons (Sub.of_eq rfl) .nil)))))
        · exact HpW.refl
        · exact (by intro p hp; cases hp)
        · omega
    · try simp only [go_sem, Prod.mk.injEq, reduceIte, Nat.reduceEqDiff, Nat.reduceAdd, Nat.reduceSub, Nat.reduceMul, Nat.reduceDiv, Nat.reducePow, Nat.reduceLT, Nat.reduceLeDiff, Nat.reduceBEq, Nat.reduceBneDiff, Int.reduceToNat, Int.reduceEq, Int.reduceLE, Int.reduceLT, reduceCtorEq]
      repeat (with_reducible refine And.intro ?_ ?_; next => first | assumption | trivial | omega | decide | (constructor <;> first | assumption | omega) | (simp [Keep.ok, hp_cons_apply, hset_cons]; done))
      refine hk _ _ _ ?_
      refine Ghost.trans (xname yGapiId 5 Sub.nil_empt) ?_
      try simp only [go_sem, Prod.mk.injEq, reduceIte, Nat.reduceEqDiff, Nat.reduceAdd, Nat.reduceSub, Nat.reduceMul, Nat.reduceDiv, Nat.reducePow, Nat.reduceLT, Nat.reduceLeDiff, Nat.reduceBEq, Nat.reduceBneDiff, Int.reduceToNat, Int.reduceEq, Int.reduceLE, Int.reduceLT, reduceCtorEq]
      refine xghost (D := []) ?_ ?_ ?_ ?_
      · exact (.cons (Sub.of_eq rfl) (.cons (Sub.of_eq rfl) (.cons (Sub.of_eq rfl) .nil)))
      · exact HpW.refl
      · exact (by intro p hp; cases hp)
      · omega
  · try simp only [go_sem, Prod.mk.injEq, reduceIte, Nat.reduceEqDiff, Nat.reduceAdd, Nat.reduceSub, Nat.reduceMul, Nat.reduceDiv, Nat.reducePow, Nat.reduceLT, Nat.reduceLeDiff, Nat.reduceBEq, Nat.reduceBneDiff, Int.reduceToNat, Int.reduceEq, Int.reduceLE, Int.reduceLT, reduceCtorEq]
    repeat (with_reducible refine And.intro ?_ ?_; next => first | assumption | trivial | omega | decide | (constructor <;> first | assumption | omega) | (simp [Keep.ok, hp_cons_apply, hset_cons]; done))
    refine hk _ _ _ ?_
    refine xghost (D := []) ?_ ?_ ?_ ?_
    · exact (.cons (Sub.of_eq rfl) (.cons (Sub.of_eq rfl) .nil))
    · exact HpW.refl
    · exact (by intro p hp; cases hp)
    · omega
/-! stanchion/stanchionlaw06.alive -/
def s_stanchionlaw06_alive  : Option Bool :=
  bd (s_conf_Check (GapiConf.mk 1 1 1 4 2 3 [])) fun (v : Int) => bd (if (v == 0) = true then s_conf_Count (GapiConf.mk 1 1 1 4 2 3 []) 2 else some 0) fun (v_1 : Int) => bd (if ((v == 0) && (v_1 == 4)) = true then s_conf_Count (GapiConf.mk 1 1 1 4 2 3 []) 3 else some 0) fun (v_2 : Int) => bd (if (((v == 0) && (v_1 == 4)) && (v_2 == 3)) = true then s_conf_Quorum (GapiConf.mk 1 1 1 4 2 3 []) else some 0) fun (v_3 : Int) => bd (if ((((v == 0) && (v_1 == 4)) && (v_2 == 3)) && (v_3 == 3)) = true then s_conf_Proof (GapiConf.mk 1 1 1 4 2 3 []) else some 0) fun (v_4 : Int) => bd (if (((((v == 0) && (v_1 == 4)) && (v_2 == 3)) && (v_3 == 3)) && (v_4 == 2)) = true then s_conf_Primary (GapiConf.mk 1 1 1 4 2 3 []) 6 else some 0) fun (v_5 : Int) => bd (if ((((((v == 0) && (v_1 == 4)) && (v_2 == 3)) && (v_3 == 3)) && (v_4 == 2)) && (v_5 == 2)) = true then s_conf_There (GapiConf.mk 1 1 1 4 2 3 []) (GapiId.mk 1 3) else some false) fun (v_6 : Bool) => bd (if (((((((v == 0) && (v_1 == 4)) && (v_2 == 3)) && (v_3 == 3)) && (v_4 == 2)) && (v_5 == 2)) && v_6) = true then s_conf_Ids (GapiConf.mk 1 1 1 4 2 3 []) ([3]) else some []) fun (v_7 : List GapiId) => some ((((((((v == 0) && (v_1 == 4)) && (v_2 == 3)) && (v_3 == 3)) && (v_4 == 2)) && (v_5 == 2)) && v_6) && ((v_7.length : Int) == 3))
theorem s_stanchionlaw06_alive_ok (S : AHeap)  {r : Bool} (h : s_stanchionlaw06_alive  = some r) :
    AC Try.prog n_stanchionlaw06_alive [] S fun r' S' => r' = .ret (.lit (.bool r)) ∧ S' = S := by
  refine AC_of tok mixed fits_stanchionlaw06_alive fun d hd => ?_
  unfold c_stanchionlaw06_alive
  show LW _ _ _ _ [] (hp [] S) 0 _
  rw [s_stanchionlaw06_alive] at h
  refine xseq [] (hp [] S) 0 ?_ (fun k kp hk => ?_)
  · refine xseq [(1, .ptr (d, 0) 0)] (hp [((d, 0), .box [.lit (.int .i64 1), .lit (.int .i64 1), .lit (.int .i64 1), .lit (.int .i64 4), .lit (.int .i64 2), .lit (.int .i64 3), .lit (.slice none 0 0)])] S) 1 ?_ (fun k kp hk => ?_)
    · obtain ⟨v, hv, h⟩ := bd_some h
      obtain ⟨v_1, hv_1, h⟩ := bd_some h
      obtain ⟨v_2, hv_2, h⟩ := bd_some h
      obtain ⟨v_3, hv_3, h⟩ := bd_some h
      obtain ⟨v_4, hv_4, h⟩ := bd_some h
      obtain ⟨v_5, hv_5, h⟩ := bd_some h
      obtain ⟨v_6, hv_6, h⟩ := bd_some h
      obtain ⟨v_7, hv_7, h⟩ := bd_some h
      refine xseq [(0, .lit (.bool ((((((((v == 0) && (v_1 == 4)) && (v_2 == 3)) && (v_3 == 3)) && (v_4 == 2)) && (v_5 == 2)) && v_6) && ((v_7.length : Int) == 3))))] (hp [((d, 0), .box [.lit (.int .i64 1), .lit (.int .i64 1), .lit (.int .i64 1), .lit (.int .i64 4), .lit (.int .i64 2), .lit (.int .i64 3), .lit (.slice none 0 0)])] S) 1 ?_ (fun k kp hk => ?_)
      · refine LW_ret ?_
        obtain rfl := Option.some.inj h
        show FPost _ _ _ _ _ _ _
        exact ⟨_, hp_less (L := []) (D := [((d, 0), .box [.lit (.int .i64 1), .lit (.int .i64 1), .lit (.int .i64 1), .lit (.int .i64 4), .lit (.int .i64 2), .lit (.int .i64 3), .lit (.slice none 0 0)])]) (by intro p hp; simp only [List.mem_cons, List.not_mem_nil, or_false] at hp; rcases hp with rfl <;> first | exact hd _ (Nat.le_refl _)), rfl, rfl⟩
      · try simp only [go_sem, Prod.mk.injEq, reduceIte, Nat.reduceEqDiff, Nat.reduceAdd, Nat.reduceSub, Nat.reduceMul, Nat.reduceDiv, Nat.reducePow, Nat.reduceLT, Nat.reduceLeDiff, Nat.reduceBEq, Nat.reduceBneDiff, Int.reduceToNat, Int.reduceEq, Int.reduceLE, Int.reduceLT, reduceCtorEq]
        repeat (with_reducible refine And.intro ?_ ?_; next => first | assumption | trivial | omega | decide | (constructor <;> first | assumption | omega) | (simp [Keep.ok, hp_cons_apply, hset_cons]; done))
        have hcall := s_conf_Check_ok (hp [((d, 0), .box [.lit (.int .i64 1), .lit (.int .i64 1), .lit (.int .i64 1), .lit (.int .i64 4), .lit (.int .i64 2), .lit (.int .i64 3), .lit (.slice none 0 0)])] S) (GapiConf.mk 1 1 1 4 2 3 []) hv
        refine call1_x hcall rfl ?_ ?_
        · exact (.cons (Sub.agg (.cons Sub.refl (.cons Sub.refl (.cons Sub.refl (.cons Sub.refl (.cons Sub.refl (.cons Sub.refl (.cons Sub.nil .nil)))))))) .nil)
        clear hcall
        rintro _ SS ⟨rfl, hSS⟩ -
        rw [hSS]
        clear hSS
        try simp only [go_sem, Prod.mk.injEq, reduceIte, Nat.reduceEqDiff, Nat.reduceAdd, Nat.reduceSub, Nat.reduceMul, Nat.reduceDiv, Nat.reducePow, Nat.reduceLT, Nat.reduceLeDiff, Nat.reduceBEq, Nat.reduceBneDiff, Int.reduceToNat, Int.reduceEq, Int.reduceLE, Int.reduceLT, reduceCtorEq]
        repeat (with_reducible refine And.intro ?_ ?_; next => first | assumption | trivial | omega | decide | (constructor <;> first | assumption | omega) | (simp [Keep.ok, hp_cons_apply, hset_cons]; done))
        refine xo_guard (v == 0) rfl (fun hc => ?_) (fun hc => ?_)
        · try simp only [go_sem, Prod.mk.injEq, reduceIte, Nat.reduceEqDiff, Nat.reduceAdd, Nat.reduceSub, Nat.reduceMul, Nat.reduceDiv, Nat.reducePow, Nat.reduceLT, Nat.reduceLeDiff, Nat.reduceBEq, Nat.reduceBneDiff, Int.reduceToNat, Int.reduceEq, Int.reduceLE, Int.reduceLT, reduceCtorEq, hc]
          repeat (with_reducible refine And.intro ?_ ?_; next => first | assumption | trivial | omega | decide | (constructor <;> first | assumption | omega) | (simp [Keep.ok, hp_cons_apply, hset_cons]; done))
          rw [if_pos (by simp only [Bool.and_true, Bool.true_and, Bool.and_false, Bool.false_and, Bool.or_true, Bool.true_or, Bool.or_false, Bool.false_or, Bool.not_true, Bool.not_false, Bool.not_not, hc])] at hv_1
          have hcall := s_conf_Count_ok (hp [((d, 0), .box [.lit (.int .i64 1), .lit (.int .i64 1), .lit (.int .i64 1), .lit (.int .i64 4), .lit (.int .i64 2), .lit (.int .i64 3), .lit (.slice none 0 0)])] S) (GapiConf.mk 1 1 1 4 2 3 []) 2 hv_1
          refine call1_x hcall rfl ?_ ?_
          · exact (.cons (Sub.agg (.cons Sub.refl (.cons Sub.refl (.cons Sub.refl (.cons Sub.refl (.cons Sub.refl (.cons Sub.refl (.cons Sub.nil .nil)))))))) (.cons Sub.refl .nil))
          clear hcall
          rintro _ SS ⟨rfl, hSS⟩ -
          rw [hSS]
          clear hSS
          try simp only [go_sem, Prod.mk.injEq, reduceIte, Nat.reduceEqDiff, Nat.reduceAdd, Nat.reduceSub, Nat.reduceMul, Nat.reduceDiv, Nat.reducePow, Nat.reduceLT, Nat.reduceLeDiff, Nat.reduceBEq, Nat.reduceBneDiff, Int.reduceToNat, Int.reduceEq, Int.reduceLE, Int.reduceLT, reduceCtorEq, hc]
          repeat (with_reducible refine And.intro ?_ ?_; next => first | assumption | trivial | omega | decide | (constructor <;> first | assumption | omega) | (simp [Keep.ok, hp_cons_apply, hset_cons]; done))
          refine xo_guard (v_1 == 4) rfl (fun hc_1 => ?_) (fun hc_1 => ?_)
          · try simp only [go_sem, Prod.mk.injEq, reduceIte, Nat.reduceEqDiff, Nat.reduceAdd, Nat.reduceSub, Nat.reduceMul, Nat.reduceDiv, Nat.reducePow, Nat.reduceLT, Nat.reduceLeDiff, Nat.reduceBEq, Nat.reduceBneDiff, Int.reduceToNat, Int.reduceEq, Int.reduceLE, Int.reduceLT, reduceCtorEq, hc, hc_1]
            repeat (with_reducible refine And.intro ?_ ?_; next => first | assumption | trivial | omega | decide | (constructor <;> first | assumption | omega) | (simp [Keep.ok, hp_cons_apply, hset_cons]; done))
            rw [if_pos (by simp only [Bool.and_true, Bool.true_and, Bool.and_false, Bool.false_and, Bool.or_true, Bool.true_or, Bool.or_false, Bool.false_or, Bool.not_true, Bool.not_false, Bool.not_not, hc, hc_1])] at hv_2
            have hcall := s_conf_Count_ok (hp [((d, 0), .box [.lit (.int .i64 1), .lit (.int .i64 1), .lit (.int .i64 1), .lit (.int .i64 4), .lit (.int .i64 2), .lit (.int .i64 3), .lit (.slice none 0 0)])] S) (GapiConf.mk 1 1 1 4 2 3 []) 3 hv_2
            refine call1_x hcall rfl ?_ ?_
            · exact (.cons (Sub.agg (.cons Sub.refl (.cons Sub.refl (.cons Sub.refl (.cons Sub.refl (.cons Sub.refl (.cons Sub.refl (.cons Sub.nil .nil)))))))) (.cons Sub.refl .nil))
            clear hcall
            rintro _ SS ⟨rfl, hSS⟩ -
            rw [hSS]
            clear hSS
            try simp only [go_sem, Prod.mk.injEq, reduceIte, Nat.reduceEqDiff, Nat.reduceAdd, Nat.reduceSub, Nat.reduceMul, Nat.reduceDiv, Nat.reducePow, Nat.reduceLT, Nat.reduceLeDiff, Nat.reduceBEq, Nat.reduceBneDiff, Int.reduceToNat, Int.reduceEq, Int.reduceLE, Int.reduceLT, reduceCtorEq, hc, hc_1]
            repeat (with_reducible refine And.intro ?_ ?_; next => first | assumption | trivial | omega | decide | (constructor <;> first | assumption | omega) | (simp [Keep.ok, hp_cons_apply, hset_cons]; done))
            refine xo_guard (v_2 == 3) rfl (fun hc_2 => ?_) (fun hc_2 => ?_)
            · try simp only [go_sem, Prod.mk.injEq, reduceIte, Nat.reduceEqDiff, Nat.reduceAdd, Nat.reduceSub, Nat.reduceMul, Nat.reduceDiv, Nat.reducePow, Nat.reduceLT, Nat.reduceLeDiff, Nat.reduceBEq, Nat.reduceBneDiff, Int.reduceToNat, Int.reduceEq, Int.reduceLE, Int.reduceLT, reduceCtorEq, hc, hc_1, hc_2]
              repeat (with_reducible refine And.intro ?_ ?_; next => first | assumption | trivial | omega | decide | (constructor <;> first | assumption | omega) | (simp [Keep.ok, hp_cons_apply, hset_cons]; done))
              rw [if_pos (by simp only [Bool.and_true, Bool.true_and, Bool.and_false, Bool.false_and, Bool.or_true, Bool.true_or, Bool.or_false, Bool.false_or, Bool.not_true, Bool.not_false, Bool.not_not, hc, hc_1, hc_2])] at hv_3
              have hcall := s_conf_Quorum_ok (hp [((d, 0), .box [.lit (.int .i64 1), .lit (.int .i64 1), .lit (.int .i64 1), .lit (.int .i64 4), .lit (.int .i64 2), .lit (.int .i64 3), .lit (.slice none 0 0)])] S) (GapiConf.mk 1 1 1 4 2 3 []) hv_3
              refine call1_x hcall rfl ?_ ?_
              · exact (.cons (Sub.agg (.cons Sub.refl (.cons Sub.refl (.cons Sub.refl (.cons Sub.refl (.cons Sub.refl (.cons Sub.refl (.cons Sub.nil .nil)))))))) .nil)
              clear hcall
              rintro _ SS ⟨rfl, hSS⟩ -
              rw [hSS]
              clear hSS
              try simp only [go_sem, Prod.mk.injEq, reduceIte, Nat.reduceEqDiff, Nat.reduceAdd, Nat.reduceSub, Nat.reduceMul, Nat.reduceDiv, Nat.reducePow, Nat.reduceLT, Nat.reduceLeDiff, Nat.reduceBEq, Nat.reduceBneDiff, Int.reduceToNat, Int.reduceEq, Int.reduceLE, Int.reduceLT, reduceCtorEq, hc, hc_1, hc_2]
              repeat (with_reducible refine And.intro ?_ ?_; next => first | assumption | trivial | omega | decide | (constructor <;> first | assumption | omega) | (simp [Keep.ok, hp_cons_apply, hset_cons]; done))
              refine xo_guard (v_3 == 3) rfl (fun hc_3 => ?_) (fun hc_3 => ?_)
              · try simp only [go_sem, Prod.mk.injEq, reduceIte, Nat.reduceEqDiff, Nat.reduceAdd, Nat.reduceSub, Nat.reduceMul, Nat.reduceDiv, Nat.reducePow, Nat.reduceLT, Nat.reduceLeDiff, Nat.reduceBEq, Nat.reduceBneDiff, Int.reduceToNat, Int.reduceEq, Int.reduceLE, Int.reduceLT, reduceCtorEq, hc, hc_1, hc_2, hc_3]
                repeat (with_reducible refine And.intro ?_ ?_; next => first | assumption | trivial | omega | decide | (constructor <;> first | assumption | omega) | (simp [Keep.ok, hp_cons_apply, hset_cons]; done))
                rw [if_pos (by simp only [Bool.and_true, Bool.true_and, Bool.and_false, Bool.false_and, Bool.or_true, Bool.true_or, Bool.or_false, Bool.false_or, Bool.not_true, Bool.not_false, Bool.not_not, hc, hc_1, hc_2, hc_3])] at hv_4
                have hcall := s_conf_Proof_ok (hp [((d, 0), .box [.lit (.int .i64 1), .lit (.int .i64 1), .lit (.int .i64 1), .lit (.int .i64 4), .lit (.int .i64 2), .lit (.int .i64 3), .lit (.slice none 0 0)])] S) (GapiConf.mk 1 1 1 4 2 3 []) hv_4
                refine call1_x hcall rfl ?_ ?_
                · exact (.cons (Sub.agg (.cons Sub.refl (.cons Sub.refl (.cons Sub.refl (.cons Sub.refl (.cons Sub.refl (.cons Sub.refl (.cons Sub.nil .nil)))))))) .nil)
                clear hcall
                rintro _ SS ⟨rfl, hSS⟩ -
                rw [hSS]
                clear hSS
                try simp only [go_sem, Prod.mk.injEq, reduceIte, Nat.reduceEqDiff, Nat.reduceAdd, Nat.reduceSub, Nat.reduceMul, Nat.reduceDiv, Nat.reducePow, Nat.reduceLT, Nat.reduceLeDiff, Nat.reduceBEq, Nat.reduceBneDiff, Int.reduceToNat, Int.reduceEq, Int.reduceLE, Int.reduceLT, reduceCtorEq, hc, hc_1, hc_2, hc_3]
                repeat (with_reducible refine And.intro ?_ ?_; next => first | assumption | trivial | omega | decide | (constructor <;> first | assumption | omega) | (simp [Keep.ok, hp_cons_apply, hset_cons]; done))
                refine xo_guard (v_4 == 2) rfl (fun hc_4 => ?_) (fun hc_4 => ?_)
                · try simp only [go_sem, Prod.mk.injEq, reduceIte, Nat.reduceEqDiff, Nat.reduceAdd, Nat.reduceSub, Nat.reduceMul, Nat.reduceDiv, Nat.reducePow, Nat.reduceLT, Nat.reduceLeDiff, Nat.reduceBEq, Nat.reduceBneDiff, Int.reduceToNat, Int.reduceEq, Int.reduceLE, Int.reduceLT, reduceCtorEq, hc, hc_1, hc_2, hc_3, hc_4]
                  repeat (with_reducible refine And.intro ?_ ?_; next => first | assumption | trivial | omega | decide | (constructor <;> first | assumption | omega) | (simp [Keep.ok, hp_cons_apply, hset_cons]; done))
                  rw [if_pos (by simp only [Bool.and_true, Bool.true_and, Bool.and_false, Bool.false_and, Bool.or_true, Bool.true_or, Bool.or_false, Bool.false_or, Bool.not_true, Bool.not_false, Bool.not_not, hc, hc_1, hc_2, hc_3, hc_4])] at hv_5
                  have hcall := s_conf_Primary_ok (hp [((d, 0), .box [.lit (.int .i64 1), .lit (.int .i64 1), .lit (.int .i64 1), .lit (.int .i64 4), .lit (.int .i64 2), .lit (.int .i64 3), .lit (.slice none 0 0)])] S) (GapiConf.mk 1 1 1 4 2 3 []) 6 hv_5
                  refine call1_x hcall rfl ?_ ?_
                  · exact (.cons (Sub.agg (.cons Sub.refl (.cons Sub.refl (.cons Sub.refl (.cons Sub.refl (.cons Sub.refl (.cons Sub.refl (.cons Sub.nil .nil)))))))) (.cons Sub.refl .nil))
                  clear hcall
                  rintro _ SS ⟨rfl, hSS⟩ -
                  rw [hSS]
                  clear hSS
                  try simp only [go_sem, Prod.mk.injEq, reduceIte, Nat.reduceEqDiff, Nat.reduceAdd, Nat.reduceSub, Nat.reduceMul, Nat.reduceDiv, Nat.reducePow, Nat.reduceLT, Nat.reduceLeDiff, Nat.reduceBEq, Nat.reduceBneDiff, Int.reduceToNat, Int.reduceEq, Int.reduceLE, Int.reduceLT, reduceCtorEq, hc, hc_1, hc_2, hc_3, hc_4]
                  repeat (with_reducible refine And.intro ?_ ?_; next => first | assumption | trivial | omega | decide | (constructor <;> first | assumption | omega) | (simp [Keep.ok, hp_cons_apply, hset_cons]; done))
                  refine xo_guard (v_5 == 2) rfl (fun hc_5 => ?_) (fun hc_5 => ?_)
                  · try simp only [go_sem, Prod.mk.injEq, reduceIte, Nat.reduceEqDiff, Nat.reduceAdd, Nat.reduceSub, Nat.reduceMul, Nat.reduceDiv, Nat.reducePow, Nat.reduceLT, Nat.reduceLeDiff, Nat.reduceBEq, Nat.reduceBneDiff, Int.reduceToNat, Int.reduceEq, Int.reduceLE, Int.reduceLT, reduceCtorEq, hc, hc_1, hc_2, hc_3, hc_4, hc_5]
                    repeat (with_reducible refine And.intro ?_ ?_; next => first | assumption | trivial | omega | decide | (constructor <;> first | assumption | omega) | (simp [Keep.ok, hp_cons_apply, hset_cons]; done))
                    rw [if_pos (by simp only [Bool.and_true, Bool.true_and, Bool.and_false, Bool.false_and, Bool.or_true, Bool.true_or, Bool.or_false, Bool.false_or, Bool.not_true, Bool.not_false, Bool.not_not, hc, hc_1, hc_2, hc_3, hc_4, hc_5])] at hv_6
                    have hcall := s_conf_There_ok (hp [((d, 0), .box [.lit (.int .i64 1), .lit (.int .i64 1), .lit (.int .i64 1), .lit (.int .i64 4), .lit (.int .i64 2), .lit (.int .i64 3), .lit (.slice none 0 0)])] S) (GapiConf.mk 1 1 1 4 2 3 []) (GapiId.mk 1 3) hv_6
                    refine call1_x hcall rfl ?_ ?_
                    · exact (.cons (Sub.agg (.cons Sub.refl (.cons Sub.refl (.cons Sub.refl (.cons Sub.refl (.cons Sub.refl (.cons Sub.refl (.cons Sub.nil .nil)))))))) (.cons Sub.refl .nil))
                    clear hcall
                    rintro _ SS ⟨rfl, hSS⟩ -
                    rw [hSS]
                    clear hSS
                    try simp only [go_sem, Prod.mk.injEq, reduceIte, Nat.reduceEqDiff, Nat.reduceAdd, Nat.reduceSub, Nat.reduceMul, Nat.reduceDiv, Nat.reducePow, Nat.reduceLT, Nat.reduceLeDiff, Nat.reduceBEq, Nat.reduceBneDiff, Int.reduceToNat, Int.reduceEq, Int.reduceLE, Int.reduceLT, reduceCtorEq, hc, hc_1, hc_2, hc_3, hc_4, hc_5]
                    repeat (with_reducible refine And.intro ?_ ?_; next => first | assumption | trivial | omega | decide | (constructor <;> first | assumption | omega) | (simp [Keep.ok, hp_cons_apply, hset_cons]; done))
                    refine xo_guard v_6 rfl (fun hc_6 => ?_) (fun hc_6 => ?_)
                    · try simp only [go_sem, Prod.mk.injEq, reduceIte, Nat.reduceEqDiff, Nat.reduceAdd, Nat.reduceSub, Nat.reduceMul, Nat.reduceDiv, Nat.reducePow, Nat.reduceLT, Nat.reduceLeDiff, Nat.reduceBEq, Nat.reduceBneDiff, Int.reduceToNat, Int.reduceEq, Int.reduceLE, Int.reduceLT, reduceCtorEq, hc, hc_1, hc_2, hc_3, hc_4, hc_5, hc_6]
                      repeat (with_reducible refine And.intro ?_ ?_; next => first | assumption | trivial | omega | decide | (constructor <;> first | assumption | omega) | (simp [Keep.ok, hp_cons_apply, hset_cons]; done))
                      rw [if_pos (by simp only [Bool.and_true, Bool.true_and, Bool.and_false, Bool.false_and, Bool.or_true, Bool.true_or, Bool.or_false, Bool.false_or, Bool.not_true, Bool.not_false, Bool.not_not, hc, hc_1, hc_2, hc_3, hc_4, hc_5, hc_6])] at hv_7
                      have hcall := s_conf_Ids_ok (hp [((d, 0), .box [.lit (.int .i64 1), .lit (.int .i64 1), .lit (.int .i64 1), .lit (.int .i64 4), .lit (.int .i64 2), .lit (.int .i64 3), .lit (.slice none 0 0)])] S) (GapiConf.mk 1 1 1 4 2 3 []) ([3]) hv_7
                      refine call1_x hcall rfl ?_ ?_
                      · exact (.cons (Sub.agg (.cons Sub.refl (.cons Sub.refl (.cons Sub.refl (.cons Sub.refl (.cons Sub.refl (.cons Sub.refl (.cons Sub.nil .nil)))))))) (.cons (Sub.of_eq rfl) .nil))
                      clear hcall
                      rintro _ SS ⟨rfl, hSS⟩ -
                      rw [hSS]
                      clear hSS
                      try simp only [go_sem, Prod.mk.injEq, reduceIte, Nat.reduceEqDiff, Nat.reduceAdd, Nat.reduceSub, Nat.reduceMul, Nat.reduceDiv, Nat.reducePow, Nat.reduceLT, Nat.reduceLeDiff, Nat.reduceBEq, Nat.reduceBneDiff, Int.reduceToNat, Int.reduceEq, Int.reduceLE, Int.reduceLT, reduceCtorEq, hc, hc_1, hc_2, hc_3, hc_4, hc_5, hc_6]
                      repeat (with_reducible refine And.intro ?_ ?_; next => first | assumption | trivial | omega | decide | (constructor <;> first | assumption | omega) | (simp [Keep.ok, hp_cons_apply, hset_cons]; done))
                      refine hk _ _ _ ?_
                      refine xghost (D := []) ?_ ?_ ?_ ?_
                      · exact (.cons (Sub.of_eq (by first | rfl | (simp only [sget_cons, reduceIte, Nat.reduceEqDiff, Bool.and_true, Bool.true_and, Bool.and_false, Bool.false_and, Bool.or_true, Bool.true_or, Bool.or_false, Bool.false_or, Bool.not_true, Bool.not_false, Bool.not_not, hc, hc_1, hc_2, hc_3, hc_4, hc_5, hc_6]; done))) .nil)
                      · exact HpW.refl
                      · exact (by intro p hp; cases hp)
                      · omega
                    · try simp only [go_sem, Prod.mk.injEq, reduceIte, Nat.reduceEqDiff, Nat.reduceAdd, Nat.reduceSub, Nat.reduceMul, Nat.reduceDiv, Nat.reducePow, Nat.reduceLT, Nat.reduceLeDiff, Nat.reduceBEq, Nat.reduceBneDiff, Int.reduceToNat, Int.reduceEq, Int.reduceLE, Int.reduceLT, reduceCtorEq, hc, hc_1, hc_2, hc_3, hc_4, hc_5, hc_6]
                      repeat (with_reducible refine And.intro ?_ ?_; next => first | assumption | trivial | omega | decide | (constructor <;> first | assumption | omega) | (simp [Keep.ok, hp_cons_apply, hset_cons]; done))
                      refine hk _ _ _ ?_
                      refine xghost (D := []) ?_ ?_ ?_ ?_
                      · exact (.cons (Sub.of_eq (by first | rfl | (simp only [sget_cons, reduceIte, Nat.reduceEqDiff, Bool.and_true, Bool.true_and, Bool.and_false, Bool.false_and, Bool.or_true, Bool.true_or, Bool.or_false, Bool.false_or, Bool.not_true, Bool.not_false, Bool.not_not, hc, hc_1, hc_2, hc_3, hc_4, hc_5, hc_6]; done))) .nil)
                      · exact HpW.refl
                      · exact (by intro p hp; cases hp)
                      · omega
                  · try simp only [go_sem, Prod.mk.injEq, reduceIte, Nat.reduceEqDiff, Nat.reduceAdd, Nat.reduceSub, Nat.reduceMul, Nat.reduceDiv, Nat.reducePow, Nat.reduceLT, Nat.reduceLeDiff, Nat.reduceBEq, Nat.reduceBneDiff, Int.reduceToNat, Int.reduceEq, Int.reduceLE, Int.reduceLT, reduceCtorEq, hc, hc_1, hc_2, hc_3, hc_4, hc_5]
                    repeat (with_reducible refine And.intro ?_ ?_; next => first | assumption | trivial | omega | decide | (constructor <;> first | assumption | omega) | (simp [Keep.ok, hp_cons_apply, hset_cons]; done))
                    refine hk _ _ _ ?_
                    refine xghost (D := []) ?_ ?_ ?_ ?_
                    · exact (.cons (Sub.of_eq (by first | rfl | (simp only [sget_cons, reduceIte, Nat.reduceEqDiff, Bool.and_true, Bool.true_and, Bool.and_false, Bool.false_and, Bool.or_true, Bool.true_or, Bool.or_false, Bool.false_or, Bool.not_true, Bool.not_false, Bool.not_not, hc, hc_1, hc_2, hc_3, hc_4, hc_5]; done))) .nil)
                    · exact HpW.refl
                    · exact (by intro p hp; cases hp)
                    · omega
                · try simp only [go_sem, Prod.mk.injEq, reduceIte, Nat.reduceEqDiff, Nat.reduceAdd, Nat.reduceSub, Nat.reduceMul, Nat.reduceDiv, Nat.reducePow, Nat.reduceLT, Nat.reduceLeDiff, Nat.reduceBEq, Nat.reduceBneDiff, Int.reduceToNat, Int.reduceEq, Int.reduceLE, Int.reduceLT, reduceCtorEq, hc, hc_1, hc_2, hc_3, hc_4]
                  repeat (with_reducible refine And.intro ?_ ?_; next => first | assumption | trivial | omega | decide | (constructor <;> first | assumption | omega) | (simp [Keep.ok, hp_cons_apply, hset_cons]; done))
                  refine hk _ _ _ ?_
                  refine xghost (D := []) ?_ ?_ ?_ ?_
                  · exact (.cons (Sub.of_eq (by first | rfl | (simp only [sget_cons, reduceIte, Nat.reduceEqDiff, Bool.and_true, Bool.true_and, Bool.and_false, Bool.false_and, Bool.or_true, Bool.true_or, Bool.or_false, Bool.false_or, Bool.not_true, Bool.not_false, Bool.not_not, hc, hc_1, hc_2, hc_3, hc_4]; done))) .nil)
                  · exact HpW.refl
                  · exact (by intro p hp; cases hp)
                  · omega
              · try simp only [go_sem, Prod.mk.injEq, reduceIte, Nat.reduceEqDiff, Nat.reduceAdd, Nat.reduceSub, Nat.reduceMul, Nat.reduceDiv, Nat.reducePow, Nat.reduceLT, Nat.reduceLeDiff, Nat.reduceBEq, Nat.reduceBneDiff, Int.reduceToNat, Int.reduceEq, Int.reduceLE, Int.reduceLT, reduceCtorEq, hc, hc_1, hc_2, hc_3]
                repeat (with_reducible refine And.intro ?_ ?_; next => first | assumption | trivial | omega | decide | (constructor <;> first | assumption | omega) | (simp [Keep.ok, hp_cons_apply, hset_cons]; done))
                refine hk _ _ _ ?_
                refine xghost (D := []) ?_ ?_ ?_ ?_
                · exact (.cons (Sub.of_eq (by first | rfl | (simp only [sget_cons, reduceIte, Nat.reduceEqDiff, Bool.and_true, Bool.true_and, Bool.and_false, Bool.false_and, Bool.or_true, Bool.true_or, Bool.or_false, Bool.false_or, Bool.not_true, Bool.not_false, Bool.not_not, hc, hc_1, hc_2, hc_3]; done))) .nil)
                · exact HpW.refl
                · exact (by intro p hp; cases hp)
                · omega
            · try simp only [go_sem, Prod.mk.injEq, reduceIte, Nat.reduceEqDiff, Nat.reduceAdd, Nat.reduceSub, Nat.reduceMul, Nat.reduceDiv, Nat.reducePow, Nat.reduceLT, Nat.reduceLeDiff, Nat.reduceBEq, Nat.reduceBneDiff, Int.reduceToNat, Int.reduceEq, Int.reduceLE, Int.reduceLT, reduceCtorEq, hc, hc_1, hc_2]
              repeat (with_reducible refine And.intro ?_ ?_; next => first | assumption | trivial | omega | decide | (constructor <;> first | assumption | omega) | (simp [Keep.ok, hp_cons_apply, hset_cons]; done))
              refine hk _ _ _ ?_
              refine xghost (D := []) ?_ ?_ ?_ ?_
              · exact (.cons (Sub.of_eq (by first | rfl | (simp only [sget_cons, reduceIte, Nat.reduceEqDiff, Bool.and_true, Bool.true_and, Bool.and_false, Bool.false_and, Bool.or_true, Bool.true_or, Bool.or_false, Bool.false_or, Bool.not_true, Bool.not_false, Bool.not_not, hc, hc_1, hc_2]; done))) .nil)
              · exact HpW.refl
              · exact (by intro p hp; cases hp)
              · omega
          · try simp only [go_sem, Prod.mk.injEq, reduceIte, Nat.reduceEqDiff, Nat.reduceAdd, Nat.reduceSub, Nat.reduceMul, Nat.reduceDiv, Nat.reducePow, Nat.reduceLT, Nat.reduceLeDiff, Nat.reduceBEq, Nat.reduceBneDiff, Int.reduceToNat, Int.reduceEq, Int.reduceLE, Int.reduceLT, reduceCtorEq, hc, hc_1]
            repeat (with_reducible refine And.intro ?_ ?_; next => first | assumption | trivial | omega | decide | (constructor <;> first | assumption | omega) | (simp [Keep.ok, hp_cons_apply, hset_cons]; done))
            refine hk _ _ _ ?_
            refine xghost (D := []) ?_ ?_ ?_ ?_
            · exact (.cons (Sub.of_eq (by first | rfl | (simp only [sget_cons, reduceIte, Nat.reduceEqDiff, Bool.and_true, Bool.true_and, Bool.and_false, Bool.false_and, Bool.or_true, Bool.true_or, Bool.or_false, Bool.false_or, Bool.not_true, Bool.not_false, Bool.not_not, hc, hc_1]; done))) .nil)
            · exact HpW.refl
            · exact (by intro p hp; cases hp)
            · omega
        · try simp only [go_sem, Prod.mk.injEq, reduceIte, Nat.reduceEqDiff, Nat.reduceAdd, Nat.reduceSub, Nat.reduceMul, Nat.reduceDiv, Nat.reducePow, Nat.reduceLT, Nat.reduceLeDiff, Nat.reduceBEq, Nat.reduceBneDiff, Int.reduceToNat, Int.reduceEq, Int.reduceLE, Int.reduceLT, reduceCtorEq, hc]
          repeat (with_reducible refine And.intro ?_ ?_; next => first | assumption | trivial | omega | decide | (constructor <;> first | assumption | omega) | (simp [Keep.ok, hp_cons_apply, hset_cons]; done))
          refine hk _ _ _ ?_
          refine xghost (D := []) ?_ ?_ ?_ ?_
          · exact (.cons (Sub.of_eq (by first | rfl | (simp only [sget_cons, reduceIte, Nat.reduceEqDiff, Bool.and_true, Bool.true_and, Bool.and_false, Bool.false_and, Bool.or_true, Bool.true_or, Bool.or_false, Bool.false_or, Bool.not_true, Bool.not_false, Bool.not_not, hc]; done))) .nil)
          · exact HpW.refl
          · exact (by intro p hp; cases hp)
          · omega
    · try simp only [go_sem, Prod.mk.injEq, reduceIte, Nat.reduceEqDiff, Nat.reduceAdd, Nat.reduceSub, Nat.reduceMul, Nat.reduceDiv, Nat.reducePow, Nat.reduceLT, Nat.reduceLeDiff, Nat.reduceBEq, Nat.reduceBneDiff, Int.reduceToNat, Int.reduceEq, Int.reduceLE, Int.reduceLT, reduceCtorEq]
      repeat (with_reducible refine And.intro ?_ ?_; next => first | assumption | trivial | omega | decide | (constructor <;> first | assumption | omega) | (simp [Keep.ok, hp_cons_apply, hset_cons]; done))
      refine hk _ _ _ ?_
      refine xghost (D := []) ?_ ?_ ?_ ?_
      · exact (.cons (Sub.of_eq rfl) .nil)
      · exact HpW.refl
      · exact (by intro p hp; cases hp)
      · omega
  · try simp only [go_sem, Prod.mk.injEq, reduceIte, Nat.reduceEqDiff, Nat.reduceAdd, Nat.reduceSub, Nat.reduceMul, Nat.reduceDiv, Nat.reducePow, Nat.reduceLT, Nat.reduceLeDiff, Nat.reduceBEq, Nat.reduceBneDiff, Int.reduceToNat, Int.reduceEq, Int.reduceLE, Int.reduceLT, reduceCtorEq]
    repeat (with_reducible refine And.intro ?_ ?_; next => first | assumption | trivial | omega | decide | (constructor <;> first | assumption | omega) | (simp [Keep.ok, hp_cons_apply, hset_cons]; done))
    refine hk _ _ _ ?_
    refine xghost (D := []) ?_ ?_ ?_ ?_
    · exact .nil
    · exact HpW.refl
    · exact (by intro p hp; cases hp)
    · omega
end
end Go.Proofs.Ytejlgalnkblndaa
