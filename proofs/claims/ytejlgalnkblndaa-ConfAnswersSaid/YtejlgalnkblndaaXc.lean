/- Go functions as Lean functions, and that their code does as these say. Printed by a program of this work. -/
import Derived.Test.YtejlgalnkblndaaXL
import Derived.Test.YtejlgalnkblndaaXa
import Derived.Test.YtejlgalnkblndaaXb
set_option linter.unusedVariables false
set_option linter.unusedSimpArgs false
set_option maxRecDepth 100000
set_option maxHeartbeats 4000000
namespace Go.Proofs.Ytejlgalnkblndaa
open Go Go.Al
noncomputable section
/-! stanchion/stanchionlaw06.alive -/
def s_stanchionlaw06_alive  : Option Bool :=
  bd (s_conf_Check (GapiConf.mk 1 1 1 4 2 3 [])) fun (v : Int) => bd (if (v == 0) = true then s_conf_Count (GapiConf.mk 1 1 1 4 2 3 []) 2 else some 0) fun (v_1 : Int) => bd (if ((v == 0) && (v_1 == 4)) = true then s_conf_Count (GapiConf.mk 1 1 1 4 2 3 []) 3 else some 0) fun (v_2 : Int) => bd (if (((v == 0) && (v_1 == 4)) && (v_2 == 3)) = true then s_conf_Quorum (GapiConf.mk 1 1 1 4 2 3 []) else some 0) fun (v_3 : Int) => bd (if ((((v == 0) && (v_1 == 4)) && (v_2 == 3)) && (v_3 == 3)) = true then s_conf_Proof (GapiConf.mk 1 1 1 4 2 3 []) else some 0) fun (v_4 : Int) => bd (if (((((v == 0) && (v_1 == 4)) && (v_2 == 3)) && (v_3 == 3)) && (v_4 == 2)) = true then s_conf_Primary (GapiConf.mk 1 1 1 4 2 3 []) 6 else some 0) fun (v_5 : Int) => bd (if ((((((v == 0) && (v_1 == 4)) && (v_2 == 3)) && (v_3 == 3)) && (v_4 == 2)) && (v_5 == 2)) = true then s_conf_There (GapiConf.mk 1 1 1 4 2 3 []) (GapiId.mk 1 3) else some false) fun (v_6 : Bool) => bd (if (((((((v == 0) && (v_1 == 4)) && (v_2 == 3)) && (v_3 == 3)) && (v_4 == 2)) && (v_5 == 2)) && v_6) = true then s_conf_Ids (GapiConf.mk 1 1 1 4 2 3 []) ([3]) else some []) fun (v_7 : List GapiId) => some ((((((((v == 0) && (v_1 == 4)) && (v_2 == 3)) && (v_3 == 3)) && (v_4 == 2)) && (v_5 == 2)) && v_6) && ((v_7.length : Int) == 3))
theorem s_stanchionlaw06_alive_ok (S : AHeap)  {r : Bool} (h : s_stanchionlaw06_alive  = some r) :
    AC Try.prog n_stanchionlaw06_alive [] S fun r' S' => r' = .ret (.lit (.bool r)) ∧ S' = S := by
  refine AC_of tok mixed fits_stanchionlaw06_alive fun d hd => ?_
  unfold c_stanchionlaw06_alive
  show LW _ _ _ _ [] (hp [] S) 0 _
  rw [s_stanchionlaw06_alive] at h
  refine xseq [] (hp [] S) 0 ?_ (fun k kp hk => ?_)
  · refine xseq [(1, .ptr (d, 0) 0)] (hp [((d, 0), .box [.lit (.int .i64 1), .lit (.int .i64 1), .lit (.int .i64 1), .lit (.int .i64 4), .lit (.int .i64 2), .lit (.int .i64 3), .lit (.slice none 0 0)])] S) 1 ?_ (fun k kp hk => ?_)
    · obtain ⟨v, hv, h⟩ := bd_some h
      obtain ⟨v_1, hv_1, h⟩ := bd_some h
      obtain ⟨v_2, hv_2, h⟩ := bd_some h
      obtain ⟨v_3, hv_3, h⟩ := bd_some h
      obtain ⟨v_4, hv_4, h⟩ := bd_some h
      obtain ⟨v_5, hv_5, h⟩ := bd_some h
      obtain ⟨v_6, hv_6, h⟩ := bd_some h
      obtain ⟨v_7, hv_7, h⟩ := bd_some h
      refine xseq [(0, .lit (.bool ((((((((v == 0) && (v_1 == 4)) && (v_2 == 3)) && (v_3 == 3)) && (v_4 == 2)) && (v_5 == 2)) && v_6) && ((v_7.length : Int) == 3))))] (hp [((d, 0), .box [.lit (.int .i64 1), .lit (.int .i64 1), .lit (.int .i64 1), .lit (.int .i64 4), .lit (.int .i64 2), .lit (.int .i64 3), .lit (.slice none 0 0)])] S) 1 ?_ (fun k kp hk => ?_)
      · refine LW_ret ?_
        obtain rfl := Option.some.inj h
        show FPost _ _ _ _ _ _ _
        exact ⟨_, hp_less (L := []) (D := [((d, 0), .box [.lit (.int .i64 1), .lit (.int .i64 1), .lit (.int .i64 1), .lit (.int .i64 4), .lit (.int .i64 2), .lit (.int .i64 3), .lit (.slice none 0 0)])]) (by intro p hp; simp only [List.mem_cons, List.not_mem_nil, or_false] at hp; rcases hp with rfl <;> first | exact hd _ (Nat.le_refl _)), rfl, rfl⟩
      · try simp only [go_sem, Prod.mk.injEq, reduceIte, Nat.reduceEqDiff, Nat.reduceAdd, Nat.reduceSub, Nat.reduceMul, Nat.reduceDiv, Nat.reducePow, Nat.reduceLT, Nat.reduceLeDiff, Nat.reduceBEq, Nat.reduceBneDiff, Int.reduceToNat, Int.reduceEq, Int.reduceLE, Int.reduceLT, reduceCtorEq]
        repeat (with_reducible refine And.intro ?_ ?_; next => first | assumption | trivial | omega | decide | (constructor <;> first | assumption | omega) | (simp [Keep.ok, hp_cons_apply, hset_cons]; done))
        have hcall := s_conf_Check_ok (hp [((d, 0), .box [.lit (.int .i64 1), .lit (.int .i64 1), .lit (.int .i64 1), .lit (.int .i64 4), .lit (.int .i64 2), .lit (.int .i64 3), .lit (.slice none 0 0)])] S) (GapiConf.mk 1 1 1 4 2 3 []) hv
        refine call1_x hcall rfl ?_ ?_
        · exact (.cons (Sub.agg (.cons Sub.refl (.cons Sub.refl (.cons Sub.refl (.cons Sub.refl (.cons Sub.refl (.cons Sub.refl (.cons Sub.nil .nil)))))))) .nil)
        clear hcall
        rintro _ SS ⟨rfl, hSS⟩ -
        rw [hSS]
        clear hSS
        try simp only [go_sem, Prod.mk.injEq, reduceIte, Nat.reduceEqDiff, Nat.reduceAdd, Nat.reduceSub, Nat.reduceMul, Nat.reduceDiv, Nat.reducePow, Nat.reduceLT, Nat.reduceLeDiff, Nat.reduceBEq, Nat.reduceBneDiff, Int.reduceToNat, Int.reduceEq, Int.reduceLE, Int.reduceLT, reduceCtorEq]
        repeat (with_reducible refine And.intro ?_ ?_; next => first | assumption | trivial | omega | decide | (constructor <;> first | assumption | omega) | (simp [Keep.ok, hp_cons_apply, hset_cons]; done))
        refine xo_guard (v == 0) rfl (fun hc => ?_) (fun hc => ?_)
        · try simp only [go_sem, Prod.mk.injEq, reduceIte, Nat.reduceEqDiff, Nat.reduceAdd, Nat.reduceSub, Nat.reduceMul, Nat.reduceDiv, Nat.reducePow, Nat.reduceLT, Nat.reduceLeDiff, Nat.reduceBEq, Nat.reduceBneDiff, Int.reduceToNat, Int.reduceEq, Int.reduceLE, Int.reduceLT, reduceCtorEq, hc]
          repeat (with_reducible refine And.intro ?_ ?_; next => first | assumption | trivial | omega | decide | (constructor <;> first | assumption | omega) | (simp [Keep.ok, hp_cons_apply, hset_cons]; done))
          rw [if_pos (by simp only [Bool.and_true, Bool.true_and, Bool.and_false, Bool.false_and, Bool.or_true, Bool.true_or, Bool.or_false, Bool.false_or, Bool.not_true, Bool.not_false, Bool.not_not, hc])] at hv_1
          have hcall := s_conf_Count_ok (hp [((d, 0), .box [.lit (.int .i64 1), .lit (.int .i64 1), .lit (.int .i64 1), .lit (.int .i64 4), .lit (.int .i64 2), .lit (.int .i64 3), .lit (.slice none 0 0)])] S) (GapiConf.mk 1 1 1 4 2 3 []) 2 hv_1
          refine call1_x hcall rfl ?_ ?_
          · exact (.cons (Sub.agg (.cons Sub.refl (.cons Sub.refl (.cons Sub.refl (.cons Sub.refl (.cons Sub.refl (.cons Sub.refl (.cons Sub.nil .nil)))))))) (.cons Sub.refl .nil))
          clear hcall
          rintro _ SS ⟨rfl, hSS⟩ -
          rw [hSS]
          clear hSS
          try simp only [go_sem, Prod.mk.injEq, reduceIte, Nat.reduceEqDiff, Nat.reduceAdd, Nat.reduceSub, Nat.reduceMul, Nat.reduceDiv, Nat.reducePow, Nat.reduceLT, Nat.reduceLeDiff, Nat.reduceBEq, Nat.reduceBneDiff, Int.reduceToNat, Int.reduceEq, Int.reduceLE, Int.reduceLT, reduceCtorEq, hc]
          repeat (with_reducible refine And.intro ?_ ?_; next => first | assumption | trivial | omega | decide | (constructor <;> first | assumption | omega) | (simp [Keep.ok, hp_cons_apply, hset_cons]; done))
          refine xo_guard (v_1 == 4) rfl (fun hc_1 => ?_) (fun hc_1 => ?_)
          · try simp only [go_sem, Prod.mk.injEq, reduceIte, Nat.reduceEqDiff, Nat.reduceAdd, Nat.reduceSub, Nat.reduceMul, Nat.reduceDiv, Nat.reducePow, Nat.reduceLT, Nat.reduceLeDiff, Nat.reduceBEq, Nat.reduceBneDiff, Int.reduceToNat, Int.reduceEq, Int.reduceLE, Int.reduceLT, reduceCtorEq, hc, hc_1]
            repeat (with_reducible refine And.intro ?_ ?_; next => first | assumption | trivial | omega | decide | (constructor <;> first | assumption | omega) | (simp [Keep.ok, hp_cons_apply, hset_cons]; done))
            rw [if_pos (by simp only [Bool.and_true, Bool.true_and, Bool.and_false, Bool.false_and, Bool.or_true, Bool.true_or, Bool.or_false, Bool.false_or, Bool.not_true, Bool.not_false, Bool.not_not, hc, hc_1])] at hv_2
            have hcall := s_conf_Count_ok (hp [((d, 0), .box [.lit (.int .i64 1), .lit (.int .i64 1), .lit (.int .i64 1), .lit (.int .i64 4), .lit (.int .i64 2), .lit (.int .i64 3), .lit (.slice none 0 0)])] S) (GapiConf.mk 1 1 1 4 2 3 []) 3 hv_2
            refine call1_x hcall rfl ?_ ?_
            · exact (.cons (Sub.agg (.cons Sub.refl (.cons Sub.refl (.cons Sub.refl (.cons Sub.refl (.cons Sub.refl (.cons Sub.refl (.cons Sub.nil .nil)))))))) (.cons Sub.refl .nil))
            clear hcall
            rintro _ SS ⟨rfl, hSS⟩ -
            rw [hSS]
            clear hSS
            try simp only [go_sem, Prod.mk.injEq, reduceIte, Nat.reduceEqDiff, Nat.reduceAdd, Nat.reduceSub, Nat.reduceMul, Nat.reduceDiv, Nat.reducePow, Nat.reduceLT, Nat.reduceLeDiff, Nat.reduceBEq, Nat.reduceBneDiff, Int.reduceToNat, Int.reduceEq, Int.reduceLE, Int.reduceLT, reduceCtorEq, hc, hc_1]
            repeat (with_reducible refine And.intro ?_ ?_; next => first | assumption | trivial | omega | decide | (constructor <;> first | assumption | omega) | (simp [Keep.ok, hp_cons_apply, hset_cons]; done))
            refine xo_guard (v_2 == 3) rfl (fun hc_2 => ?_) (fun hc_2 => ?_)
            · try simp only [go_sem, Prod.mk.injEq, reduceIte, Nat.reduceEqDiff, Nat.reduceAdd, Nat.reduceSub, Nat.reduceMul, Nat.reduceDiv, Nat.reducePow, Nat.reduceLT, Nat.reduceLeDiff, Nat.reduceBEq, Nat.reduceBneDiff, Int.reduceToNat, Int.reduceEq, Int.reduceLE, Int.reduceLT, reduceCtorEq, hc, hc_1, hc_2]
              repeat (with_reducible refine And.intro ?_ ?_; next => first | assumption | trivial | omega | decide | (constructor <;> first | assumption | omega) | (simp [Keep.ok, hp_cons_apply, hset_cons]; done))
              rw [if_pos (by simp only [Bool.and_true, Bool.true_and, Bool.and_false, Bool.false_and, Bool.or_true, Bool.true_or, Bool.or_false, Bool.false_or, Bool.not_true, Bool.not_false, Bool.not_not, hc, hc_1, hc_2])] at hv_3
              have hcall := s_conf_Quorum_ok (hp [((d, 0), .box [.lit (.int .i64 1), .lit (.int .i64 1), .lit (.int .i64 1), .lit (.int .i64 4), .lit (.int .i64 2), .lit (.int .i64 3), .lit (.slice none 0 0)])] S) (GapiConf.mk 1 1 1 4 2 3 []) hv_3
              refine call1_x hcall rfl ?_ ?_
              · exact (.cons (Sub.agg (.cons Sub.refl (.cons Sub.refl (.cons Sub.refl (.cons Sub.refl (.cons Sub.refl (.cons Sub.refl (.cons Sub.nil .nil)))))))) .nil)
              clear hcall
              rintro _ SS ⟨rfl, hSS⟩ -
              rw [hSS]
              clear hSS
              try simp only [go_sem, Prod.mk.injEq, reduceIte, Nat.reduceEqDiff, Nat.reduceAdd, Nat.reduceSub, Nat.reduceMul, Nat.reduceDiv, Nat.reducePow, Nat.reduceLT, Nat.reduceLeDiff, Nat.reduceBEq, Nat.reduceBneDiff, Int.reduceToNat, Int.reduceEq, Int.reduceLE, Int.reduceLT, reduceCtorEq, hc, hc_1, hc_2]
              repeat (with_reducible refine And.intro ?_ ?_; next => first | assumption | trivial | omega | decide | (constructor <;> first | assumption | omega) | (simp [Keep.ok, hp_cons_apply, hset_cons]; done))
              refine xo_guard (v_3 == 3) rfl (fun hc_3 => ?_) (fun hc_3 => ?_)
              · try simp only [go_sem, Prod.mk.injEq, reduceIte, Nat.reduceEqDiff, Nat.reduceAdd, Nat.reduceSub, Nat.reduceMul, Nat.reduceDiv, Nat.reducePow, Nat.reduceLT, Nat.reduceLeDiff, Nat.reduceBEq, Nat.reduceBneDiff, Int.reduceToNat, Int.reduceEq, Int.reduceLE, Int.reduceLT, reduceCtorEq, hc, hc_1, hc_2, hc_3]
                repeat (with_reducible refine And.intro ?_ ?_; next => first | assumption | trivial | omega | decide | (constructor <;> first | assumption | omega) | (simp [Keep.ok, hp_cons_apply, hset_cons]; done))
                rw [if_pos (by simp only [Bool.and_true, Bool.true_and, Bool.and_false, Bool.false_and, Bool.or_true, Bool.true_or, Bool.or_false, Bool.false_or, Bool.not_true, Bool.not_false, Bool.not_not, hc, hc_1, hc_2, hc_3])] at hv_4
                have hcall := s_conf_Proof_ok (hp [((d, 0), .box [.lit (.int .i64 1), .lit (.int .i64 1), .lit (.int .i64 1), .lit (.int .i64 4), .lit (.int .i64 2), .lit (.int .i64 3), .lit (.slice none 0 0)])] S) (GapiConf.mk 1 1 1 4 2 3 []) hv_4
                refine call1_x hcall rfl ?_ ?_
                · exact (.cons (Sub.agg (.cons Sub.refl (.cons Sub.refl (.cons Sub.refl (.cons Sub.refl (.cons Sub.refl (.cons Sub.refl (.cons Sub.nil .nil)))))))) .nil)
                clear hcall
                rintro _ SS ⟨rfl, hSS⟩ -
                rw [hSS]
                clear hSS
                try simp only [go_sem, Prod.mk.injEq, reduceIte, Nat.reduceEqDiff, Nat.reduceAdd, Nat.reduceSub, Nat.reduceMul, Nat.reduceDiv, Nat.reducePow, Nat.reduceLT, Nat.reduceLeDiff, Nat.reduceBEq, Nat.reduceBneDiff, Int.reduceToNat, Int.reduceEq, Int.reduceLE, Int.reduceLT, reduceCtorEq, hc, hc_1, hc_2, hc_3]
                repeat (with_reducible refine And.intro ?_ ?_; next => first | assumption | trivial | omega | decide | (constructor <;> first | assumption | omega) | (simp [Keep.ok, hp_cons_apply, hset_cons]; done))
                refine xo_guard (v_4 == 2) rfl (fun hc_4 => ?_) (fun hc_4 => ?_)
                · try simp only [go_sem, Prod.mk.injEq, reduceIte, Nat.reduceEqDiff, Nat.reduceAdd, Nat.reduceSub, Nat.reduceMul, Nat.reduceDiv, Nat.reducePow, Nat.reduceLT, Nat.reduceLeDiff, Nat.reduceBEq, Nat.reduceBneDiff, Int.reduceToNat, Int.reduceEq, Int.reduceLE, Int.reduceLT, reduceCtorEq, hc, hc_1, hc_2, hc_3, hc_4]
                  repeat (with_reducible refine And.intro ?_ ?_; next => first | assumption | trivial | omega | decide | (constructor <;> first | assumption | omega) | (simp [Keep.ok, hp_cons_apply, hset_cons]; done))
                  rw [if_pos (by simp only [Bool.and_true, Bool.true_and, Bool.and_false, Bool.false_and, Bool.or_true, Bool.true_or, Bool.or_false, Bool.false_or, Bool.not_true, Bool.not_false, Bool.not_not, hc, hc_1, hc_2, hc_3, hc_4])] at hv_5
                  have hcall := s_conf_Primary_ok (hp [((d, 0), .box [.lit (.int .i64 1), .lit (.int .i64 1), .lit (.int .i64 1), .lit (.int .i64 4), .lit (.int .i64 2), .lit (.int .i64 3), .lit (.slice none 0 0)])] S) (GapiConf.mk 1 1 1 4 2 3 []) 6 hv_5
                  refine call1_x hcall rfl ?_ ?_
                  · exact (.cons (Sub.agg (.cons Sub.refl (.cons Sub.refl (.cons Sub.refl (.cons Sub.refl (.cons Sub.refl (.cons Sub.refl (.cons Sub.nil .nil)))))))) (.cons Sub.refl .nil))
                  clear hcall
                  rintro _ SS ⟨rfl, hSS⟩ -
                  rw [hSS]
                  clear hSS
                  try simp only [go_sem, Prod.mk.injEq, reduceIte, Nat.reduceEqDiff, Nat.reduceAdd, Nat.reduceSub, Nat.reduceMul, Nat.reduceDiv, Nat.reducePow, Nat.reduceLT, Nat.reduceLeDiff, Nat.reduceBEq, Nat.reduceBneDiff, Int.reduceToNat, Int.reduceEq, Int.reduceLE, Int.reduceLT, reduceCtorEq, hc, hc_1, hc_2, hc_3, hc_4]
                  repeat (with_reducible refine And.intro ?_ ?_; next => first | assumption | trivial | omega | decide | (constructor <;> first | assumption | omega) | (simp [Keep.ok, hp_cons_apply, hset_cons]; done))
                  refine xo_guard (v_5 == 2) rfl (fun hc_5 => ?_) (fun hc_5 => ?_)
                  · try simp only [go_sem, Prod.mk.injEq, reduceIte, Nat.reduceEqDiff, Nat.reduceAdd, Nat.reduceSub, Nat.reduceMul, Nat.reduceDiv, Nat.reducePow, Nat.reduceLT, Nat.reduceLeDiff, Nat.reduceBEq, Nat.reduceBneDiff, Int.reduceToNat, Int.reduceEq, Int.reduceLE, Int.reduceLT, reduceCtorEq, hc, hc_1, hc_2, hc_3, hc_4, hc_5]
                    repeat (with_reducible refine And.intro ?_ ?_; next => first | assumption | trivial | omega | decide | (constructor <;> first | assumption | omega) | (simp [Keep.ok, hp_cons_apply, hset_cons]; done))
                    rw [if_pos (by simp only [Bool.and_true, Bool.true_and, Bool.and_false, Bool.false_and, Bool.or_true, Bool.true_or, Bool.or_false, Bool.false_or, Bool.not_true, Bool.not_false, Bool.not_not, hc, hc_1, hc_2, hc_3, hc_4, hc_5])] at hv_6
                    have hcall := s_conf_There_ok (hp [((d, 0), .box [.lit (.int .i64 1), .lit (.int .i64 1), .lit (.int .i64 1), .lit (.int .i64 4), .lit (.int .i64 2), .lit (.int .i64 3), .lit (.slice none 0 0)])] S) (GapiConf.mk 1 1 1 4 2 3 []) (GapiId.mk 1 3) hv_6
                    refine call1_x hcall rfl ?_ ?_
                    · exact (.cons (Sub.agg (.cons Sub.refl (.cons Sub.refl (.cons Sub.refl (.cons Sub.refl (.cons Sub.refl (.cons Sub.refl (.cons Sub.nil .nil)))))))) (.cons Sub.refl .nil))
                    clear hcall
                    rintro _ SS ⟨rfl, hSS⟩ -
                    rw [hSS]
                    clear hSS
                    try simp only [go_sem, Prod.mk.injEq, reduceIte, Nat.reduceEqDiff, Nat.reduceAdd, Nat.reduceSub, Nat.reduceMul, Nat.reduceDiv, Nat.reducePow, Nat.reduceLT, Nat.reduceLeDiff, Nat.reduceBEq, Nat.reduceBneDiff, Int.reduceToNat, Int.reduceEq, Int.reduceLE, Int.reduceLT, reduceCtorEq, hc, hc_1, hc_2, hc_3, hc_4, hc_5]
                    repeat (with_reducible refine And.intro ?_ ?_; next => first | assumption | trivial | omega | decide | (constructor <;> first | assumption | omega) | (simp [Keep.ok, hp_cons_apply, hset_cons]; done))
                    refine xo_guard v_6 rfl (fun hc_6 => ?_) (fun hc_6 => ?_)
                    · try simp only [go_sem, Prod.mk.injEq, reduceIte, Nat.reduceEqDiff, Nat.reduceAdd, Nat.reduceSub, Nat.reduceMul, Nat.reduceDiv, Nat.reducePow, Nat.reduceLT, Nat.reduceLeDiff, Nat.reduceBEq, Nat.reduceBneDiff, Int.reduceToNat, Int.reduceEq, Int.reduceLE, Int.reduceLT, reduceCtorEq, hc, hc_1, hc_2, hc_3, hc_4, hc_5, hc_6]
                      repeat (with_reducible refine And.intro ?_ ?_; next => first | assumption | trivial | omega | decide | (constructor <;> first | assumption | omega) | (simp [Keep.ok, hp_cons_apply, hset_cons]; done))
                      rw [if_pos (by simp only [Bool.and_true, Bool.true_and, Bool.and_false, Bool.false_and, Bool.or_true, Bool.true_or, Bool.or_false, Bool.false_or, Bool.not_true, Bool.not_false, Bool.not_not, hc, hc_1, hc_2, hc_3, hc_4, hc_5, hc_6])] at hv_7
                      have hcall := s_conf_Ids_ok (hp [((d, 0), .box [.lit (.int .i64 1), .lit (.int .i64 1), .lit (.int .i64 1), .lit (.int .i64 4), .lit (.int .i64 2), .lit (.int .i64 3), .lit (.slice none 0 0)])] S) (GapiConf.mk 1 1 1 4 2 3 []) ([3]) hv_7
                      refine call1_x hcall rfl ?_ ?_
                      · exact (.cons (Sub.agg (.cons Sub.refl (.cons Sub.refl (.cons Sub.refl (.cons Sub.refl (.cons Sub.refl (.cons Sub.refl (.cons Sub.nil .nil)))))))) (.cons (Sub.of_eq rfl) .nil))
                      clear hcall
                      rintro _ SS ⟨rfl, hSS⟩ -
                      rw [hSS]
                      clear hSS
                      try simp only [go_sem, Prod.mk.injEq, reduceIte, Nat.reduceEqDiff, Nat.reduceAdd, Nat.reduceSub, Nat.reduceMul, Nat.reduceDiv, Nat.reducePow, Nat.reduceLT, Nat.reduceLeDiff, Nat.reduceBEq, Nat.reduceBneDiff, Int.reduceToNat, Int.reduceEq, Int.reduceLE, Int.reduceLT, reduceCtorEq, hc, hc_1, hc_2, hc_3, hc_4, hc_5, hc_6]
                      repeat (with_reducible refine And.intro ?_ ?_; next => first | assumption | trivial | omega | decide | (constructor <;> first | assumption | omega) | (simp [Keep.ok, hp_cons_apply, hset_cons]; done))
                      refine hk _ _ _ ?_
                      refine xghost (D := []) ?_ ?_ ?_ ?_
                      · exact (.cons (Sub.of_eq (by first | rfl | (simp only [sget_cons, reduceIte, Nat.reduceEqDiff, Bool.and_true, Bool.true_and, Bool.and_false, Bool.false_and, Bool.or_true, Bool.true_or, Bool.or_false, Bool.false_or, Bool.not_true, Bool.not_false, Bool.not_not, hc, hc_1, hc_2, hc_3, hc_4, hc_5, hc_6]; done))) .nil)
                      · exact HpW.refl
                      · exact (by intro p hp; cases hp)
                      · omega
                    · try simp only [go_sem, Prod.mk.injEq, reduceIte, Nat.reduceEqDiff, Nat.reduceAdd, Nat.reduceSub, Nat.reduceMul, Nat.reduceDiv, Nat.reducePow, Nat.reduceLT, Nat.reduceLeDiff, Nat.reduceBEq, Nat.reduceBneDiff, Int.reduceToNat, Int.reduceEq, Int.reduceLE, Int.reduceLT, reduceCtorEq, hc, hc_1, hc_2, hc_3, hc_4, hc_5, hc_6]
                      repeat (with_reducible refine And.intro ?_ ?_; next => first | assumption | trivial | omega | decide | (constructor <;> first | assumption | omega) | (simp [Keep.ok, hp_cons_apply, hset_cons]; done))
                      refine hk _ _ _ ?_
                      refine xghost (D := []) ?_ ?_ ?_ ?_
                      · exact (.cons (Sub.of_eq (by first | rfl | (simp only [sget_cons, reduceIte, Nat.reduceEqDiff, Bool.and_true, Bool.true_and, Bool.and_false, Bool.false_and, Bool.or_true, Bool.true_or, Bool.or_false, Bool.false_or, Bool.not_true, Bool.not_false, Bool.not_not, hc, hc_1, hc_2, hc_3, hc_4, hc_5, hc_6]; done))) .nil)
                      · exact HpW.refl
                      · exact (by intro p hp; cases hp)
                      · omega
                  · try simp only [go_sem, Prod.mk.injEq, reduceIte, Nat.reduceEqDiff, Nat.reduceAdd, Nat.reduceSub, Nat.reduceMul, Nat.reduceDiv, Nat.reducePow, Nat.reduceLT, Nat.reduceLeDiff, Nat.reduceBEq, Nat.reduceBneDiff, Int.reduceToNat, Int.reduceEq, Int.reduceLE, Int.reduceLT, reduceCtorEq, hc, hc_1, hc_2, hc_3, hc_4, hc_5]
                    repeat (with_reducible refine And.intro ?_ ?_; next => first | assumption | trivial | omega | decide | (constructor <;> first | assumption | omega) | (simp [Keep.ok, hp_cons_apply, hset_cons]; done))
                    refine hk _ _ _ ?_
                    refine xghost (D := []) ?_ ?_ ?_ ?_
                    · exact (.cons (Sub.of_eq (by first | rfl | (simp only [sget_cons, reduceIte, Nat.reduceEqDiff, Bool.and_true, Bool.true_and, Bool.and_false, Bool.false_and, Bool.or_true, Bool.true_or, Bool.or_false, Bool.false_or, Bool.not_true, Bool.not_false, Bool.not_not, hc, hc_1, hc_2, hc_3, hc_4, hc_5]; done))) .nil)
                    · exact HpW.refl
                    · exact (by intro p hp; cases hp)
                    · omega
                · try simp only [go_sem, Prod.mk.injEq, reduceIte, Nat.reduceEqDiff, Nat.reduceAdd, Nat.reduceSub, Nat.reduceMul, Nat.reduceDiv, Nat.reducePow, Nat.reduceLT, Nat.reduceLeDiff, Nat.reduceBEq, Nat.reduceBneDiff, Int.reduceToNat, Int.reduceEq, Int.reduceLE, Int.reduceLT, reduceCtorEq, hc, hc_1, hc_2, hc_3, hc_4]
                  repeat (with_reducible refine And.intro ?_ ?_; next => first | assumption | trivial | omega | decide | (constructor <;> first | assumption | omega) | (simp [Keep.ok, hp_cons_apply, hset_cons]; done))
                  refine hk _ _ _ ?_
                  refine xghost (D := []) ?_ ?_ ?_ ?_
                  · exact (.cons (Sub.of_eq (by first | rfl | (simp only [sget_cons, reduceIte, Nat.reduceEqDiff, Bool.and_true, Bool.true_and, Bool.and_false, Bool.false_and, Bool.or_true, Bool.true_or, Bool.or_false, Bool.false_or, Bool.not_true, Bool.not_false, Bool.not_not, hc, hc_1, hc_2, hc_3, hc_4]; done))) .nil)
                  · exact HpW.refl
                  · exact (by intro p hp; cases hp)
                  · omega
              · try simp only [go_sem, Prod.mk.injEq, reduceIte, Nat.reduceEqDiff, Nat.reduceAdd, Nat.reduceSub, Nat.reduceMul, Nat.reduceDiv, Nat.reducePow, Nat.reduceLT, Nat.reduceLeDiff, Nat.reduceBEq, Nat.reduceBneDiff, Int.reduceToNat, Int.reduceEq, Int.reduceLE, Int.reduceLT, reduceCtorEq, hc, hc_1, hc_2, hc_3]
                repeat (with_reducible refine And.intro ?_ ?_; next => first | assumption | trivial | omega | decide | (constructor <;> first | assumption | omega) | (simp [Keep.ok, hp_cons_apply, hset_cons]; done))
                refine hk _ _ _ ?_
                refine xghost (D := []) ?_ ?_ ?_ ?_
                · exact (.cons (Sub.of_eq (by first | rfl | (simp only [sget_cons, reduceIte, Nat.reduceEqDiff, Bool.and_true, Bool.true_and, Bool.and_false, Bool.false_and, Bool.or_true, Bool.true_or, Bool.or_false, Bool.false_or, Bool.not_true, Bool.not_false, Bool.not_not, hc, hc_1, hc_2, hc_3]; done))) .nil)
                · exact HpW.refl
                · exact (by intro p hp; cases hp)
                · omega
            · try simp only [go_sem, Prod.mk.injEq, reduceIte, Nat.reduceEqDiff, Nat.reduceAdd, Nat.reduceSub, Nat.reduceMul, Nat.reduceDiv, Nat.reducePow, Nat.reduceLT, Nat.reduceLeDiff, Nat.reduceBEq, Nat.reduceBneDiff, Int.reduceToNat, Int.reduceEq, Int.reduceLE, Int.reduceLT, reduceCtorEq, hc, hc_1, hc_2]
              repeat (with_reducible refine And.intro ?_ ?_; next => first | assumption | trivial | omega | decide | (constructor <;> first | assumption | omega) | (simp [Keep.ok, hp_cons_apply, hset_cons]; done))
              refine hk _ _ _ ?_
              refine xghost (D := []) ?_ ?_ ?_ ?_
              · exact (.cons (Sub.of_eq (by first | rfl | (simp only [sget_cons, reduceIte, Nat.reduceEqDiff, Bool.and_true, Bool.true_and, Bool.and_false, Bool.false_and, Bool.or_true, Bool.true_or, Bool.or_false, Bool.false_or, Bool.not_true, Bool.not_false, Bool.not_not, hc, hc_1, hc_2]; done))) .nil)
              · exact HpW.refl
              · exact (by intro p hp; cases hp)
              · omega
          · try simp only [go_sem, Prod.mk.injEq, reduceIte, Nat.reduceEqDiff, Nat.reduceAdd, Nat.reduceSub, Nat.reduceMul, Nat.reduceDiv, Nat.reducePow, Nat.reduceLT, Nat.reduceLeDiff, Nat.reduceBEq, Nat.reduceBneDiff, Int.reduceToNat, Int.reduceEq, Int.reduceLE, Int.reduceLT, reduceCtorEq, hc, hc_1]
            repeat (with_reducible refine And.intro ?_ ?_; next => first | assumption | trivial | omega | decide | (constructor <;> first | assumption | omega) | (simp [Keep.ok, hp_cons_apply, hset_cons]; done))
            refine hk _ _ _ ?_
            refine xghost (D := []) ?_ ?_ ?_ ?_
            · exact (.cons (Sub.of_eq (by first | rfl | (simp only [sget_cons, reduceIte, Nat.reduceEqDiff, Bool.and_true, Bool.true_and, Bool.and_false, Bool.false_and, Bool.or_true, Bool.true_or, Bool.or_false, Bool.false_or, Bool.not_true, Bool.not_false, Bool.not_not, hc, hc_1]; done))) .nil)
            · exact HpW.refl
            · exact (by intro p hp; cases hp)
            · omega
        · try simp only [go_sem, Prod.mk.injEq, reduceIte, Nat.reduceEqDiff, Nat.reduceAdd, Nat.reduceSub, Nat.reduceMul, Nat.reduceDiv, Nat.reducePow, Nat.reduceLT, Nat.reduceLeDiff, Nat.reduceBEq, Nat.reduceBneDiff, Int.reduceToNat, Int.reduceEq, Int.reduceLE, Int.reduceLT, reduceCtorEq, hc]
          repeat (with_reducible refine And.intro ?_ ?_; next => first | assumption | trivial | omega | decide | (constructor <;> first | assumption | omega) | (simp [Keep.ok, hp_cons_apply, hset_cons]; done))
          refine hk _ _ _ ?_
          refine xghost (D := []) ?_ ?_ ?_ ?_
          · exact (.cons (Sub.of_eq (by first | rfl | (simp only [sget_cons, reduceIte, Nat.reduceEqDiff, Bool.and_true, Bool.true_and, Bool.and_false, Bool.false_and, Bool.or_true, Bool.true_or, Bool.or_false, Bool.false_or, Bool.not_true, Bool.not_false, Bool.not_not, hc]; done))) .nil)
          · exact HpW.refl
          · exact (by intro p hp; cases hp)
          · omega
    · try simp only [go_sem, Prod.mk.injEq, reduceIte, Nat.reduceEqDiff, Nat.reduceAdd, Nat.reduceSub, Nat.reduceMul, Nat.reduceDiv, Nat.reducePow, Nat.reduceLT, Nat.reduceLeDiff, Nat.reduceBEq, Nat.reduceBneDiff, Int.reduceToNat, Int.reduceEq, Int.reduceLE, Int.reduceLT, reduceCtorEq]
      repeat (with_reducible refine And.intro ?_ ?_; next => first | assumption | trivial | omega | decide | (constructor <;> first | assumption | omega) | (simp [Keep.ok, hp_cons_apply, hset_cons]; done))
      refine hk _ _ _ ?_
      refine xghost (D := []) ?_ ?_ ?_ ?_
      · exact (.cons (Sub.of_eq rfl) .nil)
      · exact HpW.refl
      · exact (by intro p hp; cases hp)
      · omega
  · try simp only [go_sem, Prod.mk.injEq, reduceIte, Nat.reduceEqDiff, Nat.reduceAdd, Nat.reduceSub, Nat.reduceMul, Nat.reduceDiv, Nat.reducePow, Nat.reduceLT, Nat.reduceLeDiff, Nat.reduceBEq, Nat.reduceBneDiff, Int.reduceToNat, Int.reduceEq, Int.reduceLE, Int.reduceLT, reduceCtorEq]
    repeat (with_reducible refine And.intro ?_ ?_; next => first | assumption | trivial | omega | decide | (constructor <;> first | assumption | omega) | (simp [Keep.ok, hp_cons_apply, hset_cons]; done))
    refine hk _ _ _ ?_
    refine xghost (D := []) ?_ ?_ ?_ ?_
    · exact .nil
    · exact HpW.refl
    · exact (by intro p hp; cases hp)
    · omega
end
end Go.Proofs.Ytejlgalnkblndaa
