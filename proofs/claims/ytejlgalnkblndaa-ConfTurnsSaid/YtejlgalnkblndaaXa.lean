/- Go functions as Lean functions, and that their code does as these say. Printed by a program of this work. -/
import Derived.Test.YtejlgalnkblndaaXL
set_option linter.unusedVariables false
set_option linter.unusedSimpArgs false
set_option maxRecDepth 100000
set_option maxHeartbeats 4000000
namespace Go.Proofs.Ytejlgalnkblndaa
open Go Go.Al
noncomputable section
/-! stanchion/conf.between -/
def s_conf_between_b1 (list : List Int) : Int → Option ((Int) ⊕ Bool)
  | i => if (decide ((IntKind.i64.wrap (i + 2)) < (list.length : Int))) = true then gd ((0 ≤ (IntKind.i64.wrap (i + 1)) ∧ Int.toNat (IntKind.i64.wrap (i + 1)) < list.length)) (gd ((0 ≤ i ∧ Int.toNat i < list.length)) (gd ((!(decide ((list.getD (Int.toNat (IntKind.i64.wrap (i + 1))) 0) < (list.getD (Int.toNat i) 0)))) = true → (0 ≤ (IntKind.i64.wrap (i + 1)) ∧ Int.toNat (IntKind.i64.wrap (i + 1)) < list.length)) (gd ((!(decide ((list.getD (Int.toNat (IntKind.i64.wrap (i + 1))) 0) < (list.getD (Int.toNat i) 0)))) = true → (0 ≤ (IntKind.i64.wrap (i + 2)) ∧ Int.toNat (IntKind.i64.wrap (i + 2)) < list.length)) (if ((decide ((list.getD (Int.toNat (IntKind.i64.wrap (i + 1))) 0) < (list.getD (Int.toNat i) 0))) || (decide ((list.getD (Int.toNat (IntKind.i64.wrap (i + 2))) 0) < (list.getD (Int.toNat (IntKind.i64.wrap (i + 1))) 0)))) = true then mr (some false) else some (.inl (IntKind.i64.wrap (i + 3))))))) else mr (some true)
def s_conf_between (list : List Int) : Option Bool :=
  loop (s_conf_between_b1 list) 0
theorem s_conf_between_ok (S : AHeap) (list : List Int) {r : Bool} (h : s_conf_between list = some r) :
    AC Try.prog n_conf_between [eS (lI .i64) list] S fun r' S' => r' = .ret (.lit (.bool r)) ∧ S' = S := by
  refine AC_of tok mixed fits_conf_between fun d hd => ?_
  unfold c_conf_between
  show LW _ _ _ _ [(0, eS (lI .i64) list)] (hp [] S) 0 _
  rw [s_conf_between] at h
  refine xseq [(0, eS (lI .i64) list)] (hp [] S) 0 ?_ (fun k kp hk => ?_)
  · refine LW_seq ?_
    refine xseq [(0, eS (lI .i64) list), (3, .lit (.int .i64 0))] (hp [] S) 0 ?_ (fun k kp hk => ?_)
    · refine LW_block ?_
      refine LW_loopX (σ := Int) (s := 0) (fun zz => [(0, eS (lI .i64) list), (3, .lit (.int .i64 zz))]) (fun zz => (hp [] S)) h ?_ ?_
      · clear h
        rintro i x1 d1 hd1 hf1 h hx1
        show LW _ _ _ _ [(0, eS (lI .i64) list), (3, .lit (.int .i64 i))] (hp [] S) 0 _
        have hn1d : (d = d1) = False := by simp; omega
        have hm1d : (d1 = d) = False := by simp; omega
        rw [s_conf_between_b1] at h
        refine LW_seq ?_
        refine xseq [(0, eS (lI .i64) list), (3, .lit (.int .i64 i)), (8, .lit (.bool (decide ((IntKind.i64.wrap (i + 2)) < (list.length : Int)))))] (hp [] S) 0 ?_ (fun k kp hk => ?_)
        · refine xcond (decide ((IntKind.i64.wrap (i + 2)) < (list.length : Int))) rfl (fun hc => ?_) (fun hc => ?_)
          · rw [ite_t hc] at h
            refine LW_skip ?_
            show LW _ _ _ _ _ _ _ _
            refine LW_seq ?_
            refine LW_block ?_
            obtain ⟨hg, h⟩ := gd_some h
            obtain ⟨hg_1, h⟩ := gd_some h
            obtain ⟨hg_2, h⟩ := gd_some h
            obtain ⟨hg_3, h⟩ := gd_some h
            refine xseqd [(0, eS (lI .i64) list), (3, .lit (.int .i64 i)), (33, .lit (.bool ((decide ((list.getD (Int.toNat (IntKind.i64.wrap (i + 1))) 0) < (list.getD (Int.toNat i) 0))) || (decide ((list.getD (Int.toNat (IntKind.i64.wrap (i + 2))) 0) < (list.getD (Int.toNat (IntKind.i64.wrap (i + 1))) 0))))))] (hp [] S) 0 ?_ (fun k kp hk => ?_)
            · refine xcond ((decide ((list.getD (Int.toNat (IntKind.i64.wrap (i + 1))) 0) < (list.getD (Int.toNat i) 0))) || (decide ((list.getD (Int.toNat (IntKind.i64.wrap (i + 2))) 0) < (list.getD (Int.toNat (IntKind.i64.wrap (i + 1))) 0)))) rfl (fun hc_1 => ?_) (fun hc_1 => ?_)
              · rw [ite_t hc_1] at h
                refine xseq [(0, eS (lI .i64) list), (2, .lit (.bool false)), (3, .lit (.int .i64 i))] (hp [] S) 0 ?_ (fun k kp hk => ?_)
                · obtain ⟨hq, hxe⟩ := mr_go h hx1
                  clear h hx1
                  subst hxe
                  have h := hq
                  clear hq
                  refine LW_retX (sl' := [(2, .lit (.bool false))]) (S' := (hp [] S)) (c' := 0) ?_ ?_
                  · refine xghost (D := []) ?_ ?_ ?_ ?_
                    · exact (.cons (Sub.of_eq rfl) .nil)
                    · exact HpW.refl
                    · exact (by intro p hp; cases hp)
                    · omega
                  · obtain rfl := Option.some.inj h
                    show FPost _ _ _ _ _ _ _
                    exact ⟨_, hp_less (L := []) (D := []) (by intro p hp; cases hp), rfl, rfl⟩
                · try simp only [go_sem, Prod.mk.injEq, reduceIte, Nat.reduceEqDiff, Nat.reduceAdd, Nat.reduceSub, Nat.reduceMul, Nat.reduceDiv, Nat.reducePow, Nat.reduceLT, Nat.reduceLeDiff, Nat.reduceBEq, Nat.reduceBneDiff, Int.reduceToNat, Int.reduceEq, Int.reduceLE, Int.reduceLT, reduceCtorEq, hn1d, hm1d]
                  repeat (with_reducible refine And.intro ?_ ?_; next => first | assumption | trivial | omega | decide | (constructor <;> first | assumption | omega) | (simp [Keep.ok, hp_cons_apply, hset_cons, hn1d, hm1d]; done))
                  refine hk _ _ _ ?_
                  refine xghost (D := []) ?_ ?_ ?_ ?_
                  · exact (.cons (Sub.of_eq rfl) (.cons (Sub.of_eq rfl) (.cons (Sub.of_eq rfl) .nil)))
                  · exact HpW.refl
                  · exact (by intro p hp; cases hp)
                  · omega
              · rw [ite_f hc_1] at h
                refine LW_skip ?_
                show LW _ _ _ _ _ _ _ _
                refine xreg [(0, eS (lI .i64) list), (3, .lit (.int .i64 (IntKind.i64.wrap (i + 3))))] (hp [] S) 0 ?_ (fun k kp hk => ?_)
                · cases h
                  exact ⟨rfl, Less.refl _⟩
                · try simp only [go_sem, Prod.mk.injEq, reduceIte, Nat.reduceEqDiff, Nat.reduceAdd, Nat.reduceSub, Nat.reduceMul, Nat.reduceDiv, Nat.reducePow, Nat.reduceLT, Nat.reduceLeDiff, Nat.reduceBEq, Nat.reduceBneDiff, Int.reduceToNat, Int.reduceEq, Int.reduceLE, Int.reduceLT, reduceCtorEq, hn1d, hm1d]
                  repeat (with_reducible refine And.intro ?_ ?_; next => first | assumption | trivial | omega | decide | (constructor <;> first | assumption | omega) | (simp [Keep.ok, hp_cons_apply, hset_cons, hn1d, hm1d]; done))
                  refine hk _ _ _ ?_
                  refine xghost (D := []) ?_ ?_ ?_ ?_
                  · exact (.cons (Sub.of_eq rfl) (.cons (Sub.of_eq rfl) .nil))
                  · exact HpW.refl
                  · exact (by intro p hp; cases hp)
                  · omega
            · try simp only [go_sem, Prod.mk.injEq, reduceIte, Nat.reduceEqDiff, Nat.reduceAdd, Nat.reduceSub, Nat.reduceMul, Nat.reduceDiv, Nat.reducePow, Nat.reduceLT, Nat.reduceLeDiff, Nat.reduceBEq, Nat.reduceBneDiff, Int.reduceToNat, Int.reduceEq, Int.reduceLE, Int.reduceLT, reduceCtorEq, hn1d, hm1d]
              repeat (with_reducible refine And.intro ?_ ?_; next => first | assumption | trivial | omega | decide | (constructor <;> first | assumption | omega) | (simp [Keep.ok, hp_cons_apply, hset_cons, hn1d, hm1d]; done))
              refine xd_guard (decide ((list.getD (Int.toNat (IntKind.i64.wrap (i + 1))) 0) < (list.getD (Int.toNat i) 0))) rfl (fun hc_2 => ?_) (fun hc_2 => ?_)
              · have hg_2 := hg_2 (by simp only [Bool.and_true, Bool.true_and, Bool.and_false, Bool.false_and, Bool.or_true, Bool.true_or, Bool.or_false, Bool.false_or, Bool.not_true, Bool.not_false, Bool.not_not, hc_2])
                have hg_3 := hg_3 (by simp only [Bool.and_true, Bool.true_and, Bool.and_false, Bool.false_and, Bool.or_true, Bool.true_or, Bool.or_false, Bool.false_or, Bool.not_true, Bool.not_false, Bool.not_not, hc_2])
                try simp only [go_sem, Prod.mk.injEq, reduceIte, Nat.reduceEqDiff, Nat.reduceAdd, Nat.reduceSub, Nat.reduceMul, Nat.reduceDiv, Nat.reducePow, Nat.reduceLT, Nat.reduceLeDiff, Nat.reduceBEq, Nat.reduceBneDiff, Int.reduceToNat, Int.reduceEq, Int.reduceLE, Int.reduceLT, reduceCtorEq, hn1d, hm1d, hc_2]
                repeat (with_reducible refine And.intro ?_ ?_; next => first | assumption | trivial | omega | decide | (constructor <;> first | assumption | omega) | (simp [Keep.ok, hp_cons_apply, hset_cons, hn1d, hm1d]; done))
                refine hk _ _ _ ?_
                refine xghost (D := []) ?_ ?_ ?_ ?_
                · exact (.cons (Sub.of_eq rfl) (.cons (Sub.of_eq rfl) (.cons (Sub.of_eq (by first | rfl | (simp only [sget_cons, reduceIte, Nat.reduceEqDiff, Bool.and_true, Bool.true_and, Bool.and_false, Bool.false_and, Bool.or_true, Bool.true_or, Bool.or_false, Bool.false_or, Bool.not_true, Bool.not_false, Bool.not_not, hc_2]; done))) .nil)))
                · exact HpW.refl
                · exact (by intro p hp; cases hp)
                · omega
              · try simp only [go_sem, Prod.mk.injEq, reduceIte, Nat.reduceEqDiff, Nat.reduceAdd, Nat.reduceSub, Nat.reduceMul, Nat.reduceDiv, Nat.reducePow, Nat.reduceLT, Nat.reduceLeDiff, Nat.reduceBEq, Nat.reduceBneDiff, Int.reduceToNat, Int.reduceEq, Int.reduceLE, Int.reduceLT, reduceCtorEq, hn1d, hm1d, hc_2]
                repeat (with_reducible refine And.intro ?_ ?_; next => first | assumption | trivial | omega | decide | (constructor <;> first | assumption | omega) | (simp [Keep.ok, hp_cons_apply, hset_cons, hn1d, hm1d]; done))
                refine hk _ _ _ ?_
                refine xghost (D := []) ?_ ?_ ?_ ?_
                · exact (.cons (Sub.of_eq rfl) (.cons (Sub.of_eq rfl) (.cons (Sub.of_eq (by first | rfl | (simp only [sget_cons, reduceIte, Nat.reduceEqDiff, Bool.and_true, Bool.true_and, Bool.and_false, Bool.false_and, Bool.or_true, Bool.true_or, Bool.or_false, Bool.false_or, Bool.not_true, Bool.not_false, Bool.not_not, hc_2]; done))) .nil)))
                · exact HpW.refl
                · exact (by intro p hp; cases hp)
                · omega
          · rw [ite_f hc] at h
            obtain ⟨hq, hxe⟩ := mr_go h hx1
            clear h hx1
            subst hxe
            have h := hq
            clear hq
            refine LW_exitX (sl' := [(0, eS (lI .i64) list), (3, .lit (.int .i64 i)), (8, .lit (.bool (decide ((IntKind.i64.wrap (i + 2)) < (list.length : Int)))))]) (S' := (hp [] S)) (c' := 0) ?_ ?_
            · refine xghost (D := []) ?_ ?_ ?_ ?_
              · exact (.cons (Sub.of_eq rfl) (.cons (Sub.of_eq rfl) (.cons (Sub.of_eq rfl) .nil)))
              · exact HpW.refl
              · exact (by intro p hp; cases hp)
              · omega
            · show LW _ _ _ _ _ _ _ _
              refine xseq [(2, .lit (.bool true))] (hp [] S) 0 ?_ (fun k kp hk => ?_)
              · refine LW_ret ?_
                obtain rfl := Option.some.inj h
                show FPost _ _ _ _ _ _ _
                exact ⟨_, hp_less (L := []) (D := []) (by intro p hp; cases hp), rfl, rfl⟩
              · try simp only [go_sem, Prod.mk.injEq, reduceIte, Nat.reduceEqDiff, Nat.reduceAdd, Nat.reduceSub, Nat.reduceMul, Nat.reduceDiv, Nat.reducePow, Nat.reduceLT, Nat.reduceLeDiff, Nat.reduceBEq, Nat.reduceBneDiff, Int.reduceToNat, Int.reduceEq, Int.reduceLE, Int.reduceLT, reduceCtorEq, hn1d, hm1d]
                repeat (with_reducible refine And.intro ?_ ?_; next => first | assumption | trivial | omega | decide | (constructor <;> first | assumption | omega) | (simp [Keep.ok, hp_cons_apply, hset_cons, hn1d, hm1d]; done))
                refine hk _ _ _ ?_
                refine xghost (D := []) ?_ ?_ ?_ ?_
                · exact (.cons (Sub.of_eq rfl) .nil)
                · exact HpW.refl
                · exact (by intro p hp; cases hp)
                · omega
        · try simp only [go_sem, Prod.mk.injEq, reduceIte, Nat.reduceEqDiff, Nat.reduceAdd, Nat.reduceSub, Nat.reduceMul, Nat.reduceDiv, Nat.reducePow, Nat.reduceLT, Nat.reduceLeDiff, Nat.reduceBEq, Nat.reduceBneDiff, Int.reduceToNat, Int.reduceEq, Int.reduceLE, Int.reduceLT, reduceCtorEq, hn1d, hm1d]
          repeat (with_reducible refine And.intro ?_ ?_; next => first | assumption | trivial | omega | decide | (constructor <;> first | assumption | omega) | (simp [Keep.ok, hp_cons_apply, hset_cons, hn1d, hm1d]; done))
          refine hk _ _ _ ?_
          refine xghost (D := []) ?_ ?_ ?_ ?_
          · exact (.cons (Sub.of_eq rfl) (.cons (Sub.of_eq rfl) (.cons (Sub.of_eq rfl) .nil)))
          · exact HpW.refl
          · exact (by intro p hp; cases hp)
          · omega
      · refine xghost (D := []) ?_ ?_ ?_ ?_
        · exact (.cons (Sub.of_eq rfl) (.cons (Sub.of_eq rfl) .nil))
        · exact HpW.refl
        · exact (by intro p hp; cases hp)
        · omega
    · try simp only [go_sem, Prod.mk.injEq, reduceIte, Nat.reduceEqDiff, Nat.reduceAdd, Nat.reduceSub, Nat.reduceMul, Nat.reduceDiv, Nat.reducePow, Nat.reduceLT, Nat.reduceLeDiff, Nat.reduceBEq, Nat.reduceBneDiff, Int.reduceToNat, Int.reduceEq, Int.reduceLE, Int.reduceLT, reduceCtorEq]
      repeat (with_reducible refine And.intro ?_ ?_; next => first | assumption | trivial | omega | decide | (constructor <;> first | assumption | omega) | (simp [Keep.ok, hp_cons_apply, hset_cons]; done))
      refine hk _ _ _ ?_
      refine xghost (D := []) ?_ ?_ ?_ ?_
      · exact (.cons (Sub.of_eq rfl) (.cons (Sub.of_eq rfl) .nil))
      · exact HpW.refl
      · exact (by intro p hp; cases hp)
      · omega
  · try simp only [go_sem, Prod.mk.injEq, reduceIte, Nat.reduceEqDiff, Nat.reduceAdd, Nat.reduceSub, Nat.reduceMul, Nat.reduceDiv, Nat.reducePow, Nat.reduceLT, Nat.reduceLeDiff, Nat.reduceBEq, Nat.reduceBneDiff, Int.reduceToNat, Int.reduceEq, Int.reduceLE, Int.reduceLT, reduceCtorEq]
    repeat (with_reducible refine And.intro ?_ ?_; next => first | assumption | trivial | omega | decide | (constructor <;> first | assumption | omega) | (simp [Keep.ok, hp_cons_apply, hset_cons]; done))
    refine hk _ _ _ ?_
    refine xghost (D := []) ?_ ?_ ?_ ?_
    · exact (.cons (Sub.of_eq rfl) .nil)
    · exact HpW.refl
    · exact (by intro p hp; cases hp)
    · omega
/-! stanchion/conf.Check -/
def s_conf_Check (cx : GapiConf) : Option Int :=
  bd (s_conf_between ([0, cx.U, 2, 0, cx.R, cx.U, 1, cx.Peers, 8, 1, cx.Window, 8, 1, cx.Every, cx.Window, 1, cx.Patience, 1000, 0, (cx.Secret.length : Int), 64])) fun (v : Bool) => if (!v) = true then some 60 else some 0
theorem s_conf_Check_ok (S : AHeap) (cx : GapiConf) {r : Int} (h : s_conf_Check cx = some r) :
    AC Try.prog n_conf_Check [.agg [.lit (.int .i64 cx.U), .lit (.int .i64 cx.R), .lit (.int .i64 cx.Peers), .lit (.int .i64 cx.Window), .lit (.int .i64 cx.Every), .lit (.int .i64 cx.Patience), eS (lI .u8) cx.Secret]] S fun r' S' => r' = .ret (.lit (.int .i64 r)) ∧ S' = S := by
  refine AC_of tok mixed fits_conf_Check fun d hd => ?_
  unfold c_conf_Check
  show LW _ _ _ _ [(0, .agg [.lit (.int .i64 cx.U), .lit (.int .i64 cx.R), .lit (.int .i64 cx.Peers), .lit (.int .i64 cx.Window), .lit (.int .i64 cx.Every), .lit (.int .i64 cx.Patience), eS (lI .u8) cx.Secret])] (hp [] S) 0 _
  rw [s_conf_Check] at h
  refine xseq [(1, .ptr (d, 0) 0)] (hp [((d, 0), .box [.lit (.int .i64 cx.U), .lit (.int .i64 cx.R), .lit (.int .i64 cx.Peers), .lit (.int .i64 cx.Window), .lit (.int .i64 cx.Every), .lit (.int .i64 cx.Patience), eS (lI .u8) cx.Secret])] S) 1 ?_ (fun k kp hk => ?_)
  · refine LW_seq ?_
    obtain ⟨v, hv, h⟩ := bd_some h
    refine xseq [(24, .lit (.bool (!v)))] (hp [((d, 0), .box [.lit (.int .i64 cx.U), .lit (.int .i64 cx.R), .lit (.int .i64 cx.Peers), .lit (.int .i64 cx.Window), .lit (.int .i64 cx.Every), .lit (.int .i64 cx.Patience), eS (lI .u8) cx.Secret])] S) 1 ?_ (fun k kp hk => ?_)
    · refine xcond (!v) rfl (fun hc => ?_) (fun hc => ?_)
      · rw [ite_t hc] at h
        refine xseq [(2, .lit (.int .i64 60))] (hp [((d, 0), .box [.lit (.int .i64 cx.U), .lit (.int .i64 cx.R), .lit (.int .i64 cx.Peers), .lit (.int .i64 cx.Window), .lit (.int .i64 cx.Every), .lit (.int .i64 cx.Patience), eS (lI .u8) cx.Secret])] S) 1 ?_ (fun k kp hk => ?_)
        · refine LW_ret ?_
          obtain rfl := Option.some.inj h
          show FPost _ _ _ _ _ _ _
          exact ⟨_, hp_less (L := []) (D := [((d, 0), .box [.lit (.int .i64 cx.U), .lit (.int .i64 cx.R), .lit (.int .i64 cx.Peers), .lit (.int .i64 cx.Window), .lit (.int .i64 cx.Every), .lit (.int .i64 cx.Patience), eS (lI .u8) cx.Secret])]) (by intro p hp; simp only [List.mem_cons, List.not_mem_nil, or_false] at hp; rcases hp with rfl <;> first | exact hd _ (Nat.le_refl _)), rfl, rfl⟩
        · try simp only [go_sem, Prod.mk.injEq, reduceIte, Nat.reduceEqDiff, Nat.reduceAdd, Nat.reduceSub, Nat.reduceMul, Nat.reduceDiv, Nat.reducePow, Nat.reduceLT, Nat.reduceLeDiff, Nat.reduceBEq, Nat.reduceBneDiff, Int.reduceToNat, Int.reduceEq, Int.reduceLE, Int.reduceLT, reduceCtorEq]
          repeat (with_reducible refine And.intro ?_ ?_; next => first | assumption | trivial | omega | decide | (constructor <;> first | assumption | omega) | (simp [Keep.ok, hp_cons_apply, hset_cons]; done))
          refine hk _ _ _ ?_
          refine xghost (D := []) ?_ ?_ ?_ ?_
          · exact (.cons (Sub.of_eq rfl) .nil)
          · exact HpW.refl
          · exact (by intro p hp; cases hp)
          · omega
      · rw [ite_f hc] at h
        refine LW_skip ?_
        show LW _ _ _ _ _ _ _ _
        refine xseq [(2, .lit (.int .i64 0))] (hp [((d, 0), .box [.lit (.int .i64 cx.U), .lit (.int .i64 cx.R), .lit (.int .i64 cx.Peers), .lit (.int .i64 cx.Window), .lit (.int .i64 cx.Every), .lit (.int .i64 cx.Patience), eS (lI .u8) cx.Secret])] S) 1 ?_ (fun k kp hk => ?_)
        · refine LW_ret ?_
          obtain rfl := Option.some.inj h
          show FPost _ _ _ _ _ _ _
          exact ⟨_, hp_less (L := []) (D := [((d, 0), .box [.lit (.int .i64 cx.U), .lit (.int .i64 cx.R), .lit (.int .i64 cx.Peers), .lit (.int .i64 cx.Window), .lit (.int .i64 cx.Every), .lit (.int .i64 cx.Patience), eS (lI .u8) cx.Secret])]) (by intro p hp; simp only [List.mem_cons, List.not_mem_nil, or_false] at hp; rcases hp with rfl <;> first | exact hd _ (Nat.le_refl _)), rfl, rfl⟩
        · try simp only [go_sem, Prod.mk.injEq, reduceIte, Nat.reduceEqDiff, Nat.reduceAdd, Nat.reduceSub, Nat.reduceMul, Nat.reduceDiv, Nat.reducePow, Nat.reduceLT, Nat.reduceLeDiff, Nat.reduceBEq, Nat.reduceBneDiff, Int.reduceToNat, Int.reduceEq, Int.reduceLE, Int.reduceLT, reduceCtorEq]
          repeat (with_reducible refine And.intro ?_ ?_; next => first | assumption | trivial | omega | decide | (constructor <;> first | assumption | omega) | (simp [Keep.ok, hp_cons_apply, hset_cons]; done))
          refine hk _ _ _ ?_
          refine xghost (D := []) ?_ ?_ ?_ ?_
          · exact (.cons (Sub.of_eq rfl) .nil)
          · exact HpW.refl
          · exact (by intro p hp; cases hp)
          · omega
    · try simp only [go_sem, Prod.mk.injEq, reduceIte, Nat.reduceEqDiff, Nat.reduceAdd, Nat.reduceSub, Nat.reduceMul, Nat.reduceDiv, Nat.reducePow, Nat.reduceLT, Nat.reduceLeDiff, Nat.reduceBEq, Nat.reduceBneDiff, Int.reduceToNat, Int.reduceEq, Int.reduceLE, Int.reduceLT, reduceCtorEq]
      repeat (with_reducible refine And.intro ?_ ?_; next => first | assumption | trivial | omega | decide | (constructor <;> first | assumption | omega) | (simp [Keep.ok, hp_cons_apply, hset_cons]; done))
      have hcall := s_conf_between_ok (hp [((d, 0), .box [.lit (.int .i64 cx.U), .lit (.int .i64 cx.R), .lit (.int .i64 cx.Peers), .lit (.int .i64 cx.Window), .lit (.int .i64 cx.Every), .lit (.int .i64 cx.Patience), eS (lI .u8) cx.Secret])] S) ([0, cx.U, 2, 0, cx.R, cx.U, 1, cx.Peers, 8, 1, cx.Window, 8, 1, cx.Every, cx.Window, 1, cx.Patience, 1000, 0, (cx.Secret.length : Int), 64]) hv
      refine call1_x hcall rfl ?_ ?_
      · exact (.cons (Sub.of_eq rfl) .nil)
      clear hcall
      rintro _ SS ⟨rfl, hSS⟩ -
      rw [hSS]
      clear hSS
      try simp only [go_sem, Prod.mk.injEq, reduceIte, Nat.reduceEqDiff, Nat.reduceAdd, Nat.reduceSub, Nat.reduceMul, Nat.reduceDiv, Nat.reducePow, Nat.reduceLT, Nat.reduceLeDiff, Nat.reduceBEq, Nat.reduceBneDiff, Int.reduceToNat, Int.reduceEq, Int.reduceLE, Int.reduceLT, reduceCtorEq]
      repeat (with_reducible refine And.intro ?_ ?_; next => first | assumption | trivial | omega | decide | (constructor <;> first | assumption | omega) | (simp [Keep.ok, hp_cons_apply, hset_cons]; done))
      refine hk _ _ _ ?_
      refine xghost (D := []) ?_ ?_ ?_ ?_
      · exact (.cons (Sub.of_eq rfl) .nil)
      · exact HpW.refl
      · exact (by intro p hp; cases hp)
      · omega
  · try simp only [go_sem, Prod.mk.injEq, reduceIte, Nat.reduceEqDiff, Nat.reduceAdd, Nat.reduceSub, Nat.reduceMul, Nat.reduceDiv, Nat.reducePow, Nat.reduceLT, Nat.reduceLeDiff, Nat.reduceBEq, Nat.reduceBneDiff, Int.reduceToNat, Int.reduceEq, Int.reduceLE, Int.reduceLT, reduceCtorEq]
    repeat (with_reducible refine And.intro ?_ ?_; next => first | assumption | trivial | omega | decide | (constructor <;> first | assumption | omega) | (simp [Keep.ok, hp_cons_apply, hset_cons]; done))
    refine hk _ _ _ ?_
    refine xghost (D := []) ?_ ?_ ?_ ?_
    · exact (.cons (Sub.of_eq rfl) .nil)
    · exact HpW.refl
    · exact (by intro p hp; cases hp)
    · omega
/-! stanchion/conf.Count -/
def s_conf_Count_j1 (cx : GapiConf) (role : Int) (t9 : Bool) : Option Int :=
  if t9 = true then some (IntKind.i64.wrap ((IntKind.i64.wrap ((IntKind.i64.wrap (2 * cx.U)) + cx.R)) + 1)) else if (role == 3) = true then some (IntKind.i64.wrap ((IntKind.i64.wrap (cx.U + cx.R)) + 1)) else if (role == 4) = true then some cx.Peers else some 0
def s_conf_Count (cx : GapiConf) (role : Int) : Option Int :=
  bd (s_conf_Check cx) fun (v : Int) => if (v != 0) = true then some 0 else if (role == 1) = true then s_conf_Count_j1 cx role (role == 1) else s_conf_Count_j1 cx role (role == 2)
theorem s_conf_Count_ok (S : AHeap) (cx : GapiConf) (role : Int) {r : Int} (h : s_conf_Count cx role = some r) :
    AC Try.prog n_conf_Count [.agg [.lit (.int .i64 cx.U), .lit (.int .i64 cx.R), .lit (.int .i64 cx.Peers), .lit (.int .i64 cx.Window), .lit (.int .i64 cx.Every), .lit (.int .i64 cx.Patience), eS (lI .u8) cx.Secret], .lit (.int .i64 role)] S fun r' S' => r' = .ret (.lit (.int .i64 r)) ∧ S' = S := by
  refine AC_of tok mixed fits_conf_Count fun d hd => ?_
  unfold c_conf_Count
  show LW _ _ _ _ [(0, .agg [.lit (.int .i64 cx.U), .lit (.int .i64 cx.R), .lit (.int .i64 cx.Peers), .lit (.int .i64 cx.Window), .lit (.int .i64 cx.Every), .lit (.int .i64 cx.Patience), eS (lI .u8) cx.Secret]), (1, .lit (.int .i64 role))] (hp [] S) 0 _
  rw [s_conf_Count] at h
  refine xseq [(1, .lit (.int .i64 role)), (2, .ptr (d, 0) 0)] (hp [((d, 0), .box [.lit (.int .i64 cx.U), .lit (.int .i64 cx.R), .lit (.int .i64 cx.Peers), .lit (.int .i64 cx.Window), .lit (.int .i64 cx.Every), .lit (.int .i64 cx.Patience), eS (lI .u8) cx.Secret])] S) 1 ?_ (fun k kp hk => ?_)
  · refine LW_seq ?_
    obtain ⟨v, hv, h⟩ := bd_some h
    refine xseq [(1, .lit (.int .i64 role)), (2, .ptr (d, 0) 0), (7, .lit (.bool (v != 0)))] (hp [((d, 0), .box [.lit (.int .i64 cx.U), .lit (.int .i64 cx.R), .lit (.int .i64 cx.Peers), .lit (.int .i64 cx.Window), .lit (.int .i64 cx.Every), .lit (.int .i64 cx.Patience), eS (lI .u8) cx.Secret])] S) 1 ?_ (fun k kp hk => ?_)
    · refine xcond (v != 0) rfl (fun hc => ?_) (fun hc => ?_)
      · rw [ite_t hc] at h
        refine xseq [(4, .lit (.int .i64 0))] (hp [((d, 0), .box [.lit (.int .i64 cx.U), .lit (.int .i64 cx.R), .lit (.int .i64 cx.Peers), .lit (.int .i64 cx.Window), .lit (.int .i64 cx.Every), .lit (.int .i64 cx.Patience), eS (lI .u8) cx.Secret])] S) 1 ?_ (fun k kp hk => ?_)
        · refine LW_ret ?_
          obtain rfl := Option.some.inj h
          show FPost _ _ _ _ _ _ _
          exact ⟨_, hp_less (L := []) (D := [((d, 0), .box [.lit (.int .i64 cx.U), .lit (.int .i64 cx.R), .lit (.int .i64 cx.Peers), .lit (.int .i64 cx.Window), .lit (.int .i64 cx.Every), .lit (.int .i64 cx.Patience), eS (lI .u8) cx.Secret])]) (by intro p hp; simp only [List.mem_cons, List.not_mem_nil, or_false] at hp; rcases hp with rfl <;> first | exact hd _ (Nat.le_refl _)), rfl, rfl⟩
        · try simp only [go_sem, Prod.mk.injEq, reduceIte, Nat.reduceEqDiff, Nat.reduceAdd, Nat.reduceSub, Nat.reduceMul, Nat.reduceDiv, Nat.reducePow, Nat.reduceLT, Nat.reduceLeDiff, Nat.reduceBEq, Nat.reduceBneDiff, Int.reduceToNat, Int.reduceEq, Int.reduceLE, Int.reduceLT, reduceCtorEq]
          repeat (with_reducible refine And.intro ?_ ?_; next => first | assumption | trivial | omega | decide | (constructor <;> first | assumption | omega) | (simp [Keep.ok, hp_cons_apply, hset_cons]; done))
          refine hk _ _ _ ?_
          refine xghost (D := []) ?_ ?_ ?_ ?_
          · exact (.cons (Sub.of_eq rfl) .nil)
          · exact HpW.refl
          · exact (by intro p hp; cases hp)
          · omega
      · rw [ite_f hc] at h
        refine LW_skip ?_
        show LW _ _ _ _ _ _ _ _
        refine LW_seq ?_
        refine xseq [(2, .ptr (d, 0) 0), (8, .lit (.int .i64 role))] (hp [((d, 0), .box [.lit (.int .i64 cx.U), .lit (.int .i64 cx.R), .lit (.int .i64 cx.Peers), .lit (.int .i64 cx.Window), .lit (.int .i64 cx.Every), .lit (.int .i64 cx.Patience), eS (lI .u8) cx.Secret])] S) 1 ?_ (fun k kp hk => ?_)
        · refine LW_block ?_
          refine xjoin (J := Bool) (fun jj => [(2, .ptr (d, 0) 0), (8, .lit (.int .i64 role)), (9, .lit (.bool jj))]) (fun jj => (hp [((d, 0), .box [.lit (.int .i64 cx.U), .lit (.int .i64 cx.R), .lit (.int .i64 cx.Peers), .lit (.int .i64 cx.Window), .lit (.int .i64 cx.Every), .lit (.int .i64 cx.Patience), eS (lI .u8) cx.Secret])] S)) 1 (fun jj => s_conf_Count_j1 cx role jj = some r) ?_ (fun hj => ?_)
          · rintro t9 h
            show LW _ _ _ _ [(2, .ptr (d, 0) 0), (8, .lit (.int .i64 role)), (9, .lit (.bool t9))] (hp [((d, 0), .box [.lit (.int .i64 cx.U), .lit (.int .i64 cx.R), .lit (.int .i64 cx.Peers), .lit (.int .i64 cx.Window), .lit (.int .i64 cx.Every), .lit (.int .i64 cx.Patience), eS (lI .u8) cx.Secret])] S) 1 _
            replace h : s_conf_Count_j1 cx role t9 = some r := h
            rw [s_conf_Count_j1] at h
            refine xcond t9 rfl (fun hc_1 => ?_) (fun hc_1 => ?_)
            · rw [ite_t hc_1] at h
              refine xseq [(4, .lit (.int .i64 (IntKind.i64.wrap ((IntKind.i64.wrap ((IntKind.i64.wrap (2 * cx.U)) + cx.R)) + 1))))] (hp [((d, 0), .box [.lit (.int .i64 cx.U), .lit (.int .i64 cx.R), .lit (.int .i64 cx.Peers), .lit (.int .i64 cx.Window), .lit (.int .i64 cx.Every), .lit (.int .i64 cx.Patience), eS (lI .u8) cx.Secret])] S) 1 ?_ (fun k kp hk => ?_)
              · refine LW_ret ?_
                obtain rfl := Option.some.inj h
                show FPost _ _ _ _ _ _ _
                exact ⟨_, hp_less (L := []) (D := [((d, 0), .box [.lit (.int .i64 cx.U), .lit (.int .i64 cx.R), .lit (.int .i64 cx.Peers), .lit (.int .i64 cx.Window), .lit (.int .i64 cx.Every), .lit (.int .i64 cx.Patience), eS (lI .u8) cx.Secret])]) (by intro p hp; simp only [List.mem_cons, List.not_mem_nil, or_false] at hp; rcases hp with rfl <;> first | exact hd _ (Nat.le_refl _)), rfl, rfl⟩
              · try simp only [go_sem, Prod.mk.injEq, reduceIte, Nat.reduceEqDiff, Nat.reduceAdd, Nat.reduceSub, Nat.reduceMul, Nat.reduceDiv, Nat.reducePow, Nat.reduceLT, Nat.reduceLeDiff, Nat.reduceBEq, Nat.reduceBneDiff, Int.reduceToNat, Int.reduceEq, Int.reduceLE, Int.reduceLT, reduceCtorEq]
                repeat (with_reducible refine And.intro ?_ ?_; next => first | assumption | trivial | omega | decide | (constructor <;> first | assumption | omega) | (simp [Keep.ok, hp_cons_apply, hset_cons]; done))
                refine hk _ _ _ ?_
                refine xghost (D := []) ?_ ?_ ?_ ?_
                · exact (.cons (Sub.of_eq rfl) .nil)
                · exact HpW.refl
                · exact (by intro p hp; cases hp)
                · omega
            · rw [ite_f hc_1] at h
              refine xseq [(2, .ptr (d, 0) 0), (8, .lit (.int .i64 role)), (19, .lit (.bool (role == 3)))] (hp [((d, 0), .box [.lit (.int .i64 cx.U), .lit (.int .i64 cx.R), .lit (.int .i64 cx.Peers), .lit (.int .i64 cx.Window), .lit (.int .i64 cx.Every), .lit (.int .i64 cx.Patience), eS (lI .u8) cx.Secret])] S) 1 ?_ (fun k kp hk => ?_)
              · refine xcond (role == 3) rfl (fun hc_2 => ?_) (fun hc_2 => ?_)
                · rw [ite_t hc_2] at h
                  refine xseq [(4, .lit (.int .i64 (IntKind.i64.wrap ((IntKind.i64.wrap (cx.U + cx.R)) + 1))))] (hp [((d, 0), .box [.lit (.int .i64 cx.U), .lit (.int .i64 cx.R), .lit (.int .i64 cx.Peers), .lit (.int .i64 cx.Window), .lit (.int .i64 cx.Every), .lit (.int .i64 cx.Patience), eS (lI .u8) cx.Secret])] S) 1 ?_ (fun k kp hk => ?_)
                  · refine LW_ret ?_
                    obtain rfl := Option.some.inj h
                    show FPost _ _ _ _ _ _ _
                    exact ⟨_, hp_less (L := []) (D := [((d, 0), .box [.lit (.int .i64 cx.U), .lit (.int .i64 cx.R), .lit (.int .i64 cx.Peers), .lit (.int .i64 cx.Window), .lit (.int .i64 cx.Every), .lit (.int .i64 cx.Patience), eS (lI .u8) cx.Secret])]) (by intro p hp; simp only [List.mem_cons, List.not_mem_nil, or_false] at hp; rcases hp with rfl <;> first | exact hd _ (Nat.le_refl _)), rfl, rfl⟩
                  · try simp only [go_sem, Prod.mk.injEq, reduceIte, Nat.reduceEqDiff, Nat.reduceAdd, Nat.reduceSub, Nat.reduceMul, Nat.reduceDiv, Nat.reducePow, Nat.reduceLT, Nat.reduceLeDiff, Nat.reduceBEq, Nat.reduceBneDiff, Int.reduceToNat, Int.reduceEq, Int.reduceLE, Int.reduceLT, reduceCtorEq]
                    repeat (with_reducible refine And.intro ?_ ?_; next => first | assumption | trivial | omega | decide | (constructor <;> first | assumption | omega) | (simp [Keep.ok, hp_cons_apply, hset_cons]; done))
                    refine hk _ _ _ ?_
                    refine xghost (D := []) ?_ ?_ ?_ ?_
                    · exact (.cons (Sub.of_eq rfl) .nil)
                    · exact HpW.refl
                    · exact (by intro p hp; cases hp)
                    · omega
                · rw [ite_f hc_2] at h
                  refine xseq [(2, .ptr (d, 0) 0), (27, .lit (.bool (role == 4)))] (hp [((d, 0), .box [.lit (.int .i64 cx.U), .lit (.int .i64 cx.R), .lit (.int .i64 cx.Peers), .lit (.int .i64 cx.Window), .lit (.int .i64 cx.Every), .lit (.int .i64 cx.Patience), eS (lI .u8) cx.Secret])] S) 1 ?_ (fun k kp hk => ?_)
                  · refine xcond (role == 4) rfl (fun hc_3 => ?_) (fun hc_3 => ?_)
                    · rw [ite_t hc_3] at h
                      refine xseq [(4, .lit (.int .i64 cx.Peers))] (hp [((d, 0), .box [.lit (.int .i64 cx.U), .lit (.int .i64 cx.R), .lit (.int .i64 cx.Peers), .lit (.int .i64 cx.Window), .lit (.int .i64 cx.Every), .lit (.int .i64 cx.Patience), eS (lI .u8) cx.Secret])] S) 1 ?_ (fun k kp hk => ?_)
                      · refine LW_ret ?_
                        obtain rfl := Option.some.inj h
                        show FPost _ _ _ _ _ _ _
                        exact ⟨_, hp_less (L := []) (D := [((d, 0), .box [.lit (.int .i64 cx.U), .lit (.int .i64 cx.R), .lit (.int .i64 cx.Peers), .lit (.int .i64 cx.Window), .lit (.int .i64 cx.Every), .lit (.int .i64 cx.Patience), eS (lI .u8) cx.Secret])]) (by intro p hp; simp only [List.mem_cons, List.not_mem_nil, or_false] at hp; rcases hp with rfl <;> first | exact hd _ (Nat.le_refl _)), rfl, rfl⟩
                      · try simp only [go_sem, Prod.mk.injEq, reduceIte, Nat.reduceEqDiff, Nat.reduceAdd, Nat.reduceSub, Nat.reduceMul, Nat.reduceDiv, Nat.reducePow, Nat.reduceLT, Nat.reduceLeDiff, Nat.reduceBEq, Nat.reduceBneDiff, Int.reduceToNat, Int.reduceEq, Int.reduceLE, Int.reduceLT, reduceCtorEq]
                        repeat (with_reducible refine And.intro ?_ ?_; next => first | assumption | trivial | omega | decide | (constructor <;> first | assumption | omega) | (simp [Keep.ok, hp_cons_apply, hset_cons]; done))
                        refine hk _ _ _ ?_
                        refine xghost (D := []) ?_ ?_ ?_ ?_
                        · exact (.cons (Sub.of_eq rfl) .nil)
                        · exact HpW.refl
                        · exact (by intro p hp; cases hp)
                        · omega
                    · rw [ite_f hc_3] at h
                      refine LW_skip ?_
                      show LW _ _ _ _ _ _ _ _
                      refine xseq [(4, .lit (.int .i64 0))] (hp [((d, 0), .box [.lit (.int .i64 cx.U), .lit (.int .i64 cx.R), .lit (.int .i64 cx.Peers), .lit (.int .i64 cx.Window), .lit (.int .i64 cx.Every), .lit (.int .i64 cx.Patience), eS (lI .u8) cx.Secret])] S) 1 ?_ (fun k kp hk => ?_)
                      · refine LW_ret ?_
                        obtain rfl := Option.some.inj h
                        show FPost _ _ _ _ _ _ _
                        exact ⟨_, hp_less (L := []) (D := [((d, 0), .box [.lit (.int .i64 cx.U), .lit (.int .i64 cx.R), .lit (.int .i64 cx.Peers), .lit (.int .i64 cx.Window), .lit (.int .i64 cx.Every), .lit (.int .i64 cx.Patience), eS (lI .u8) cx.Secret])]) (by intro p hp; simp only [List.mem_cons, List.not_mem_nil, or_false] at hp; rcases hp with rfl <;> first | exact hd _ (Nat.le_refl _)), rfl, rfl⟩
                      · try simp only [go_sem, Prod.mk.injEq, reduceIte, Nat.reduceEqDiff, Nat.reduceAdd, Nat.reduceSub, Nat.reduceMul, Nat.reduceDiv, Nat.reducePow, Nat.reduceLT, Nat.reduceLeDiff, Nat.reduceBEq, Nat.reduceBneDiff, Int.reduceToNat, Int.reduceEq, Int.reduceLE, Int.reduceLT, reduceCtorEq]
                        repeat (with_reducible refine And.intro ?_ ?_; next => first | assumption | trivial | omega | decide | (constructor <;> first | assumption | omega) | (simp [Keep.ok, hp_cons_apply, hset_cons]; done))
                        refine hk _ _ _ ?_
                        refine xghost (D := []) ?_ ?_ ?_ ?_
                        · exact (.cons (Sub.of_eq rfl) .nil)
                        · exact HpW.refl
                        · exact (by intro p hp; cases hp)
                        · omega
                  · try simp only [go_sem, Prod.mk.injEq, reduceIte, Nat.reduceEqDiff, Nat.reduceAdd, Nat.reduceSub, Nat.reduceMul, Nat.reduceDiv, Nat.reducePow, Nat.reduceLT, Nat.reduceLeDiff, Nat.reduceBEq, Nat.reduceBneDiff, Int.reduceToNat, Int.reduceEq, Int.reduceLE, Int.reduceLT, reduceCtorEq]
                    repeat (with_reducible refine And.intro ?_ ?_; next => first | assumption | trivial | omega | decide | (constructor <;> first | assumption | omega) | (simp [Keep.ok, hp_cons_apply, hset_cons]; done))
                    refine hk _ _ _ ?_
                    refine xghost (D := []) ?_ ?_ ?_ ?_
                    · exact (.cons (Sub.of_eq rfl) (.cons (Sub.of_eq rfl) .nil))
                    · exact HpW.refl
                    · exact (by intro p hp; cases hp)
                    · omega
              · try simp only [go_sem, Prod.mk.injEq, reduceIte, Nat.reduceEqDiff, Nat.reduceAdd, Nat.reduceSub, Nat.reduceMul, Nat.reduceDiv, Nat.reducePow, Nat.reduceLT, Nat.reduceLeDiff, Nat.reduceBEq, Nat.reduceBneDiff, Int.reduceToNat, Int.reduceEq, Int.reduceLE, Int.reduceLT, reduceCtorEq]
                repeat (with_reducible refine And.intro ?_ ?_; next => first | assumption | trivial | omega | decide | (constructor <;> first | assumption | omega) | (simp [Keep.ok, hp_cons_apply, hset_cons]; done))
                refine hk _ _ _ ?_
                refine xghost (D := []) ?_ ?_ ?_ ?_
                · exact (.cons (Sub.of_eq rfl) (.cons (Sub.of_eq rfl) (.cons (Sub.of_eq rfl) .nil)))
                · exact HpW.refl
                · exact (by intro p hp; cases hp)
                · omega
          · refine xseq [(2, .ptr (d, 0) 0), (8, .lit (.int .i64 role)), (9, .lit (.bool (role == 1)))] (hp [((d, 0), .box [.lit (.int .i64 cx.U), .lit (.int .i64 cx.R), .lit (.int .i64 cx.Peers), .lit (.int .i64 cx.Window), .lit (.int .i64 cx.Every), .lit (.int .i64 cx.Patience), eS (lI .u8) cx.Secret])] S) 1 ?_ (fun k kp hk => ?_)
            · refine xcond (role == 1) rfl (fun hc_4 => ?_) (fun hc_4 => ?_)
              · rw [ite_t hc_4] at h
                refine LW_skip ?_
                exact hj (role == 1) h
              · rw [ite_f hc_4] at h
                refine xreg [(2, .ptr (d, 0) 0), (8, .lit (.int .i64 role)), (9, .lit (.bool (role == 2)))] (hp [((d, 0), .box [.lit (.int .i64 cx.U), .lit (.int .i64 cx.R), .lit (.int .i64 cx.Peers), .lit (.int .i64 cx.Window), .lit (.int .i64 cx.Every), .lit (.int .i64 cx.Patience), eS (lI .u8) cx.Secret])] S) 1 ?_ (fun k kp hk => ?_)
                · exact hj (role == 2) h
                · try simp only [go_sem, Prod.mk.injEq, reduceIte, Nat.reduceEqDiff, Nat.reduceAdd, Nat.reduceSub, Nat.reduceMul, Nat.reduceDiv, Nat.reducePow, Nat.reduceLT, Nat.reduceLeDiff, Nat.reduceBEq, Nat.reduceBneDiff, Int.reduceToNat, Int.reduceEq, Int.reduceLE, Int.reduceLT, reduceCtorEq]
                  repeat (with_reducible refine And.intro ?_ ?_; next => first | assumption | trivial | omega | decide | (constructor <;> first | assumption | omega) | (simp [Keep.ok, hp_cons_apply, hset_cons]; done))
                  refine hk _ _ _ ?_
                  refine xghost (D := []) ?_ ?_ ?_ ?_
                  · exact (.cons (Sub.of_eq rfl) (.cons (Sub.of_eq rfl) (.cons (Sub.of_eq rfl) .nil)))
                  · exact HpW.refl
                  · exact (by intro p hp; cases hp)
                  · omega
            · try simp only [go_sem, Prod.mk.injEq, reduceIte, Nat.reduceEqDiff, Nat.reduceAdd, Nat.reduceSub, Nat.reduceMul, Nat.reduceDiv, Nat.reducePow, Nat.reduceLT, Nat.reduceLeDiff, Nat.reduceBEq, Nat.reduceBneDiff, Int.reduceToNat, Int.reduceEq, Int.reduceLE, Int.reduceLT, reduceCtorEq]
              repeat (with_reducible refine And.intro ?_ ?_; next => first | assumption | trivial | omega | decide | (constructor <;> first | assumption | omega) | (simp [Keep.ok, hp_cons_apply, hset_cons]; done))
              refine hk _ _ _ ?_
              refine xghost (D := []) ?_ ?_ ?_ ?_
              · exact (.cons (Sub.of_eq rfl) (.cons (Sub.of_eq rfl) (.cons (Sub.of_eq rfl) .nil)))
              · exact HpW.refl
              · exact (by intro p hp; cases hp)
              · omega
        · try simp only [go_sem, Prod.mk.injEq, reduceIte, Nat.reduceEqDiff, Nat.reduceAdd, Nat.reduceSub, Nat.reduceMul, Nat.reduceDiv, Nat.reducePow, Nat.reduceLT, Nat.reduceLeDiff, Nat.reduceBEq, Nat.reduceBneDiff, Int.reduceToNat, Int.reduceEq, Int.reduceLE, Int.reduceLT, reduceCtorEq]
          repeat (with_reducible refine And.intro ?_ ?_; next => first | assumption | trivial | omega | decide | (constructor <;> first | assumption | omega) | (simp [Keep.ok, hp_cons_apply, hset_cons]; done))
          refine hk _ _ _ ?_
          refine xghost (D := []) ?_ ?_ ?_ ?_
          · exact (.cons (Sub.of_eq rfl) (.cons (Sub.of_eq rfl) .nil))
          · exact HpW.refl
          · exact (by intro p hp; cases hp)
          · omega
    · try simp only [go_sem, Prod.mk.injEq, reduceIte, Nat.reduceEqDiff, Nat.reduceAdd, Nat.reduceSub, Nat.reduceMul, Nat.reduceDiv, Nat.reducePow, Nat.reduceLT, Nat.reduceLeDiff, Nat.reduceBEq, Nat.reduceBneDiff, Int.reduceToNat, Int.reduceEq, Int.reduceLE, Int.reduceLT, reduceCtorEq]
      repeat (with_reducible refine And.intro ?_ ?_; next => first | assumption | trivial | omega | decide | (constructor <;> first | assumption | omega) | (simp [Keep.ok, hp_cons_apply, hset_cons]; done))
      have hcall := s_conf_Check_ok (hp [((d, 0), .box [.lit (.int .i64 cx.U), .lit (.int .i64 cx.R), .lit (.int .i64 cx.Peers), .lit (.int .i64 cx.Window), .lit (.int .i64 cx.Every), .lit (.int .i64 cx.Patience), eS (lI .u8) cx.Secret])] S) cx hv
      refine call1_x hcall rfl ?_ ?_
      · exact (.cons Sub.refl .nil)
      clear hcall
      rintro _ SS ⟨rfl, hSS⟩ -
      rw [hSS]
      clear hSS
      try simp only [go_sem, Prod.mk.injEq, reduceIte, Nat.reduceEqDiff, Nat.reduceAdd, Nat.reduceSub, Nat.reduceMul, Nat.reduceDiv, Nat.reducePow, Nat.reduceLT, Nat.reduceLeDiff, Nat.reduceBEq, Nat.reduceBneDiff, Int.reduceToNat, Int.reduceEq, Int.reduceLE, Int.reduceLT, reduceCtorEq]
      repeat (with_reducible refine And.intro ?_ ?_; next => first | assumption | trivial | omega | decide | (constructor <;> first | assumption | omega) | (simp [Keep.ok, hp_cons_apply, hset_cons]; done))
      refine hk _ _ _ ?_
      refine xghost (D := []) ?_ ?_ ?_ ?_
      · exact (.cons (Sub.of_eq rfl) (.cons (Sub.of_eq rfl) (.cons (Sub.of_eq rfl) .nil)))
      · exact HpW.refl
      · exact (by intro p hp; cases hp)
      · omega
  · try simp only [go_sem, Prod.mk.injEq, reduceIte, Nat.reduceEqDiff, Nat.reduceAdd, Nat.reduceSub, Nat.reduceMul, Nat.reduceDiv, Nat.reducePow, Nat.reduceLT, Nat.reduceLeDiff, Nat.reduceBEq, Nat.reduceBneDiff, Int.reduceToNat, Int.reduceEq, Int.reduceLE, Int.reduceLT, reduceCtorEq]
    repeat (with_reducible refine And.intro ?_ ?_; next => first | assumption | trivial | omega | decide | (constructor <;> first | assumption | omega) | (simp [Keep.ok, hp_cons_apply, hset_cons]; done))
    refine hk _ _ _ ?_
    refine xghost (D := []) ?_ ?_ ?_ ?_
    · exact (.cons (Sub.of_eq rfl) (.cons (Sub.of_eq rfl) .nil))
    · exact HpW.refl
    · exact (by intro p hp; cases hp)
    · omega
/-! stanchion/conf.Quorum -/
def s_conf_Quorum (cx : GapiConf) : Option Int :=
  bd (s_conf_Check cx) fun (v : Int) => if (v != 0) = true then some 0 else some (IntKind.i64.wrap ((IntKind.i64.wrap (cx.U + cx.R)) + 1))
theorem s_conf_Quorum_ok (S : AHeap) (cx : GapiConf) {r : Int} (h : s_conf_Quorum cx = some r) :
    AC Try.prog n_conf_Quorum [.agg [.lit (.int .i64 cx.U), .lit (.int .i64 cx.R), .lit (.int .i64 cx.Peers), .lit (.int .i64 cx.Window), .lit (.int .i64 cx.Every), .lit (.int .i64 cx.Patience), eS (lI .u8) cx.Secret]] S fun r' S' => r' = .ret (.lit (.int .i64 r)) ∧ S' = S := by
  refine AC_of tok mixed fits_conf_Quorum fun d hd => ?_
  unfold c_conf_Quorum
  show LW _ _ _ _ [(0, .agg [.lit (.int .i64 cx.U), .lit (.int .i64 cx.R), .lit (.int .i64 cx.Peers), .lit (.int .i64 cx.Window), .lit (.int .i64 cx.Every), .lit (.int .i64 cx.Patience), eS (lI .u8) cx.Secret])] (hp [] S) 0 _
  rw [s_conf_Quorum] at h
  refine xseq [(1, .ptr (d, 0) 0)] (hp [((d, 0), .box [.lit (.int .i64 cx.U), .lit (.int .i64 cx.R), .lit (.int .i64 cx.Peers), .lit (.int .i64 cx.Window), .lit (.int .i64 cx.Every), .lit (.int .i64 cx.Patience), eS (lI .u8) cx.Secret])] S) 1 ?_ (fun k kp hk => ?_)
  · refine LW_seq ?_
    obtain ⟨v, hv, h⟩ := bd_some h
    refine xseq [(1, .ptr (d, 0) 0), (5, .lit (.bool (v != 0)))] (hp [((d, 0), .box [.lit (.int .i64 cx.U), .lit (.int .i64 cx.R), .lit (.int .i64 cx.Peers), .lit (.int .i64 cx.Window), .lit (.int .i64 cx.Every), .lit (.int .i64 cx.Patience), eS (lI .u8) cx.Secret])] S) 1 ?_ (fun k kp hk => ?_)
    · refine xcond (v != 0) rfl (fun hc => ?_) (fun hc => ?_)
      · rw [ite_t hc] at h
        refine xseq [(2, .lit (.int .i64 0))] (hp [((d, 0), .box [.lit (.int .i64 cx.U), .lit (.int .i64 cx.R), .lit (.int .i64 cx.Peers), .lit (.int .i64 cx.Window), .lit (.int .i64 cx.Every), .lit (.int .i64 cx.Patience), eS (lI .u8) cx.Secret])] S) 1 ?_ (fun k kp hk => ?_)
        · refine LW_ret ?_
          obtain rfl := Option.some.inj h
          show FPost _ _ _ _ _ _ _
          exact ⟨_, hp_less (L := []) (D := [((d, 0), .box [.lit (.int .i64 cx.U), .lit (.int .i64 cx.R), .lit (.int .i64 cx.Peers), .lit (.int .i64 cx.Window), .lit (.int .i64 cx.Every), .lit (.int .i64 cx.Patience), eS (lI .u8) cx.Secret])]) (by intro p hp; simp only [List.mem_cons, List.not_mem_nil, or_false] at hp; rcases hp with rfl <;> first | exact hd _ (Nat.le_refl _)), rfl, rfl⟩
        · try simp only [go_sem, Prod.mk.injEq, reduceIte, Nat.reduceEqDiff, Nat.reduceAdd, Nat.reduceSub, Nat.reduceMul, Nat.reduceDiv, Nat.reducePow, Nat.reduceLT, Nat.reduceLeDiff, Nat.reduceBEq, Nat.reduceBneDiff, Int.reduceToNat, Int.reduceEq, Int.reduceLE, Int.reduceLT, reduceCtorEq]
          repeat (with_reducible refine And.intro ?_ ?_; next => first | assumption | trivial | omega | decide | (constructor <;> first | assumption | omega) | (simp [Keep.ok, hp_cons_apply, hset_cons]; done))
          refine hk _ _ _ ?_
          refine xghost (D := []) ?_ ?_ ?_ ?_
          · exact (.cons (Sub.of_eq rfl) .nil)
          · exact HpW.refl
          · exact (by intro p hp; cases hp)
          · omega
      · rw [ite_f hc] at h
        refine LW_skip ?_
        show LW _ _ _ _ _ _ _ _
        refine xseq [(2, .lit (.int .i64 (IntKind.i64.wrap ((IntKind.i64.wrap (cx.U + cx.R)) + 1))))] (hp [((d, 0), .box [.lit (.int .i64 cx.U), .lit (.int .i64 cx.R), .lit (.int .i64 cx.Peers), .lit (.int .i64 cx.Window), .lit (.int .i64 cx.Every), .lit (.int .i64 cx.Patience), eS (lI .u8) cx.Secret])] S) 1 ?_ (fun k kp hk => ?_)
        · refine LW_ret ?_
          obtain rfl := Option.some.inj h
          show FPost _ _ _ _ _ _ _
          exact ⟨_, hp_less (L := []) (D := [((d, 0), .box [.lit (.int .i64 cx.U), .lit (.int .i64 cx.R), .lit (.int .i64 cx.Peers), .lit (.int .i64 cx.Window), .lit (.int .i64 cx.Every), .lit (.int .i64 cx.Patience), eS (lI .u8) cx.Secret])]) (by intro p hp; simp only [List.mem_cons, List.not_mem_nil, or_false] at hp; rcases hp with rfl <;> first | exact hd _ (Nat.le_refl _)), rfl, rfl⟩
        · try simp only [go_sem, Prod.mk.injEq, reduceIte, Nat.reduceEqDiff, Nat.reduceAdd, Nat.reduceSub, Nat.reduceMul, Nat.reduceDiv, Nat.reducePow, Nat.reduceLT, Nat.reduceLeDiff, Nat.reduceBEq, Nat.reduceBneDiff, Int.reduceToNat, Int.reduceEq, Int.reduceLE, Int.reduceLT, reduceCtorEq]
          repeat (with_reducible refine And.intro ?_ ?_; next => first | assumption | trivial | omega | decide | (constructor <;> first | assumption | omega) | (simp [Keep.ok, hp_cons_apply, hset_cons]; done))
          refine hk _ _ _ ?_
          refine xghost (D := []) ?_ ?_ ?_ ?_
          · exact (.cons (Sub.of_eq rfl) .nil)
          · exact HpW.refl
          · exact (by intro p hp; cases hp)
          · omega
    · try simp only [go_sem, Prod.mk.injEq, reduceIte, Nat.reduceEqDiff, Nat.reduceAdd, Nat.reduceSub, Nat.reduceMul, Nat.reduceDiv, Nat.reducePow, Nat.reduceLT, Nat.reduceLeDiff, Nat.reduceBEq, Nat.reduceBneDiff, Int.reduceToNat, Int.reduceEq, Int.reduceLE, Int.reduceLT, reduceCtorEq]
      repeat (with_reducible refine And.intro ?_ ?_; next => first | assumption | trivial | omega | decide | (constructor <;> first | assumption | omega) | (simp [Keep.ok, hp_cons_apply, hset_cons]; done))
      have hcall := s_conf_Check_ok (hp [((d, 0), .box [.lit (.int .i64 cx.U), .lit (.int .i64 cx.R), .lit (.int .i64 cx.Peers), .lit (.int .i64 cx.Window), .lit (.int .i64 cx.Every), .lit (.int .i64 cx.Patience), eS (lI .u8) cx.Secret])] S) cx hv
      refine call1_x hcall rfl ?_ ?_
      · exact (.cons Sub.refl .nil)
      clear hcall
      rintro _ SS ⟨rfl, hSS⟩ -
      rw [hSS]
      clear hSS
      try simp only [go_sem, Prod.mk.injEq, reduceIte, Nat.reduceEqDiff, Nat.reduceAdd, Nat.reduceSub, Nat.reduceMul, Nat.reduceDiv, Nat.reducePow, Nat.reduceLT, Nat.reduceLeDiff, Nat.reduceBEq, Nat.reduceBneDiff, Int.reduceToNat, Int.reduceEq, Int.reduceLE, Int.reduceLT, reduceCtorEq]
      repeat (with_reducible refine And.intro ?_ ?_; next => first | assumption | trivial | omega | decide | (constructor <;> first | assumption | omega) | (simp [Keep.ok, hp_cons_apply, hset_cons]; done))
      refine hk _ _ _ ?_
      refine xghost (D := []) ?_ ?_ ?_ ?_
      · exact (.cons (Sub.of_eq rfl) (.cons (Sub.of_eq rfl) .nil))
      · exact HpW.refl
      · exact (by intro p hp; cases hp)
      · omega
  · try simp only [go_sem, Prod.mk.injEq, reduceIte, Nat.reduceEqDiff, Nat.reduceAdd, Nat.reduceSub, Nat.reduceMul, Nat.reduceDiv, Nat.reducePow, Nat.reduceLT, Nat.reduceLeDiff, Nat.reduceBEq, Nat.reduceBneDiff, Int.reduceToNat, Int.reduceEq, Int.reduceLE, Int.reduceLT, reduceCtorEq]
    repeat (with_reducible refine And.intro ?_ ?_; next => first | assumption | trivial | omega | decide | (constructor <;> first | assumption | omega) | (simp [Keep.ok, hp_cons_apply, hset_cons]; done))
    refine hk _ _ _ ?_
    refine xghost (D := []) ?_ ?_ ?_ ?_
    · exact (.cons (Sub.of_eq rfl) .nil)
    · exact HpW.refl
    · exact (by intro p hp; cases hp)
    · omega
/-! stanchion/conf.Proof -/
def s_conf_Proof (cx : GapiConf) : Option Int :=
  bd (s_conf_Check cx) fun (v : Int) => if (v != 0) = true then some 0 else some (IntKind.i64.wrap (cx.R + 1))
theorem s_conf_Proof_ok (S : AHeap) (cx : GapiConf) {r : Int} (h : s_conf_Proof cx = some r) :
    AC Try.prog n_conf_Proof [.agg [.lit (.int .i64 cx.U), .lit (.int .i64 cx.R), .lit (.int .i64 cx.Peers), .lit (.int .i64 cx.Window), .lit (.int .i64 cx.Every), .lit (.int .i64 cx.Patience), eS (lI .u8) cx.Secret]] S fun r' S' => r' = .ret (.lit (.int .i64 r)) ∧ S' = S := by
  refine AC_of tok mixed fits_conf_Proof fun d hd => ?_
  unfold c_conf_Proof
  show LW _ _ _ _ [(0, .agg [.lit (.int .i64 cx.U), .lit (.int .i64 cx.R), .lit (.int .i64 cx.Peers), .lit (.int .i64 cx.Window), .lit (.int .i64 cx.Every), .lit (.int .i64 cx.Patience), eS (lI .u8) cx.Secret])] (hp [] S) 0 _
  rw [s_conf_Proof] at h
  refine xseq [(1, .ptr (d, 0) 0)] (hp [((d, 0), .box [.lit (.int .i64 cx.U), .lit (.int .i64 cx.R), .lit (.int .i64 cx.Peers), .lit (.int .i64 cx.Window), .lit (.int .i64 cx.Every), .lit (.int .i64 cx.Patience), eS (lI .u8) cx.Secret])] S) 1 ?_ (fun k kp hk => ?_)
  · refine LW_seq ?_
    obtain ⟨v, hv, h⟩ := bd_some h
    refine xseq [(1, .ptr (d, 0) 0), (5, .lit (.bool (v != 0)))] (hp [((d, 0), .box [.lit (.int .i64 cx.U), .lit (.int .i64 cx.R), .lit (.int .i64 cx.Peers), .lit (.int .i64 cx.Window), .lit (.int .i64 cx.Every), .lit (.int .i64 cx.Patience), eS (lI .u8) cx.Secret])] S) 1 ?_ (fun k kp hk => ?_)
    · refine xcond (v != 0) rfl (fun hc => ?_) (fun hc => ?_)
      · rw [ite_t hc] at h
        refine xseq [(2, .lit (.int .i64 0))] (hp [((d, 0), .box [.lit (.int .i64 cx.U), .lit (.int .i64 cx.R), .lit (.int .i64 cx.Peers), .lit (.int .i64 cx.Window), .lit (.int .i64 cx.Every), .lit (.int .i64 cx.Patience), eS (lI .u8) cx.Secret])] S) 1 ?_ (fun k kp hk => ?_)
        · refine LW_ret ?_
          obtain rfl := Option.some.inj h
          show FPost _ _ _ _ _ _ _
          exact ⟨_, hp_less (L := []) (D := [((d, 0), .box [.lit (.int .i64 cx.U), .lit (.int .i64 cx.R), .lit (.int .i64 cx.Peers), .lit (.int .i64 cx.Window), .lit (.int .i64 cx.Every), .lit (.int .i64 cx.Patience), eS (lI .u8) cx.Secret])]) (by intro p hp; simp only [List.mem_cons, List.not_mem_nil, or_false] at hp; rcases hp with rfl <;> first | exact hd _ (Nat.le_refl _)), rfl, rfl⟩
        · try simp only [go_sem, Prod.mk.injEq, reduceIte, Nat.reduceEqDiff, Nat.reduceAdd, Nat.reduceSub, Nat.reduceMul, Nat.reduceDiv, Nat.reducePow, Nat.reduceLT, Nat.reduceLeDiff, Nat.reduceBEq, Nat.reduceBneDiff, Int.reduceToNat, Int.reduceEq, Int.reduceLE, Int.reduceLT, reduceCtorEq]
          repeat (with_reducible refine And.intro ?_ ?_; next => first | assumption | trivial | omega | decide | (constructor <;> first | assumption | omega) | (simp [Keep.ok, hp_cons_apply, hset_cons]; done))
          refine hk _ _ _ ?_
          refine xghost (D := []) ?_ ?_ ?_ ?_
          · exact (.cons (Sub.of_eq rfl) .nil)
          · exact HpW.refl
          · exact (by intro p hp; cases hp)
          · omega
      · rw [ite_f hc] at h
        refine LW_skip ?_
        show LW _ _ _ _ _ _ _ _
        refine xseq [(2, .lit (.int .i64 (IntKind.i64.wrap (cx.R + 1))))] (hp [((d, 0), .box [.lit (.int .i64 cx.U), .lit (.int .i64 cx.R), .lit (.int .i64 cx.Peers), .lit (.int .i64 cx.Window), .lit (.int .i64 cx.Every), .lit (.int .i64 cx.Patience), eS (lI .u8) cx.Secret])] S) 1 ?_ (fun k kp hk => ?_)
        · refine LW_ret ?_
          obtain rfl := Option.some.inj h
          show FPost _ _ _ _ _ _ _
          exact ⟨_, hp_less (L := []) (D := [((d, 0), .box [.lit (.int .i64 cx.U), .lit (.int .i64 cx.R), .lit (.int .i64 cx.Peers), .lit (.int .i64 cx.Window), .lit (.int .i64 cx.Every), .lit (.int .i64 cx.Patience), eS (lI .u8) cx.Secret])]) (by intro p hp; simp only [List.mem_cons, List.not_mem_nil, or_false] at hp; rcases hp with rfl <;> first | exact hd _ (Nat.le_refl _)), rfl, rfl⟩
        · try simp only [go_sem, Prod.mk.injEq, reduceIte, Nat.reduceEqDiff, Nat.reduceAdd, Nat.reduceSub, Nat.reduceMul, Nat.reduceDiv, Nat.reducePow, Nat.reduceLT, Nat.reduceLeDiff, Nat.reduceBEq, Nat.reduceBneDiff, Int.reduceToNat, Int.reduceEq, Int.reduceLE, Int.reduceLT, reduceCtorEq]
          repeat (with_reducible refine And.intro ?_ ?_; next => first | assumption | trivial | omega | decide | (constructor <;> first | assumption | omega) | (simp [Keep.ok, hp_cons_apply, hset_cons]; done))
          refine hk _ _ _ ?_
          refine xghost (D := []) ?_ ?_ ?_ ?_
          · exact (.cons (Sub.of_eq rfl) .nil)
          · exact HpW.refl
          · exact (by intro p hp; cases hp)
          · omega
    · try simp only [go_sem, Prod.mk.injEq, reduceIte, Nat.reduceEqDiff, Nat.reduceAdd, Nat.reduceSub, Nat.reduceMul, Nat.reduceDiv, Nat.reducePow, Nat.reduceLT, Nat.reduceLeDiff, Nat.reduceBEq, Nat.reduceBneDiff, Int.reduceToNat, Int.reduceEq, Int.reduceLE, Int.reduceLT, reduceCtorEq]
      repeat (with_reducible refine And.intro ?_ ?_; next => first | assumption | trivial | omega | decide | (constructor <;> first | assumption | omega) | (simp [Keep.ok, hp_cons_apply, hset_cons]; done))
      have hcall := s_conf_Check_ok (hp [((d, 0), .box [.lit (.int .i64 cx.U), .lit (.int .i64 cx.R), .lit (.int .i64 cx.Peers), .lit (.int .i64 cx.Window), .lit (.int .i64 cx.Every), .lit (.int .i64 cx.Patience), eS (lI .u8) cx.Secret])] S) cx hv
      refine call1_x hcall rfl ?_ ?_
      · exact (.cons Sub.refl .nil)
      clear hcall
      rintro _ SS ⟨rfl, hSS⟩ -
      rw [hSS]
      clear hSS
      try simp only [go_sem, Prod.mk.injEq, reduceIte, Nat.reduceEqDiff, Nat.reduceAdd, Nat.reduceSub, Nat.reduceMul, Nat.reduceDiv, Nat.reducePow, Nat.reduceLT, Nat.reduceLeDiff, Nat.reduceBEq, Nat.reduceBneDiff, Int.reduceToNat, Int.reduceEq, Int.reduceLE, Int.reduceLT, reduceCtorEq]
      repeat (with_reducible refine And.intro ?_ ?_; next => first | assumption | trivial | omega | decide | (constructor <;> first | assumption | omega) | (simp [Keep.ok, hp_cons_apply, hset_cons]; done))
      refine hk _ _ _ ?_
      refine xghost (D := []) ?_ ?_ ?_ ?_
      · exact (.cons (Sub.of_eq rfl) (.cons (Sub.of_eq rfl) .nil))
      · exact HpW.refl
      · exact (by intro p hp; cases hp)
      · omega
  · try simp only [go_sem, Prod.mk.injEq, reduceIte, Nat.reduceEqDiff, Nat.reduceAdd, Nat.reduceSub, Nat.reduceMul, Nat.reduceDiv, Nat.reducePow, Nat.reduceLT, Nat.reduceLeDiff, Nat.reduceBEq, Nat.reduceBneDiff, Int.reduceToNat, Int.reduceEq, Int.reduceLE, Int.reduceLT, reduceCtorEq]
    repeat (with_reducible refine And.intro ?_ ?_; next => first | assumption | trivial | omega | decide | (constructor <;> first | assumption | omega) | (simp [Keep.ok, hp_cons_apply, hset_cons]; done))
    refine hk _ _ _ ?_
    refine xghost (D := []) ?_ ?_ ?_ ?_
    · exact (.cons (Sub.of_eq rfl) .nil)
    · exact HpW.refl
    · exact (by intro p hp; cases hp)
    · omega
/-! stanchion/conf.Primary -/
def s_conf_Primary (cx : GapiConf) (view : Int) : Option Int :=
  bd (s_conf_Count cx 2) fun (v : Int) => if ((v == 0) || (decide (view < 0))) = true then some 0 else gd (v ≠ 0) (some (Int.tmod view v))
theorem s_conf_Primary_ok (S : AHeap) (cx : GapiConf) (view : Int) {r : Int} (h : s_conf_Primary cx view = some r) :
    AC Try.prog n_conf_Primary [.agg [.lit (.int .i64 cx.U), .lit (.int .i64 cx.R), .lit (.int .i64 cx.Peers), .lit (.int .i64 cx.Window), .lit (.int .i64 cx.Every), .lit (.int .i64 cx.Patience), eS (lI .u8) cx.Secret], .lit (.int .i64 view)] S fun r' S' => r' = .ret (.lit (.int .i64 r)) ∧ S' = S := by
  refine AC_of tok mixed fits_conf_Primary fun d hd => ?_
  unfold c_conf_Primary
  show LW _ _ _ _ [(0, .agg [.lit (.int .i64 cx.U), .lit (.int .i64 cx.R), .lit (.int .i64 cx.Peers), .lit (.int .i64 cx.Window), .lit (.int .i64 cx.Every), .lit (.int .i64 cx.Patience), eS (lI .u8) cx.Secret]), (1, .lit (.int .i64 view))] (hp [] S) 0 _
  rw [s_conf_Primary] at h
  refine xseq [(1, .lit (.int .i64 view)), (2, .ptr (d, 0) 0)] (hp [((d, 0), .box [.lit (.int .i64 cx.U), .lit (.int .i64 cx.R), .lit (.int .i64 cx.Peers), .lit (.int .i64 cx.Window), .lit (.int .i64 cx.Every), .lit (.int .i64 cx.Patience), eS (lI .u8) cx.Secret])] S) 1 ?_ (fun k kp hk => ?_)
  · obtain ⟨v, hv, h⟩ := bd_some h
    refine xseq [(1, .lit (.int .i64 view)), (5, .lit (.int .i64 v))] (hp [((d, 0), .box [.lit (.int .i64 cx.U), .lit (.int .i64 cx.R), .lit (.int .i64 cx.Peers), .lit (.int .i64 cx.Window), .lit (.int .i64 cx.Every), .lit (.int .i64 cx.Patience), eS (lI .u8) cx.Secret])] S) 1 ?_ (fun k kp hk => ?_)
    · refine LW_seq ?_
      refine xseq [(1, .lit (.int .i64 view)), (5, .lit (.int .i64 v)), (13, .lit (.bool ((v == 0) || (decide (view < 0)))))] (hp [((d, 0), .box [.lit (.int .i64 cx.U), .lit (.int .i64 cx.R), .lit (.int .i64 cx.Peers), .lit (.int .i64 cx.Window), .lit (.int .i64 cx.Every), .lit (.int .i64 cx.Patience), eS (lI .u8) cx.Secret])] S) 1 ?_ (fun k kp hk => ?_)
      · refine xcond ((v == 0) || (decide (view < 0))) rfl (fun hc => ?_) (fun hc => ?_)
        · rw [ite_t hc] at h
          refine xseq [(4, .lit (.int .i64 0))] (hp [((d, 0), .box [.lit (.int .i64 cx.U), .lit (.int .i64 cx.R), .lit (.int .i64 cx.Peers), .lit (.int .i64 cx.Window), .lit (.int .i64 cx.Every), .lit (.int .i64 cx.Patience), eS (lI .u8) cx.Secret])] S) 1 ?_ (fun k kp hk => ?_)
          · refine LW_ret ?_
            obtain rfl := Option.some.inj h
            show FPost _ _ _ _ _ _ _
            exact ⟨_, hp_less (L := []) (D := [((d, 0), .box [.lit (.int .i64 cx.U), .lit (.int .i64 cx.R), .lit (.int .i64 cx.Peers), .lit (.int .i64 cx.Window), .lit (.int .i64 cx.Every), .lit (.int .i64 cx.Patience), eS (lI .u8) cx.Secret])]) (by intro p hp; simp only [List.mem_cons, List.not_mem_nil, or_false] at hp; rcases hp with rfl <;> first | exact hd _ (Nat.le_refl _)), rfl, rfl⟩
          · try simp only [go_sem, Prod.mk.injEq, reduceIte, Nat.reduceEqDiff, Nat.reduceAdd, Nat.reduceSub, Nat.reduceMul, Nat.reduceDiv, Nat.reducePow, Nat.reduceLT, Nat.reduceLeDiff, Nat.reduceBEq, Nat.reduceBneDiff, Int.reduceToNat, Int.reduceEq, Int.reduceLE, Int.reduceLT, reduceCtorEq]
            repeat (with_reducible refine And.intro ?_ ?_; next => first | assumption | trivial | omega | decide | (constructor <;> first | assumption | omega) | (simp [Keep.ok, hp_cons_apply, hset_cons]; done))
            refine hk _ _ _ ?_
            refine xghost (D := []) ?_ ?_ ?_ ?_
            · exact (.cons (Sub.of_eq rfl) .nil)
            · exact HpW.refl
            · exact (by intro p hp; cases hp)
            · omega
        · rw [ite_f hc] at h
          refine LW_skip ?_
          show LW _ _ _ _ _ _ _ _
          obtain ⟨hg, h⟩ := gd_some h
          refine xseq [(4, .lit (.int .i64 (Int.tmod view v)))] (hp [((d, 0), .box [.lit (.int .i64 cx.U), .lit (.int .i64 cx.R), .lit (.int .i64 cx.Peers), .lit (.int .i64 cx.Window), .lit (.int .i64 cx.Every), .lit (.int .i64 cx.Patience), eS (lI .u8) cx.Secret])] S) 1 ?_ (fun k kp hk => ?_)
          · refine LW_ret ?_
            obtain rfl := Option.some.inj h
            show FPost _ _ _ _ _ _ _
            exact ⟨_, hp_less (L := []) (D := [((d, 0), .box [.lit (.int .i64 cx.U), .lit (.int .i64 cx.R), .lit (.int .i64 cx.Peers), .lit (.int .i64 cx.Window), .lit (.int .i64 cx.Every), .lit (.int .i64 cx.Patience), eS (lI .u8) cx.Secret])]) (by intro p hp; simp only [List.mem_cons, List.not_mem_nil, or_false] at hp; rcases hp with rfl <;> first | exact hd _ (Nat.le_refl _)), rfl, rfl⟩
          · try simp only [go_sem, Prod.mk.injEq, reduceIte, Nat.reduceEqDiff, Nat.reduceAdd, Nat.reduceSub, Nat.reduceMul, Nat.reduceDiv, Nat.reducePow, Nat.reduceLT, Nat.reduceLeDiff, Nat.reduceBEq, Nat.reduceBneDiff, Int.reduceToNat, Int.reduceEq, Int.reduceLE, Int.reduceLT, reduceCtorEq]
            repeat (with_reducible refine And.intro ?_ ?_; next => first | assumption | trivial | omega | decide | (constructor <;> first | assumption | omega) | (simp [Keep.ok, hp_cons_apply, hset_cons]; done))
            refine hk _ _ _ ?_
            refine xghost (D := []) ?_ ?_ ?_ ?_
            · exact (.cons (Sub.of_eq rfl) .nil)
            · exact HpW.refl
            · exact (by intro p hp; cases hp)
            · omega
      · try simp only [go_sem, Prod.mk.injEq, reduceIte, Nat.reduceEqDiff, Nat.reduceAdd, Nat.reduceSub, Nat.reduceMul, Nat.reduceDiv, Nat.reducePow, Nat.reduceLT, Nat.reduceLeDiff, Nat.reduceBEq, Nat.reduceBneDiff, Int.reduceToNat, Int.reduceEq, Int.reduceLE, Int.reduceLT, reduceCtorEq]
        repeat (with_reducible refine And.intro ?_ ?_; next => first | assumption | trivial | omega | decide | (constructor <;> first | assumption | omega) | (simp [Keep.ok, hp_cons_apply, hset_cons]; done))
        refine xo_guard (v == 0) rfl (fun hc_1 => ?_) (fun hc_1 => ?_)
        · try simp only [go_sem, Prod.mk.injEq, reduceIte, Nat.reduceEqDiff, Nat.reduceAdd, Nat.reduceSub, Nat.reduceMul, Nat.reduceDiv, Nat.reducePow, Nat.reduceLT, Nat.reduceLeDiff, Nat.reduceBEq, Nat.reduceBneDiff, Int.reduceToNat, Int.reduceEq, Int.reduceLE, Int.reduceLT, reduceCtorEq, hc_1]
          repeat (with_reducible refine And.intro ?_ ?_; next => first | assumption | trivial | omega | decide | (constructor <;> first | assumption | omega) | (simp [Keep.ok, hp_cons_apply, hset_cons]; done))
          refine hk _ _ _ ?_
          refine xghost (D := []) ?_ ?_ ?_ ?_
          · exact (.cons (Sub.of_eq rfl) (.cons (Sub.of_eq rfl) (.cons (Sub.of_eq (by first | rfl | (simp only [sget_cons, reduceIte, Nat.reduceEqDiff, Bool.and_true, Bool.true_and, Bool.and_false, Bool.false_and, Bool.or_true, Bool.true_or, Bool.or_false, Bool.false_or, Bool.not_true, Bool.not_false, Bool.not_not, hc_1]; done))) .nil)))
          · exact HpW.refl
          · exact (by intro p hp; cases hp)
          · omega
        · try simp only [go_sem, Prod.mk.injEq, reduceIte, Nat.reduceEqDiff, Nat.reduceAdd, Nat.reduceSub, Nat.reduceMul, Nat.reduceDiv, Nat.reducePow, Nat.reduceLT, Nat.reduceLeDiff, Nat.reduceBEq, Nat.reduceBneDiff, Int.reduceToNat, Int.reduceEq, Int.reduceLE, Int.reduceLT, reduceCtorEq, hc_1]
          repeat (with_reducible refine And.intro ?_ ?_; next => first | assumption | trivial | omega | decide | (constructor <;> first | assumption | omega) | (simp [Keep.ok, hp_cons_apply, hset_cons]; done))
          refine hk _ _ _ ?_
          refine xghost (D := []) ?_ ?_ ?_ ?_
          · exact (.cons (Sub.of_eq rfl) (.cons (Sub.of_eq rfl) (.cons (Sub.of_eq (by first | rfl | (simp only [sget_cons, reduceIte, Nat.reduceEqDiff, Bool.and_true, Bool.true_and, Bool.and_false, Bool.false_and, Bool.or_true, Bool.true_or, Bool.or_false, Bool.false_or, Bool.not_true, Bool.not_false, Bool.not_not, hc_1]; done))) .nil)))
          · exact HpW.refl
          · exact (by intro p hp; cases hp)
          · omega
    · try simp only [go_sem, Prod.mk.injEq, reduceIte, Nat.reduceEqDiff, Nat.reduceAdd, Nat.reduceSub, Nat.reduceMul, Nat.reduceDiv, Nat.reducePow, Nat.reduceLT, Nat.reduceLeDiff, Nat.reduceBEq, Nat.reduceBneDiff, Int.reduceToNat, Int.reduceEq, Int.reduceLE, Int.reduceLT, reduceCtorEq]
      repeat (with_reducible refine And.intro ?_ ?_; next => first | assumption | trivial | omega | decide | (constructor <;> first | assumption | omega) | (simp [Keep.ok, hp_cons_apply, hset_cons]; done))
      have hcall := s_conf_Count_ok (hp [((d, 0), .box [.lit (.int .i64 cx.U), .lit (.int .i64 cx.R), .lit (.int .i64 cx.Peers), .lit (.int .i64 cx.Window), .lit (.int .i64 cx.Every), .lit (.int .i64 cx.Patience), eS (lI .u8) cx.Secret])] S) cx 2 hv
      refine call1_x hcall rfl ?_ ?_
      · exact (.cons Sub.refl (.cons Sub.refl .nil))
      clear hcall
      rintro _ SS ⟨rfl, hSS⟩ -
      rw [hSS]
      clear hSS
      try simp only [go_sem, Prod.mk.injEq, reduceIte, Nat.reduceEqDiff, Nat.reduceAdd, Nat.reduceSub, Nat.reduceMul, Nat.reduceDiv, Nat.reducePow, Nat.reduceLT, Nat.reduceLeDiff, Nat.reduceBEq, Nat.reduceBneDiff, Int.reduceToNat, Int.reduceEq, Int.reduceLE, Int.reduceLT, reduceCtorEq]
      repeat (with_reducible refine And.intro ?_ ?_; next => first | assumption | trivial | omega | decide | (constructor <;> first | assumption | omega) | (simp [Keep.ok, hp_cons_apply, hset_cons]; done))
      refine hk _ _ _ ?_
      refine xghost (D := []) ?_ ?_ ?_ ?_
      · exact (.cons (Sub.of_eq rfl) (.cons (Sub.of_eq rfl) .nil))
      · exact HpW.refl
      · exact (by intro p hp; cases hp)
      · omega
  · try simp only [go_sem, Prod.mk.injEq, reduceIte, Nat.reduceEqDiff, Nat.reduceAdd, Nat.reduceSub, Nat.reduceMul, Nat.reduceDiv, Nat.reducePow, Nat.reduceLT, Nat.reduceLeDiff, Nat.reduceBEq, Nat.reduceBneDiff, Int.reduceToNat, Int.reduceEq, Int.reduceLE, Int.reduceLT, reduceCtorEq]
    repeat (with_reducible refine And.intro ?_ ?_; next => first | assumption | trivial | omega | decide | (constructor <;> first | assumption | omega) | (simp [Keep.ok, hp_cons_apply, hset_cons]; done))
    refine hk _ _ _ ?_
    refine xghost (D := []) ?_ ?_ ?_ ?_
    · exact (.cons (Sub.of_eq rfl) (.cons (Sub.of_eq rfl) .nil))
    · exact HpW.refl
    · exact (by intro p hp; cases hp)
    · omega
end
end Go.Proofs.Ytejlgalnkblndaa
