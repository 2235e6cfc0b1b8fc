/- Go functions as Lean functions, and that their code does as these say. Printed by a program of this work. -/
import Derived.Test.YtejlgalnkblndaaXL
import Derived.Test.YtejlgalnkblndaaXb
import Derived.Test.YtejlgalnkblndaaXd
set_option linter.unusedVariables false
set_option linter.unusedSimpArgs false
set_option maxRecDepth 100000
set_option maxHeartbeats 4000000
namespace Go.Proofs.Ytejlgalnkblndaa
open Go Go.Al
noncomputable section
/-! stanchion/stanchionref00.CopyInts -/
def s_stanchionref00_CopyInts (s : List Int) : Option (List Int) :=
  gd (((0 + s.length) * 8 ≤ 140737488355328 ∧ 0 + s.length < 9223372036854775808)) (some s)
theorem s_stanchionref00_CopyInts_ok (S : AHeap) (s : List Int) {r : List Int} (h : s_stanchionref00_CopyInts s = some r) :
    AC Try.prog n_stanchionref00_CopyInts [eS (lI .i64) s] S fun r' S' => r' = .ret (eS (lI .i64) r) ∧ S' = S := by
  refine AC_of tok mixed fits_stanchionref00_CopyInts fun d hd => ?_
  unfold c_stanchionref00_CopyInts
  show LW _ _ _ _ [(0, eS (lI .i64) s)] (hp [] S) 0 _
  rw [s_stanchionref00_CopyInts] at h
  refine xseq [(0, eS (lI .i64) s)] (hp [] S) 0 ?_ (fun k kp hk => ?_)
  · refine xseq [(0, eS (lI .i64) s), (3, eT (lI .i64) (d, 0) [])] (hp [((d, 0), oT (lI .i64) [])] S) 1 ?_ (fun k kp hk => ?_)
    · obtain ⟨hg, h⟩ := gd_some h
      refine xseq [(3, eT (lI .i64) (d, 0) s)] (hp [((d, 0), oT (lI .i64) s)] S) 1 ?_ (fun k kp hk => ?_)
      · refine xseq [(2, eS (lI .i64) s)] (hp [((d, 0), oT (lI .i64) s)] S) 1 ?_ (fun k kp hk => ?_)
        · refine LW_ret ?_
          obtain rfl := Option.some.inj h
          show FPost _ _ _ _ _ _ _
          exact ⟨_, hp_less (L := []) (D := [((d, 0), oT (lI .i64) s)]) (by intro p hp; simp only [List.mem_cons, List.not_mem_nil, or_false] at hp; rcases hp with rfl <;> first | exact hd _ (Nat.le_refl _)), rfl, rfl⟩
        · try simp only [go_sem, Prod.mk.injEq, reduceIte, Nat.reduceEqDiff, Nat.reduceAdd, Nat.reduceSub, Nat.reduceMul, Nat.reduceDiv, Nat.reducePow, Nat.reduceLT, Nat.reduceLeDiff, Nat.reduceBEq, Nat.reduceBneDiff, Int.reduceToNat, Int.reduceEq, Int.reduceLE, Int.reduceLT, reduceCtorEq]
          repeat (with_reducible refine And.intro ?_ ?_; next => first | assumption | trivial | omega | decide | (constructor <;> first | assumption | omega) | (simp [Keep.ok, hp_cons_apply, hset_cons]; done))
          refine hk _ _ _ ?_
          refine xghost (D := []) ?_ ?_ ?_ ?_
          · exact (.cons Sub.tip .nil)
          · exact HpW.refl
          · exact (by intro p hp; cases hp)
          · omega
      · try simp only [go_sem, Prod.mk.injEq, reduceIte, Nat.reduceEqDiff, Nat.reduceAdd, Nat.reduceSub, Nat.reduceMul, Nat.reduceDiv, Nat.reducePow, Nat.reduceLT, Nat.reduceLeDiff, Nat.reduceBEq, Nat.reduceBneDiff, Int.reduceToNat, Int.reduceEq, Int.reduceLE, Int.reduceLT, reduceCtorEq]
        repeat (with_reducible refine And.intro ?_ ?_; next => first | assumption | trivial | omega | decide | (constructor <;> first | assumption | omega) | (simp [Keep.ok, hp_cons_apply, hset_cons]; done))
        refine append1_eT (L := (lI .i64)) (n := (d, 0)) (xs := []) (ys := s) T35 T35 T3 ?_ rfl ?_ asrc_eS ?_ rfl ?_ ?_
        · first | exact .inl rfl | exact .inr rfl
        · try simp only [go_sem, Prod.mk.injEq, reduceIte, Nat.reduceEqDiff, Nat.reduceAdd, Nat.reduceSub, Nat.reduceMul, Nat.reduceDiv, Nat.reducePow, Nat.reduceLT, Nat.reduceLeDiff, Nat.reduceBEq, Nat.reduceBneDiff, Int.reduceToNat, Int.reduceEq, Int.reduceLE, Int.reduceLT, reduceCtorEq]
        · exact ⟨trivial, rfl⟩
        · dsimp only [List.length]; omega
        try simp only [go_sem, Prod.mk.injEq, reduceIte, Nat.reduceEqDiff, Nat.reduceAdd, Nat.reduceSub, Nat.reduceMul, Nat.reduceDiv, Nat.reducePow, Nat.reduceLT, Nat.reduceLeDiff, Nat.reduceBEq, Nat.reduceBneDiff, Int.reduceToNat, Int.reduceEq, Int.reduceLE, Int.reduceLT, reduceCtorEq]
        repeat (with_reducible refine And.intro ?_ ?_; next => first | assumption | trivial | omega | decide | (constructor <;> first | assumption | omega) | (simp [Keep.ok, hp_cons_apply, hset_cons]; done))
        refine hk _ _ _ ?_
        refine xghost (D := []) ?_ ?_ ?_ ?_
        · exact (.cons (Sub.of_eq rfl) .nil)
        · exact HpW.refl
        · exact (by intro p hp; cases hp)
        · omega
    · try simp only [go_sem, Prod.mk.injEq, reduceIte, Nat.reduceEqDiff, Nat.reduceAdd, Nat.reduceSub, Nat.reduceMul, Nat.reduceDiv, Nat.reducePow, Nat.reduceLT, Nat.reduceLeDiff, Nat.reduceBEq, Nat.reduceBneDiff, Int.reduceToNat, Int.reduceEq, Int.reduceLE, Int.reduceLT, reduceCtorEq]
      repeat (with_reducible refine And.intro ?_ ?_; next => first | assumption | trivial | omega | decide | (constructor <;> first | assumption | omega) | (simp [Keep.ok, hp_cons_apply, hset_cons]; done))
      refine hk _ _ _ ?_
      refine Ghost.trans (xname (lI .i64) 3 Sub.refl) ?_
      try simp only [go_sem, Prod.mk.injEq, reduceIte, Nat.reduceEqDiff, Nat.reduceAdd, Nat.reduceSub, Nat.reduceMul, Nat.reduceDiv, Nat.reducePow, Nat.reduceLT, Nat.reduceLeDiff, Nat.reduceBEq, Nat.reduceBneDiff, Int.reduceToNat, Int.reduceEq, Int.reduceLE, Int.reduceLT, reduceCtorEq]
      refine xghost (D := []) ?_ ?_ ?_ ?_
      · exact (.cons (Sub.of_eq rfl) (.cons (Sub.of_eq rfl) .nil))
      · exact HpW.refl
      · exact (by intro p hp; cases hp)
      · omega
  · try simp only [go_sem, Prod.mk.injEq, reduceIte, Nat.reduceEqDiff, Nat.reduceAdd, Nat.reduceSub, Nat.reduceMul, Nat.reduceDiv, Nat.reducePow, Nat.reduceLT, Nat.reduceLeDiff, Nat.reduceBEq, Nat.reduceBneDiff, Int.reduceToNat, Int.reduceEq, Int.reduceLE, Int.reduceLT, reduceCtorEq]
    repeat (with_reducible refine And.intro ?_ ?_; next => first | assumption | trivial | omega | decide | (constructor <;> first | assumption | omega) | (simp [Keep.ok, hp_cons_apply, hset_cons]; done))
    refine hk _ _ _ ?_
    refine xghost (D := []) ?_ ?_ ?_ ?_
    · exact (.cons (Sub.of_eq rfl) .nil)
    · exact HpW.refl
    · exact (by intro p hp; cases hp)
    · omega
/-! stanchion/stanchionref06.Ids -/
def s_stanchionref06_Ids_b2 (cx : GapiConf) (roles : List Int) (i : Int) : (List GapiId × Int) → Option ((List GapiId × Int) ⊕ ((List GapiId × Int) ⊕ (List GapiId)))
  | (out_1, n) => gd ((0 ≤ i ∧ Int.toNat i < roles.length)) (bd (s_stanchionref06_Count cx (roles.getD (Int.toNat i) 0)) fun (v : Int) => if (decide (n < v)) = true then gd ((0 ≤ i ∧ Int.toNat i < roles.length)) (gd (((out_1.length + 1) * 16 ≤ 140737488355328 ∧ out_1.length + 1 < 9223372036854775808)) (some (.inl ((out_1 ++ [(GapiId.mk (roles.getD (Int.toNat i) 0) n)]), (IntKind.i64.wrap (n + 1)))))) else mr (some (.inl (out_1, (IntKind.i64.wrap (i + 1))))))
def s_stanchionref06_Ids_b1 (cx : GapiConf) (roles : List Int) : (List GapiId × Int) → Option ((List GapiId × Int) ⊕ (List GapiId))
  | (out, i) => if (decide (i < (roles.length : Int))) = true then loop (s_stanchionref06_Ids_b2 cx roles i) (out, 0) else mr (some out)
def s_stanchionref06_Ids (cx : GapiConf) (roles : List Int) : Option (List GapiId) :=
  loop (s_stanchionref06_Ids_b1 cx roles) ([], 0)
theorem s_stanchionref06_Ids_ok (S : AHeap) (cx : GapiConf) (roles : List Int) {r : List GapiId} (h : s_stanchionref06_Ids cx roles = some r) :
    AC Try.prog n_stanchionref06_Ids [.agg [.lit (.int .i64 cx.U), .lit (.int .i64 cx.R), .lit (.int .i64 cx.Peers), .lit (.int .i64 cx.Window), .lit (.int .i64 cx.Every), .lit (.int .i64 cx.Patience), eS (lI .u8) cx.Secret], eS (lI .i64) roles] S fun r' S' => r' = .ret (eS yGapiId r) ∧ S' = S := by
  refine AC_of tok mixed fits_stanchionref06_Ids fun d hd => ?_
  unfold c_stanchionref06_Ids
  show LW _ _ _ _ [(0, .agg [.lit (.int .i64 cx.U), .lit (.int .i64 cx.R), .lit (.int .i64 cx.Peers), .lit (.int .i64 cx.Window), .lit (.int .i64 cx.Every), .lit (.int .i64 cx.Patience), eS (lI .u8) cx.Secret]), (1, eS (lI .i64) roles)] (hp [] S) 0 _
  rw [s_stanchionref06_Ids] at h
  refine xseq [(1, eS (lI .i64) roles), (2, .ptr (d, 0) 0)] (hp [((d, 0), .box [.lit (.int .i64 cx.U), .lit (.int .i64 cx.R), .lit (.int .i64 cx.Peers), .lit (.int .i64 cx.Window), .lit (.int .i64 cx.Every), .lit (.int .i64 cx.Patience), eS (lI .u8) cx.Secret])] S) 1 ?_ (fun k kp hk => ?_)
  · refine xseq [(1, eS (lI .i64) roles), (2, .ptr (d, 0) 0), (5, eT yGapiId (d, 1) [])] (hp [((d, 0), .box [.lit (.int .i64 cx.U), .lit (.int .i64 cx.R), .lit (.int .i64 cx.Peers), .lit (.int .i64 cx.Window), .lit (.int .i64 cx.Every), .lit (.int .i64 cx.Patience), eS (lI .u8) cx.Secret]), ((d, 1), oT yGapiId [])] S) 2 ?_ (fun k kp hk => ?_)
    · refine LW_seq ?_
      refine xseq [(1, eS (lI .i64) roles), (2, .ptr (d, 0) 0), (5, eT yGapiId (d, 1) []), (6, .lit (.int .i64 0))] (hp [((d, 0), .box [.lit (.int .i64 cx.U), .lit (.int .i64 cx.R), .lit (.int .i64 cx.Peers), .lit (.int .i64 cx.Window), .lit (.int .i64 cx.Every), .lit (.int .i64 cx.Patience), eS (lI .u8) cx.Secret]), ((d, 1), oT yGapiId [])] S) 2 ?_ (fun k kp hk => ?_)
      · refine LW_block ?_
        refine LW_loopX (σ := List GapiId × Int) (s := ([], 0)) (fun zz => [(1, eS (lI .i64) roles), (2, .ptr (d, 0) 0), (5, eT yGapiId (d, 1) zz.1), (6, .lit (.int .i64 zz.2))]) (fun zz => (hp [((d, 0), .box [.lit (.int .i64 cx.U), .lit (.int .i64 cx.R), .lit (.int .i64 cx.Peers), .lit (.int .i64 cx.Window), .lit (.int .i64 cx.Every), .lit (.int .i64 cx.Patience), eS (lI .u8) cx.Secret]), ((d, 1), oT yGapiId zz.1)] S)) h ?_ ?_
        · clear h
          rintro ⟨out, i⟩ x1 d1 hd1 hf1 h hx1
          show LW _ _ _ _ [(1, eS (lI .i64) roles), (2, .ptr (d, 0) 0), (5, eT yGapiId (d, 1) out), (6, .lit (.int .i64 i))] (hp [((d, 0), .box [.lit (.int .i64 cx.U), .lit (.int .i64 cx.R), .lit (.int .i64 cx.Peers), .lit (.int .i64 cx.Window), .lit (.int .i64 cx.Every), .lit (.int .i64 cx.Patience), eS (lI .u8) cx.Secret]), ((d, 1), oT yGapiId out)] S) 0 _
          have hn1d : (d = d1) = False := by simp; omega
          have hm1d : (d1 = d) = False := by simp; omega
          rw [s_stanchionref06_Ids_b1] at h
          refine LW_seq ?_
          refine xseq [(1, eS (lI .i64) roles), (2, .ptr (d, 0) 0), (5, eT yGapiId (d, 1) out), (6, .lit (.int .i64 i)), (12, .lit (.bool (decide (i < (roles.length : Int)))))] (hp [((d, 0), .box [.lit (.int .i64 cx.U), .lit (.int .i64 cx.R), .lit (.int .i64 cx.Peers), .lit (.int .i64 cx.Window), .lit (.int .i64 cx.Every), .lit (.int .i64 cx.Patience), eS (lI .u8) cx.Secret]), ((d, 1), oT yGapiId out)] S) 0 ?_ (fun k kp hk => ?_)
          · refine xcond (decide (i < (roles.length : Int))) rfl (fun hc => ?_) (fun hc => ?_)
            · rw [ite_t hc] at h
              refine LW_skip ?_
              show LW _ _ _ _ _ _ _ _
              refine LW_seq ?_
              refine LW_block ?_
              refine xseq [(1, eS (lI .i64) roles), (2, .ptr (d, 0) 0), (5, eT yGapiId (d, 1) out), (6, .lit (.int .i64 i)), (7, .lit (.int .i64 0))] (hp [((d, 0), .box [.lit (.int .i64 cx.U), .lit (.int .i64 cx.R), .lit (.int .i64 cx.Peers), .lit (.int .i64 cx.Window), .lit (.int .i64 cx.Every), .lit (.int .i64 cx.Patience), eS (lI .u8) cx.Secret]), ((d, 1), oT yGapiId out)] S) 0 ?_ (fun k kp hk => ?_)
              · refine LW_block ?_
                refine LW_loopX (σ := List GapiId × Int) (s := (out, 0)) (fun zz => [(1, eS (lI .i64) roles), (2, .ptr (d, 0) 0), (5, eT yGapiId (d, 1) zz.1), (6, .lit (.int .i64 i)), (7, .lit (.int .i64 zz.2))]) (fun zz => (hp [((d, 0), .box [.lit (.int .i64 cx.U), .lit (.int .i64 cx.R), .lit (.int .i64 cx.Peers), .lit (.int .i64 cx.Window), .lit (.int .i64 cx.Every), .lit (.int .i64 cx.Patience), eS (lI .u8) cx.Secret]), ((d, 1), oT yGapiId zz.1)] S)) h ?_ ?_
                · clear h
                  rintro ⟨out_1, n⟩ x2 d2 hd2 hf2 h hx2
                  show LW _ _ _ _ [(1, eS (lI .i64) roles), (2, .ptr (d, 0) 0), (5, eT yGapiId (d, 1) out_1), (6, .lit (.int .i64 i)), (7, .lit (.int .i64 n))] (hp [((d, 0), .box [.lit (.int .i64 cx.U), .lit (.int .i64 cx.R), .lit (.int .i64 cx.Peers), .lit (.int .i64 cx.Window), .lit (.int .i64 cx.Every), .lit (.int .i64 cx.Patience), eS (lI .u8) cx.Secret]), ((d, 1), oT yGapiId out_1)] S) 0 _
                  have hn2d : (d = d2) = False := by simp; omega
                  have hm2d : (d2 = d) = False := by simp; omega
                  have hn2d1 : (d1 = d2) = False := by simp; omega
                  have hm2d1 : (d2 = d1) = False := by simp; omega
                  rw [s_stanchionref06_Ids_b2] at h
                  refine LW_seq ?_
                  obtain ⟨hg, h⟩ := gd_some h
                  obtain ⟨v, hv, h⟩ := bd_some h
                  refine xseqd [(1, eS (lI .i64) roles), (2, .ptr (d, 0) 0), (5, eT yGapiId (d, 1) out_1), (6, .lit (.int .i64 i)), (7, .lit (.int .i64 n)), (22, .lit (.bool (decide (n < v))))] (hp [((d, 0), .box [.lit (.int .i64 cx.U), .lit (.int .i64 cx.R), .lit (.int .i64 cx.Peers), .lit (.int .i64 cx.Window), .lit (.int .i64 cx.Every), .lit (.int .i64 cx.Patience), eS (lI .u8) cx.Secret]), ((d, 1), oT yGapiId out_1)] S) 0 ?_ (fun k kp hk => ?_)
                  · refine xcond (decide (n < v)) rfl (fun hc_1 => ?_) (fun hc_1 => ?_)
                    · rw [ite_t hc_1] at h
                      refine LW_skip ?_
                      show LW _ _ _ _ _ _ _ _
                      refine LW_seq ?_
                      refine LW_block ?_
                      obtain ⟨hg_1, h⟩ := gd_some h
                      obtain ⟨hg_2, h⟩ := gd_some h
                      refine xreg [(1, eS (lI .i64) roles), (2, .ptr (d, 0) 0), (5, eT yGapiId (d, 1) (out_1 ++ [(GapiId.mk (roles.getD (Int.toNat i) 0) n)])), (6, .lit (.int .i64 i)), (7, .lit (.int .i64 n))] (hp [((d, 0), .box [.lit (.int .i64 cx.U), .lit (.int .i64 cx.R), .lit (.int .i64 cx.Peers), .lit (.int .i64 cx.Window), .lit (.int .i64 cx.Every), .lit (.int .i64 cx.Patience), eS (lI .u8) cx.Secret]), ((d, 1), oT yGapiId (out_1 ++ [(GapiId.mk (roles.getD (Int.toNat i) 0) n)]))] S) 0 ?_ (fun k kp hk => ?_)
                      · show LW _ _ _ _ _ _ _ _
                        refine xreg [(1, eS (lI .i64) roles), (2, .ptr (d, 0) 0), (5, eT yGapiId (d, 1) (out_1 ++ [(GapiId.mk (roles.getD (Int.toNat i) 0) n)])), (6, .lit (.int .i64 i)), (7, .lit (.int .i64 (IntKind.i64.wrap (n + 1))))] (hp [((d, 0), .box [.lit (.int .i64 cx.U), .lit (.int .i64 cx.R), .lit (.int .i64 cx.Peers), .lit (.int .i64 cx.Window), .lit (.int .i64 cx.Every), .lit (.int .i64 cx.Patience), eS (lI .u8) cx.Secret]), ((d, 1), oT yGapiId (out_1 ++ [(GapiId.mk (roles.getD (Int.toNat i) 0) n)]))] S) 0 ?_ (fun k kp hk => ?_)
                        · cases h
                          exact ⟨rfl, Less.refl _⟩
                        · try simp only [go_sem, Prod.mk.injEq, reduceIte, Nat.reduceEqDiff, Nat.reduceAdd, Nat.reduceSub, Nat.reduceMul, Nat.reduceDiv, Nat.reducePow, Nat.reduceLT, Nat.reduceLeDiff, Nat.reduceBEq, Nat.reduceBneDiff, Int.reduceToNat, Int.reduceEq, Int.reduceLE, Int.reduceLT, reduceCtorEq, hn1d, hm1d, hn2d, hm2d, hn2d1, hm2d1]
                          repeat (with_reducible refine And.intro ?_ ?_; next => first | assumption | trivial | omega | decide | (constructor <;> first | assumption | omega) | (simp [Keep.ok, hp_cons_apply, hset_cons, hn1d, hm1d, hn2d, hm2d, hn2d1, hm2d1]; done))
                          refine hk _ _ _ ?_
                          refine xghost (D := []) ?_ ?_ ?_ ?_
                          · exact (.cons (Sub.of_eq rfl) (.cons (Sub.of_eq rfl) (.cons (Sub.of_eq rfl) (.cons (Sub.of_eq rfl) (.cons (Sub.of_eq rfl) .nil)))))
                          · exact HpW.refl
                          · exact (by intro p hp; cases hp)
                          · omega
                      · try simp only [go_sem, Prod.mk.injEq, reduceIte, Nat.reduceEqDiff, Nat.reduceAdd, Nat.reduceSub, Nat.reduceMul, Nat.reduceDiv, Nat.reducePow, Nat.reduceLT, Nat.reduceLeDiff, Nat.reduceBEq, Nat.reduceBneDiff, Int.reduceToNat, Int.reduceEq, Int.reduceLE, Int.reduceLT, reduceCtorEq, hn1d, hm1d, hn2d, hm2d, hn2d1, hm2d1]
                        repeat (with_reducible refine And.intro ?_ ?_; next => first | assumption | trivial | omega | decide | (constructor <;> first | assumption | omega) | (simp [Keep.ok, hp_cons_apply, hset_cons, hn1d, hm1d, hn2d, hm2d, hn2d1, hm2d1]; done))
                        refine append1_eT (L := yGapiId) (n := (d, 1)) (xs := out_1) (ys := [(GapiId.mk (roles.getD (Int.toNat i) 0) n)]) T37 T37 T26 ?_ rfl ?_ asrc_row ?_ rfl ?_ ?_
                        · first | exact .inl rfl | exact .inr rfl
                        · try simp only [go_sem, Prod.mk.injEq, reduceIte, Nat.reduceEqDiff, Nat.reduceAdd, Nat.reduceSub, Nat.reduceMul, Nat.reduceDiv, Nat.reducePow, Nat.reduceLT, Nat.reduceLeDiff, Nat.reduceBEq, Nat.reduceBneDiff, Int.reduceToNat, Int.reduceEq, Int.reduceLE, Int.reduceLT, reduceCtorEq, hn1d, hm1d, hn2d, hm2d, hn2d1, hm2d1]
                        · exact ⟨trivial, rfl⟩
                        · dsimp only [List.length]; omega
                        try simp only [go_sem, Prod.mk.injEq, reduceIte, Nat.reduceEqDiff, Nat.reduceAdd, Nat.reduceSub, Nat.reduceMul, Nat.reduceDiv, Nat.reducePow, Nat.reduceLT, Nat.reduceLeDiff, Nat.reduceBEq, Nat.reduceBneDiff, Int.reduceToNat, Int.reduceEq, Int.reduceLE, Int.reduceLT, reduceCtorEq, hn1d, hm1d, hn2d, hm2d, hn2d1, hm2d1]
                        repeat (with_reducible refine And.intro ?_ ?_; next => first | assumption | trivial | omega | decide | (constructor <;> first | assumption | omega) | (simp [Keep.ok, hp_cons_apply, hset_cons, hn1d, hm1d, hn2d, hm2d, hn2d1, hm2d1]; done))
                        refine hk _ _ _ ?_
                        refine xghost (D := []) ?_ ?_ ?_ ?_
                        · exact (.cons (Sub.of_eq rfl) (.cons (Sub.of_eq rfl) (.cons (Sub.of_eq rfl) (.cons (Sub.of_eq rfl) (.cons (Sub.of_eq rfl) .nil)))))
                        · exact HpW.refl
                        · exact (by intro p hp; cases hp)
                        · omega
                    · rw [ite_f hc_1] at h
                      obtain ⟨hq, hxe⟩ := mr_go h hx2
                      clear h hx2
                      subst hxe
                      have h := hq
                      clear hq
                      refine LW_exitX (sl' := [(1, eS (lI .i64) roles), (2, .ptr (d, 0) 0), (5, eT yGapiId (d, 1) out_1), (6, .lit (.int .i64 i)), (7, .lit (.int .i64 n)), (22, .lit (.bool (decide (n < v))))]) (S' := (hp [((d, 0), .box [.lit (.int .i64 cx.U), .lit (.int .i64 cx.R), .lit (.int .i64 cx.Peers), .lit (.int .i64 cx.Window), .lit (.int .i64 cx.Every), .lit (.int .i64 cx.Patience), eS (lI .u8) cx.Secret]), ((d, 1), oT yGapiId out_1)] S)) (c' := 0) ?_ ?_
                      · refine xghost (D := []) ?_ ?_ ?_ ?_
                        · exact (.cons (Sub.of_eq rfl) (.cons (Sub.of_eq rfl) (.cons (Sub.of_eq rfl) (.cons (Sub.of_eq rfl) (.cons (Sub.of_eq rfl) (.cons (Sub.of_eq rfl) .nil))))))
                        · exact HpW.refl
                        · exact (by intro p hp; cases hp)
                        · omega
                      · show LW _ _ _ _ _ _ _ _
                        refine xreg [(1, eS (lI .i64) roles), (2, .ptr (d, 0) 0), (5, eT yGapiId (d, 1) out_1), (6, .lit (.int .i64 (IntKind.i64.wrap (i + 1))))] (hp [((d, 0), .box [.lit (.int .i64 cx.U), .lit (.int .i64 cx.R), .lit (.int .i64 cx.Peers), .lit (.int .i64 cx.Window), .lit (.int .i64 cx.Every), .lit (.int .i64 cx.Patience), eS (lI .u8) cx.Secret]), ((d, 1), oT yGapiId out_1)] S) 0 ?_ (fun k kp hk => ?_)
                        · cases h
                          exact ⟨rfl, Less.refl _⟩
                        · try simp only [go_sem, Prod.mk.injEq, reduceIte, Nat.reduceEqDiff, Nat.reduceAdd, Nat.reduceSub, Nat.reduceMul, Nat.reduceDiv, Nat.reducePow, Nat.reduceLT, Nat.reduceLeDiff, Nat.reduceBEq, Nat.reduceBneDiff, Int.reduceToNat, Int.reduceEq, Int.reduceLE, Int.reduceLT, reduceCtorEq, hn1d, hm1d, hn2d, hm2d, hn2d1, hm2d1]
                          repeat (with_reducible refine And.intro ?_ ?_; next => first | assumption | trivial | omega | decide | (constructor <;> first | assumption | omega) | (simp [Keep.ok, hp_cons_apply, hset_cons, hn1d, hm1d, hn2d, hm2d, hn2d1, hm2d1]; done))
                          refine hk _ _ _ ?_
                          refine xghost (D := []) ?_ ?_ ?_ ?_
                          · exact (.cons (Sub.of_eq rfl) (.cons (Sub.of_eq rfl) (.cons (Sub.of_eq rfl) (.cons (Sub.of_eq rfl) .nil))))
                          · exact HpW.refl
                          · exact (by intro p hp; cases hp)
                          · omega
                  · try simp only [go_sem, Prod.mk.injEq, reduceIte, Nat.reduceEqDiff, Nat.reduceAdd, Nat.reduceSub, Nat.reduceMul, Nat.reduceDiv, Nat.reducePow, Nat.reduceLT, Nat.reduceLeDiff, Nat.reduceBEq, Nat.reduceBneDiff, Int.reduceToNat, Int.reduceEq, Int.reduceLE, Int.reduceLT, reduceCtorEq, hn1d, hm1d, hn2d, hm2d, hn2d1, hm2d1]
                    repeat (with_reducible refine And.intro ?_ ?_; next => first | assumption | trivial | omega | decide | (constructor <;> first | assumption | omega) | (simp [Keep.ok, hp_cons_apply, hset_cons, hn1d, hm1d, hn2d, hm2d, hn2d1, hm2d1]; done))
                    have hcall := s_stanchionref06_Count_ok (hp [((d, 0), .box [.lit (.int .i64 cx.U), .lit (.int .i64 cx.R), .lit (.int .i64 cx.Peers), .lit (.int .i64 cx.Window), .lit (.int .i64 cx.Every), .lit (.int .i64 cx.Patience), eS (lI .u8) cx.Secret]), ((d, 1), oT yGapiId out_1)] S) cx (roles.getD (Int.toNat i) 0) hv
                    refine call1_x hcall rfl ?_ ?_
                    · exact (.cons Sub.refl (.cons Sub.refl .nil))
                    clear hcall
                    rintro _ SS ⟨rfl, hSS⟩ -
                    rw [hSS]
                    clear hSS
                    try simp only [go_sem, Prod.mk.injEq, reduceIte, Nat.reduceEqDiff, Nat.reduceAdd, Nat.reduceSub, Nat.reduceMul, Nat.reduceDiv, Nat.reducePow, Nat.reduceLT, Nat.reduceLeDiff, Nat.reduceBEq, Nat.reduceBneDiff, Int.reduceToNat, Int.reduceEq, Int.reduceLE, Int.reduceLT, reduceCtorEq, hn1d, hm1d, hn2d, hm2d, hn2d1, hm2d1]
                    repeat (with_reducible refine And.intro ?_ ?_; next => first | assumption | trivial | omega | decide | (constructor <;> first | assumption | omega) | (simp [Keep.ok, hp_cons_apply, hset_cons, hn1d, hm1d, hn2d, hm2d, hn2d1, hm2d1]; done))
                    try simp only [go_sem, Prod.mk.injEq, reduceIte, Nat.reduceEqDiff, Nat.reduceAdd, Nat.reduceSub, Nat.reduceMul, Nat.reduceDiv, Nat.reducePow, Nat.reduceLT, Nat.reduceLeDiff, Nat.reduceBEq, Nat.reduceBneDiff, Int.reduceToNat, Int.reduceEq, Int.reduceLE, Int.reduceLT, reduceCtorEq, hn1d, hm1d, hn2d, hm2d, hn2d1, hm2d1]
                    repeat (with_reducible refine And.intro ?_ ?_; next => first | assumption | trivial | omega | decide | (constructor <;> first | assumption | omega) | (simp [Keep.ok, hp_cons_apply, hset_cons, hn1d, hm1d, hn2d, hm2d, hn2d1, hm2d1]; done))
                    refine hk _ _ _ ?_
                    refine xghost (D := []) ?_ ?_ ?_ ?_
                    · exact (.cons (Sub.of_eq rfl) (.cons (Sub.of_eq rfl) (.cons (Sub.of_eq rfl) (.cons (Sub.of_eq rfl) (.cons (Sub.of_eq rfl) (.cons (Sub.of_eq rfl) .nil))))))
                    · exact HpW.refl
                    · exact (by intro p hp; cases hp)
                    · omega
                · refine xghost (D := []) ?_ ?_ ?_ ?_
                  · exact (.cons (Sub.of_eq rfl) (.cons (Sub.of_eq rfl) (.cons (Sub.of_eq rfl) (.cons (Sub.of_eq rfl) (.cons (Sub.of_eq rfl) .nil)))))
                  · exact HpW.refl
                  · exact (by intro p hp; cases hp)
                  · omega
              · try simp only [go_sem, Prod.mk.injEq, reduceIte, Nat.reduceEqDiff, Nat.reduceAdd, Nat.reduceSub, Nat.reduceMul, Nat.reduceDiv, Nat.reducePow, Nat.reduceLT, Nat.reduceLeDiff, Nat.reduceBEq, Nat.reduceBneDiff, Int.reduceToNat, Int.reduceEq, Int.reduceLE, Int.reduceLT, reduceCtorEq, hn1d, hm1d]
                repeat (with_reducible refine And.intro ?_ ?_; next => first | assumption | trivial | omega | decide | (constructor <;> first | assumption | omega) | (simp [Keep.ok, hp_cons_apply, hset_cons, hn1d, hm1d]; done))
                refine hk _ _ _ ?_
                refine xghost (D := []) ?_ ?_ ?_ ?_
                · exact (.cons (Sub.of_eq rfl) (.cons (Sub.of_eq rfl) (.cons (Sub.of_eq rfl) (.cons (Sub.of_eq rfl) (.cons (Sub.of_eq rfl) .nil)))))
                · exact HpW.refl
                · exact (by intro p hp; cases hp)
                · omega
            · rw [ite_f hc] at h
              obtain ⟨hq, hxe⟩ := mr_go h hx1
              clear h hx1
              subst hxe
              have h := hq
              clear hq
              refine LW_exitX (sl' := [(1, eS (lI .i64) roles), (2, .ptr (d, 0) 0), (5, eT yGapiId (d, 1) out), (6, .lit (.int .i64 i)), (12, .lit (.bool (decide (i < (roles.length : Int)))))]) (S' := (hp [((d, 0), .box [.lit (.int .i64 cx.U), .lit (.int .i64 cx.R), .lit (.int .i64 cx.Peers), .lit (.int .i64 cx.Window), .lit (.int .i64 cx.Every), .lit (.int .i64 cx.Patience), eS (lI .u8) cx.Secret]), ((d, 1), oT yGapiId out)] S)) (c' := 0) ?_ ?_
              · refine xghost (D := []) ?_ ?_ ?_ ?_
                · exact (.cons (Sub.of_eq rfl) (.cons (Sub.of_eq rfl) (.cons (Sub.of_eq rfl) (.cons (Sub.of_eq rfl) (.cons (Sub.of_eq rfl) .nil)))))
                · exact HpW.refl
                · exact (by intro p hp; cases hp)
                · omega
              · show LW _ _ _ _ _ _ _ _
                refine xseq [(4, eS yGapiId out)] (hp [((d, 0), .box [.lit (.int .i64 cx.U), .lit (.int .i64 cx.R), .lit (.int .i64 cx.Peers), .lit (.int .i64 cx.Window), .lit (.int .i64 cx.Every), .lit (.int .i64 cx.Patience), eS (lI .u8) cx.Secret]), ((d, 1), oT yGapiId out)] S) 2 ?_ (fun k kp hk => ?_)
                · refine LW_ret ?_
                  obtain rfl := Option.some.inj h
                  show FPost _ _ _ _ _ _ _
                  exact ⟨_, hp_less (L := []) (D := [((d, 0), .box [.lit (.int .i64 cx.U), .lit (.int .i64 cx.R), .lit (.int .i64 cx.Peers), .lit (.int .i64 cx.Window), .lit (.int .i64 cx.Every), .lit (.int .i64 cx.Patience), eS (lI .u8) cx.Secret]), ((d, 1), oT yGapiId out)]) (by intro p hp; simp only [List.mem_cons, List.not_mem_nil, or_false] at hp; rcases hp with rfl | rfl <;> first | exact hd _ (Nat.le_refl _)), rfl, rfl⟩
                · try simp only [go_sem, Prod.mk.injEq, reduceIte, Nat.reduceEqDiff, Nat.reduceAdd, Nat.reduceSub, Nat.reduceMul, Nat.reduceDiv, Nat.reducePow, Nat.reduceLT, Nat.reduceLeDiff, Nat.reduceBEq, Nat.reduceBneDiff, Int.reduceToNat, Int.reduceEq, Int.reduceLE, Int.reduceLT, reduceCtorEq, hn1d, hm1d]
                  repeat (with_reducible refine And.intro ?_ ?_; next => first | assumption | trivial | omega | decide | (constructor <;> first | assumption | omega) | (simp [Keep.ok, hp_cons_apply, hset_cons, hn1d, hm1d]; done))
                  refine hk _ _ _ ?_
                  refine xghost (D := []) ?_ ?_ ?_ ?_
                  · exact (.cons Sub.tip .nil)
                  · exact HpW.refl
                  · exact (by intro p hp; cases hp)
                  · omega
          · try simp only [go_sem, Prod.mk.injEq, reduceIte, Nat.reduceEqDiff, Nat.reduceAdd, Nat.reduceSub, Nat.reduceMul, Nat.reduceDiv, Nat.reducePow, Nat.reduceLT, Nat.reduceLeDiff, Nat.reduceBEq, Nat.reduceBneDiff, Int.reduceToNat, Int.reduceEq, Int.reduceLE, Int.reduceLT, reduceCtorEq, hn1d, hm1d]
            repeat (with_reducible refine And.intro ?_ ?_; next => first | assumption | trivial | omega | decide | (constructor <;> first | assumption | omega) | (simp [Keep.ok, hp_cons_apply, hset_cons, hn1d, hm1d]; done))
            refine hk _ _ _ ?_
            refine xghost (D := []) ?_ ?_ ?_ ?_
            · exact (.cons (Sub.of_eq rfl) (.cons (Sub.of_eq rfl) (.cons (Sub.of_eq rfl) (.cons (Sub.of_eq rfl) (.cons (Sub.of_eq rfl) .nil)))))
            · exact HpW.refl
            · exact (by intro p hp; cases hp)
            · omega
        · refine xghost (D := []) ?_ ?_ ?_ ?_
          · exact (.cons (Sub.of_eq rfl) (.cons (Sub.of_eq rfl) (.cons (Sub.of_eq rfl) (.cons (Sub.of_eq rfl) .nil))))
          · exact HpW.refl
          · exact (by intro p hp; cases hp)
          · omega
      · try simp only [go_sem, Prod.mk.injEq, reduceIte, Nat.reduceEqDiff, Nat.reduceAdd, Nat.reduceSub, Nat.reduceMul, Nat.reduceDiv, Nat.reducePow, Nat.reduceLT, Nat.reduceLeDiff, Nat.reduceBEq, Nat.reduceBneDiff, Int.reduceToNat, Int.reduceEq, Int.reduceLE, Int.reduceLT, reduceCtorEq]
        repeat (with_reducible refine And.intro ?_ ?_; next => first | assumption | trivial | omega | decide | (constructor <;> first | assumption | omega) | (simp [Keep.ok, hp_cons_apply, hset_cons]; done))
        refine hk _ _ _ ?_
        refine xghost (D := []) ?_ ?_ ?_ ?_
        · exact (.cons (Sub.of_eq rfl) (.cons (Sub.of_eq rfl) (.cons (Sub.of_eq rfl) (.cons (Sub.of_eq rfl) .nil))))
        · exact HpW.refl
        · exact (by intro p hp; cases hp)
        · omega
    · try simp only [go_sem, Prod.mk.injEq, reduceIte, Nat.reduceEqDiff, Nat.reduceAdd, Nat.reduceSub, Nat.reduceMul, Nat.reduceDiv, Nat.reducePow, Nat.reduceLT, Nat.reduceLeDiff, Nat.reduceBEq, Nat.reduceBneDiff, Int.reduceToNat, Int.reduceEq, Int.reduceLE, Int.reduceLT, reduceCtorEq]
      repeat (with_reducible refine And.intro ?_ ?_; next => first | assumption | trivial | omega | decide | (constructor <;> first | assumption | omega) | (simp [Keep.ok, hp_cons_apply, hset_cons]; done))
      refine hk _ _ _ ?_
      refine Ghost.trans (xname yGapiId 5 Sub.refl) ?_
      try simp only [go_sem, Prod.mk.injEq, reduceIte, Nat.reduceEqDiff, Nat.reduceAdd, Nat.reduceSub, Nat.reduceMul, Nat.reduceDiv, Nat.reducePow, Nat.reduceLT, Nat.reduceLeDiff, Nat.reduceBEq, Nat.reduceBneDiff, Int.reduceToNat, Int.reduceEq, Int.reduceLE, Int.reduceLT, reduceCtorEq]
      refine xghost (D := []) ?_ ?_ ?_ ?_
      · exact (.cons (Sub.of_eq rfl) (.cons (Sub.of_eq rfl) (.cons (Sub.of_eq rfl) .nil)))
      · exact HpW.refl
      · exact (by intro p hp; cases hp)
      · omega
  · try simp only [go_sem, Prod.mk.injEq, reduceIte, Nat.reduceEqDiff, Nat.reduceAdd, Nat.reduceSub, Nat.reduceMul, Nat.reduceDiv, Nat.reducePow, Nat.reduceLT, Nat.reduceLeDiff, Nat.reduceBEq, Nat.reduceBneDiff, Int.reduceToNat, Int.reduceEq, Int.reduceLE, Int.reduceLT, reduceCtorEq]
    repeat (with_reducible refine And.intro ?_ ?_; next => first | assumption | trivial | omega | decide | (constructor <;> first | assumption | omega) | (simp [Keep.ok, hp_cons_apply, hset_cons]; done))
    refine hk _ _ _ ?_
    refine xghost (D := []) ?_ ?_ ?_ ?_
    · exact (.cons (Sub.of_eq rfl) (.cons (Sub.of_eq rfl) .nil))
    · exact HpW.refl
    · exact (by intro p hp; cases hp)
    · omega
/-! stanchion/stanchionref00.SameInts -/
def s_stanchionref00_SameInts_b1 (a : List Int) (b : List Int) : Int → Option ((Int) ⊕ Bool)
  | i => if (decide (i < (a.length : Int))) = true then gd ((0 ≤ i ∧ Int.toNat i < a.length)) (gd ((0 ≤ i ∧ Int.toNat i < b.length)) (if ((a.getD (Int.toNat i) 0) != (b.getD (Int.toNat i) 0)) = true then mr (some false) else some (.inl (IntKind.i64.wrap (i + 1))))) else mr (some true)
def s_stanchionref00_SameInts (a : List Int) (b : List Int) : Option Bool :=
  if ((a.length : Int) != (b.length : Int)) = true then some false else loop (s_stanchionref00_SameInts_b1 a b) 0
theorem s_stanchionref00_SameInts_ok (S : AHeap) (a : List Int) (b : List Int) {r : Bool} (h : s_stanchionref00_SameInts a b = some r) :
    AC Try.prog n_stanchionref00_SameInts [eS (lI .i64) a, eS (lI .i64) b] S fun r' S' => r' = .ret (.lit (.bool r)) ∧ S' = S := by
  refine AC_of tok mixed fits_stanchionref00_SameInts fun d hd => ?_
  unfold c_stanchionref00_SameInts
  show LW _ _ _ _ [(0, eS (lI .i64) a), (1, eS (lI .i64) b)] (hp [] S) 0 _
  rw [s_stanchionref00_SameInts] at h
  refine xseq [(0, eS (lI .i64) a), (1, eS (lI .i64) b)] (hp [] S) 0 ?_ (fun k kp hk => ?_)
  · refine LW_seq ?_
    refine xseq [(0, eS (lI .i64) a), (1, eS (lI .i64) b), (10, .lit (.bool ((a.length : Int) != (b.length : Int))))] (hp [] S) 0 ?_ (fun k kp hk => ?_)
    · refine xcond ((a.length : Int) != (b.length : Int)) rfl (fun hc => ?_) (fun hc => ?_)
      · rw [ite_t hc] at h
        refine xseq [(4, .lit (.bool false))] (hp [] S) 0 ?_ (fun k kp hk => ?_)
        · refine LW_ret ?_
          obtain rfl := Option.some.inj h
          show FPost _ _ _ _ _ _ _
          exact ⟨_, hp_less (L := []) (D := []) (by intro p hp; cases hp), rfl, rfl⟩
        · try simp only [go_sem, Prod.mk.injEq, reduceIte, Nat.reduceEqDiff, Nat.reduceAdd, Nat.reduceSub, Nat.reduceMul, Nat.reduceDiv, Nat.reducePow, Nat.reduceLT, Nat.reduceLeDiff, Nat.reduceBEq, Nat.reduceBneDiff, Int.reduceToNat, Int.reduceEq, Int.reduceLE, Int.reduceLT, reduceCtorEq]
          repeat (with_reducible refine And.intro ?_ ?_; next => first | assumption | trivial | omega | decide | (constructor <;> first | assumption | omega) | (simp [Keep.ok, hp_cons_apply, hset_cons]; done))
          refine hk _ _ _ ?_
          refine xghost (D := []) ?_ ?_ ?_ ?_
          · exact (.cons (Sub.of_eq rfl) .nil)
          · exact HpW.refl
          · exact (by intro p hp; cases hp)
          · omega
      · rw [ite_f hc] at h
        refine LW_skip ?_
        show LW _ _ _ _ _ _ _ _
        refine LW_seq ?_
        refine xseq [(0, eS (lI .i64) a), (1, eS (lI .i64) b), (5, .lit (.int .i64 0))] (hp [] S) 0 ?_ (fun k kp hk => ?_)
        · refine LW_block ?_
          refine LW_loopX (σ := Int) (s := 0) (fun zz => [(0, eS (lI .i64) a), (1, eS (lI .i64) b), (5, .lit (.int .i64 zz))]) (fun zz => (hp [] S)) h ?_ ?_
          · clear h
            rintro i x1 d1 hd1 hf1 h hx1
            show LW _ _ _ _ [(0, eS (lI .i64) a), (1, eS (lI .i64) b), (5, .lit (.int .i64 i))] (hp [] S) 0 _
            have hn1d : (d = d1) = False := by simp; omega
            have hm1d : (d1 = d) = False := by simp; omega
            rw [s_stanchionref00_SameInts_b1] at h
            refine LW_seq ?_
            refine xseq [(0, eS (lI .i64) a), (1, eS (lI .i64) b), (5, .lit (.int .i64 i)), (14, .lit (.bool (decide (i < (a.length : Int)))))] (hp [] S) 0 ?_ (fun k kp hk => ?_)
            · refine xcond (decide (i < (a.length : Int))) rfl (fun hc_1 => ?_) (fun hc_1 => ?_)
              · rw [ite_t hc_1] at h
                refine LW_skip ?_
                show LW _ _ _ _ _ _ _ _
                refine LW_seq ?_
                refine LW_block ?_
                obtain ⟨hg, h⟩ := gd_some h
                obtain ⟨hg_1, h⟩ := gd_some h
                refine xseqd [(0, eS (lI .i64) a), (1, eS (lI .i64) b), (5, .lit (.int .i64 i)), (25, .lit (.bool ((a.getD (Int.toNat i) 0) != (b.getD (Int.toNat i) 0))))] (hp [] S) 0 ?_ (fun k kp hk => ?_)
                · refine xcond ((a.getD (Int.toNat i) 0) != (b.getD (Int.toNat i) 0)) rfl (fun hc_2 => ?_) (fun hc_2 => ?_)
                  · rw [ite_t hc_2] at h
                    refine xseq [(0, eS (lI .i64) a), (1, eS (lI .i64) b), (4, .lit (.bool false)), (5, .lit (.int .i64 i))] (hp [] S) 0 ?_ (fun k kp hk => ?_)
                    · obtain ⟨hq, hxe⟩ := mr_go h hx1
                      clear h hx1
                      subst hxe
                      have h := hq
                      clear hq
                      refine LW_retX (sl' := [(4, .lit (.bool false))]) (S' := (hp [] S)) (c' := 0) ?_ ?_
                      · refine xghost (D := []) ?_ ?_ ?_ ?_
                        · exact (.cons (Sub.of_eq rfl) .nil)
                        · exact HpW.refl
                        · exact (by intro p hp; cases hp)
                        · omega
                      · obtain rfl := Option.some.inj h
                        show FPost _ _ _ _ _ _ _
                        exact ⟨_, hp_less (L := []) (D := []) (by intro p hp; cases hp), rfl, rfl⟩
                    · try simp only [go_sem, Prod.mk.injEq, reduceIte, Nat.reduceEqDiff, Nat.reduceAdd, Nat.reduceSub, Nat.reduceMul, Nat.reduceDiv, Nat.reducePow, Nat.reduceLT, Nat.reduceLeDiff, Nat.reduceBEq, Nat.reduceBneDiff, Int.reduceToNat, Int.reduceEq, Int.reduceLE, Int.reduceLT, reduceCtorEq, hn1d, hm1d]
                      repeat (with_reducible refine And.intro ?_ ?_; next => first | assumption | trivial | omega | decide | (constructor <;> first | assumption | omega) | (simp [Keep.ok, hp_cons_apply, hset_cons, hn1d, hm1d]; done))
                      refine hk _ _ _ ?_
                      refine xghost (D := []) ?_ ?_ ?_ ?_
                      · exact (.cons (Sub.of_eq rfl) (.cons (Sub.of_eq rfl) (.cons (Sub.of_eq rfl) (.cons (Sub.of_eq rfl) .nil))))
                      · exact HpW.refl
                      · exact (by intro p hp; cases hp)
                      · omega
                  · rw [ite_f hc_2] at h
                    refine LW_skip ?_
                    show LW _ _ _ _ _ _ _ _
                    refine xreg [(0, eS (lI .i64) a), (1, eS (lI .i64) b), (5, .lit (.int .i64 (IntKind.i64.wrap (i + 1))))] (hp [] S) 0 ?_ (fun k kp hk => ?_)
                    · cases h
                      exact ⟨rfl, Less.refl _⟩
                    · try simp only [go_sem, Prod.mk.injEq, reduceIte, Nat.reduceEqDiff, Nat.reduceAdd, Nat.reduceSub, Nat.reduceMul, Nat.reduceDiv, Nat.reducePow, Nat.reduceLT, Nat.reduceLeDiff, Nat.reduceBEq, Nat.reduceBneDiff, Int.reduceToNat, Int.reduceEq, Int.reduceLE, Int.reduceLT, reduceCtorEq, hn1d, hm1d]
                      repeat (with_reducible refine And.intro ?_ ?_; next => first | assumption | trivial | omega | decide | (constructor <;> first | assumption | omega) | (simp [Keep.ok, hp_cons_apply, hset_cons, hn1d, hm1d]; done))
                      refine hk _ _ _ ?_
                      refine xghost (D := []) ?_ ?_ ?_ ?_
                      · exact (.cons (Sub.of_eq rfl) (.cons (Sub.of_eq rfl) (.cons (Sub.of_eq rfl) .nil)))
                      · exact HpW.refl
                      · exact (by intro p hp; cases hp)
                      · omega
                · try simp only [go_sem, Prod.mk.injEq, reduceIte, Nat.reduceEqDiff, Nat.reduceAdd, Nat.reduceSub, Nat.reduceMul, Nat.reduceDiv, Nat.reducePow, Nat.reduceLT, Nat.reduceLeDiff, Nat.reduceBEq, Nat.reduceBneDiff, Int.reduceToNat, Int.reduceEq, Int.reduceLE, Int.reduceLT, reduceCtorEq, hn1d, hm1d]
                  repeat (with_reducible refine And.intro ?_ ?_; next => first | assumption | trivial | omega | decide | (constructor <;> first | assumption | omega) | (simp [Keep.ok, hp_cons_apply, hset_cons, hn1d, hm1d]; done))
                  refine hk _ _ _ ?_
                  refine xghost (D := []) ?_ ?_ ?_ ?_
                  · exact (.cons (Sub.of_eq rfl) (.cons (Sub.of_eq rfl) (.cons (Sub.of_eq rfl) (.cons (Sub.of_eq rfl) .nil))))
                  · exact HpW.refl
                  · exact (by intro p hp; cases hp)
                  · omega
              · rw [ite_f hc_1] at h
                obtain ⟨hq, hxe⟩ := mr_go h hx1
                clear h hx1
                subst hxe
                have h := hq
                clear hq
                refine LW_exitX (sl' := [(0, eS (lI .i64) a), (1, eS (lI .i64) b), (5, .lit (.int .i64 i)), (14, .lit (.bool (decide (i < (a.length : Int)))))]) (S' := (hp [] S)) (c' := 0) ?_ ?_
                · refine xghost (D := []) ?_ ?_ ?_ ?_
                  · exact (.cons (Sub.of_eq rfl) (.cons (Sub.of_eq rfl) (.cons (Sub.of_eq rfl) (.cons (Sub.of_eq rfl) .nil))))
                  · exact HpW.refl
                  · exact (by intro p hp; cases hp)
                  · omega
                · show LW _ _ _ _ _ _ _ _
                  refine xseq [(4, .lit (.bool true))] (hp [] S) 0 ?_ (fun k kp hk => ?_)
                  · refine LW_ret ?_
                    obtain rfl := Option.some.inj h
                    show FPost _ _ _ _ _ _ _
                    exact ⟨_, hp_less (L := []) (D := []) (by intro p hp; cases hp), rfl, rfl⟩
                  · try simp only [go_sem, Prod.mk.injEq, reduceIte, Nat.reduceEqDiff, Nat.reduceAdd, Nat.reduceSub, Nat.reduceMul, Nat.reduceDiv, Nat.reducePow, Nat.reduceLT, Nat.reduceLeDiff, Nat.reduceBEq, Nat.reduceBneDiff, Int.reduceToNat, Int.reduceEq, Int.reduceLE, Int.reduceLT, reduceCtorEq, hn1d, hm1d]
                    repeat (with_reducible refine And.intro ?_ ?_; next => first | assumption | trivial | omega | decide | (constructor <;> first | assumption | omega) | (simp [Keep.ok, hp_cons_apply, hset_cons, hn1d, hm1d]; done))
                    refine hk _ _ _ ?_
                    refine xghost (D := []) ?_ ?_ ?_ ?_
                    · exact (.cons (Sub.of_eq rfl) .nil)
                    · exact HpW.refl
                    · exact (by intro p hp; cases hp)
                    · omega
            · try simp only [go_sem, Prod.mk.injEq, reduceIte, Nat.reduceEqDiff, Nat.reduceAdd, Nat.reduceSub, Nat.reduceMul, Nat.reduceDiv, Nat.reducePow, Nat.reduceLT, Nat.reduceLeDiff, Nat.reduceBEq, Nat.reduceBneDiff, Int.reduceToNat, Int.reduceEq, Int.reduceLE, Int.reduceLT, reduceCtorEq, hn1d, hm1d]
              repeat (with_reducible refine And.intro ?_ ?_; next => first | assumption | trivial | omega | decide | (constructor <;> first | assumption | omega) | (simp [Keep.ok, hp_cons_apply, hset_cons, hn1d, hm1d]; done))
              refine hk _ _ _ ?_
              refine xghost (D := []) ?_ ?_ ?_ ?_
              · exact (.cons (Sub.of_eq rfl) (.cons (Sub.of_eq rfl) (.cons (Sub.of_eq rfl) (.cons (Sub.of_eq rfl) .nil))))
              · exact HpW.refl
              · exact (by intro p hp; cases hp)
              · omega
          · refine xghost (D := []) ?_ ?_ ?_ ?_
            · exact (.cons (Sub.of_eq rfl) (.cons (Sub.of_eq rfl) (.cons (Sub.of_eq rfl) .nil)))
            · exact HpW.refl
            · exact (by intro p hp; cases hp)
            · omega
        · try simp only [go_sem, Prod.mk.injEq, reduceIte, Nat.reduceEqDiff, Nat.reduceAdd, Nat.reduceSub, Nat.reduceMul, Nat.reduceDiv, Nat.reducePow, Nat.reduceLT, Nat.reduceLeDiff, Nat.reduceBEq, Nat.reduceBneDiff, Int.reduceToNat, Int.reduceEq, Int.reduceLE, Int.reduceLT, reduceCtorEq]
          repeat (with_reducible refine And.intro ?_ ?_; next => first | assumption | trivial | omega | decide | (constructor <;> first | assumption | omega) | (simp [Keep.ok, hp_cons_apply, hset_cons]; done))
          refine hk _ _ _ ?_
          refine xghost (D := []) ?_ ?_ ?_ ?_
          · exact (.cons (Sub.of_eq rfl) (.cons (Sub.of_eq rfl) (.cons (Sub.of_eq rfl) .nil)))
          · exact HpW.refl
          · exact (by intro p hp; cases hp)
          · omega
    · try simp only [go_sem, Prod.mk.injEq, reduceIte, Nat.reduceEqDiff, Nat.reduceAdd, Nat.reduceSub, Nat.reduceMul, Nat.reduceDiv, Nat.reducePow, Nat.reduceLT, Nat.reduceLeDiff, Nat.reduceBEq, Nat.reduceBneDiff, Int.reduceToNat, Int.reduceEq, Int.reduceLE, Int.reduceLT, reduceCtorEq]
      repeat (with_reducible refine And.intro ?_ ?_; next => first | assumption | trivial | omega | decide | (constructor <;> first | assumption | omega) | (simp [Keep.ok, hp_cons_apply, hset_cons]; done))
      refine hk _ _ _ ?_
      refine xghost (D := []) ?_ ?_ ?_ ?_
      · exact (.cons (Sub.of_eq rfl) (.cons (Sub.of_eq rfl) (.cons (Sub.of_eq rfl) .nil)))
      · exact HpW.refl
      · exact (by intro p hp; cases hp)
      · omega
  · try simp only [go_sem, Prod.mk.injEq, reduceIte, Nat.reduceEqDiff, Nat.reduceAdd, Nat.reduceSub, Nat.reduceMul, Nat.reduceDiv, Nat.reducePow, Nat.reduceLT, Nat.reduceLeDiff, Nat.reduceBEq, Nat.reduceBneDiff, Int.reduceToNat, Int.reduceEq, Int.reduceLE, Int.reduceLT, reduceCtorEq]
    repeat (with_reducible refine And.intro ?_ ?_; next => first | assumption | trivial | omega | decide | (constructor <;> first | assumption | omega) | (simp [Keep.ok, hp_cons_apply, hset_cons]; done))
    refine hk _ _ _ ?_
    refine xghost (D := []) ?_ ?_ ?_ ?_
    · exact (.cons (Sub.of_eq rfl) (.cons (Sub.of_eq rfl) .nil))
    · exact HpW.refl
    · exact (by intro p hp; cases hp)
    · omega
/-! stanchion/stanchionlaw06.ConfIds -/
def s_stanchionlaw06_ConfIds_b1 (cx : GapiConf) (v_2 : List GapiId) (v_3 : List GapiId) : Int → Option ((Int) ⊕ Bool)
  | i => if (decide (i < (v_2.length : Int))) = true then gd ((0 ≤ i ∧ Int.toNat i < v_2.length)) (gd ((0 ≤ i ∧ Int.toNat i < v_3.length)) (gd ((!(!(((v_2.getD (Int.toNat i) yGapiId.dflt).Role == (v_3.getD (Int.toNat i) yGapiId.dflt).Role) && ((v_2.getD (Int.toNat i) yGapiId.dflt).N == (v_3.getD (Int.toNat i) yGapiId.dflt).N)))) = true → (0 ≤ i ∧ Int.toNat i < v_2.length)) (bd (if (!(!(((v_2.getD (Int.toNat i) yGapiId.dflt).Role == (v_3.getD (Int.toNat i) yGapiId.dflt).Role) && ((v_2.getD (Int.toNat i) yGapiId.dflt).N == (v_3.getD (Int.toNat i) yGapiId.dflt).N)))) = true then s_conf_There cx (v_2.getD (Int.toNat i) yGapiId.dflt) else some false) fun (v_5 : Bool) => if ((!(((v_2.getD (Int.toNat i) yGapiId.dflt).Role == (v_3.getD (Int.toNat i) yGapiId.dflt).Role) && ((v_2.getD (Int.toNat i) yGapiId.dflt).N == (v_3.getD (Int.toNat i) yGapiId.dflt).N))) || (!v_5)) = true then mr (some false) else some (.inl (IntKind.i64.wrap (i + 1)))))) else mr (some true)
def s_stanchionlaw06_ConfIds (cx : GapiConf) (roles : List Int) : Option Bool :=
  bd (s_stanchionlaw06_alive ) fun (v : Bool) => if (!v) = true then some false else if (decide (100 < (roles.length : Int))) = true then some true else bd (s_stanchionref00_CopyInts roles) fun (v_1 : List Int) => bd (s_conf_Ids cx v_1) fun (v_2 : List GapiId) => bd (s_stanchionref06_Ids cx roles) fun (v_3 : List GapiId) => bd (if (!((v_2.length : Int) != (v_3.length : Int))) = true then s_stanchionref00_SameInts v_1 roles else some false) fun (v_4 : Bool) => if (((v_2.length : Int) != (v_3.length : Int)) || (!v_4)) = true then some false else loop (s_stanchionlaw06_ConfIds_b1 cx v_2 v_3) 0
theorem s_stanchionlaw06_ConfIds_ok (S : AHeap) (cx : GapiConf) (roles : List Int) {r : Bool} (h : s_stanchionlaw06_ConfIds cx roles = some r) :
    AC Try.prog n_stanchionlaw06_ConfIds [.agg [.lit (.int .i64 cx.U), .lit (.int .i64 cx.R), .lit (.int .i64 cx.Peers), .lit (.int .i64 cx.Window), .lit (.int .i64 cx.Every), .lit (.int .i64 cx.Patience), eS (lI .u8) cx.Secret], eS (lI .i64) roles] S fun r' S' => r' = .ret (.lit (.bool r)) ∧ S' = S := by
  refine AC_of tok mixed fits_stanchionlaw06_ConfIds fun d hd => ?_
  unfold c_stanchionlaw06_ConfIds
  show LW _ _ _ _ [(0, .agg [.lit (.int .i64 cx.U), .lit (.int .i64 cx.R), .lit (.int .i64 cx.Peers), .lit (.int .i64 cx.Window), .lit (.int .i64 cx.Every), .lit (.int .i64 cx.Patience), eS (lI .u8) cx.Secret]), (1, eS (lI .i64) roles)] (hp [] S) 0 _
  rw [s_stanchionlaw06_ConfIds] at h
  refine xseq [(1, eS (lI .i64) roles), (2, .ptr (d, 0) 0)] (hp [((d, 0), .box [.lit (.int .i64 cx.U), .lit (.int .i64 cx.R), .lit (.int .i64 cx.Peers), .lit (.int .i64 cx.Window), .lit (.int .i64 cx.Every), .lit (.int .i64 cx.Patience), eS (lI .u8) cx.Secret])] S) 1 ?_ (fun k kp hk => ?_)
  · refine LW_seq ?_
    obtain ⟨v, hv, h⟩ := bd_some h
    refine xseq [(1, eS (lI .i64) roles), (2, .ptr (d, 0) 0), (10, .lit (.bool (!v)))] (hp [((d, 0), .box [.lit (.int .i64 cx.U), .lit (.int .i64 cx.R), .lit (.int .i64 cx.Peers), .lit (.int .i64 cx.Window), .lit (.int .i64 cx.Every), .lit (.int .i64 cx.Patience), eS (lI .u8) cx.Secret])] S) 1 ?_ (fun k kp hk => ?_)
    · refine xcond (!v) rfl (fun hc => ?_) (fun hc => ?_)
      · rw [ite_t hc] at h
        refine xseq [(4, .lit (.bool false))] (hp [((d, 0), .box [.lit (.int .i64 cx.U), .lit (.int .i64 cx.R), .lit (.int .i64 cx.Peers), .lit (.int .i64 cx.Window), .lit (.int .i64 cx.Every), .lit (.int .i64 cx.Patience), eS (lI .u8) cx.Secret])] S) 1 ?_ (fun k kp hk => ?_)
        · refine LW_ret ?_
          obtain rfl := Option.some.inj h
          show FPost _ _ _ _ _ _ _
          exact ⟨_, hp_less (L := []) (D := [((d, 0), .box [.lit (.int .i64 cx.U), .lit (.int .i64 cx.R), .lit (.int .i64 cx.Peers), .lit (.int .i64 cx.Window), .lit (.int .i64 cx.Every), .lit (.int .i64 cx.Patience), eS (lI .u8) cx.Secret])]) (by intro p hp; simp only [List.mem_cons, List.not_mem_nil, or_false] at hp; rcases hp with rfl <;> first | exact hd _ (Nat.le_refl _)), rfl, rfl⟩
        · try simp only [go_sem, Prod.mk.injEq, reduceIte, Nat.reduceEqDiff, Nat.reduceAdd, Nat.reduceSub, Nat.reduceMul, Nat.reduceDiv, Nat.reducePow, Nat.reduceLT, Nat.reduceLeDiff, Nat.reduceBEq, Nat.reduceBneDiff, Int.reduceToNat, Int.reduceEq, Int.reduceLE, Int.reduceLT, reduceCtorEq]
          repeat (with_reducible refine And.intro ?_ ?_; next => first | assumption | trivial | omega | decide | (constructor <;> first | assumption | omega) | (simp [Keep.ok, hp_cons_apply, hset_cons]; done))
          refine hk _ _ _ ?_
          refine xghost (D := []) ?_ ?_ ?_ ?_
          · exact (.cons (Sub.of_eq rfl) .nil)
          · exact HpW.refl
          · exact (by intro p hp; cases hp)
          · omega
      · rw [ite_f hc] at h
        refine LW_skip ?_
        show LW _ _ _ _ _ _ _ _
        refine LW_seq ?_
        refine xseq [(1, eS (lI .i64) roles), (2, .ptr (d, 0) 0), (13, .lit (.bool (decide (100 < (roles.length : Int)))))] (hp [((d, 0), .box [.lit (.int .i64 cx.U), .lit (.int .i64 cx.R), .lit (.int .i64 cx.Peers), .lit (.int .i64 cx.Window), .lit (.int .i64 cx.Every), .lit (.int .i64 cx.Patience), eS (lI .u8) cx.Secret])] S) 1 ?_ (fun k kp hk => ?_)
        · refine xcond (decide (100 < (roles.length : Int))) rfl (fun hc_1 => ?_) (fun hc_1 => ?_)
          · rw [ite_t hc_1] at h
            refine xseq [(4, .lit (.bool true))] (hp [((d, 0), .box [.lit (.int .i64 cx.U), .lit (.int .i64 cx.R), .lit (.int .i64 cx.Peers), .lit (.int .i64 cx.Window), .lit (.int .i64 cx.Every), .lit (.int .i64 cx.Patience), eS (lI .u8) cx.Secret])] S) 1 ?_ (fun k kp hk => ?_)
            · refine LW_ret ?_
              obtain rfl := Option.some.inj h
              show FPost _ _ _ _ _ _ _
              exact ⟨_, hp_less (L := []) (D := [((d, 0), .box [.lit (.int .i64 cx.U), .lit (.int .i64 cx.R), .lit (.int .i64 cx.Peers), .lit (.int .i64 cx.Window), .lit (.int .i64 cx.Every), .lit (.int .i64 cx.Patience), eS (lI .u8) cx.Secret])]) (by intro p hp; simp only [List.mem_cons, List.not_mem_nil, or_false] at hp; rcases hp with rfl <;> first | exact hd _ (Nat.le_refl _)), rfl, rfl⟩
            · try simp only [go_sem, Prod.mk.injEq, reduceIte, Nat.reduceEqDiff, Nat.reduceAdd, Nat.reduceSub, Nat.reduceMul, Nat.reduceDiv, Nat.reducePow, Nat.reduceLT, Nat.reduceLeDiff, Nat.reduceBEq, Nat.reduceBneDiff, Int.reduceToNat, Int.reduceEq, Int.reduceLE, Int.reduceLT, reduceCtorEq]
              repeat (with_reducible refine And.intro ?_ ?_; next => first | assumption | trivial | omega | decide | (constructor <;> first | assumption | omega) | (simp [Keep.ok, hp_cons_apply, hset_cons]; done))
              refine hk _ _ _ ?_
              refine xghost (D := []) ?_ ?_ ?_ ?_
              · exact (.cons (Sub.of_eq rfl) .nil)
              · exact HpW.refl
              · exact (by intro p hp; cases hp)
              · omega
          · rw [ite_f hc_1] at h
            refine LW_skip ?_
            show LW _ _ _ _ _ _ _ _
            obtain ⟨v_1, hv_1, h⟩ := bd_some h
            refine xseq [(1, eS (lI .i64) roles), (2, .ptr (d, 0) 0), (5, eS (lI .i64) v_1)] (hp [((d, 0), .box [.lit (.int .i64 cx.U), .lit (.int .i64 cx.R), .lit (.int .i64 cx.Peers), .lit (.int .i64 cx.Window), .lit (.int .i64 cx.Every), .lit (.int .i64 cx.Patience), eS (lI .u8) cx.Secret])] S) 1 ?_ (fun k kp hk => ?_)
            · obtain ⟨v_2, hv_2, h⟩ := bd_some h
              refine xseq [(1, eS (lI .i64) roles), (2, .ptr (d, 0) 0), (5, eS (lI .i64) v_1), (6, eS yGapiId v_2)] (hp [((d, 0), .box [.lit (.int .i64 cx.U), .lit (.int .i64 cx.R), .lit (.int .i64 cx.Peers), .lit (.int .i64 cx.Window), .lit (.int .i64 cx.Every), .lit (.int .i64 cx.Patience), eS (lI .u8) cx.Secret])] S) 1 ?_ (fun k kp hk => ?_)
              · obtain ⟨v_3, hv_3, h⟩ := bd_some h
                refine xseq [(1, eS (lI .i64) roles), (2, .ptr (d, 0) 0), (5, eS (lI .i64) v_1), (6, eS yGapiId v_2), (7, eS yGapiId v_3)] (hp [((d, 0), .box [.lit (.int .i64 cx.U), .lit (.int .i64 cx.R), .lit (.int .i64 cx.Peers), .lit (.int .i64 cx.Window), .lit (.int .i64 cx.Every), .lit (.int .i64 cx.Patience), eS (lI .u8) cx.Secret])] S) 1 ?_ (fun k kp hk => ?_)
                · refine LW_seq ?_
                  obtain ⟨v_4, hv_4, h⟩ := bd_some h
                  refine xseq [(2, .ptr (d, 0) 0), (6, eS yGapiId v_2), (7, eS yGapiId v_3), (32, .lit (.bool (((v_2.length : Int) != (v_3.length : Int)) || (!v_4))))] (hp [((d, 0), .box [.lit (.int .i64 cx.U), .lit (.int .i64 cx.R), .lit (.int .i64 cx.Peers), .lit (.int .i64 cx.Window), .lit (.int .i64 cx.Every), .lit (.int .i64 cx.Patience), eS (lI .u8) cx.Secret])] S) 1 ?_ (fun k kp hk => ?_)
                  · refine xcond (((v_2.length : Int) != (v_3.length : Int)) || (!v_4)) rfl (fun hc_2 => ?_) (fun hc_2 => ?_)
                    · rw [ite_t hc_2] at h
                      refine xseq [(4, .lit (.bool false))] (hp [((d, 0), .box [.lit (.int .i64 cx.U), .lit (.int .i64 cx.R), .lit (.int .i64 cx.Peers), .lit (.int .i64 cx.Window), .lit (.int .i64 cx.Every), .lit (.int .i64 cx.Patience), eS (lI .u8) cx.Secret])] S) 1 ?_ (fun k kp hk => ?_)
                      · refine LW_ret ?_
                        obtain rfl := Option.some.inj h
                        show FPost _ _ _ _ _ _ _
                        exact ⟨_, hp_less (L := []) (D := [((d, 0), .box [.lit (.int .i64 cx.U), .lit (.int .i64 cx.R), .lit (.int .i64 cx.Peers), .lit (.int .i64 cx.Window), .lit (.int .i64 cx.Every), .lit (.int .i64 cx.Patience), eS (lI .u8) cx.Secret])]) (by intro p hp; simp only [List.mem_cons, List.not_mem_nil, or_false] at hp; rcases hp with rfl <;> first | exact hd _ (Nat.le_refl _)), rfl, rfl⟩
                      · try simp only [go_sem, Prod.mk.injEq, reduceIte, Nat.reduceEqDiff, Nat.reduceAdd, Nat.reduceSub, Nat.reduceMul, Nat.reduceDiv, Nat.reducePow, Nat.reduceLT, Nat.reduceLeDiff, Nat.reduceBEq, Nat.reduceBneDiff, Int.reduceToNat, Int.reduceEq, Int.reduceLE, Int.reduceLT, reduceCtorEq]
                        repeat (with_reducible refine And.intro ?_ ?_; next => first | assumption | trivial | omega | decide | (constructor <;> first | assumption | omega) | (simp [Keep.ok, hp_cons_apply, hset_cons]; done))
                        refine hk _ _ _ ?_
                        refine xghost (D := []) ?_ ?_ ?_ ?_
                        · exact (.cons (Sub.of_eq rfl) .nil)
                        · exact HpW.refl
                        · exact (by intro p hp; cases hp)
                        · omega
                    · rw [ite_f hc_2] at h
                      refine LW_skip ?_
                      show LW _ _ _ _ _ _ _ _
                      refine LW_seq ?_
                      refine xseq [(2, .ptr (d, 0) 0), (6, eS yGapiId v_2), (7, eS yGapiId v_3), (8, .lit (.int .i64 0))] (hp [((d, 0), .box [.lit (.int .i64 cx.U), .lit (.int .i64 cx.R), .lit (.int .i64 cx.Peers), .lit (.int .i64 cx.Window), .lit (.int .i64 cx.Every), .lit (.int .i64 cx.Patience), eS (lI .u8) cx.Secret])] S) 1 ?_ (fun k kp hk => ?_)
                      · refine LW_block ?_
                        refine LW_loopX (σ := Int) (s := 0) (fun zz => [(2, .ptr (d, 0) 0), (6, eS yGapiId v_2), (7, eS yGapiId v_3), (8, .lit (.int .i64 zz))]) (fun zz => (hp [((d, 0), .box [.lit (.int .i64 cx.U), .lit (.int .i64 cx.R), .lit (.int .i64 cx.Peers), .lit (.int .i64 cx.Window), .lit (.int .i64 cx.Every), .lit (.int .i64 cx.Patience), eS (lI .u8) cx.Secret])] S)) h ?_ ?_
                        · clear h
                          rintro i x1 d1 hd1 hf1 h hx1
                          show LW _ _ _ _ [(2, .ptr (d, 0) 0), (6, eS yGapiId v_2), (7, eS yGapiId v_3), (8, .lit (.int .i64 i))] (hp [((d, 0), .box [.lit (.int .i64 cx.U), .lit (.int .i64 cx.R), .lit (.int .i64 cx.Peers), .lit (.int .i64 cx.Window), .lit (.int .i64 cx.Every), .lit (.int .i64 cx.Patience), eS (lI .u8) cx.Secret])] S) 0 _
                          have hn1d : (d = d1) = False := by simp; omega
                          have hm1d : (d1 = d) = False := by simp; omega
                          rw [s_stanchionlaw06_ConfIds_b1] at h
                          refine LW_seq ?_
                          refine xseq [(2, .ptr (d, 0) 0), (6, eS yGapiId v_2), (7, eS yGapiId v_3), (8, .lit (.int .i64 i)), (36, .lit (.bool (decide (i < (v_2.length : Int)))))] (hp [((d, 0), .box [.lit (.int .i64 cx.U), .lit (.int .i64 cx.R), .lit (.int .i64 cx.Peers), .lit (.int .i64 cx.Window), .lit (.int .i64 cx.Every), .lit (.int .i64 cx.Patience), eS (lI .u8) cx.Secret])] S) 0 ?_ (fun k kp hk => ?_)
                          · refine xcond (decide (i < (v_2.length : Int))) rfl (fun hc_3 => ?_) (fun hc_3 => ?_)
                            · rw [ite_t hc_3] at h
                              refine LW_skip ?_
                              show LW _ _ _ _ _ _ _ _
                              refine LW_seq ?_
                              refine LW_block ?_
                              obtain ⟨hg, h⟩ := gd_some h
                              obtain ⟨hg_1, h⟩ := gd_some h
                              obtain ⟨hg_2, h⟩ := gd_some h
                              obtain ⟨v_5, hv_5, h⟩ := bd_some h
                              refine xseqd [(2, .ptr (d, 0) 0), (6, eS yGapiId v_2), (7, eS yGapiId v_3), (8, .lit (.int .i64 i)), (56, .lit (.bool ((!(((v_2.getD (Int.toNat i) yGapiId.dflt).Role == (v_3.getD (Int.toNat i) yGapiId.dflt).Role) && ((v_2.getD (Int.toNat i) yGapiId.dflt).N == (v_3.getD (Int.toNat i) yGapiId.dflt).N))) || (!v_5))))] (hp [((d, 0), .box [.lit (.int .i64 cx.U), .lit (.int .i64 cx.R), .lit (.int .i64 cx.Peers), .lit (.int .i64 cx.Window), .lit (.int .i64 cx.Every), .lit (.int .i64 cx.Patience), eS (lI .u8) cx.Secret])] S) 0 ?_ (fun k kp hk => ?_)
                              · refine xcond ((!(((v_2.getD (Int.toNat i) yGapiId.dflt).Role == (v_3.getD (Int.toNat i) yGapiId.dflt).Role) && ((v_2.getD (Int.toNat i) yGapiId.dflt).N == (v_3.getD (Int.toNat i) yGapiId.dflt).N))) || (!v_5)) rfl (fun hc_4 => ?_) (fun hc_4 => ?_)
                                · rw [ite_t hc_4] at h
                                  refine xseq [(2, .ptr (d, 0) 0), (4, .lit (.bool false)), (6, eS yGapiId v_2), (7, eS yGapiId v_3), (8, .lit (.int .i64 i))] (hp [((d, 0), .box [.lit (.int .i64 cx.U), .lit (.int .i64 cx.R), .lit (.int .i64 cx.Peers), .lit (.int .i64 cx.Window), .lit (.int .i64 cx.Every), .lit (.int .i64 cx.Patience), eS (lI .u8) cx.Secret])] S) 0 ?_ (fun k kp hk => ?_)
                                  · obtain ⟨hq, hxe⟩ := mr_go h hx1
                                    clear h hx1
                                    subst hxe
                                    have h := hq
                                    clear hq
                                    refine LW_retX (sl' := [(4, .lit (.bool false))]) (S' := (hp [((d, 0), .box [.lit (.int .i64 cx.U), .lit (.int .i64 cx.R), .lit (.int .i64 cx.Peers), .lit (.int .i64 cx.Window), .lit (.int .i64 cx.Every), .lit (.int .i64 cx.Patience), eS (lI .u8) cx.Secret])] S)) (c' := 0) ?_ ?_
                                    · refine xghost (D := []) ?_ ?_ ?_ ?_
                                      · exact (.cons (Sub.of_eq rfl) .nil)
                                      · exact HpW.refl
                                      · exact (by intro p hp; cases hp)
                                      · omega
                                    · obtain rfl := Option.some.inj h
                                      show FPost _ _ _ _ _ _ _
                                      exact ⟨_, hp_less (L := []) (D := [((d, 0), .box [.lit (.int .i64 cx.U), .lit (.int .i64 cx.R), .lit (.int .i64 cx.Peers), .lit (.int .i64 cx.Window), .lit (.int .i64 cx.Every), .lit (.int .i64 cx.Patience), eS (lI .u8) cx.Secret])]) (by intro p hp; simp only [List.mem_cons, List.not_mem_nil, or_false] at hp; rcases hp with rfl <;> first | exact hd _ (Nat.le_refl _)), rfl, rfl⟩
                                  · try simp only [go_sem, Prod.mk.injEq, reduceIte, Nat.reduceEqDiff, Nat.reduceAdd, Nat.reduceSub, Nat.reduceMul, Nat.reduceDiv, Nat.reducePow, Nat.reduceLT, Nat.reduceLeDiff, Nat.reduceBEq, Nat.reduceBneDiff, Int.reduceToNat, Int.reduceEq, Int.reduceLE, Int.reduceLT, reduceCtorEq, hn1d, hm1d]
                                    repeat (with_reducible refine And.intro ?_ ?_; next => first | assumption | trivial | omega | decide | (constructor <;> first | assumption | omega) | (simp [Keep.ok, hp_cons_apply, hset_cons, hn1d, hm1d]; done))
                                    refine hk _ _ _ ?_
                                    refine xghost (D := []) ?_ ?_ ?_ ?_
                                    · exact (.cons (Sub.of_eq rfl) (.cons (Sub.of_eq rfl) (.cons (Sub.of_eq rfl) (.cons (Sub.of_eq rfl) (.cons (Sub.of_eq rfl) .nil)))))
                                    · exact HpW.refl
                                    · exact (by intro p hp; cases hp)
                                    · omega
                                · rw [ite_f hc_4] at h
                                  refine LW_skip ?_
                                  show LW _ _ _ _ _ _ _ _
                                  refine xreg [(2, .ptr (d, 0) 0), (6, eS yGapiId v_2), (7, eS yGapiId v_3), (8, .lit (.int .i64 (IntKind.i64.wrap (i + 1))))] (hp [((d, 0), .box [.lit (.int .i64 cx.U), .lit (.int .i64 cx.R), .lit (.int .i64 cx.Peers), .lit (.int .i64 cx.Window), .lit (.int .i64 cx.Every), .lit (.int .i64 cx.Patience), eS (lI .u8) cx.Secret])] S) 0 ?_ (fun k kp hk => ?_)
                                  · cases h
                                    exact ⟨rfl, Less.refl _⟩
                                  · try simp only [go_sem, Prod.mk.injEq, reduceIte, Nat.reduceEqDiff, Nat.reduceAdd, Nat.reduceSub, Nat.reduceMul, Nat.reduceDiv, Nat.reducePow, Nat.reduceLT, Nat.reduceLeDiff, Nat.reduceBEq, Nat.reduceBneDiff, Int.reduceToNat, Int.reduceEq, Int.reduceLE, Int.reduceLT, reduceCtorEq, hn1d, hm1d]
                                    repeat (with_reducible refine And.intro ?_ ?_; next => first | assumption | trivial | omega | decide | (constructor <;> first | assumption | omega) | (simp [Keep.ok, hp_cons_apply, hset_cons, hn1d, hm1d]; done))
                                    refine hk _ _ _ ?_
                                    refine xghost (D := []) ?_ ?_ ?_ ?_
                                    · exact (.cons (Sub.of_eq rfl) (.cons (Sub.of_eq rfl) (.cons (Sub.of_eq rfl) (.cons (Sub.of_eq rfl) .nil))))
                                    · exact HpW.refl
                                    · exact (by intro p hp; cases hp)
                                    · omega
                              · try simp only [go_sem, Prod.mk.injEq, reduceIte, Nat.reduceEqDiff, Nat.reduceAdd, Nat.reduceSub, Nat.reduceMul, Nat.reduceDiv, Nat.reducePow, Nat.reduceLT, Nat.reduceLeDiff, Nat.reduceBEq, Nat.reduceBneDiff, Int.reduceToNat, Int.reduceEq, Int.reduceLE, Int.reduceLT, reduceCtorEq, hn1d, hm1d]
                                repeat (with_reducible refine And.intro ?_ ?_; next => first | assumption | trivial | omega | decide | (constructor <;> first | assumption | omega) | (simp [Keep.ok, hp_cons_apply, hset_cons, hn1d, hm1d]; done))
                                refine xd_guard (!(((v_2.getD (Int.toNat i) yGapiId.dflt).Role == (v_3.getD (Int.toNat i) yGapiId.dflt).Role) && ((v_2.getD (Int.toNat i) yGapiId.dflt).N == (v_3.getD (Int.toNat i) yGapiId.dflt).N))) rfl (fun hc_5 => ?_) (fun hc_5 => ?_)
                                · have hc_5 : (((v_2.getD (Int.toNat i) yGapiId.dflt).Role == (v_3.getD (Int.toNat i) yGapiId.dflt).Role) && ((v_2.getD (Int.toNat i) yGapiId.dflt).N == (v_3.getD (Int.toNat i) yGapiId.dflt).N)) = true := by first | (generalize (((v_2.getD (Int.toNat i) yGapiId.dflt).Role == (v_3.getD (Int.toNat i) yGapiId.dflt).Role) && ((v_2.getD (Int.toNat i) yGapiId.dflt).N == (v_3.getD (Int.toNat i) yGapiId.dflt).N)) = q at hc_5 ⊢; revert hc_5; cases q <;> simp; done) | simpa using hc_5
                                  have hg_2 := hg_2 (by simp only [Bool.and_true, Bool.true_and, Bool.and_false, Bool.false_and, Bool.or_true, Bool.true_or, Bool.or_false, Bool.false_or, Bool.not_true, Bool.not_false, Bool.not_not, hc_5])
                                  try simp only [go_sem, Prod.mk.injEq, reduceIte, Nat.reduceEqDiff, Nat.reduceAdd, Nat.reduceSub, Nat.reduceMul, Nat.reduceDiv, Nat.reducePow, Nat.reduceLT, Nat.reduceLeDiff, Nat.reduceBEq, Nat.reduceBneDiff, Int.reduceToNat, Int.reduceEq, Int.reduceLE, Int.reduceLT, reduceCtorEq, hn1d, hm1d, hc_5]
                                  repeat (with_reducible refine And.intro ?_ ?_; next => first | assumption | trivial | omega | decide | (constructor <;> first | assumption | omega) | (simp [Keep.ok, hp_cons_apply, hset_cons, hn1d, hm1d]; done))
                                  rw [if_pos (by simp only [Bool.and_true, Bool.true_and, Bool.and_false, Bool.false_and, Bool.or_true, Bool.true_or, Bool.or_false, Bool.false_or, Bool.not_true, Bool.not_false, Bool.not_not, hc_5])] at hv_5
                                  have hcall := s_conf_There_ok (hp [((d, 0), .box [.lit (.int .i64 cx.U), .lit (.int .i64 cx.R), .lit (.int .i64 cx.Peers), .lit (.int .i64 cx.Window), .lit (.int .i64 cx.Every), .lit (.int .i64 cx.Patience), eS (lI .u8) cx.Secret])] S) cx (v_2.getD (Int.toNat i) yGapiId.dflt) hv_5
                                  refine call1_x hcall rfl ?_ ?_
                                  · exact (.cons Sub.refl (.cons Sub.refl .nil))
                                  clear hcall
                                  rintro _ SS ⟨rfl, hSS⟩ -
                                  rw [hSS]
                                  clear hSS
                                  try simp only [go_sem, Prod.mk.injEq, reduceIte, Nat.reduceEqDiff, Nat.reduceAdd, Nat.reduceSub, Nat.reduceMul, Nat.reduceDiv, Nat.reducePow, Nat.reduceLT, Nat.reduceLeDiff, Nat.reduceBEq, Nat.reduceBneDiff, Int.reduceToNat, Int.reduceEq, Int.reduceLE, Int.reduceLT, reduceCtorEq, hn1d, hm1d, hc_5]
                                  repeat (with_reducible refine And.intro ?_ ?_; next => first | assumption | trivial | omega | decide | (constructor <;> first | assumption | omega) | (simp [Keep.ok, hp_cons_apply, hset_cons, hn1d, hm1d]; done))
                                  try simp only [go_sem, Prod.mk.injEq, reduceIte, Nat.reduceEqDiff, Nat.reduceAdd, Nat.reduceSub, Nat.reduceMul, Nat.reduceDiv, Nat.reducePow, Nat.reduceLT, Nat.reduceLeDiff, Nat.reduceBEq, Nat.reduceBneDiff, Int.reduceToNat, Int.reduceEq, Int.reduceLE, Int.reduceLT, reduceCtorEq, hn1d, hm1d, hc_5]
                                  repeat (with_reducible refine And.intro ?_ ?_; next => first | assumption | trivial | omega | decide | (constructor <;> first | assumption | omega) | (simp [Keep.ok, hp_cons_apply, hset_cons, hn1d, hm1d]; done))
                                  refine hk _ _ _ ?_
                                  refine xghost (D := []) ?_ ?_ ?_ ?_
                                  · exact (.cons (Sub.of_eq rfl) (.cons (Sub.of_eq rfl) (.cons (Sub.of_eq rfl) (.cons (Sub.of_eq rfl) (.cons (Sub.of_eq (by first | rfl | (simp only [sget_cons, reduceIte, Nat.reduceEqDiff, Bool.and_true, Bool.true_and, Bool.and_false, Bool.false_and, Bool.or_true, Bool.true_or, Bool.or_false, Bool.false_or, Bool.not_true, Bool.not_false, Bool.not_not, hc_5]; done))) .nil)))))
                                  · exact HpW.refl
                                  · exact (by intro p hp; cases hp)
                                  · omega
                                · have hc_5 : (((v_2.getD (Int.toNat i) yGapiId.dflt).Role == (v_3.getD (Int.toNat i) yGapiId.dflt).Role) && ((v_2.getD (Int.toNat i) yGapiId.dflt).N == (v_3.getD (Int.toNat i) yGapiId.dflt).N)) = false := by first | (generalize (((v_2.getD (Int.toNat i) yGapiId.dflt).Role == (v_3.getD (Int.toNat i) yGapiId.dflt).Role) && ((v_2.getD (Int.toNat i) yGapiId.dflt).N == (v_3.getD (Int.toNat i) yGapiId.dflt).N)) = q at hc_5 ⊢; revert hc_5; cases q <;> simp; done) | simpa using hc_5
                                  try simp only [go_sem, Prod.mk.injEq, reduceIte, Nat.reduceEqDiff, Nat.reduceAdd, Nat.reduceSub, Nat.reduceMul, Nat.reduceDiv, Nat.reducePow, Nat.reduceLT, Nat.reduceLeDiff, Nat.reduceBEq, Nat.reduceBneDiff, Int.reduceToNat, Int.reduceEq, Int.reduceLE, Int.reduceLT, reduceCtorEq, hn1d, hm1d, hc_5]
                                  repeat (with_reducible refine And.intro ?_ ?_; next => first | assumption | trivial | omega | decide | (constructor <;> first | assumption | omega) | (simp [Keep.ok, hp_cons_apply, hset_cons, hn1d, hm1d]; done))
                                  refine hk _ _ _ ?_
                                  refine xghost (D := []) ?_ ?_ ?_ ?_
                                  · exact (.cons (Sub.of_eq rfl) (.cons (Sub.of_eq rfl) (.cons (Sub.of_eq rfl) (.cons (Sub.of_eq rfl) (.cons (Sub.of_eq (by first | rfl | (simp only [sget_cons, reduceIte, Nat.reduceEqDiff, Bool.and_true, Bool.true_and, Bool.and_false, Bool.false_and, Bool.or_true, Bool.true_or, Bool.or_false, Bool.false_or, Bool.not_true, Bool.not_false, Bool.not_not, hc_5]; done))) .nil)))))
                                  · exact HpW.refl
                                  · exact (by intro p hp; cases hp)
                                  · omega
                            · rw [ite_f hc_3] at h
                              obtain ⟨hq, hxe⟩ := mr_go h hx1
                              clear h hx1
                              subst hxe
                              have h := hq
                              clear hq
                              refine LW_exitX (sl' := [(2, .ptr (d, 0) 0), (6, eS yGapiId v_2), (7, eS yGapiId v_3), (8, .lit (.int .i64 i)), (36, .lit (.bool (decide (i < (v_2.length : Int)))))]) (S' := (hp [((d, 0), .box [.lit (.int .i64 cx.U), .lit (.int .i64 cx.R), .lit (.int .i64 cx.Peers), .lit (.int .i64 cx.Window), .lit (.int .i64 cx.Every), .lit (.int .i64 cx.Patience), eS (lI .u8) cx.Secret])] S)) (c' := 0) ?_ ?_
                              · refine xghost (D := []) ?_ ?_ ?_ ?_
                                · exact (.cons (Sub.of_eq rfl) (.cons (Sub.of_eq rfl) (.cons (Sub.of_eq rfl) (.cons (Sub.of_eq rfl) (.cons (Sub.of_eq rfl) .nil)))))
                                · exact HpW.refl
                                · exact (by intro p hp; cases hp)
                                · omega
                              · show LW _ _ _ _ _ _ _ _
                                refine xseq [(4, .lit (.bool true))] (hp [((d, 0), .box [.lit (.int .i64 cx.U), .lit (.int .i64 cx.R), .lit (.int .i64 cx.Peers), .lit (.int .i64 cx.Window), .lit (.int .i64 cx.Every), .lit (.int .i64 cx.Patience), eS (lI .u8) cx.Secret])] S) 1 ?_ (fun k kp hk => ?_)
                                · refine LW_ret ?_
                                  obtain rfl := Option.some.inj h
                                  show FPost _ _ _ _ _ _ _
                                  exact ⟨_, hp_less (L := []) (D := [((d, 0), .box [.lit (.int .i64 cx.U), .lit (.int .i64 cx.R), .lit (.int .i64 cx.Peers), .lit (.int .i64 cx.Window), .lit (.int .i64 cx.Every), .lit (.int .i64 cx.Patience), eS (lI .u8) cx.Secret])]) (by intro p hp; simp only [List.mem_cons, List.not_mem_nil, or_false] at hp; rcases hp with rfl <;> first | exact hd _ (Nat.le_refl _)), rfl, rfl⟩
                                · try simp only [go_sem, Prod.mk.injEq, reduceIte, Nat.reduceEqDiff, Nat.reduceAdd, Nat.reduceSub, Nat.reduceMul, Nat.reduceDiv, Nat.reducePow, Nat.reduceLT, Nat.reduceLeDiff, Nat.reduceBEq, Nat.reduceBneDiff, Int.reduceToNat, Int.reduceEq, Int.reduceLE, Int.reduceLT, reduceCtorEq, hn1d, hm1d]
                                  repeat (with_reducible refine And.intro ?_ ?_; next => first | assumption | trivial | omega | decide | (constructor <;> first | assumption | omega) | (simp [Keep.ok, hp_cons_apply, hset_cons, hn1d, hm1d]; done))
                                  refine hk _ _ _ ?_
                                  refine xghost (D := []) ?_ ?_ ?_ ?_
                                  · exact (.cons (Sub.of_eq rfl) .nil)
                                  · exact HpW.refl
                                  · exact (by intro p hp; cases hp)
                                  · omega
                          · try simp only [go_sem, Prod.mk.injEq, reduceIte, Nat.reduceEqDiff, Nat.reduceAdd, Nat.reduceSub, Nat.reduceMul, Nat.reduceDiv, Nat.reducePow, Nat.reduceLT, Nat.reduceLeDiff, Nat.reduceBEq, Nat.reduceBneDiff, Int.reduceToNat, Int.reduceEq, Int.reduceLE, Int.reduceLT, reduceCtorEq, hn1d, hm1d]
                            repeat (with_reducible refine And.intro ?_ ?_; next => first | assumption | trivial | omega | decide | (constructor <;> first | assumption | omega) | (simp [Keep.ok, hp_cons_apply, hset_cons, hn1d, hm1d]; done))
                            refine hk _ _ _ ?_
                            refine xghost (D := []) ?_ ?_ ?_ ?_
                            · exact (.cons (Sub.of_eq rfl) (.cons (Sub.of_eq rfl) (.cons (Sub.of_eq rfl) (.cons (Sub.of_eq rfl) (.cons (Sub.of_eq rfl) .nil)))))
                            · exact HpW.refl
                            · exact (by intro p hp; cases hp)
                            · omega
                        · refine xghost (D := []) ?_ ?_ ?_ ?_
                          · exact (.cons (Sub.of_eq rfl) (.cons (Sub.of_eq rfl) (.cons (Sub.of_eq rfl) (.cons (Sub.of_eq rfl) .nil))))
                          · exact HpW.refl
                          · exact (by intro p hp; cases hp)
                          · omega
                      · try simp only [go_sem, Prod.mk.injEq, reduceIte, Nat.reduceEqDiff, Nat.reduceAdd, Nat.reduceSub, Nat.reduceMul, Nat.reduceDiv, Nat.reducePow, Nat.reduceLT, Nat.reduceLeDiff, Nat.reduceBEq, Nat.reduceBneDiff, Int.reduceToNat, Int.reduceEq, Int.reduceLE, Int.reduceLT, reduceCtorEq]
                        repeat (with_reducible refine And.intro ?_ ?_; next => first | assumption | trivial | omega | decide | (constructor <;> first | assumption | omega) | (simp [Keep.ok, hp_cons_apply, hset_cons]; done))
                        refine hk _ _ _ ?_
                        refine xghost (D := []) ?_ ?_ ?_ ?_
                        · exact (.cons (Sub.of_eq rfl) (.cons (Sub.of_eq rfl) (.cons (Sub.of_eq rfl) (.cons (Sub.of_eq rfl) .nil))))
                        · exact HpW.refl
                        · exact (by intro p hp; cases hp)
                        · omega
                  · try simp only [go_sem, Prod.mk.injEq, reduceIte, Nat.reduceEqDiff, Nat.reduceAdd, Nat.reduceSub, Nat.reduceMul, Nat.reduceDiv, Nat.reducePow, Nat.reduceLT, Nat.reduceLeDiff, Nat.reduceBEq, Nat.reduceBneDiff, Int.reduceToNat, Int.reduceEq, Int.reduceLE, Int.reduceLT, reduceCtorEq]
                    repeat (with_reducible refine And.intro ?_ ?_; next => first | assumption | trivial | omega | decide | (constructor <;> first | assumption | omega) | (simp [Keep.ok, hp_cons_apply, hset_cons]; done))
                    refine xo_guard ((v_2.length : Int) != (v_3.length : Int)) rfl (fun hc_6 => ?_) (fun hc_6 => ?_)
                    · try simp only [go_sem, Prod.mk.injEq, reduceIte, Nat.reduceEqDiff, Nat.reduceAdd, Nat.reduceSub, Nat.reduceMul, Nat.reduceDiv, Nat.reducePow, Nat.reduceLT, Nat.reduceLeDiff, Nat.reduceBEq, Nat.reduceBneDiff, Int.reduceToNat, Int.reduceEq, Int.reduceLE, Int.reduceLT, reduceCtorEq, hc_6]
                      repeat (with_reducible refine And.intro ?_ ?_; next => first | assumption | trivial | omega | decide | (constructor <;> first | assumption | omega) | (simp [Keep.ok, hp_cons_apply, hset_cons]; done))
                      rw [if_pos (by simp only [Bool.and_true, Bool.true_and, Bool.and_false, Bool.false_and, Bool.or_true, Bool.true_or, Bool.or_false, Bool.false_or, Bool.not_true, Bool.not_false, Bool.not_not, hc_6])] at hv_4
                      have hcall := s_stanchionref00_SameInts_ok (hp [((d, 0), .box [.lit (.int .i64 cx.U), .lit (.int .i64 cx.R), .lit (.int .i64 cx.Peers), .lit (.int .i64 cx.Window), .lit (.int .i64 cx.Every), .lit (.int .i64 cx.Patience), eS (lI .u8) cx.Secret])] S) v_1 roles hv_4
                      refine call1_x hcall rfl ?_ ?_
                      · exact (.cons Sub.refl (.cons Sub.refl .nil))
                      clear hcall
                      rintro _ SS ⟨rfl, hSS⟩ -
                      rw [hSS]
                      clear hSS
                      try simp only [go_sem, Prod.mk.injEq, reduceIte, Nat.reduceEqDiff, Nat.reduceAdd, Nat.reduceSub, Nat.reduceMul, Nat.reduceDiv, Nat.reducePow, Nat.reduceLT, Nat.reduceLeDiff, Nat.reduceBEq, Nat.reduceBneDiff, Int.reduceToNat, Int.reduceEq, Int.reduceLE, Int.reduceLT, reduceCtorEq, hc_6]
                      repeat (with_reducible refine And.intro ?_ ?_; next => first | assumption | trivial | omega | decide | (constructor <;> first | assumption | omega) | (simp [Keep.ok, hp_cons_apply, hset_cons]; done))
                      refine hk _ _ _ ?_
                      refine xghost (D := []) ?_ ?_ ?_ ?_
                      · exact (.cons (Sub.of_eq rfl) (.cons (Sub.of_eq rfl) (.cons (Sub.of_eq rfl) (.cons (Sub.of_eq (by first | rfl | (simp only [sget_cons, reduceIte, Nat.reduceEqDiff, Bool.and_true, Bool.true_and, Bool.and_false, Bool.false_and, Bool.or_true, Bool.true_or, Bool.or_false, Bool.false_or, Bool.not_true, Bool.not_false, Bool.not_not, hc_6]; done))) .nil))))
                      · exact HpW.refl
                      · exact (by intro p hp; cases hp)
                      · omega
                    · try simp only [go_sem, Prod.mk.injEq, reduceIte, Nat.reduceEqDiff, Nat.reduceAdd, Nat.reduceSub, Nat.reduceMul, Nat.reduceDiv, Nat.reducePow, Nat.reduceLT, Nat.reduceLeDiff, Nat.reduceBEq, Nat.reduceBneDiff, Int.reduceToNat, Int.reduceEq, Int.reduceLE, Int.reduceLT, reduceCtorEq, hc_6]
                      repeat (with_reducible refine And.intro ?_ ?_; next => first | assumption | trivial | omega | decide | (constructor <;> first | assumption | omega) | (simp [Keep.ok, hp_cons_apply, hset_cons]; done))
                      refine hk _ _ _ ?_
                      refine xghost (D := []) ?_ ?_ ?_ ?_
                      · exact (.cons (Sub.of_eq rfl) (.cons (Sub.of_eq rfl) (.cons (Sub.of_eq rfl) (.cons (Sub.of_eq (by first | rfl | (simp only [sget_cons, reduceIte, Nat.reduceEqDiff, Bool.and_true, Bool.true_and, Bool.and_false, Bool.false_and, Bool.or_true, Bool.true_or, Bool.or_false, Bool.false_or, Bool.not_true, Bool.not_false, Bool.not_not, hc_6]; done))) .nil))))
                      · exact HpW.refl
                      · exact (by intro p hp; cases hp)
                      · omega
                · try simp only [go_sem, Prod.mk.injEq, reduceIte, Nat.reduceEqDiff, Nat.reduceAdd, Nat.reduceSub, Nat.reduceMul, Nat.reduceDiv, Nat.reducePow, Nat.reduceLT, Nat.reduceLeDiff, Nat.reduceBEq, Nat.reduceBneDiff, Int.reduceToNat, Int.reduceEq, Int.reduceLE, Int.reduceLT, reduceCtorEq]
                  repeat (with_reducible refine And.intro ?_ ?_; next => first | assumption | trivial | omega | decide | (constructor <;> first | assumption | omega) | (simp [Keep.ok, hp_cons_apply, hset_cons]; done))
                  have hcall := s_stanchionref06_Ids_ok (hp [((d, 0), .box [.lit (.int .i64 cx.U), .lit (.int .i64 cx.R), .lit (.int .i64 cx.Peers), .lit (.int .i64 cx.Window), .lit (.int .i64 cx.Every), .lit (.int .i64 cx.Patience), eS (lI .u8) cx.Secret])] S) cx roles hv_3
                  refine call1_x hcall rfl ?_ ?_
                  · exact (.cons Sub.refl (.cons Sub.refl .nil))
                  clear hcall
                  rintro _ SS ⟨rfl, hSS⟩ -
                  rw [hSS]
                  clear hSS
                  try simp only [go_sem, Prod.mk.injEq, reduceIte, Nat.reduceEqDiff, Nat.reduceAdd, Nat.reduceSub, Nat.reduceMul, Nat.reduceDiv, Nat.reducePow, Nat.reduceLT, Nat.reduceLeDiff, Nat.reduceBEq, Nat.reduceBneDiff, Int.reduceToNat, Int.reduceEq, Int.reduceLE, Int.reduceLT, reduceCtorEq]
                  repeat (with_reducible refine And.intro ?_ ?_; next => first | assumption | trivial | omega | decide | (constructor <;> first | assumption | omega) | (simp [Keep.ok, hp_cons_apply, hset_cons]; done))
                  refine hk _ _ _ ?_
                  refine xghost (D := []) ?_ ?_ ?_ ?_
                  · exact (.cons (Sub.of_eq rfl) (.cons (Sub.of_eq rfl) (.cons (Sub.of_eq rfl) (.cons (Sub.of_eq rfl) (.cons (Sub.of_eq rfl) .nil)))))
                  · exact HpW.refl
                  · exact (by intro p hp; cases hp)
                  · omega
              · try simp only [go_sem, Prod.mk.injEq, reduceIte, Nat.reduceEqDiff, Nat.reduceAdd, Nat.reduceSub, Nat.reduceMul, Nat.reduceDiv, Nat.reducePow, Nat.reduceLT, Nat.reduceLeDiff, Nat.reduceBEq, Nat.reduceBneDiff, Int.reduceToNat, Int.reduceEq, Int.reduceLE, Int.reduceLT, reduceCtorEq]
                repeat (with_reducible refine And.intro ?_ ?_; next => first | assumption | trivial | omega | decide | (constructor <;> first | assumption | omega) | (simp [Keep.ok, hp_cons_apply, hset_cons]; done))
                have hcall := s_conf_Ids_ok (hp [((d, 0), .box [.lit (.int .i64 cx.U), .lit (.int .i64 cx.R), .lit (.int .i64 cx.Peers), .lit (.int .i64 cx.Window), .lit (.int .i64 cx.Every), .lit (.int .i64 cx.Patience), eS (lI .u8) cx.Secret])] S) cx v_1 hv_2
                refine call1_x hcall rfl ?_ ?_
                · exact (.cons Sub.refl (.cons Sub.refl .nil))
                clear hcall
                rintro _ SS ⟨rfl, hSS⟩ -
                rw [hSS]
                clear hSS
                try simp only [go_sem, Prod.mk.injEq, reduceIte, Nat.reduceEqDiff, Nat.reduceAdd, Nat.reduceSub, Nat.reduceMul, Nat.reduceDiv, Nat.reducePow, Nat.reduceLT, Nat.reduceLeDiff, Nat.reduceBEq, Nat.reduceBneDiff, Int.reduceToNat, Int.reduceEq, Int.reduceLE, Int.reduceLT, reduceCtorEq]
                repeat (with_reducible refine And.intro ?_ ?_; next => first | assumption | trivial | omega | decide | (constructor <;> first | assumption | omega) | (simp [Keep.ok, hp_cons_apply, hset_cons]; done))
                refine hk _ _ _ ?_
                refine xghost (D := []) ?_ ?_ ?_ ?_
                · exact (.cons (Sub.of_eq rfl) (.cons (Sub.of_eq rfl) (.cons (Sub.of_eq rfl) (.cons (Sub.of_eq rfl) .nil))))
                · exact HpW.refl
                · exact (by intro p hp; cases hp)
                · omega
            · try simp only [go_sem, Prod.mk.injEq, reduceIte, Nat.reduceEqDiff, Nat.reduceAdd, Nat.reduceSub, Nat.reduceMul, Nat.reduceDiv, Nat.reducePow, Nat.reduceLT, Nat.reduceLeDiff, Nat.reduceBEq, Nat.reduceBneDiff, Int.reduceToNat, Int.reduceEq, Int.reduceLE, Int.reduceLT, reduceCtorEq]
              repeat (with_reducible refine And.intro ?_ ?_; next => first | assumption | trivial | omega | decide | (constructor <;> first | assumption | omega) | (simp [Keep.ok, hp_cons_apply, hset_cons]; done))
              have hcall := s_stanchionref00_CopyInts_ok (hp [((d, 0), .box [.lit (.int .i64 cx.U), .lit (.int .i64 cx.R), .lit (.int .i64 cx.Peers), .lit (.int .i64 cx.Window), .lit (.int .i64 cx.Every), .lit (.int .i64 cx.Patience), eS (lI .u8) cx.Secret])] S) roles hv_1
              refine call1_x hcall rfl ?_ ?_
              · exact (.cons Sub.refl .nil)
              clear hcall
              rintro _ SS ⟨rfl, hSS⟩ -
              rw [hSS]
              clear hSS
              try simp only [go_sem, Prod.mk.injEq, reduceIte, Nat.reduceEqDiff, Nat.reduceAdd, Nat.reduceSub, Nat.reduceMul, Nat.reduceDiv, Nat.reducePow, Nat.reduceLT, Nat.reduceLeDiff, Nat.reduceBEq, Nat.reduceBneDiff, Int.reduceToNat, Int.reduceEq, Int.reduceLE, Int.reduceLT, reduceCtorEq]
              repeat (with_reducible refine And.intro ?_ ?_; next => first | assumption | trivial | omega | decide | (constructor <;> first | assumption | omega) | (simp [Keep.ok, hp_cons_apply, hset_cons]; done))
              refine hk _ _ _ ?_
              refine xghost (D := []) ?_ ?_ ?_ ?_
              · exact (.cons (Sub.of_eq rfl) (.cons (Sub.of_eq rfl) (.cons (Sub.of_eq rfl) .nil)))
              · exact HpW.refl
              · exact (by intro p hp; cases hp)
              · omega
        · try simp only [go_sem, Prod.mk.injEq, reduceIte, Nat.reduceEqDiff, Nat.reduceAdd, Nat.reduceSub, Nat.reduceMul, Nat.reduceDiv, Nat.reducePow, Nat.reduceLT, Nat.reduceLeDiff, Nat.reduceBEq, Nat.reduceBneDiff, Int.reduceToNat, Int.reduceEq, Int.reduceLE, Int.reduceLT, reduceCtorEq]
          repeat (with_reducible refine And.intro ?_ ?_; next => first | assumption | trivial | omega | decide | (constructor <;> first | assumption | omega) | (simp [Keep.ok, hp_cons_apply, hset_cons]; done))
          refine hk _ _ _ ?_
          refine xghost (D := []) ?_ ?_ ?_ ?_
          · exact (.cons (Sub.of_eq rfl) (.cons (Sub.of_eq rfl) (.cons (Sub.of_eq rfl) .nil)))
          · exact HpW.refl
          · exact (by intro p hp; cases hp)
          · omega
    · try simp only [go_sem, Prod.mk.injEq, reduceIte, Nat.reduceEqDiff, Nat.reduceAdd, Nat.reduceSub, Nat.reduceMul, Nat.reduceDiv, Nat.reducePow, Nat.reduceLT, Nat.reduceLeDiff, Nat.reduceBEq, Nat.reduceBneDiff, Int.reduceToNat, Int.reduceEq, Int.reduceLE, Int.reduceLT, reduceCtorEq]
      repeat (with_reducible refine And.intro ?_ ?_; next => first | assumption | trivial | omega | decide | (constructor <;> first | assumption | omega) | (simp [Keep.ok, hp_cons_apply, hset_cons]; done))
      have hcall := s_stanchionlaw06_alive_ok (hp [((d, 0), .box [.lit (.int .i64 cx.U), .lit (.int .i64 cx.R), .lit (.int .i64 cx.Peers), .lit (.int .i64 cx.Window), .lit (.int .i64 cx.Every), .lit (.int .i64 cx.Patience), eS (lI .u8) cx.Secret])] S)  hv
      refine call1_x hcall rfl ?_ ?_
      · exact .nil
      clear hcall
      rintro _ SS ⟨rfl, hSS⟩ -
      rw [hSS]
      clear hSS
      try simp only [go_sem, Prod.mk.injEq, reduceIte, Nat.reduceEqDiff, Nat.reduceAdd, Nat.reduceSub, Nat.reduceMul, Nat.reduceDiv, Nat.reducePow, Nat.reduceLT, Nat.reduceLeDiff, Nat.reduceBEq, Nat.reduceBneDiff, Int.reduceToNat, Int.reduceEq, Int.reduceLE, Int.reduceLT, reduceCtorEq]
      repeat (with_reducible refine And.intro ?_ ?_; next => first | assumption | trivial | omega | decide | (constructor <;> first | assumption | omega) | (simp [Keep.ok, hp_cons_apply, hset_cons]; done))
      refine hk _ _ _ ?_
      refine xghost (D := []) ?_ ?_ ?_ ?_
      · exact (.cons (Sub.of_eq rfl) (.cons (Sub.of_eq rfl) (.cons (Sub.of_eq rfl) .nil)))
      · exact HpW.refl
      · exact (by intro p hp; cases hp)
      · omega
  · try simp only [go_sem, Prod.mk.injEq, reduceIte, Nat.reduceEqDiff, Nat.reduceAdd, Nat.reduceSub, Nat.reduceMul, Nat.reduceDiv, Nat.reducePow, Nat.reduceLT, Nat.reduceLeDiff, Nat.reduceBEq, Nat.reduceBneDiff, Int.reduceToNat, Int.reduceEq, Int.reduceLE, Int.reduceLT, reduceCtorEq]
    repeat (with_reducible refine And.intro ?_ ?_; next => first | assumption | trivial | omega | decide | (constructor <;> first | assumption | omega) | (simp [Keep.ok, hp_cons_apply, hset_cons]; done))
    refine hk _ _ _ ?_
    refine xghost (D := []) ?_ ?_ ?_ ?_
    · exact (.cons (Sub.of_eq rfl) (.cons (Sub.of_eq rfl) .nil))
    · exact HpW.refl
    · exact (by intro p hp; cases hp)
    · omega
end
end Go.Proofs.Ytejlgalnkblndaa
