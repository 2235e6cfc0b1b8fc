/- Go functions as Lean functions, and that their code does as these say. Printed by a program of this work. -/
import Derived.Test.YtejlgalnkblndaaXL
import Derived.Test.YtejlgalnkblndaaXa
import Derived.Test.YtejlgalnkblndaaXb
set_option linter.unusedVariables false
set_option linter.unusedSimpArgs false
set_option maxRecDepth 100000
set_option maxHeartbeats 4000000
namespace Go.Proofs.Ytejlgalnkblndaa
open Go Go.Al
noncomputable section
/-! stanchion/stanchionlaw06.ConfSums -/
def s_stanchionlaw06_ConfSums_b2 (t : GapiConf) (v_1 : List GapiId) (a : Int) : Int → Option ((Int) ⊕ ((Int) ⊕ Bool))
  | y => if (decide (y < a)) = true then gd ((0 ≤ a ∧ Int.toNat a < v_1.length)) (gd ((0 ≤ y ∧ Int.toNat y < v_1.length)) (if (((v_1.getD (Int.toNat a) yGapiId.dflt).Role == (v_1.getD (Int.toNat y) yGapiId.dflt).Role) && ((v_1.getD (Int.toNat a) yGapiId.dflt).N == (v_1.getD (Int.toNat y) yGapiId.dflt).N)) = true then mr (mr (some false)) else some (.inl (IntKind.i64.wrap (y + 1))))) else mr (gd ((0 ≤ a ∧ Int.toNat a < v_1.length)) (bd (s_conf_There t (v_1.getD (Int.toNat a) yGapiId.dflt)) fun (v_6 : Bool) => if (!v_6) = true then mr (some false) else some (.inl (IntKind.i64.wrap (a + 1)))))
def s_stanchionlaw06_ConfSums_b1 (t : GapiConf) (v_1 : List GapiId) (v_2 : Int) (v_3 : Int) (v_4 : Int) (v_5 : Int) : Int → Option ((Int) ⊕ Bool)
  | a => if (decide (a < (v_1.length : Int))) = true then loop (s_stanchionlaw06_ConfSums_b2 t v_1 a) 0 else mr (bd (if ((v_1.length : Int) == (IntKind.i64.wrap ((IntKind.i64.wrap ((IntKind.i64.wrap (v_2 + v_3)) + v_4)) + v_5))) = true then s_conf_Check t else some 0) fun (v_7 : Int) => bd (if (((v_1.length : Int) == (IntKind.i64.wrap ((IntKind.i64.wrap ((IntKind.i64.wrap (v_2 + v_3)) + v_4)) + v_5))) && (((IntKind.i64.wrap ((IntKind.i64.wrap ((IntKind.i64.wrap (v_2 + v_3)) + v_4)) + v_5)) == 0) == (v_7 != 0))) = true then s_conf_Count t 3 else some 0) fun (v_8 : Int) => bd (if (((v_1.length : Int) == (IntKind.i64.wrap ((IntKind.i64.wrap ((IntKind.i64.wrap (v_2 + v_3)) + v_4)) + v_5))) && (((IntKind.i64.wrap ((IntKind.i64.wrap ((IntKind.i64.wrap (v_2 + v_3)) + v_4)) + v_5)) == 0) == (v_7 != 0))) = true then s_conf_There t (GapiId.mk 3 v_8) else some false) fun (v_9 : Bool) => some ((((v_1.length : Int) == (IntKind.i64.wrap ((IntKind.i64.wrap ((IntKind.i64.wrap (v_2 + v_3)) + v_4)) + v_5))) && (((IntKind.i64.wrap ((IntKind.i64.wrap ((IntKind.i64.wrap (v_2 + v_3)) + v_4)) + v_5)) == 0) == (v_7 != 0))) && (!v_9)))
def s_stanchionlaw06_ConfSums (t : GapiConf) : Option Bool :=
  bd (s_stanchionlaw06_alive ) fun (v : Bool) => if (!v) = true then some false else bd (s_conf_Ids t ([1, 2, 3, 4])) fun (v_1 : List GapiId) => bd (s_conf_Count t 1) fun (v_2 : Int) => bd (s_conf_Count t 2) fun (v_3 : Int) => bd (s_conf_Count t 3) fun (v_4 : Int) => bd (s_conf_Count t 4) fun (v_5 : Int) => loop (s_stanchionlaw06_ConfSums_b1 t v_1 v_2 v_3 v_4 v_5) 0
theorem s_stanchionlaw06_ConfSums_ok (S : AHeap) (t : GapiConf) {r : Bool} (h : s_stanchionlaw06_ConfSums t = some r) :
    AC Try.prog n_stanchionlaw06_ConfSums [.agg [.lit (.int .i64 t.U), .lit (.int .i64 t.R), .lit (.int .i64 t.Peers), .lit (.int .i64 t.Window), .lit (.int .i64 t.Every), .lit (.int .i64 t.Patience), eS (lI .u8) t.Secret]] S fun r' S' => r' = .ret (.lit (.bool r)) ∧ S' = S := by
  refine AC_of tok mixed fits_stanchionlaw06_ConfSums fun d hd => ?_
  unfold c_stanchionlaw06_ConfSums
  show LW _ _ _ _ [(0, .agg [.lit (.int .i64 t.U), .lit (.int .i64 t.R), .lit (.int .i64 t.Peers), .lit (.int .i64 t.Window), .lit (.int .i64 t.Every), .lit (.int .i64 t.Patience), eS (lI .u8) t.Secret])] (hp [] S) 0 _
  rw [s_stanchionlaw06_ConfSums] at h
  refine xseq [(1, .ptr (d, 0) 0)] (hp [((d, 0), .box [.lit (.int .i64 t.U), .lit (.int .i64 t.R), .lit (.int .i64 t.Peers), .lit (.int .i64 t.Window), .lit (.int .i64 t.Every), .lit (.int .i64 t.Patience), eS (lI .u8) t.Secret])] S) 1 ?_ (fun k kp hk => ?_)
  · refine LW_seq ?_
    obtain ⟨v, hv, h⟩ := bd_some h
    refine xseq [(1, .ptr (d, 0) 0), (8, .lit (.bool (!v)))] (hp [((d, 0), .box [.lit (.int .i64 t.U), .lit (.int .i64 t.R), .lit (.int .i64 t.Peers), .lit (.int .i64 t.Window), .lit (.int .i64 t.Every), .lit (.int .i64 t.Patience), eS (lI .u8) t.Secret])] S) 1 ?_ (fun k kp hk => ?_)
    · refine xcond (!v) rfl (fun hc => ?_) (fun hc => ?_)
      · rw [ite_t hc] at h
        refine xseq [(2, .lit (.bool false))] (hp [((d, 0), .box [.lit (.int .i64 t.U), .lit (.int .i64 t.R), .lit (.int .i64 t.Peers), .lit (.int .i64 t.Window), .lit (.int .i64 t.Every), .lit (.int .i64 t.Patience), eS (lI .u8) t.Secret])] S) 1 ?_ (fun k kp hk => ?_)
        · refine LW_ret ?_
          obtain rfl := Option.some.inj h
          show FPost _ _ _ _ _ _ _
          exact ⟨_, hp_less (L := []) (D := [((d, 0), .box [.lit (.int .i64 t.U), .lit (.int .i64 t.R), .lit (.int .i64 t.Peers), .lit (.int .i64 t.Window), .lit (.int .i64 t.Every), .lit (.int .i64 t.Patience), eS (lI .u8) t.Secret])]) (by intro p hp; simp only [List.mem_cons, List.not_mem_nil, or_false] at hp; rcases hp with rfl <;> first | exact hd _ (Nat.le_refl _)), rfl, rfl⟩
        · try simp only [go_sem, Prod.mk.injEq, reduceIte, Nat.reduceEqDiff, Nat.reduceAdd, Nat.reduceSub, Nat.reduceMul, Nat.reduceDiv, Nat.reducePow, Nat.reduceLT, Nat.reduceLeDiff, Nat.reduceBEq, Nat.reduceBneDiff, Int.reduceToNat, Int.reduceEq, Int.reduceLE, Int.reduceLT, reduceCtorEq]
          repeat (with_reducible refine And.intro ?_ ?_; next => first | assumption | trivial | omega | decide | (constructor <;> first | assumption | omega) | (simp [Keep.ok, hp_cons_apply, hset_cons]; done))
          refine hk _ _ _ ?_
          refine xghost (D := []) ?_ ?_ ?_ ?_
          · exact (.cons (Sub.of_eq rfl) .nil)
          · exact HpW.refl
          · exact (by intro p hp; cases hp)
          · omega
      · rw [ite_f hc] at h
        refine LW_skip ?_
        show LW _ _ _ _ _ _ _ _
        obtain ⟨v_1, hv_1, h⟩ := bd_some h
        refine xseq [(1, .ptr (d, 0) 0), (3, eS yGapiId v_1)] (hp [((d, 0), .box [.lit (.int .i64 t.U), .lit (.int .i64 t.R), .lit (.int .i64 t.Peers), .lit (.int .i64 t.Window), .lit (.int .i64 t.Every), .lit (.int .i64 t.Patience), eS (lI .u8) t.Secret])] S) 1 ?_ (fun k kp hk => ?_)
        · obtain ⟨v_2, hv_2, h⟩ := bd_some h
          obtain ⟨v_3, hv_3, h⟩ := bd_some h
          obtain ⟨v_4, hv_4, h⟩ := bd_some h
          obtain ⟨v_5, hv_5, h⟩ := bd_some h
          refine xseqd [(1, .ptr (d, 0) 0), (3, eS yGapiId v_1), (4, .lit (.int .i64 (IntKind.i64.wrap ((IntKind.i64.wrap ((IntKind.i64.wrap (v_2 + v_3)) + v_4)) + v_5))))] (hp [((d, 0), .box [.lit (.int .i64 t.U), .lit (.int .i64 t.R), .lit (.int .i64 t.Peers), .lit (.int .i64 t.Window), .lit (.int .i64 t.Every), .lit (.int .i64 t.Patience), eS (lI .u8) t.Secret])] S) 1 ?_ (fun k kp hk => ?_)
          · refine LW_seq ?_
            refine xseq [(1, .ptr (d, 0) 0), (3, eS yGapiId v_1), (4, .lit (.int .i64 (IntKind.i64.wrap ((IntKind.i64.wrap ((IntKind.i64.wrap (v_2 + v_3)) + v_4)) + v_5)))), (5, .lit (.int .i64 0))] (hp [((d, 0), .box [.lit (.int .i64 t.U), .lit (.int .i64 t.R), .lit (.int .i64 t.Peers), .lit (.int .i64 t.Window), .lit (.int .i64 t.Every), .lit (.int .i64 t.Patience), eS (lI .u8) t.Secret])] S) 1 ?_ (fun k kp hk => ?_)
            · refine LW_block ?_
              refine LW_loopX (σ := Int) (s := 0) (fun zz => [(1, .ptr (d, 0) 0), (3, eS yGapiId v_1), (4, .lit (.int .i64 (IntKind.i64.wrap ((IntKind.i64.wrap ((IntKind.i64.wrap (v_2 + v_3)) + v_4)) + v_5)))), (5, .lit (.int .i64 zz))]) (fun zz => (hp [((d, 0), .box [.lit (.int .i64 t.U), .lit (.int .i64 t.R), .lit (.int .i64 t.Peers), .lit (.int .i64 t.Window), .lit (.int .i64 t.Every), .lit (.int .i64 t.Patience), eS (lI .u8) t.Secret])] S)) h ?_ ?_
              · clear h
                rintro a x1 d1 hd1 hf1 h hx1
                show LW _ _ _ _ [(1, .ptr (d, 0) 0), (3, eS yGapiId v_1), (4, .lit (.int .i64 (IntKind.i64.wrap ((IntKind.i64.wrap ((IntKind.i64.wrap (v_2 + v_3)) + v_4)) + v_5)))), (5, .lit (.int .i64 a))] (hp [((d, 0), .box [.lit (.int .i64 t.U), .lit (.int .i64 t.R), .lit (.int .i64 t.Peers), .lit (.int .i64 t.Window), .lit (.int .i64 t.Every), .lit (.int .i64 t.Patience), eS (lI .u8) t.Secret])] S) 0 _
                have hn1d : (d = d1) = False := by simp; omega
                have hm1d : (d1 = d) = False := by simp; omega
                rw [s_stanchionlaw06_ConfSums_b1] at h
                refine LW_seq ?_
                refine xseq [(1, .ptr (d, 0) 0), (3, eS yGapiId v_1), (4, .lit (.int .i64 (IntKind.i64.wrap ((IntKind.i64.wrap ((IntKind.i64.wrap (v_2 + v_3)) + v_4)) + v_5)))), (5, .lit (.int .i64 a)), (26, .lit (.bool (decide (a < (v_1.length : Int)))))] (hp [((d, 0), .box [.lit (.int .i64 t.U), .lit (.int .i64 t.R), .lit (.int .i64 t.Peers), .lit (.int .i64 t.Window), .lit (.int .i64 t.Every), .lit (.int .i64 t.Patience), eS (lI .u8) t.Secret])] S) 0 ?_ (fun k kp hk => ?_)
                · refine xcond (decide (a < (v_1.length : Int))) rfl (fun hc_1 => ?_) (fun hc_1 => ?_)
                  · rw [ite_t hc_1] at h
                    refine LW_skip ?_
                    show LW _ _ _ _ _ _ _ _
                    refine LW_seq ?_
                    refine LW_block ?_
                    refine LW_seq ?_
                    refine xseq [(1, .ptr (d, 0) 0), (3, eS yGapiId v_1), (4, .lit (.int .i64 (IntKind.i64.wrap ((IntKind.i64.wrap ((IntKind.i64.wrap (v_2 + v_3)) + v_4)) + v_5)))), (5, .lit (.int .i64 a)), (6, .lit (.int .i64 0))] (hp [((d, 0), .box [.lit (.int .i64 t.U), .lit (.int .i64 t.R), .lit (.int .i64 t.Peers), .lit (.int .i64 t.Window), .lit (.int .i64 t.Every), .lit (.int .i64 t.Patience), eS (lI .u8) t.Secret])] S) 0 ?_ (fun k kp hk => ?_)
                    · refine LW_block ?_
                      refine LW_loopX (σ := Int) (s := 0) (fun zz => [(1, .ptr (d, 0) 0), (3, eS yGapiId v_1), (4, .lit (.int .i64 (IntKind.i64.wrap ((IntKind.i64.wrap ((IntKind.i64.wrap (v_2 + v_3)) + v_4)) + v_5)))), (5, .lit (.int .i64 a)), (6, .lit (.int .i64 zz))]) (fun zz => (hp [((d, 0), .box [.lit (.int .i64 t.U), .lit (.int .i64 t.R), .lit (.int .i64 t.Peers), .lit (.int .i64 t.Window), .lit (.int .i64 t.Every), .lit (.int .i64 t.Patience), eS (lI .u8) t.Secret])] S)) h ?_ ?_
                      · clear h
                        rintro y x2 d2 hd2 hf2 h hx2
                        show LW _ _ _ _ [(1, .ptr (d, 0) 0), (3, eS yGapiId v_1), (4, .lit (.int .i64 (IntKind.i64.wrap ((IntKind.i64.wrap ((IntKind.i64.wrap (v_2 + v_3)) + v_4)) + v_5)))), (5, .lit (.int .i64 a)), (6, .lit (.int .i64 y))] (hp [((d, 0), .box [.lit (.int .i64 t.U), .lit (.int .i64 t.R), .lit (.int .i64 t.Peers), .lit (.int .i64 t.Window), .lit (.int .i64 t.Every), .lit (.int .i64 t.Patience), eS (lI .u8) t.Secret])] S) 0 _
                        have hn2d : (d = d2) = False := by simp; omega
                        have hm2d : (d2 = d) = False := by simp; omega
                        have hn2d1 : (d1 = d2) = False := by simp; omega
                        have hm2d1 : (d2 = d1) = False := by simp; omega
                        rw [s_stanchionlaw06_ConfSums_b2] at h
                        refine LW_seq ?_
                        refine xseq [(1, .ptr (d, 0) 0), (3, eS yGapiId v_1), (4, .lit (.int .i64 (IntKind.i64.wrap ((IntKind.i64.wrap ((IntKind.i64.wrap (v_2 + v_3)) + v_4)) + v_5)))), (5, .lit (.int .i64 a)), (6, .lit (.int .i64 y)), (31, .lit (.bool (decide (y < a))))] (hp [((d, 0), .box [.lit (.int .i64 t.U), .lit (.int .i64 t.R), .lit (.int .i64 t.Peers), .lit (.int .i64 t.Window), .lit (.int .i64 t.Every), .lit (.int .i64 t.Patience), eS (lI .u8) t.Secret])] S) 0 ?_ (fun k kp hk => ?_)
                        · refine xcond (decide (y < a)) rfl (fun hc_2 => ?_) (fun hc_2 => ?_)
                          · rw [ite_t hc_2] at h
                            refine LW_skip ?_
                            show LW _ _ _ _ _ _ _ _
                            refine LW_seq ?_
                            refine LW_block ?_
                            obtain ⟨hg, h⟩ := gd_some h
                            obtain ⟨hg_1, h⟩ := gd_some h
                            refine xseqd [(1, .ptr (d, 0) 0), (3, eS yGapiId v_1), (4, .lit (.int .i64 (IntKind.i64.wrap ((IntKind.i64.wrap ((IntKind.i64.wrap (v_2 + v_3)) + v_4)) + v_5)))), (5, .lit (.int .i64 a)), (6, .lit (.int .i64 y)), (42, .lit (.bool (((v_1.getD (Int.toNat a) yGapiId.dflt).Role == (v_1.getD (Int.toNat y) yGapiId.dflt).Role) && ((v_1.getD (Int.toNat a) yGapiId.dflt).N == (v_1.getD (Int.toNat y) yGapiId.dflt).N))))] (hp [((d, 0), .box [.lit (.int .i64 t.U), .lit (.int .i64 t.R), .lit (.int .i64 t.Peers), .lit (.int .i64 t.Window), .lit (.int .i64 t.Every), .lit (.int .i64 t.Patience), eS (lI .u8) t.Secret])] S) 0 ?_ (fun k kp hk => ?_)
                            · refine xcond (((v_1.getD (Int.toNat a) yGapiId.dflt).Role == (v_1.getD (Int.toNat y) yGapiId.dflt).Role) && ((v_1.getD (Int.toNat a) yGapiId.dflt).N == (v_1.getD (Int.toNat y) yGapiId.dflt).N)) rfl (fun hc_3 => ?_) (fun hc_3 => ?_)
                              · rw [ite_t hc_3] at h
                                refine xseq [(1, .ptr (d, 0) 0), (2, .lit (.bool false)), (3, eS yGapiId v_1), (4, .lit (.int .i64 (IntKind.i64.wrap ((IntKind.i64.wrap ((IntKind.i64.wrap (v_2 + v_3)) + v_4)) + v_5)))), (5, .lit (.int .i64 a)), (6, .lit (.int .i64 y))] (hp [((d, 0), .box [.lit (.int .i64 t.U), .lit (.int .i64 t.R), .lit (.int .i64 t.Peers), .lit (.int .i64 t.Window), .lit (.int .i64 t.Every), .lit (.int .i64 t.Patience), eS (lI .u8) t.Secret])] S) 0 ?_ (fun k kp hk => ?_)
                                · obtain ⟨hq, hxe⟩ := mr_go h hx2
                                  clear h hx2
                                  subst hxe
                                  have h := hq
                                  clear hq
                                  obtain ⟨hq, hxe⟩ := mr_go h hx1
                                  clear h hx1
                                  subst hxe
                                  have h := hq
                                  clear hq
                                  refine LW_retX (sl' := [(2, .lit (.bool false))]) (S' := (hp [((d, 0), .box [.lit (.int .i64 t.U), .lit (.int .i64 t.R), .lit (.int .i64 t.Peers), .lit (.int .i64 t.Window), .lit (.int .i64 t.Every), .lit (.int .i64 t.Patience), eS (lI .u8) t.Secret])] S)) (c' := 0) ?_ ?_
                                  · refine xghost (D := []) ?_ ?_ ?_ ?_
                                    · exact (.cons (Sub.of_eq rfl) .nil)
                                    · exact HpW.refl
                                    · exact (by intro p hp; cases hp)
                                    · omega
                                  · obtain rfl := Option.some.inj h
                                    show FPost _ _ _ _ _ _ _
                                    exact ⟨_, hp_less (L := []) (D := [((d, 0), .box [.lit (.int .i64 t.U), .lit (.int .i64 t.R), .lit (.int .i64 t.Peers), .lit (.int .i64 t.Window), .lit (.int .i64 t.Every), .lit (.int .i64 t.Patience), eS (lI .u8) t.Secret])]) (by intro p hp; simp only [List.mem_cons, List.not_mem_nil, or_false] at hp; rcases hp with rfl <;> first | exact hd _ (Nat.le_refl _)), rfl, rfl⟩
                                · try simp only [go_sem, Prod.mk.injEq, reduceIte, Nat.reduceEqDiff, Nat.reduceAdd, Nat.reduceSub, Nat.reduceMul, Nat.reduceDiv, Nat.reducePow, Nat.reduceLT, Nat.reduceLeDiff, Nat.reduceBEq, Nat.reduceBneDiff, Int.reduceToNat, Int.reduceEq, Int.reduceLE, Int.reduceLT, reduceCtorEq, hn1d, hm1d, hn2d, hm2d, hn2d1, hm2d1]
                                  repeat (with_reducible refine And.intro ?_ ?_; next => first | assumption | trivial | omega | decide | (constructor <;> first | assumption | omega) | (simp [Keep.ok, hp_cons_apply, hset_cons, hn1d, hm1d, hn2d, hm2d, hn2d1, hm2d1]; done))
                                  refine hk _ _ _ ?_
                                  refine xghost (D := []) ?_ ?_ ?_ ?_
                                  · exact (.cons (Sub.of_eq rfl) (.cons (Sub.of_eq rfl) (.cons (Sub.of_eq rfl) (.cons (Sub.of_eq rfl) (.cons (Sub.of_eq rfl) (.cons (Sub.of_eq rfl) .nil))))))
                                  · exact HpW.refl
                                  · exact (by intro p hp; cases hp)
                                  · omega
                              · rw [ite_f hc_3] at h
                                refine LW_skip ?_
                                show LW _ _ _ _ _ _ _ _
                                refine xreg [(1, .ptr (d, 0) 0), (3, eS yGapiId v_1), (4, .lit (.int .i64 (IntKind.i64.wrap ((IntKind.i64.wrap ((IntKind.i64.wrap (v_2 + v_3)) + v_4)) + v_5)))), (5, .lit (.int .i64 a)), (6, .lit (.int .i64 (IntKind.i64.wrap (y + 1))))] (hp [((d, 0), .box [.lit (.int .i64 t.U), .lit (.int .i64 t.R), .lit (.int .i64 t.Peers), .lit (.int .i64 t.Window), .lit (.int .i64 t.Every), .lit (.int .i64 t.Patience), eS (lI .u8) t.Secret])] S) 0 ?_ (fun k kp hk => ?_)
                                · cases h
                                  exact ⟨rfl, Less.refl _⟩
                                · try simp only [go_sem, Prod.mk.injEq, reduceIte, Nat.reduceEqDiff, Nat.reduceAdd, Nat.reduceSub, Nat.reduceMul, Nat.reduceDiv, Nat.reducePow, Nat.reduceLT, Nat.reduceLeDiff, Nat.reduceBEq, Nat.reduceBneDiff, Int.reduceToNat, Int.reduceEq, Int.reduceLE, Int.reduceLT, reduceCtorEq, hn1d, hm1d, hn2d, hm2d, hn2d1, hm2d1]
                                  repeat (with_reducible refine And.intro ?_ ?_; next => first | assumption | trivial | omega | decide | (constructor <;> first | assumption | omega) | (simp [Keep.ok, hp_cons_apply, hset_cons, hn1d, hm1d, hn2d, hm2d, hn2d1, hm2d1]; done))
                                  refine hk _ _ _ ?_
                                  refine xghost (D := []) ?_ ?_ ?_ ?_
                                  · exact (.cons (Sub.of_eq rfl) (.cons (Sub.of_eq rfl) (.cons (Sub.of_eq rfl) (.cons (Sub.of_eq rfl) (.cons (Sub.of_eq rfl) .nil)))))
                                  · exact HpW.refl
                                  · exact (by intro p hp; cases hp)
                                  · omega
                            · try simp only [go_sem, Prod.mk.injEq, reduceIte, Nat.reduceEqDiff, Nat.reduceAdd, Nat.reduceSub, Nat.reduceMul, Nat.reduceDiv, Nat.reducePow, Nat.reduceLT, Nat.reduceLeDiff, Nat.reduceBEq, Nat.reduceBneDiff, Int.reduceToNat, Int.reduceEq, Int.reduceLE, Int.reduceLT, reduceCtorEq, hn1d, hm1d, hn2d, hm2d, hn2d1, hm2d1]
                              repeat (with_reducible refine And.intro ?_ ?_; next => first | assumption | trivial | omega | decide | (constructor <;> first | assumption | omega) | (simp [Keep.ok, hp_cons_apply, hset_cons, hn1d, hm1d, hn2d, hm2d, hn2d1, hm2d1]; done))
                              refine hk _ _ _ ?_
                              refine xghost (D := []) ?_ ?_ ?_ ?_
                              · exact (.cons (Sub.of_eq rfl) (.cons (Sub.of_eq rfl) (.cons (Sub.of_eq rfl) (.cons (Sub.of_eq rfl) (.cons (Sub.of_eq rfl) (.cons (Sub.of_eq rfl) .nil))))))
                              · exact HpW.refl
                              · exact (by intro p hp; cases hp)
                              · omega
                          · rw [ite_f hc_2] at h
                            obtain ⟨hq, hxe⟩ := mr_go h hx2
                            clear h hx2
                            subst hxe
                            have h := hq
                            clear hq
                            refine LW_exitX (sl' := [(1, .ptr (d, 0) 0), (3, eS yGapiId v_1), (4, .lit (.int .i64 (IntKind.i64.wrap ((IntKind.i64.wrap ((IntKind.i64.wrap (v_2 + v_3)) + v_4)) + v_5)))), (5, .lit (.int .i64 a)), (6, .lit (.int .i64 y)), (31, .lit (.bool (decide (y < a))))]) (S' := (hp [((d, 0), .box [.lit (.int .i64 t.U), .lit (.int .i64 t.R), .lit (.int .i64 t.Peers), .lit (.int .i64 t.Window), .lit (.int .i64 t.Every), .lit (.int .i64 t.Patience), eS (lI .u8) t.Secret])] S)) (c' := 0) ?_ ?_
                            · refine xghost (D := []) ?_ ?_ ?_ ?_
                              · exact (.cons (Sub.of_eq rfl) (.cons (Sub.of_eq rfl) (.cons (Sub.of_eq rfl) (.cons (Sub.of_eq rfl) (.cons (Sub.of_eq rfl) (.cons (Sub.of_eq rfl) .nil))))))
                              · exact HpW.refl
                              · exact (by intro p hp; cases hp)
                              · omega
                            · show LW _ _ _ _ _ _ _ _
                              obtain ⟨hg_2, h⟩ := gd_some h
                              obtain ⟨v_6, hv_6, h⟩ := bd_some h
                              refine xseqd [(1, .ptr (d, 0) 0), (3, eS yGapiId v_1), (4, .lit (.int .i64 (IntKind.i64.wrap ((IntKind.i64.wrap ((IntKind.i64.wrap (v_2 + v_3)) + v_4)) + v_5)))), (5, .lit (.int .i64 a)), (49, .lit (.bool (!v_6)))] (hp [((d, 0), .box [.lit (.int .i64 t.U), .lit (.int .i64 t.R), .lit (.int .i64 t.Peers), .lit (.int .i64 t.Window), .lit (.int .i64 t.Every), .lit (.int .i64 t.Patience), eS (lI .u8) t.Secret])] S) 0 ?_ (fun k kp hk => ?_)
                              · refine xcond (!v_6) rfl (fun hc_4 => ?_) (fun hc_4 => ?_)
                                · rw [ite_t hc_4] at h
                                  refine xseq [(1, .ptr (d, 0) 0), (2, .lit (.bool false)), (3, eS yGapiId v_1), (4, .lit (.int .i64 (IntKind.i64.wrap ((IntKind.i64.wrap ((IntKind.i64.wrap (v_2 + v_3)) + v_4)) + v_5)))), (5, .lit (.int .i64 a))] (hp [((d, 0), .box [.lit (.int .i64 t.U), .lit (.int .i64 t.R), .lit (.int .i64 t.Peers), .lit (.int .i64 t.Window), .lit (.int .i64 t.Every), .lit (.int .i64 t.Patience), eS (lI .u8) t.Secret])] S) 0 ?_ (fun k kp hk => ?_)
                                  · obtain ⟨hq, hxe⟩ := mr_go h hx1
                                    clear h hx1
                                    subst hxe
                                    have h := hq
                                    clear hq
                                    refine LW_retX (sl' := [(2, .lit (.bool false))]) (S' := (hp [((d, 0), .box [.lit (.int .i64 t.U), .lit (.int .i64 t.R), .lit (.int .i64 t.Peers), .lit (.int .i64 t.Window), .lit (.int .i64 t.Every), .lit (.int .i64 t.Patience), eS (lI .u8) t.Secret])] S)) (c' := 0) ?_ ?_
                                    · refine xghost (D := []) ?_ ?_ ?_ ?_
                                      · exact (.cons (Sub.of_eq rfl) .nil)
                                      · exact HpW.refl
                                      · exact (by intro p hp; cases hp)
                                      · omega
                                    · obtain rfl := Option.some.inj h
                                      show FPost _ _ _ _ _ _ _
                                      exact ⟨_, hp_less (L := []) (D := [((d, 0), .box [.lit (.int .i64 t.U), .lit (.int .i64 t.R), .lit (.int .i64 t.Peers), .lit (.int .i64 t.Window), .lit (.int .i64 t.Every), .lit (.int .i64 t.Patience), eS (lI .u8) t.Secret])]) (by intro p hp; simp only [List.mem_cons, List.not_mem_nil, or_false] at hp; rcases hp with rfl <;> first | exact hd _ (Nat.le_refl _)), rfl, rfl⟩
                                  · try simp only [go_sem, Prod.mk.injEq, reduceIte, Nat.reduceEqDiff, Nat.reduceAdd, Nat.reduceSub, Nat.reduceMul, Nat.reduceDiv, Nat.reducePow, Nat.reduceLT, Nat.reduceLeDiff, Nat.reduceBEq, Nat.reduceBneDiff, Int.reduceToNat, Int.reduceEq, Int.reduceLE, Int.reduceLT, reduceCtorEq, hn1d, hm1d, hn2d, hm2d, hn2d1, hm2d1]
                                    repeat (with_reducible refine And.intro ?_ ?_; next => first | assumption | trivial | omega | decide | (constructor <;> first | assumption | omega) | (simp [Keep.ok, hp_cons_apply, hset_cons, hn1d, hm1d, hn2d, hm2d, hn2d1, hm2d1]; done))
                                    refine hk _ _ _ ?_
                                    refine xghost (D := []) ?_ ?_ ?_ ?_
                                    · exact (.cons (Sub.of_eq rfl) (.cons (Sub.of_eq rfl) (.cons (Sub.of_eq rfl) (.cons (Sub.of_eq rfl) (.cons (Sub.of_eq rfl) .nil)))))
                                    · exact HpW.refl
                                    · exact (by intro p hp; cases hp)
                                    · omega
                                · rw [ite_f hc_4] at h
                                  refine LW_skip ?_
                                  show LW _ _ _ _ _ _ _ _
                                  refine xreg [(1, .ptr (d, 0) 0), (3, eS yGapiId v_1), (4, .lit (.int .i64 (IntKind.i64.wrap ((IntKind.i64.wrap ((IntKind.i64.wrap (v_2 + v_3)) + v_4)) + v_5)))), (5, .lit (.int .i64 (IntKind.i64.wrap (a + 1))))] (hp [((d, 0), .box [.lit (.int .i64 t.U), .lit (.int .i64 t.R), .lit (.int .i64 t.Peers), .lit (.int .i64 t.Window), .lit (.int .i64 t.Every), .lit (.int .i64 t.Patience), eS (lI .u8) t.Secret])] S) 0 ?_ (fun k kp hk => ?_)
                                  · cases h
                                    exact ⟨rfl, Less.refl _⟩
                                  · try simp only [go_sem, Prod.mk.injEq, reduceIte, Nat.reduceEqDiff, Nat.reduceAdd, Nat.reduceSub, Nat.reduceMul, Nat.reduceDiv, Nat.reducePow, Nat.reduceLT, Nat.reduceLeDiff, Nat.reduceBEq, Nat.reduceBneDiff, Int.reduceToNat, Int.reduceEq, Int.reduceLE, Int.reduceLT, reduceCtorEq, hn1d, hm1d, hn2d, hm2d, hn2d1, hm2d1]
                                    repeat (with_reducible refine And.intro ?_ ?_; next => first | assumption | trivial | omega | decide | (constructor <;> first | assumption | omega) | (simp [Keep.ok, hp_cons_apply, hset_cons, hn1d, hm1d, hn2d, hm2d, hn2d1, hm2d1]; done))
                                    refine hk _ _ _ ?_
                                    refine xghost (D := []) ?_ ?_ ?_ ?_
                                    · exact (.cons (Sub.of_eq rfl) (.cons (Sub.of_eq rfl) (.cons (Sub.of_eq rfl) (.cons (Sub.of_eq rfl) .nil))))
                                    · exact HpW.refl
                                    · exact (by intro p hp; cases hp)
                                    · omega
                              · try simp only [go_sem, Prod.mk.injEq, reduceIte, Nat.reduceEqDiff, Nat.reduceAdd, Nat.reduceSub, Nat.reduceMul, Nat.reduceDiv, Nat.reducePow, Nat.reduceLT, Nat.reduceLeDiff, Nat.reduceBEq, Nat.reduceBneDiff, Int.reduceToNat, Int.reduceEq, Int.reduceLE, Int.reduceLT, reduceCtorEq, hn1d, hm1d, hn2d, hm2d, hn2d1, hm2d1]
                                repeat (with_reducible refine And.intro ?_ ?_; next => first | assumption | trivial | omega | decide | (constructor <;> first | assumption | omega) | (simp [Keep.ok, hp_cons_apply, hset_cons, hn1d, hm1d, hn2d, hm2d, hn2d1, hm2d1]; done))
                                have hcall := s_conf_There_ok (hp [((d, 0), .box [.lit (.int .i64 t.U), .lit (.int .i64 t.R), .lit (.int .i64 t.Peers), .lit (.int .i64 t.Window), .lit (.int .i64 t.Every), .lit (.int .i64 t.Patience), eS (lI .u8) t.Secret])] S) t (v_1.getD (Int.toNat a) yGapiId.dflt) hv_6
                                refine call1_x hcall rfl ?_ ?_
                                · exact (.cons Sub.refl (.cons Sub.refl .nil))
                                clear hcall
                                rintro _ SS ⟨rfl, hSS⟩ -
                                rw [hSS]
                                clear hSS
                                try simp only [go_sem, Prod.mk.injEq, reduceIte, Nat.reduceEqDiff, Nat.reduceAdd, Nat.reduceSub, Nat.reduceMul, Nat.reduceDiv, Nat.reducePow, Nat.reduceLT, Nat.reduceLeDiff, Nat.reduceBEq, Nat.reduceBneDiff, Int.reduceToNat, Int.reduceEq, Int.reduceLE, Int.reduceLT, reduceCtorEq, hn1d, hm1d, hn2d, hm2d, hn2d1, hm2d1]
                                repeat (with_reducible refine And.intro ?_ ?_; next => first | assumption | trivial | omega | decide | (constructor <;> first | assumption | omega) | (simp [Keep.ok, hp_cons_apply, hset_cons, hn1d, hm1d, hn2d, hm2d, hn2d1, hm2d1]; done))
                                try simp only [go_sem, Prod.mk.injEq, reduceIte, Nat.reduceEqDiff, Nat.reduceAdd, Nat.reduceSub, Nat.reduceMul, Nat.reduceDiv, Nat.reducePow, Nat.reduceLT, Nat.reduceLeDiff, Nat.reduceBEq, Nat.reduceBneDiff, Int.reduceToNat, Int.reduceEq, Int.reduceLE, Int.reduceLT, reduceCtorEq, hn1d, hm1d, hn2d, hm2d, hn2d1, hm2d1]
                                repeat (with_reducible refine And.intro ?_ ?_; next => first | assumption | trivial | omega | decide | (constructor <;> first | assumption | omega) | (simp [Keep.ok, hp_cons_apply, hset_cons, hn1d, hm1d, hn2d, hm2d, hn2d1, hm2d1]; done))
                                refine hk _ _ _ ?_
                                refine xghost (D := []) ?_ ?_ ?_ ?_
                                · exact (.cons (Sub.of_eq rfl) (.cons (Sub.of_eq rfl) (.cons (Sub.of_eq rfl) (.cons (Sub.of_eq rfl) (.cons (Sub.of_eq rfl) .nil)))))
                                · exact HpW.refl
                                · exact (by intro p hp; cases hp)
                                · omega
                        · try simp only [go_sem, Prod.mk.injEq, reduceIte, Nat.reduceEqDiff, Nat.reduceAdd, Nat.reduceSub, Nat.reduceMul, Nat.reduceDiv, Nat.reducePow, Nat.reduceLT, Nat.reduceLeDiff, Nat.reduceBEq, Nat.reduceBneDiff, Int.reduceToNat, Int.reduceEq, Int.reduceLE, Int.reduceLT, reduceCtorEq, hn1d, hm1d, hn2d, hm2d, hn2d1, hm2d1]
                          repeat (with_reducible refine And.intro ?_ ?_; next => first | assumption | trivial | omega | decide | (constructor <;> first | assumption | omega) | (simp [Keep.ok, hp_cons_apply, hset_cons, hn1d, hm1d, hn2d, hm2d, hn2d1, hm2d1]; done))
                          refine hk _ _ _ ?_
                          refine xghost (D := []) ?_ ?_ ?_ ?_
                          · exact (.cons (Sub.of_eq rfl) (.cons (Sub.of_eq rfl) (.cons (Sub.of_eq rfl) (.cons (Sub.of_eq rfl) (.cons (Sub.of_eq rfl) (.cons (Sub.of_eq rfl) .nil))))))
                          · exact HpW.refl
                          · exact (by intro p hp; cases hp)
                          · omega
                      · refine xghost (D := []) ?_ ?_ ?_ ?_
                        · exact (.cons (Sub.of_eq rfl) (.cons (Sub.of_eq rfl) (.cons (Sub.of_eq rfl) (.cons (Sub.of_eq rfl) (.cons (Sub.of_eq rfl) .nil)))))
                        · exact HpW.refl
                        · exact (by intro p hp; cases hp)
                        · omega
                    · try simp only [go_sem, Prod.mk.injEq, reduceIte, Nat.reduceEqDiff, Nat.reduceAdd, Nat.reduceSub, Nat.reduceMul, Nat.reduceDiv, Nat.reducePow, Nat.reduceLT, Nat.reduceLeDiff, Nat.reduceBEq, Nat.reduceBneDiff, Int.reduceToNat, Int.reduceEq, Int.reduceLE, Int.reduceLT, reduceCtorEq, hn1d, hm1d]
                      repeat (with_reducible refine And.intro ?_ ?_; next => first | assumption | trivial | omega | decide | (constructor <;> first | assumption | omega) | (simp [Keep.ok, hp_cons_apply, hset_cons, hn1d, hm1d]; done))
                      refine hk _ _ _ ?_
                      refine xghost (D := []) ?_ ?_ ?_ ?_
                      · exact (.cons (Sub.of_eq rfl) (.cons (Sub.of_eq rfl) (.cons (Sub.of_eq rfl) (.cons (Sub.of_eq rfl) (.cons (Sub.of_eq rfl) .nil)))))
                      · exact HpW.refl
                      · exact (by intro p hp; cases hp)
                      · omega
                  · rw [ite_f hc_1] at h
                    obtain ⟨hq, hxe⟩ := mr_go h hx1
                    clear h hx1
                    subst hxe
                    have h := hq
                    clear hq
                    refine LW_exitX (sl' := [(1, .ptr (d, 0) 0), (3, eS yGapiId v_1), (4, .lit (.int .i64 (IntKind.i64.wrap ((IntKind.i64.wrap ((IntKind.i64.wrap (v_2 + v_3)) + v_4)) + v_5)))), (5, .lit (.int .i64 a)), (26, .lit (.bool (decide (a < (v_1.length : Int)))))]) (S' := (hp [((d, 0), .box [.lit (.int .i64 t.U), .lit (.int .i64 t.R), .lit (.int .i64 t.Peers), .lit (.int .i64 t.Window), .lit (.int .i64 t.Every), .lit (.int .i64 t.Patience), eS (lI .u8) t.Secret])] S)) (c' := 0) ?_ ?_
                    · refine xghost (D := []) ?_ ?_ ?_ ?_
                      · exact (.cons (Sub.of_eq rfl) (.cons (Sub.of_eq rfl) (.cons (Sub.of_eq rfl) (.cons (Sub.of_eq rfl) (.cons (Sub.of_eq rfl) .nil)))))
                      · exact HpW.refl
                      · exact (by intro p hp; cases hp)
                      · omega
                    · show LW _ _ _ _ _ _ _ _
                      obtain ⟨v_7, hv_7, h⟩ := bd_some h
                      obtain ⟨v_8, hv_8, h⟩ := bd_some h
                      obtain ⟨v_9, hv_9, h⟩ := bd_some h
                      refine xseqd [(2, .lit (.bool ((((v_1.length : Int) == (IntKind.i64.wrap ((IntKind.i64.wrap ((IntKind.i64.wrap (v_2 + v_3)) + v_4)) + v_5))) && (((IntKind.i64.wrap ((IntKind.i64.wrap ((IntKind.i64.wrap (v_2 + v_3)) + v_4)) + v_5)) == 0) == (v_7 != 0))) && (!v_9))))] (hp [((d, 0), .box [.lit (.int .i64 t.U), .lit (.int .i64 t.R), .lit (.int .i64 t.Peers), .lit (.int .i64 t.Window), .lit (.int .i64 t.Every), .lit (.int .i64 t.Patience), eS (lI .u8) t.Secret])] S) 1 ?_ (fun k kp hk => ?_)
                      · refine LW_ret ?_
                        obtain rfl := Option.some.inj h
                        show FPost _ _ _ _ _ _ _
                        exact ⟨_, hp_less (L := []) (D := [((d, 0), .box [.lit (.int .i64 t.U), .lit (.int .i64 t.R), .lit (.int .i64 t.Peers), .lit (.int .i64 t.Window), .lit (.int .i64 t.Every), .lit (.int .i64 t.Patience), eS (lI .u8) t.Secret])]) (by intro p hp; simp only [List.mem_cons, List.not_mem_nil, or_false] at hp; rcases hp with rfl <;> first | exact hd _ (Nat.le_refl _)), rfl, rfl⟩
                      · try simp only [go_sem, Prod.mk.injEq, reduceIte, Nat.reduceEqDiff, Nat.reduceAdd, Nat.reduceSub, Nat.reduceMul, Nat.reduceDiv, Nat.reducePow, Nat.reduceLT, Nat.reduceLeDiff, Nat.reduceBEq, Nat.reduceBneDiff, Int.reduceToNat, Int.reduceEq, Int.reduceLE, Int.reduceLT, reduceCtorEq, hn1d, hm1d]
                        repeat (with_reducible refine And.intro ?_ ?_; next => first | assumption | trivial | omega | decide | (constructor <;> first | assumption | omega) | (simp [Keep.ok, hp_cons_apply, hset_cons, hn1d, hm1d]; done))
                        refine xd_guard ((v_1.length : Int) == (IntKind.i64.wrap ((IntKind.i64.wrap ((IntKind.i64.wrap (v_2 + v_3)) + v_4)) + v_5))) rfl (fun hc_5 => ?_) (fun hc_5 => ?_)
                        · try simp only [go_sem, Prod.mk.injEq, reduceIte, Nat.reduceEqDiff, Nat.reduceAdd, Nat.reduceSub, Nat.reduceMul, Nat.reduceDiv, Nat.reducePow, Nat.reduceLT, Nat.reduceLeDiff, Nat.reduceBEq, Nat.reduceBneDiff, Int.reduceToNat, Int.reduceEq, Int.reduceLE, Int.reduceLT, reduceCtorEq, hn1d, hm1d, hc_5]
                          repeat (with_reducible refine And.intro ?_ ?_; next => first | assumption | trivial | omega | decide | (constructor <;> first | assumption | omega) | (simp [Keep.ok, hp_cons_apply, hset_cons, hn1d, hm1d]; done))
                          rw [if_pos (by simp only [Bool.and_true, Bool.true_and, Bool.and_false, Bool.false_and, Bool.or_true, Bool.true_or, Bool.or_false, Bool.false_or, Bool.not_true, Bool.not_false, Bool.not_not, hc_5])] at hv_7
                          have hcall := s_conf_Check_ok (hp [((d, 0), .box [.lit (.int .i64 t.U), .lit (.int .i64 t.R), .lit (.int .i64 t.Peers), .lit (.int .i64 t.Window), .lit (.int .i64 t.Every), .lit (.int .i64 t.Patience), eS (lI .u8) t.Secret])] S) t hv_7
                          refine call1_x hcall rfl ?_ ?_
                          · exact (.cons Sub.refl .nil)
                          clear hcall
                          rintro _ SS ⟨rfl, hSS⟩ -
                          rw [hSS]
                          clear hSS
                          try simp only [go_sem, Prod.mk.injEq, reduceIte, Nat.reduceEqDiff, Nat.reduceAdd, Nat.reduceSub, Nat.reduceMul, Nat.reduceDiv, Nat.reducePow, Nat.reduceLT, Nat.reduceLeDiff, Nat.reduceBEq, Nat.reduceBneDiff, Int.reduceToNat, Int.reduceEq, Int.reduceLE, Int.reduceLT, reduceCtorEq, hn1d, hm1d, hc_5]
                          repeat (with_reducible refine And.intro ?_ ?_; next => first | assumption | trivial | omega | decide | (constructor <;> first | assumption | omega) | (simp [Keep.ok, hp_cons_apply, hset_cons, hn1d, hm1d]; done))
                          try simp only [go_sem, Prod.mk.injEq, reduceIte, Nat.reduceEqDiff, Nat.reduceAdd, Nat.reduceSub, Nat.reduceMul, Nat.reduceDiv, Nat.reducePow, Nat.reduceLT, Nat.reduceLeDiff, Nat.reduceBEq, Nat.reduceBneDiff, Int.reduceToNat, Int.reduceEq, Int.reduceLE, Int.reduceLT, reduceCtorEq, hn1d, hm1d, hc_5]
                          repeat (with_reducible refine And.intro ?_ ?_; next => first | assumption | trivial | omega | decide | (constructor <;> first | assumption | omega) | (simp [Keep.ok, hp_cons_apply, hset_cons, hn1d, hm1d]; done))
                          refine xd_guard (((IntKind.i64.wrap ((IntKind.i64.wrap ((IntKind.i64.wrap (v_2 + v_3)) + v_4)) + v_5)) == 0) == (v_7 != 0)) rfl (fun hc_6 => ?_) (fun hc_6 => ?_)
                          · try simp only [go_sem, Prod.mk.injEq, reduceIte, Nat.reduceEqDiff, Nat.reduceAdd, Nat.reduceSub, Nat.reduceMul, Nat.reduceDiv, Nat.reducePow, Nat.reduceLT, Nat.reduceLeDiff, Nat.reduceBEq, Nat.reduceBneDiff, Int.reduceToNat, Int.reduceEq, Int.reduceLE, Int.reduceLT, reduceCtorEq, hn1d, hm1d, hc_5, hc_6]
                            repeat (with_reducible refine And.intro ?_ ?_; next => first | assumption | trivial | omega | decide | (constructor <;> first | assumption | omega) | (simp [Keep.ok, hp_cons_apply, hset_cons, hn1d, hm1d]; done))
                            rw [if_pos (by simp only [Bool.and_true, Bool.true_and, Bool.and_false, Bool.false_and, Bool.or_true, Bool.true_or, Bool.or_false, Bool.false_or, Bool.not_true, Bool.not_false, Bool.not_not, hc_5, hc_6])] at hv_8
                            have hcall := s_conf_Count_ok (hp [((d, 0), .box [.lit (.int .i64 t.U), .lit (.int .i64 t.R), .lit (.int .i64 t.Peers), .lit (.int .i64 t.Window), .lit (.int .i64 t.Every), .lit (.int .i64 t.Patience), eS (lI .u8) t.Secret])] S) t 3 hv_8
                            refine call1_x hcall rfl ?_ ?_
                            · exact (.cons Sub.refl (.cons Sub.refl .nil))
                            clear hcall
                            rintro _ SS ⟨rfl, hSS⟩ -
                            rw [hSS]
                            clear hSS
                            try simp only [go_sem, Prod.mk.injEq, reduceIte, Nat.reduceEqDiff, Nat.reduceAdd, Nat.reduceSub, Nat.reduceMul, Nat.reduceDiv, Nat.reducePow, Nat.reduceLT, Nat.reduceLeDiff, Nat.reduceBEq, Nat.reduceBneDiff, Int.reduceToNat, Int.reduceEq, Int.reduceLE, Int.reduceLT, reduceCtorEq, hn1d, hm1d, hc_5, hc_6]
                            repeat (with_reducible refine And.intro ?_ ?_; next => first | assumption | trivial | omega | decide | (constructor <;> first | assumption | omega) | (simp [Keep.ok, hp_cons_apply, hset_cons, hn1d, hm1d]; done))
                            try simp only [go_sem, Prod.mk.injEq, reduceIte, Nat.reduceEqDiff, Nat.reduceAdd, Nat.reduceSub, Nat.reduceMul, Nat.reduceDiv, Nat.reducePow, Nat.reduceLT, Nat.reduceLeDiff, Nat.reduceBEq, Nat.reduceBneDiff, Int.reduceToNat, Int.reduceEq, Int.reduceLE, Int.reduceLT, reduceCtorEq, hn1d, hm1d, hc_5, hc_6]
                            repeat (with_reducible refine And.intro ?_ ?_; next => first | assumption | trivial | omega | decide | (constructor <;> first | assumption | omega) | (simp [Keep.ok, hp_cons_apply, hset_cons, hn1d, hm1d]; done))
                            rw [if_pos (by simp only [Bool.and_true, Bool.true_and, Bool.and_false, Bool.false_and, Bool.or_true, Bool.true_or, Bool.or_false, Bool.false_or, Bool.not_true, Bool.not_false, Bool.not_not, hc_5, hc_6])] at hv_9
                            have hcall := s_conf_There_ok (hp [((d, 0), .box [.lit (.int .i64 t.U), .lit (.int .i64 t.R), .lit (.int .i64 t.Peers), .lit (.int .i64 t.Window), .lit (.int .i64 t.Every), .lit (.int .i64 t.Patience), eS (lI .u8) t.Secret])] S) t (GapiId.mk 3 v_8) hv_9
                            refine call1_x hcall rfl ?_ ?_
                            · exact (.cons Sub.refl (.cons Sub.refl .nil))
                            clear hcall
                            rintro _ SS ⟨rfl, hSS⟩ -
                            rw [hSS]
                            clear hSS
                            try simp only [go_sem, Prod.mk.injEq, reduceIte, Nat.reduceEqDiff, Nat.reduceAdd, Nat.reduceSub, Nat.reduceMul, Nat.reduceDiv, Nat.reducePow, Nat.reduceLT, Nat.reduceLeDiff, Nat.reduceBEq, Nat.reduceBneDiff, Int.reduceToNat, Int.reduceEq, Int.reduceLE, Int.reduceLT, reduceCtorEq, hn1d, hm1d, hc_5, hc_6]
                            repeat (with_reducible refine And.intro ?_ ?_; next => first | assumption | trivial | omega | decide | (constructor <;> first | assumption | omega) | (simp [Keep.ok, hp_cons_apply, hset_cons, hn1d, hm1d]; done))
                            try simp only [go_sem, Prod.mk.injEq, reduceIte, Nat.reduceEqDiff, Nat.reduceAdd, Nat.reduceSub, Nat.reduceMul, Nat.reduceDiv, Nat.reducePow, Nat.reduceLT, Nat.reduceLeDiff, Nat.reduceBEq, Nat.reduceBneDiff, Int.reduceToNat, Int.reduceEq, Int.reduceLE, Int.reduceLT, reduceCtorEq, hn1d, hm1d, hc_5, hc_6]
                            repeat (with_reducible refine And.intro ?_ ?_; next => first | assumption | trivial | omega | decide | (constructor <;> first | assumption | omega) | (simp [Keep.ok, hp_cons_apply, hset_cons, hn1d, hm1d]; done))
                            refine hk _ _ _ ?_
                            refine xghost (D := []) ?_ ?_ ?_ ?_
                            · exact (.cons (Sub.of_eq (by first | rfl | (simp only [sget_cons, reduceIte, Nat.reduceEqDiff, Bool.and_true, Bool.true_and, Bool.and_false, Bool.false_and, Bool.or_true, Bool.true_or, Bool.or_false, Bool.false_or, Bool.not_true, Bool.not_false, Bool.not_not, hc_5, hc_6]; done))) .nil)
                            · exact HpW.refl
                            · exact (by intro p hp; cases hp)
                            · omega
                          · try simp only [go_sem, Prod.mk.injEq, reduceIte, Nat.reduceEqDiff, Nat.reduceAdd, Nat.reduceSub, Nat.reduceMul, Nat.reduceDiv, Nat.reducePow, Nat.reduceLT, Nat.reduceLeDiff, Nat.reduceBEq, Nat.reduceBneDiff, Int.reduceToNat, Int.reduceEq, Int.reduceLE, Int.reduceLT, reduceCtorEq, hn1d, hm1d, hc_5, hc_6]
                            repeat (with_reducible refine And.intro ?_ ?_; next => first | assumption | trivial | omega | decide | (constructor <;> first | assumption | omega) | (simp [Keep.ok, hp_cons_apply, hset_cons, hn1d, hm1d]; done))
                            refine hk _ _ _ ?_
                            refine xghost (D := []) ?_ ?_ ?_ ?_
                            · exact (.cons (Sub.of_eq (by first | rfl | (simp only [sget_cons, reduceIte, Nat.reduceEqDiff, Bool.and_true, Bool.true_and, Bool.and_false, Bool.false_and, Bool.or_true, Bool.true_or, Bool.or_false, Bool.false_or, Bool.not_true, Bool.not_false, Bool.not_not, hc_5, hc_6]; done))) .nil)
                            · exact HpW.refl
                            · exact (by intro p hp; cases hp)
                            · omega
                        · try simp only [go_sem, Prod.mk.injEq, reduceIte, Nat.reduceEqDiff, Nat.reduceAdd, Nat.reduceSub, Nat.reduceMul, Nat.reduceDiv, Nat.reducePow, Nat.reduceLT, Nat.reduceLeDiff, Nat.reduceBEq, Nat.reduceBneDiff, Int.reduceToNat, Int.reduceEq, Int.reduceLE, Int.reduceLT, reduceCtorEq, hn1d, hm1d, hc_5]
                          repeat (with_reducible refine And.intro ?_ ?_; next => first | assumption | trivial | omega | decide | (constructor <;> first | assumption | omega) | (simp [Keep.ok, hp_cons_apply, hset_cons, hn1d, hm1d]; done))
                          refine hk _ _ _ ?_
                          refine xghost (D := []) ?_ ?_ ?_ ?_
                          · exact (.cons (Sub.of_eq (by first | rfl | (simp only [sget_cons, reduceIte, Nat.reduceEqDiff, Bool.and_true, Bool.true_and, Bool.and_false, Bool.false_and, Bool.or_true, Bool.true_or, Bool.or_false, Bool.false_or, Bool.not_true, Bool.not_false, Bool.not_not, hc_5]; done))) .nil)
                          · exact HpW.refl
                          · exact (by intro p hp; cases hp)
                          · omega
                · try simp only [go_sem, Prod.mk.injEq, reduceIte, Nat.reduceEqDiff, Nat.reduceAdd, Nat.reduceSub, Nat.reduceMul, Nat.reduceDiv, Nat.reducePow, Nat.reduceLT, Nat.reduceLeDiff, Nat.reduceBEq, Nat.reduceBneDiff, Int.reduceToNat, Int.reduceEq, Int.reduceLE, Int.reduceLT, reduceCtorEq, hn1d, hm1d]
                  repeat (with_reducible refine And.intro ?_ ?_; next => first | assumption | trivial | omega | decide | (constructor <;> first | assumption | omega) | (simp [Keep.ok, hp_cons_apply, hset_cons, hn1d, hm1d]; done))
                  refine hk _ _ _ ?_
                  refine xghost (D := []) ?_ ?_ ?_ ?_
                  · exact (.cons (Sub.of_eq rfl) (.cons (Sub.of_eq rfl) (.cons (Sub.of_eq rfl) (.cons (Sub.of_eq rfl) (.cons (Sub.of_eq rfl) .nil)))))
                  · exact HpW.refl
                  · exact (by intro p hp; cases hp)
                  · omega
              · refine xghost (D := []) ?_ ?_ ?_ ?_
                · exact (.cons (Sub.of_eq rfl) (.cons (Sub.of_eq rfl) (.cons (Sub.of_eq rfl) (.cons (Sub.of_eq rfl) .nil))))
                · exact HpW.refl
                · exact (by intro p hp; cases hp)
                · omega
            · try simp only [go_sem, Prod.mk.injEq, reduceIte, Nat.reduceEqDiff, Nat.reduceAdd, Nat.reduceSub, Nat.reduceMul, Nat.reduceDiv, Nat.reducePow, Nat.reduceLT, Nat.reduceLeDiff, Nat.reduceBEq, Nat.reduceBneDiff, Int.reduceToNat, Int.reduceEq, Int.reduceLE, Int.reduceLT, reduceCtorEq]
              repeat (with_reducible refine And.intro ?_ ?_; next => first | assumption | trivial | omega | decide | (constructor <;> first | assumption | omega) | (simp [Keep.ok, hp_cons_apply, hset_cons]; done))
              refine hk _ _ _ ?_
              refine xghost (D := []) ?_ ?_ ?_ ?_
              · exact (.cons (Sub.of_eq rfl) (.cons (Sub.of_eq rfl) (.cons (Sub.of_eq rfl) (.cons (Sub.of_eq rfl) .nil))))
              · exact HpW.refl
              · exact (by intro p hp; cases hp)
              · omega
          · try simp only [go_sem, Prod.mk.injEq, reduceIte, Nat.reduceEqDiff, Nat.reduceAdd, Nat.reduceSub, Nat.reduceMul, Nat.reduceDiv, Nat.reducePow, Nat.reduceLT, Nat.reduceLeDiff, Nat.reduceBEq, Nat.reduceBneDiff, Int.reduceToNat, Int.reduceEq, Int.reduceLE, Int.reduceLT, reduceCtorEq]
            repeat (with_reducible refine And.intro ?_ ?_; next => first | assumption | trivial | omega | decide | (constructor <;> first | assumption | omega) | (simp [Keep.ok, hp_cons_apply, hset_cons]; done))
            have hcall := s_conf_Count_ok (hp [((d, 0), .box [.lit (.int .i64 t.U), .lit (.int .i64 t.R), .lit (.int .i64 t.Peers), .lit (.int .i64 t.Window), .lit (.int .i64 t.Every), .lit (.int .i64 t.Patience), eS (lI .u8) t.Secret])] S) t 1 hv_2
            refine call1_x hcall rfl ?_ ?_
            · exact (.cons Sub.refl (.cons Sub.refl .nil))
            clear hcall
            rintro _ SS ⟨rfl, hSS⟩ -
            rw [hSS]
            clear hSS
            try simp only [go_sem, Prod.mk.injEq, reduceIte, Nat.reduceEqDiff, Nat.reduceAdd, Nat.reduceSub, Nat.reduceMul, Nat.reduceDiv, Nat.reducePow, Nat.reduceLT, Nat.reduceLeDiff, Nat.reduceBEq, Nat.reduceBneDiff, Int.reduceToNat, Int.reduceEq, Int.reduceLE, Int.reduceLT, reduceCtorEq]
            repeat (with_reducible refine And.intro ?_ ?_; next => first | assumption | trivial | omega | decide | (constructor <;> first | assumption | omega) | (simp [Keep.ok, hp_cons_apply, hset_cons]; done))
            try simp only [go_sem, Prod.mk.injEq, reduceIte, Nat.reduceEqDiff, Nat.reduceAdd, Nat.reduceSub, Nat.reduceMul, Nat.reduceDiv, Nat.reducePow, Nat.reduceLT, Nat.reduceLeDiff, Nat.reduceBEq, Nat.reduceBneDiff, Int.reduceToNat, Int.reduceEq, Int.reduceLE, Int.reduceLT, reduceCtorEq]
            repeat (with_reducible refine And.intro ?_ ?_; next => first | assumption | trivial | omega | decide | (constructor <;> first | assumption | omega) | (simp [Keep.ok, hp_cons_apply, hset_cons]; done))
            have hcall := s_conf_Count_ok (hp [((d, 0), .box [.lit (.int .i64 t.U), .lit (.int .i64 t.R), .lit (.int .i64 t.Peers), .lit (.int .i64 t.Window), .lit (.int .i64 t.Every), .lit (.int .i64 t.Patience), eS (lI .u8) t.Secret])] S) t 2 hv_3
            refine call1_x hcall rfl ?_ ?_
            · exact (.cons Sub.refl (.cons Sub.refl .nil))
            clear hcall
            rintro _ SS ⟨rfl, hSS⟩ -
            rw [hSS]
            clear hSS
            try simp only [go_sem, Prod.mk.injEq, reduceIte, Nat.reduceEqDiff, Nat.reduceAdd, Nat.reduceSub, Nat.reduceMul, Nat.reduceDiv, Nat.reducePow, Nat.reduceLT, Nat.reduceLeDiff, Nat.reduceBEq, Nat.reduceBneDiff, Int.reduceToNat, Int.reduceEq, Int.reduceLE, Int.reduceLT, reduceCtorEq]
            repeat (with_reducible refine And.intro ?_ ?_; next => first | assumption | trivial | omega | decide | (constructor <;> first | assumption | omega) | (simp [Keep.ok, hp_cons_apply, hset_cons]; done))
            try simp only [go_sem, Prod.mk.injEq, reduceIte, Nat.reduceEqDiff, Nat.reduceAdd, Nat.reduceSub, Nat.reduceMul, Nat.reduceDiv, Nat.reducePow, Nat.reduceLT, Nat.reduceLeDiff, Nat.reduceBEq, Nat.reduceBneDiff, Int.reduceToNat, Int.reduceEq, Int.reduceLE, Int.reduceLT, reduceCtorEq]
            repeat (with_reducible refine And.intro ?_ ?_; next => first | assumption | trivial | omega | decide | (constructor <;> first | assumption | omega) | (simp [Keep.ok, hp_cons_apply, hset_cons]; done))
            have hcall := s_conf_Count_ok (hp [((d, 0), .box [.lit (.int .i64 t.U), .lit (.int .i64 t.R), .lit (.int .i64 t.Peers), .lit (.int .i64 t.Window), .lit (.int .i64 t.Every), .lit (.int .i64 t.Patience), eS (lI .u8) t.Secret])] S) t 3 hv_4
            refine call1_x hcall rfl ?_ ?_
            · exact (.cons Sub.refl (.cons Sub.refl .nil))
            clear hcall
            rintro _ SS ⟨rfl, hSS⟩ -
            rw [hSS]
            clear hSS
            try simp only [go_sem, Prod.mk.injEq, reduceIte, Nat.reduceEqDiff, Nat.reduceAdd, Nat.reduceSub, Nat.reduceMul, Nat.reduceDiv, Nat.reducePow, Nat.reduceLT, Nat.reduceLeDiff, Nat.reduceBEq, Nat.reduceBneDiff, Int.reduceToNat, Int.reduceEq, Int.reduceLE, Int.reduceLT, reduceCtorEq]
            repeat (with_reducible refine And.intro ?_ ?_; next => first | assumption | trivial | omega | decide | (constructor <;> first | assumption | omega) | (simp [Keep.ok, hp_cons_apply, hset_cons]; done))
            try simp only [go_sem, Prod.mk.injEq, reduceIte, Nat.reduceEqDiff, Nat.reduceAdd, Nat.reduceSub, Nat.reduceMul, Nat.reduceDiv, Nat.reducePow, Nat.reduceLT, Nat.reduceLeDiff, Nat.reduceBEq, Nat.reduceBneDiff, Int.reduceToNat, Int.reduceEq, Int.reduceLE, Int.reduceLT, reduceCtorEq]
            repeat (with_reducible refine And.intro ?_ ?_; next => first | assumption | trivial | omega | decide | (constructor <;> first | assumption | omega) | (simp [Keep.ok, hp_cons_apply, hset_cons]; done))
            have hcall := s_conf_Count_ok (hp [((d, 0), .box [.lit (.int .i64 t.U), .lit (.int .i64 t.R), .lit (.int .i64 t.Peers), .lit (.int .i64 t.Window), .lit (.int .i64 t.Every), .lit (.int .i64 t.Patience), eS (lI .u8) t.Secret])] S) t 4 hv_5
            refine call1_x hcall rfl ?_ ?_
            · exact (.cons Sub.refl (.cons Sub.refl .nil))
            clear hcall
            rintro _ SS ⟨rfl, hSS⟩ -
            rw [hSS]
            clear hSS
            try simp only [go_sem, Prod.mk.injEq, reduceIte, Nat.reduceEqDiff, Nat.reduceAdd, Nat.reduceSub, Nat.reduceMul, Nat.reduceDiv, Nat.reducePow, Nat.reduceLT, Nat.reduceLeDiff, Nat.reduceBEq, Nat.reduceBneDiff, Int.reduceToNat, Int.reduceEq, Int.reduceLE, Int.reduceLT, reduceCtorEq]
            repeat (with_reducible refine And.intro ?_ ?_; next => first | assumption | trivial | omega | decide | (constructor <;> first | assumption | omega) | (simp [Keep.ok, hp_cons_apply, hset_cons]; done))
            try simp only [go_sem, Prod.mk.injEq, reduceIte, Nat.reduceEqDiff, Nat.reduceAdd, Nat.reduceSub, Nat.reduceMul, Nat.reduceDiv, Nat.reducePow, Nat.reduceLT, Nat.reduceLeDiff, Nat.reduceBEq, Nat.reduceBneDiff, Int.reduceToNat, Int.reduceEq, Int.reduceLE, Int.reduceLT, reduceCtorEq]
            repeat (with_reducible refine And.intro ?_ ?_; next => first | assumption | trivial | omega | decide | (constructor <;> first | assumption | omega) | (simp [Keep.ok, hp_cons_apply, hset_cons]; done))
            refine hk _ _ _ ?_
            refine xghost (D := []) ?_ ?_ ?_ ?_
            · exact (.cons (Sub.of_eq rfl) (.cons (Sub.of_eq rfl) (.cons (Sub.of_eq rfl) .nil)))
            · exact HpW.refl
            · exact (by intro p hp; cases hp)
            · omega
        · try simp only [go_sem, Prod.mk.injEq, reduceIte, Nat.reduceEqDiff, Nat.reduceAdd, Nat.reduceSub, Nat.reduceMul, Nat.reduceDiv, Nat.reducePow, Nat.reduceLT, Nat.reduceLeDiff, Nat.reduceBEq, Nat.reduceBneDiff, Int.reduceToNat, Int.reduceEq, Int.reduceLE, Int.reduceLT, reduceCtorEq]
          repeat (with_reducible refine And.intro ?_ ?_; next => first | assumption | trivial | omega | decide | (constructor <;> first | assumption | omega) | (simp [Keep.ok, hp_cons_apply, hset_cons]; done))
          have hcall := s_conf_Ids_ok (hp [((d, 0), .box [.lit (.int .i64 t.U), .lit (.int .i64 t.R), .lit (.int .i64 t.Peers), .lit (.int .i64 t.Window), .lit (.int .i64 t.Every), .lit (.int .i64 t.Patience), eS (lI .u8) t.Secret])] S) t ([1, 2, 3, 4]) hv_1
          refine call1_x hcall rfl ?_ ?_
          · exact (.cons Sub.refl (.cons (Sub.of_eq rfl) .nil))
          clear hcall
          rintro _ SS ⟨rfl, hSS⟩ -
          rw [hSS]
          clear hSS
          try simp only [go_sem, Prod.mk.injEq, reduceIte, Nat.reduceEqDiff, Nat.reduceAdd, Nat.reduceSub, Nat.reduceMul, Nat.reduceDiv, Nat.reducePow, Nat.reduceLT, Nat.reduceLeDiff, Nat.reduceBEq, Nat.reduceBneDiff, Int.reduceToNat, Int.reduceEq, Int.reduceLE, Int.reduceLT, reduceCtorEq]
          repeat (with_reducible refine And.intro ?_ ?_; next => first | assumption | trivial | omega | decide | (constructor <;> first | assumption | omega) | (simp [Keep.ok, hp_cons_apply, hset_cons]; done))
          refine hk _ _ _ ?_
          refine xghost (D := []) ?_ ?_ ?_ ?_
          · exact (.cons (Sub.of_eq rfl) (.cons (Sub.of_eq rfl) .nil))
          · exact HpW.refl
          · exact (by intro p hp; cases hp)
          · omega
    · try simp only [go_sem, Prod.mk.injEq, reduceIte, Nat.reduceEqDiff, Nat.reduceAdd, Nat.reduceSub, Nat.reduceMul, Nat.reduceDiv, Nat.reducePow, Nat.reduceLT, Nat.reduceLeDiff, Nat.reduceBEq, Nat.reduceBneDiff, Int.reduceToNat, Int.reduceEq, Int.reduceLE, Int.reduceLT, reduceCtorEq]
      repeat (with_reducible refine And.intro ?_ ?_; next => first | assumption | trivial | omega | decide | (constructor <;> first | assumption | omega) | (simp [Keep.ok, hp_cons_apply, hset_cons]; done))
      have hcall := s_stanchionlaw06_alive_ok (hp [((d, 0), .box [.lit (.int .i64 t.U), .lit (.int .i64 t.R), .lit (.int .i64 t.Peers), .lit (.int .i64 t.Window), .lit (.int .i64 t.Every), .lit (.int .i64 t.Patience), eS (lI .u8) t.Secret])] S)  hv
      refine call1_x hcall rfl ?_ ?_
      · exact .nil
      clear hcall
      rintro _ SS ⟨rfl, hSS⟩ -
      rw [hSS]
      clear hSS
      try simp only [go_sem, Prod.mk.injEq, reduceIte, Nat.reduceEqDiff, Nat.reduceAdd, Nat.reduceSub, Nat.reduceMul, Nat.reduceDiv, Nat.reducePow, Nat.reduceLT, Nat.reduceLeDiff, Nat.reduceBEq, Nat.reduceBneDiff, Int.reduceToNat, Int.reduceEq, Int.reduceLE, Int.reduceLT, reduceCtorEq]
      repeat (with_reducible refine And.intro ?_ ?_; next => first | assumption | trivial | omega | decide | (constructor <;> first | assumption | omega) | (simp [Keep.ok, hp_cons_apply, hset_cons]; done))
      refine hk _ _ _ ?_
      refine xghost (D := []) ?_ ?_ ?_ ?_
      · exact (.cons (Sub.of_eq rfl) (.cons (Sub.of_eq rfl) .nil))
      · exact HpW.refl
      · exact (by intro p hp; cases hp)
      · omega
  · try simp only [go_sem, Prod.mk.injEq, reduceIte, Nat.reduceEqDiff, Nat.reduceAdd, Nat.reduceSub, Nat.reduceMul, Nat.reduceDiv, Nat.reducePow, Nat.reduceLT, Nat.reduceLeDiff, Nat.reduceBEq, Nat.reduceBneDiff, Int.reduceToNat, Int.reduceEq, Int.reduceLE, Int.reduceLT, reduceCtorEq]
    repeat (with_reducible refine And.intro ?_ ?_; next => first | assumption | trivial | omega | decide | (constructor <;> first | assumption | omega) | (simp [Keep.ok, hp_cons_apply, hset_cons]; done))
    refine hk _ _ _ ?_
    refine xghost (D := []) ?_ ?_ ?_ ?_
    · exact (.cons (Sub.of_eq rfl) .nil)
    · exact HpW.refl
    · exact (by intro p hp; cases hp)
    · omega
end
end Go.Proofs.Ytejlgalnkblndaa
