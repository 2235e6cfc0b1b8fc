/- Go functions as Lean functions, and that their code does as these say. Printed by a program of this work. -/
import Derived.Test.YtejlgalnkblndaaXL
import Derived.Test.YtejlgalnkblndaaXa
import Derived.Test.YtejlgalnkblndaaXb
set_option linter.unusedVariables false
set_option linter.unusedSimpArgs false
set_option maxRecDepth 100000
set_option maxHeartbeats 4000000
namespace Go.Proofs.Ytejlgalnkblndaa
open Go Go.Al
noncomputable section
/-! stanchion/stanchionlaw06.ConfTurns -/
def s_stanchionlaw06_ConfTurns_b2 (v_1 : Int) (m : Vector Int 16) : Int → Option ((Int) ⊕ Bool)
  | t9 => if (decide (t9 < v_1)) = true then gd ((0 ≤ t9 ∧ Int.toNat t9 < 16)) (if ((m.toList.getD (Int.toNat t9) 0) != 1) = true then mr (some false) else some (.inl (IntKind.i64.wrap (t9 + 1)))) else mr (some true)
def s_stanchionlaw06_ConfTurns_b1 (t : GapiConf) (o : Int) (v_1 : Int) : (Int × Vector Int 16) → Option ((Int × Vector Int 16) ⊕ Bool)
  | (t7, m) => if (decide (t7 < v_1)) = true then bd (s_conf_Primary t (IntKind.i64.wrap (o + t7))) fun (v_2 : Int) => bd (if (!((decide (v_2 < 0)) || (decide (v_1 ≤ v_2)))) = true then s_conf_Primary t (IntKind.i64.wrap ((IntKind.i64.wrap (o + t7)) + v_1)) else some 0) fun (v_3 : Int) => if (((decide (v_2 < 0)) || (decide (v_1 ≤ v_2))) || (v_2 != v_3)) = true then mr (some false) else gd ((0 ≤ v_2 ∧ Int.toNat v_2 < 16)) (gd ((0 ≤ v_2 ∧ Int.toNat v_2 < 16)) (some (.inl ((IntKind.i64.wrap (t7 + 1)), (vset m (Int.toNat v_2) (IntKind.i64.wrap ((m.toList.getD (Int.toNat v_2) 0) + 1))))))) else mr (loop (s_stanchionlaw06_ConfTurns_b2 v_1 m) 0)
def s_stanchionlaw06_ConfTurns (t : GapiConf) (o : Int) : Option Bool :=
  bd (s_stanchionlaw06_alive ) fun (v : Bool) => if (!v) = true then some false else bd (s_conf_Count t 2) fun (v_1 : Int) => if (((decide (o < 0)) || (decide (1099511627776 < o))) || (v_1 == 0)) = true then some true else loop (s_stanchionlaw06_ConfTurns_b1 t o v_1) (0, (Vector.replicate 16 0 : Vector Int 16))
theorem s_stanchionlaw06_ConfTurns_ok (S : AHeap) (t : GapiConf) (o : Int) {r : Bool} (h : s_stanchionlaw06_ConfTurns t o = some r) :
    AC Try.prog n_stanchionlaw06_ConfTurns [.agg [.lit (.int .i64 t.U), .lit (.int .i64 t.R), .lit (.int .i64 t.Peers), .lit (.int .i64 t.Window), .lit (.int .i64 t.Every), .lit (.int .i64 t.Patience), eS (lI .u8) t.Secret], .lit (.int .i64 o)] S fun r' S' => r' = .ret (.lit (.bool r)) ∧ S' = S := by
  refine AC_of tok mixed fits_stanchionlaw06_ConfTurns fun d hd => ?_
  unfold c_stanchionlaw06_ConfTurns
  show LW _ _ _ _ [(0, .agg [.lit (.int .i64 t.U), .lit (.int .i64 t.R), .lit (.int .i64 t.Peers), .lit (.int .i64 t.Window), .lit (.int .i64 t.Every), .lit (.int .i64 t.Patience), eS (lI .u8) t.Secret]), (1, .lit (.int .i64 o))] (hp [] S) 0 _
  rw [s_stanchionlaw06_ConfTurns] at h
  refine xseq [(1, .lit (.int .i64 o)), (2, .ptr (d, 0) 0)] (hp [((d, 0), .box [.lit (.int .i64 t.U), .lit (.int .i64 t.R), .lit (.int .i64 t.Peers), .lit (.int .i64 t.Window), .lit (.int .i64 t.Every), .lit (.int .i64 t.Patience), eS (lI .u8) t.Secret])] S) 1 ?_ (fun k kp hk => ?_)
  · refine LW_seq ?_
    obtain ⟨v, hv, h⟩ := bd_some h
    refine xseq [(1, .lit (.int .i64 o)), (2, .ptr (d, 0) 0), (11, .lit (.bool (!v)))] (hp [((d, 0), .box [.lit (.int .i64 t.U), .lit (.int .i64 t.R), .lit (.int .i64 t.Peers), .lit (.int .i64 t.Window), .lit (.int .i64 t.Every), .lit (.int .i64 t.Patience), eS (lI .u8) t.Secret])] S) 1 ?_ (fun k kp hk => ?_)
    · refine xcond (!v) rfl (fun hc => ?_) (fun hc => ?_)
      · rw [ite_t hc] at h
        refine xseq [(4, .lit (.bool false))] (hp [((d, 0), .box [.lit (.int .i64 t.U), .lit (.int .i64 t.R), .lit (.int .i64 t.Peers), .lit (.int .i64 t.Window), .lit (.int .i64 t.Every), .lit (.int .i64 t.Patience), eS (lI .u8) t.Secret])] S) 1 ?_ (fun k kp hk => ?_)
        · refine LW_ret ?_
          obtain rfl := Option.some.inj h
          show FPost _ _ _ _ _ _ _
          exact ⟨_, hp_less (L := []) (D := [((d, 0), .box [.lit (.int .i64 t.U), .lit (.int .i64 t.R), .lit (.int .i64 t.Peers), .lit (.int .i64 t.Window), .lit (.int .i64 t.Every), .lit (.int .i64 t.Patience), eS (lI .u8) t.Secret])]) (by intro p hp; simp only [List.mem_cons, List.not_mem_nil, or_false] at hp; rcases hp with rfl <;> first | exact hd _ (Nat.le_refl _)), rfl, rfl⟩
        · try simp only [go_sem, Prod.mk.injEq, reduceIte, Nat.reduceEqDiff, Nat.reduceAdd, Nat.reduceSub, Nat.reduceMul, Nat.reduceDiv, Nat.reducePow, Nat.reduceLT, Nat.reduceLeDiff, Nat.reduceBEq, Nat.reduceBneDiff, Int.reduceToNat, Int.reduceEq, Int.reduceLE, Int.reduceLT, reduceCtorEq]
          repeat (with_reducible refine And.intro ?_ ?_; next => first | assumption | trivial | omega | decide | (constructor <;> first | assumption | omega) | (simp [Keep.ok, hp_cons_apply, hset_cons]; done))
          refine hk _ _ _ ?_
          refine xghost (D := []) ?_ ?_ ?_ ?_
          · exact (.cons (Sub.of_eq rfl) .nil)
          · exact HpW.refl
          · exact (by intro p hp; cases hp)
          · omega
      · rw [ite_f hc] at h
        refine LW_skip ?_
        show LW _ _ _ _ _ _ _ _
        obtain ⟨v_1, hv_1, h⟩ := bd_some h
        refine xseq [(1, .lit (.int .i64 o)), (2, .ptr (d, 0) 0), (5, .lit (.int .i64 v_1))] (hp [((d, 0), .box [.lit (.int .i64 t.U), .lit (.int .i64 t.R), .lit (.int .i64 t.Peers), .lit (.int .i64 t.Window), .lit (.int .i64 t.Every), .lit (.int .i64 t.Patience), eS (lI .u8) t.Secret])] S) 1 ?_ (fun k kp hk => ?_)
        · refine LW_seq ?_
          refine xseq [(1, .lit (.int .i64 o)), (2, .ptr (d, 0) 0), (5, .lit (.int .i64 v_1)), (23, .lit (.bool (((decide (o < 0)) || (decide (1099511627776 < o))) || (v_1 == 0))))] (hp [((d, 0), .box [.lit (.int .i64 t.U), .lit (.int .i64 t.R), .lit (.int .i64 t.Peers), .lit (.int .i64 t.Window), .lit (.int .i64 t.Every), .lit (.int .i64 t.Patience), eS (lI .u8) t.Secret])] S) 1 ?_ (fun k kp hk => ?_)
          · refine xcond (((decide (o < 0)) || (decide (1099511627776 < o))) || (v_1 == 0)) rfl (fun hc_1 => ?_) (fun hc_1 => ?_)
            · rw [ite_t hc_1] at h
              refine xseq [(4, .lit (.bool true))] (hp [((d, 0), .box [.lit (.int .i64 t.U), .lit (.int .i64 t.R), .lit (.int .i64 t.Peers), .lit (.int .i64 t.Window), .lit (.int .i64 t.Every), .lit (.int .i64 t.Patience), eS (lI .u8) t.Secret])] S) 1 ?_ (fun k kp hk => ?_)
              · refine LW_ret ?_
                obtain rfl := Option.some.inj h
                show FPost _ _ _ _ _ _ _
                exact ⟨_, hp_less (L := []) (D := [((d, 0), .box [.lit (.int .i64 t.U), .lit (.int .i64 t.R), .lit (.int .i64 t.Peers), .lit (.int .i64 t.Window), .lit (.int .i64 t.Every), .lit (.int .i64 t.Patience), eS (lI .u8) t.Secret])]) (by intro p hp; simp only [List.mem_cons, List.not_mem_nil, or_false] at hp; rcases hp with rfl <;> first | exact hd _ (Nat.le_refl _)), rfl, rfl⟩
              · try simp only [go_sem, Prod.mk.injEq, reduceIte, Nat.reduceEqDiff, Nat.reduceAdd, Nat.reduceSub, Nat.reduceMul, Nat.reduceDiv, Nat.reducePow, Nat.reduceLT, Nat.reduceLeDiff, Nat.reduceBEq, Nat.reduceBneDiff, Int.reduceToNat, Int.reduceEq, Int.reduceLE, Int.reduceLT, reduceCtorEq]
                repeat (with_reducible refine And.intro ?_ ?_; next => first | assumption | trivial | omega | decide | (constructor <;> first | assumption | omega) | (simp [Keep.ok, hp_cons_apply, hset_cons]; done))
                refine hk _ _ _ ?_
                refine xghost (D := []) ?_ ?_ ?_ ?_
                · exact (.cons (Sub.of_eq rfl) .nil)
                · exact HpW.refl
                · exact (by intro p hp; cases hp)
                · omega
            · rw [ite_f hc_1] at h
              refine LW_skip ?_
              show LW _ _ _ _ _ _ _ _
              refine xseq [(1, .lit (.int .i64 o)), (2, .ptr (d, 0) 0), (5, .lit (.int .i64 v_1)), (6, .ptr (d, 1) 0)] (hp [((d, 0), .box [.lit (.int .i64 t.U), .lit (.int .i64 t.R), .lit (.int .i64 t.Peers), .lit (.int .i64 t.Window), .lit (.int .i64 t.Every), .lit (.int .i64 t.Patience), eS (lI .u8) t.Secret]), ((d, 1), .box (flat (lI .i64) (Vector.replicate 16 0 : Vector Int 16).toList))] S) 2 ?_ (fun k kp hk => ?_)
              · refine LW_seq ?_
                refine xseq [(1, .lit (.int .i64 o)), (2, .ptr (d, 0) 0), (5, .lit (.int .i64 v_1)), (6, .ptr (d, 1) 0), (7, .lit (.int .i64 0))] (hp [((d, 0), .box [.lit (.int .i64 t.U), .lit (.int .i64 t.R), .lit (.int .i64 t.Peers), .lit (.int .i64 t.Window), .lit (.int .i64 t.Every), .lit (.int .i64 t.Patience), eS (lI .u8) t.Secret]), ((d, 1), .box (flat (lI .i64) (Vector.replicate 16 0 : Vector Int 16).toList))] S) 2 ?_ (fun k kp hk => ?_)
                · refine LW_block ?_
                  refine LW_loopX (σ := Int × Vector Int 16) (s := (0, (Vector.replicate 16 0 : Vector Int 16))) (fun zz => [(1, .lit (.int .i64 o)), (2, .ptr (d, 0) 0), (5, .lit (.int .i64 v_1)), (6, .ptr (d, 1) 0), (7, .lit (.int .i64 zz.1))]) (fun zz => (hp [((d, 0), .box [.lit (.int .i64 t.U), .lit (.int .i64 t.R), .lit (.int .i64 t.Peers), .lit (.int .i64 t.Window), .lit (.int .i64 t.Every), .lit (.int .i64 t.Patience), eS (lI .u8) t.Secret]), ((d, 1), .box (flat (lI .i64) zz.2.toList))] S)) h ?_ ?_
                  · clear h
                    rintro ⟨t7, m⟩ x1 d1 hd1 hf1 h hx1
                    show LW _ _ _ _ [(1, .lit (.int .i64 o)), (2, .ptr (d, 0) 0), (5, .lit (.int .i64 v_1)), (6, .ptr (d, 1) 0), (7, .lit (.int .i64 t7))] (hp [((d, 0), .box [.lit (.int .i64 t.U), .lit (.int .i64 t.R), .lit (.int .i64 t.Peers), .lit (.int .i64 t.Window), .lit (.int .i64 t.Every), .lit (.int .i64 t.Patience), eS (lI .u8) t.Secret]), ((d, 1), .box (flat (lI .i64) m.toList))] S) 0 _
                    have hn1d : (d = d1) = False := by simp; omega
                    have hm1d : (d1 = d) = False := by simp; omega
                    rw [s_stanchionlaw06_ConfTurns_b1] at h
                    refine LW_seq ?_
                    refine xseq [(1, .lit (.int .i64 o)), (2, .ptr (d, 0) 0), (5, .lit (.int .i64 v_1)), (6, .ptr (d, 1) 0), (7, .lit (.int .i64 t7)), (27, .lit (.bool (decide (t7 < v_1))))] (hp [((d, 0), .box [.lit (.int .i64 t.U), .lit (.int .i64 t.R), .lit (.int .i64 t.Peers), .lit (.int .i64 t.Window), .lit (.int .i64 t.Every), .lit (.int .i64 t.Patience), eS (lI .u8) t.Secret]), ((d, 1), .box (flat (lI .i64) m.toList))] S) 0 ?_ (fun k kp hk => ?_)
                    · refine xcond (decide (t7 < v_1)) rfl (fun hc_2 => ?_) (fun hc_2 => ?_)
                      · rw [ite_t hc_2] at h
                        refine LW_skip ?_
                        show LW _ _ _ _ _ _ _ _
                        refine LW_seq ?_
                        refine LW_block ?_
                        obtain ⟨v_2, hv_2, h⟩ := bd_some h
                        refine xseq [(1, .lit (.int .i64 o)), (2, .ptr (d, 0) 0), (5, .lit (.int .i64 v_1)), (6, .ptr (d, 1) 0), (7, .lit (.int .i64 t7)), (8, .lit (.int .i64 v_2))] (hp [((d, 0), .box [.lit (.int .i64 t.U), .lit (.int .i64 t.R), .lit (.int .i64 t.Peers), .lit (.int .i64 t.Window), .lit (.int .i64 t.Every), .lit (.int .i64 t.Patience), eS (lI .u8) t.Secret]), ((d, 1), .box (flat (lI .i64) m.toList))] S) 0 ?_ (fun k kp hk => ?_)
                        · refine LW_seq ?_
                          obtain ⟨v_3, hv_3, h⟩ := bd_some h
                          refine xseq [(1, .lit (.int .i64 o)), (2, .ptr (d, 0) 0), (5, .lit (.int .i64 v_1)), (6, .ptr (d, 1) 0), (7, .lit (.int .i64 t7)), (8, .lit (.int .i64 v_2)), (52, .lit (.bool (((decide (v_2 < 0)) || (decide (v_1 ≤ v_2))) || (v_2 != v_3))))] (hp [((d, 0), .box [.lit (.int .i64 t.U), .lit (.int .i64 t.R), .lit (.int .i64 t.Peers), .lit (.int .i64 t.Window), .lit (.int .i64 t.Every), .lit (.int .i64 t.Patience), eS (lI .u8) t.Secret]), ((d, 1), .box (flat (lI .i64) m.toList))] S) 0 ?_ (fun k kp hk => ?_)
                          · refine xcond (((decide (v_2 < 0)) || (decide (v_1 ≤ v_2))) || (v_2 != v_3)) rfl (fun hc_3 => ?_) (fun hc_3 => ?_)
                            · rw [ite_t hc_3] at h
                              refine xseq [(1, .lit (.int .i64 o)), (2, .ptr (d, 0) 0), (4, .lit (.bool false)), (5, .lit (.int .i64 v_1)), (6, .ptr (d, 1) 0), (7, .lit (.int .i64 t7))] (hp [((d, 0), .box [.lit (.int .i64 t.U), .lit (.int .i64 t.R), .lit (.int .i64 t.Peers), .lit (.int .i64 t.Window), .lit (.int .i64 t.Every), .lit (.int .i64 t.Patience), eS (lI .u8) t.Secret]), ((d, 1), .box (flat (lI .i64) m.toList))] S) 0 ?_ (fun k kp hk => ?_)
                              · obtain ⟨hq, hxe⟩ := mr_go h hx1
                                clear h hx1
                                subst hxe
                                have h := hq
                                clear hq
                                refine LW_retX (sl' := [(4, .lit (.bool false))]) (S' := (hp [((d, 0), .box [.lit (.int .i64 t.U), .lit (.int .i64 t.R), .lit (.int .i64 t.Peers), .lit (.int .i64 t.Window), .lit (.int .i64 t.Every), .lit (.int .i64 t.Patience), eS (lI .u8) t.Secret]), ((d, 1), .box (flat (lI .i64) m.toList))] S)) (c' := 0) ?_ ?_
                                · refine xghost (D := []) ?_ ?_ ?_ ?_
                                  · exact (.cons (Sub.of_eq rfl) .nil)
                                  · exact HpW.refl
                                  · exact (by intro p hp; cases hp)
                                  · omega
                                · obtain rfl := Option.some.inj h
                                  show FPost _ _ _ _ _ _ _
                                  exact ⟨_, hp_less (L := []) (D := [((d, 0), .box [.lit (.int .i64 t.U), .lit (.int .i64 t.R), .lit (.int .i64 t.Peers), .lit (.int .i64 t.Window), .lit (.int .i64 t.Every), .lit (.int .i64 t.Patience), eS (lI .u8) t.Secret]), ((d, 1), .box (flat (lI .i64) m.toList))]) (by intro p hp; simp only [List.mem_cons, List.not_mem_nil, or_false] at hp; rcases hp with rfl | rfl <;> first | exact hd _ (Nat.le_refl _)), rfl, rfl⟩
                              · try simp only [go_sem, Prod.mk.injEq, reduceIte, Nat.reduceEqDiff, Nat.reduceAdd, Nat.reduceSub, Nat.reduceMul, Nat.reduceDiv, Nat.reducePow, Nat.reduceLT, Nat.reduceLeDiff, Nat.reduceBEq, Nat.reduceBneDiff, Int.reduceToNat, Int.reduceEq, Int.reduceLE, Int.reduceLT, reduceCtorEq, hn1d, hm1d]
                                repeat (with_reducible refine And.intro ?_ ?_; next => first | assumption | trivial | omega | decide | (constructor <;> first | assumption | omega) | (simp [Keep.ok, hp_cons_apply, hset_cons, hn1d, hm1d]; done))
                                refine hk _ _ _ ?_
                                refine xghost (D := []) ?_ ?_ ?_ ?_
                                · exact (.cons (Sub.of_eq rfl) (.cons (Sub.of_eq rfl) (.cons (Sub.of_eq rfl) (.cons (Sub.of_eq rfl) (.cons (Sub.of_eq rfl) (.cons (Sub.of_eq rfl) .nil))))))
                                · exact HpW.refl
                                · exact (by intro p hp; cases hp)
                                · omega
                            · rw [ite_f hc_3] at h
                              refine LW_skip ?_
                              show LW _ _ _ _ _ _ _ _
                              obtain ⟨hg, h⟩ := gd_some h
                              obtain ⟨hg_1, h⟩ := gd_some h
                              refine xreg [(1, .lit (.int .i64 o)), (2, .ptr (d, 0) 0), (5, .lit (.int .i64 v_1)), (6, .ptr (d, 1) 0), (7, .lit (.int .i64 t7))] (hp [((d, 0), .box [.lit (.int .i64 t.U), .lit (.int .i64 t.R), .lit (.int .i64 t.Peers), .lit (.int .i64 t.Window), .lit (.int .i64 t.Every), .lit (.int .i64 t.Patience), eS (lI .u8) t.Secret]), ((d, 1), .box (flat (lI .i64) (vset m (Int.toNat v_2) (IntKind.i64.wrap ((m.toList.getD (Int.toNat v_2) 0) + 1))).toList))] S) 0 ?_ (fun k kp hk => ?_)
                              · show LW _ _ _ _ _ _ _ _
                                refine xreg [(1, .lit (.int .i64 o)), (2, .ptr (d, 0) 0), (5, .lit (.int .i64 v_1)), (6, .ptr (d, 1) 0), (7, .lit (.int .i64 (IntKind.i64.wrap (t7 + 1))))] (hp [((d, 0), .box [.lit (.int .i64 t.U), .lit (.int .i64 t.R), .lit (.int .i64 t.Peers), .lit (.int .i64 t.Window), .lit (.int .i64 t.Every), .lit (.int .i64 t.Patience), eS (lI .u8) t.Secret]), ((d, 1), .box (flat (lI .i64) (vset m (Int.toNat v_2) (IntKind.i64.wrap ((m.toList.getD (Int.toNat v_2) 0) + 1))).toList))] S) 0 ?_ (fun k kp hk => ?_)
                                · cases h
                                  exact ⟨rfl, Less.refl _⟩
                                · try simp only [go_sem, Prod.mk.injEq, reduceIte, Nat.reduceEqDiff, Nat.reduceAdd, Nat.reduceSub, Nat.reduceMul, Nat.reduceDiv, Nat.reducePow, Nat.reduceLT, Nat.reduceLeDiff, Nat.reduceBEq, Nat.reduceBneDiff, Int.reduceToNat, Int.reduceEq, Int.reduceLE, Int.reduceLT, reduceCtorEq, hn1d, hm1d]
                                  repeat (with_reducible refine And.intro ?_ ?_; next => first | assumption | trivial | omega | decide | (constructor <;> first | assumption | omega) | (simp [Keep.ok, hp_cons_apply, hset_cons, hn1d, hm1d]; done))
                                  refine hk _ _ _ ?_
                                  refine xghost (D := []) ?_ ?_ ?_ ?_
                                  · exact (.cons (Sub.of_eq rfl) (.cons (Sub.of_eq rfl) (.cons (Sub.of_eq rfl) (.cons (Sub.of_eq rfl) (.cons (Sub.of_eq rfl) .nil)))))
                                  · exact HpW.refl
                                  · exact (by intro p hp; cases hp)
                                  · omega
                              · try simp only [go_sem, Prod.mk.injEq, reduceIte, Nat.reduceEqDiff, Nat.reduceAdd, Nat.reduceSub, Nat.reduceMul, Nat.reduceDiv, Nat.reducePow, Nat.reduceLT, Nat.reduceLeDiff, Nat.reduceBEq, Nat.reduceBneDiff, Int.reduceToNat, Int.reduceEq, Int.reduceLE, Int.reduceLT, reduceCtorEq, hn1d, hm1d]
                                repeat (with_reducible refine And.intro ?_ ?_; next => first | assumption | trivial | omega | decide | (constructor <;> first | assumption | omega) | (simp [Keep.ok, hp_cons_apply, hset_cons, hn1d, hm1d]; done))
                                refine vload_go (L := (lI .i64)) (xs := m.toList) (i := Int.toNat v_2) ?_ ?_ T3 rfl rfl rfl ?_
                                · try simp only [go_sem, Prod.mk.injEq, reduceIte, Nat.reduceEqDiff, Nat.reduceAdd, Nat.reduceSub, Nat.reduceMul, Nat.reduceDiv, Nat.reducePow, Nat.reduceLT, Nat.reduceLeDiff, Nat.reduceBEq, Nat.reduceBneDiff, Int.reduceToNat, Int.reduceEq, Int.reduceLE, Int.reduceLT, reduceCtorEq, hn1d, hm1d]
                                · rw [Vector.length_toList]; omega
                                try simp only [go_sem, Prod.mk.injEq, reduceIte, Nat.reduceEqDiff, Nat.reduceAdd, Nat.reduceSub, Nat.reduceMul, Nat.reduceDiv, Nat.reducePow, Nat.reduceLT, Nat.reduceLeDiff, Nat.reduceBEq, Nat.reduceBneDiff, Int.reduceToNat, Int.reduceEq, Int.reduceLE, Int.reduceLT, reduceCtorEq, hn1d, hm1d]
                                repeat (with_reducible refine And.intro ?_ ?_; next => first | assumption | trivial | omega | decide | (constructor <;> first | assumption | omega) | (simp [Keep.ok, hp_cons_apply, hset_cons, hn1d, hm1d]; done))
                                refine vstore_vec (L := (lI .i64)) (w := m) (i := Int.toNat v_2) (v := (IntKind.i64.wrap ((m.toList.getD (Int.toNat v_2) 0) + 1))) ?_ ?_ T3 rfl rfl rfl rfl ?_
                                · try simp only [go_sem, Prod.mk.injEq, reduceIte, Nat.reduceEqDiff, Nat.reduceAdd, Nat.reduceSub, Nat.reduceMul, Nat.reduceDiv, Nat.reducePow, Nat.reduceLT, Nat.reduceLeDiff, Nat.reduceBEq, Nat.reduceBneDiff, Int.reduceToNat, Int.reduceEq, Int.reduceLE, Int.reduceLT, reduceCtorEq, hn1d, hm1d]
                                · omega
                                try simp only [go_sem, Prod.mk.injEq, reduceIte, Nat.reduceEqDiff, Nat.reduceAdd, Nat.reduceSub, Nat.reduceMul, Nat.reduceDiv, Nat.reducePow, Nat.reduceLT, Nat.reduceLeDiff, Nat.reduceBEq, Nat.reduceBneDiff, Int.reduceToNat, Int.reduceEq, Int.reduceLE, Int.reduceLT, reduceCtorEq, hn1d, hm1d]
                                repeat (with_reducible refine And.intro ?_ ?_; next => first | assumption | trivial | omega | decide | (constructor <;> first | assumption | omega) | (simp [Keep.ok, hp_cons_apply, hset_cons, hn1d, hm1d]; done))
                                refine hk _ _ _ ?_
                                refine xghost (D := []) ?_ ?_ ?_ ?_
                                · exact (.cons (Sub.of_eq rfl) (.cons (Sub.of_eq rfl) (.cons (Sub.of_eq rfl) (.cons (Sub.of_eq rfl) (.cons (Sub.of_eq rfl) .nil)))))
                                · exact HpW.refl
                                · exact (by intro p hp; cases hp)
                                · omega
                          · try simp only [go_sem, Prod.mk.injEq, reduceIte, Nat.reduceEqDiff, Nat.reduceAdd, Nat.reduceSub, Nat.reduceMul, Nat.reduceDiv, Nat.reducePow, Nat.reduceLT, Nat.reduceLeDiff, Nat.reduceBEq, Nat.reduceBneDiff, Int.reduceToNat, Int.reduceEq, Int.reduceLE, Int.reduceLT, reduceCtorEq, hn1d, hm1d]
                            repeat (with_reducible refine And.intro ?_ ?_; next => first | assumption | trivial | omega | decide | (constructor <;> first | assumption | omega) | (simp [Keep.ok, hp_cons_apply, hset_cons, hn1d, hm1d]; done))
                            refine xo_guard (decide (v_2 < 0)) rfl (fun hc_4 => ?_) (fun hc_4 => ?_)
                            · try simp only [go_sem, Prod.mk.injEq, reduceIte, Nat.reduceEqDiff, Nat.reduceAdd, Nat.reduceSub, Nat.reduceMul, Nat.reduceDiv, Nat.reducePow, Nat.reduceLT, Nat.reduceLeDiff, Nat.reduceBEq, Nat.reduceBneDiff, Int.reduceToNat, Int.reduceEq, Int.reduceLE, Int.reduceLT, reduceCtorEq, hn1d, hm1d, hc_4]
                              repeat (with_reducible refine And.intro ?_ ?_; next => first | assumption | trivial | omega | decide | (constructor <;> first | assumption | omega) | (simp [Keep.ok, hp_cons_apply, hset_cons, hn1d, hm1d]; done))
                              refine xo_guard (decide (v_1 ≤ v_2)) rfl (fun hc_5 => ?_) (fun hc_5 => ?_)
                              · try simp only [go_sem, Prod.mk.injEq, reduceIte, Nat.reduceEqDiff, Nat.reduceAdd, Nat.reduceSub, Nat.reduceMul, Nat.reduceDiv, Nat.reducePow, Nat.reduceLT, Nat.reduceLeDiff, Nat.reduceBEq, Nat.reduceBneDiff, Int.reduceToNat, Int.reduceEq, Int.reduceLE, Int.reduceLT, reduceCtorEq, hn1d, hm1d, hc_4, hc_5]
                                repeat (with_reducible refine And.intro ?_ ?_; next => first | assumption | trivial | omega | decide | (constructor <;> first | assumption | omega) | (simp [Keep.ok, hp_cons_apply, hset_cons, hn1d, hm1d]; done))
                                rw [if_pos (by simp only [Bool.and_true, Bool.true_and, Bool.and_false, Bool.false_and, Bool.or_true, Bool.true_or, Bool.or_false, Bool.false_or, Bool.not_true, Bool.not_false, Bool.not_not, hc_4, hc_5])] at hv_3
                                have hcall := s_conf_Primary_ok (hp [((d, 0), .box [.lit (.int .i64 t.U), .lit (.int .i64 t.R), .lit (.int .i64 t.Peers), .lit (.int .i64 t.Window), .lit (.int .i64 t.Every), .lit (.int .i64 t.Patience), eS (lI .u8) t.Secret]), ((d, 1), .box (flat (lI .i64) m.toList))] S) t (IntKind.i64.wrap ((IntKind.i64.wrap (o + t7)) + v_1)) hv_3
                                refine call1_x hcall rfl ?_ ?_
                                · exact (.cons Sub.refl (.cons Sub.refl .nil))
                                clear hcall
                                rintro _ SS ⟨rfl, hSS⟩ -
                                rw [hSS]
                                clear hSS
                                try simp only [go_sem, Prod.mk.injEq, reduceIte, Nat.reduceEqDiff, Nat.reduceAdd, Nat.reduceSub, Nat.reduceMul, Nat.reduceDiv, Nat.reducePow, Nat.reduceLT, Nat.reduceLeDiff, Nat.reduceBEq, Nat.reduceBneDiff, Int.reduceToNat, Int.reduceEq, Int.reduceLE, Int.reduceLT, reduceCtorEq, hn1d, hm1d, hc_4, hc_5]
                                repeat (with_reducible refine And.intro ?_ ?_; next => first | assumption | trivial | omega | decide | (constructor <;> first | assumption | omega) | (simp [Keep.ok, hp_cons_apply, hset_cons, hn1d, hm1d]; done))
                                refine hk _ _ _ ?_
                                refine xghost (D := []) ?_ ?_ ?_ ?_
                                · exact (.cons (Sub.of_eq rfl) (.cons (Sub.of_eq rfl) (.cons (Sub.of_eq rfl) (.cons (Sub.of_eq rfl) (.cons (Sub.of_eq rfl) (.cons (Sub.of_eq rfl) (.cons (Sub.of_eq (by first | rfl | (simp only [sget_cons, reduceIte, Nat.reduceEqDiff, Bool.and_true, Bool.true_and, Bool.and_false, Bool.false_and, Bool.or_true, Bool.true_or, Bool.or_false, Bool.false_or, Bool.not_true, Bool.not_false, Bool.not_not, hc_4, hc_5]; done))) .nil)))))))
                                · exact HpW.refl
                                · exact (by intro p hp; cases hp)
                                · omega
                              · try simp only [go_sem, Prod.mk.injEq, reduceIte, Nat.reduceEqDiff, Nat.reduceAdd, Nat.reduceSub, Nat.reduceMul, Nat.reduceDiv, Nat.reducePow, Nat.reduceLT, Nat.reduceLeDiff, Nat.reduceBEq, Nat.reduceBneDiff, Int.reduceToNat, Int.reduceEq, Int.reduceLE, Int.reduceLT, reduceCtorEq, hn1d, hm1d, hc_4, hc_5]
                                repeat (with_reducible refine And.intro ?_ ?_; next => first | assumption | trivial | omega | decide | (constructor <;> first | assumption | omega) | (simp [Keep.ok, hp_cons_apply, hset_cons, hn1d, hm1d]; done))
                                refine hk _ _ _ ?_
                                refine xghost (D := []) ?_ ?_ ?_ ?_
                                · exact (.cons (Sub.of_eq rfl) (.cons (Sub.of_eq rfl) (.cons (Sub.of_eq rfl) (.cons (Sub.of_eq rfl) (.cons (Sub.of_eq rfl) (.cons (Sub.of_eq rfl) (.cons (Sub.of_eq (by first | rfl | (simp only [sget_cons, reduceIte, Nat.reduceEqDiff, Bool.and_true, Bool.true_and, Bool.and_false, Bool.false_and, Bool.or_true, Bool.true_or, Bool.or_false, Bool.false_or, Bool.not_true, Bool.not_false, Bool.not_not, hc_4, hc_5]; done))) .nil)))))))
                                · exact HpW.refl
                                · exact (by intro p hp; cases hp)
                                · omega
                            · try simp only [go_sem, Prod.mk.injEq, reduceIte, Nat.reduceEqDiff, Nat.reduceAdd, Nat.reduceSub, Nat.reduceMul, Nat.reduceDiv, Nat.reducePow, Nat.reduceLT, Nat.reduceLeDiff, Nat.reduceBEq, Nat.reduceBneDiff, Int.reduceToNat, Int.reduceEq, Int.reduceLE, Int.reduceLT, reduceCtorEq, hn1d, hm1d, hc_4]
                              repeat (with_reducible refine And.intro ?_ ?_; next => first | assumption | trivial | omega | decide | (constructor <;> first | assumption | omega) | (simp [Keep.ok, hp_cons_apply, hset_cons, hn1d, hm1d]; done))
                              refine hk _ _ _ ?_
                              refine xghost (D := []) ?_ ?_ ?_ ?_
                              · exact (.cons (Sub.of_eq rfl) (.cons (Sub.of_eq rfl) (.cons (Sub.of_eq rfl) (.cons (Sub.of_eq rfl) (.cons (Sub.of_eq rfl) (.cons (Sub.of_eq rfl) (.cons (Sub.of_eq (by first | rfl | (simp only [sget_cons, reduceIte, Nat.reduceEqDiff, Bool.and_true, Bool.true_and, Bool.and_false, Bool.false_and, Bool.or_true, Bool.true_or, Bool.or_false, Bool.false_or, Bool.not_true, Bool.not_false, Bool.not_not, hc_4]; done))) .nil)))))))
                              · exact HpW.refl
                              · exact (by intro p hp; cases hp)
                              · omega
                        · try simp only [go_sem, Prod.mk.injEq, reduceIte, Nat.reduceEqDiff, Nat.reduceAdd, Nat.reduceSub, Nat.reduceMul, Nat.reduceDiv, Nat.reducePow, Nat.reduceLT, Nat.reduceLeDiff, Nat.reduceBEq, Nat.reduceBneDiff, Int.reduceToNat, Int.reduceEq, Int.reduceLE, Int.reduceLT, reduceCtorEq, hn1d, hm1d]
                          repeat (with_reducible refine And.intro ?_ ?_; next => first | assumption | trivial | omega | decide | (constructor <;> first | assumption | omega) | (simp [Keep.ok, hp_cons_apply, hset_cons, hn1d, hm1d]; done))
                          have hcall := s_conf_Primary_ok (hp [((d, 0), .box [.lit (.int .i64 t.U), .lit (.int .i64 t.R), .lit (.int .i64 t.Peers), .lit (.int .i64 t.Window), .lit (.int .i64 t.Every), .lit (.int .i64 t.Patience), eS (lI .u8) t.Secret]), ((d, 1), .box (flat (lI .i64) m.toList))] S) t (IntKind.i64.wrap (o + t7)) hv_2
                          refine call1_x hcall rfl ?_ ?_
                          · exact (.cons Sub.refl (.cons Sub.refl .nil))
                          clear hcall
                          rintro _ SS ⟨rfl, hSS⟩ -
                          rw [hSS]
                          clear hSS
                          try simp only [go_sem, Prod.mk.injEq, reduceIte, Nat.reduceEqDiff, Nat.reduceAdd, Nat.reduceSub, Nat.reduceMul, Nat.reduceDiv, Nat.reducePow, Nat.reduceLT, Nat.reduceLeDiff, Nat.reduceBEq, Nat.reduceBneDiff, Int.reduceToNat, Int.reduceEq, Int.reduceLE, Int.reduceLT, reduceCtorEq, hn1d, hm1d]
                          repeat (with_reducible refine And.intro ?_ ?_; next => first | assumption | trivial | omega | decide | (constructor <;> first | assumption | omega) | (simp [Keep.ok, hp_cons_apply, hset_cons, hn1d, hm1d]; done))
                          refine hk _ _ _ ?_
                          refine xghost (D := []) ?_ ?_ ?_ ?_
                          · exact (.cons (Sub.of_eq rfl) (.cons (Sub.of_eq rfl) (.cons (Sub.of_eq rfl) (.cons (Sub.of_eq rfl) (.cons (Sub.of_eq rfl) (.cons (Sub.of_eq rfl) .nil))))))
                          · exact HpW.refl
                          · exact (by intro p hp; cases hp)
                          · omega
                      · rw [ite_f hc_2] at h
                        obtain ⟨hq, hxe⟩ := mr_go h hx1
                        clear h hx1
                        subst hxe
                        have h := hq
                        clear hq
                        refine LW_exitX (sl' := [(1, .lit (.int .i64 o)), (2, .ptr (d, 0) 0), (5, .lit (.int .i64 v_1)), (6, .ptr (d, 1) 0), (7, .lit (.int .i64 t7)), (27, .lit (.bool (decide (t7 < v_1))))]) (S' := (hp [((d, 0), .box [.lit (.int .i64 t.U), .lit (.int .i64 t.R), .lit (.int .i64 t.Peers), .lit (.int .i64 t.Window), .lit (.int .i64 t.Every), .lit (.int .i64 t.Patience), eS (lI .u8) t.Secret]), ((d, 1), .box (flat (lI .i64) m.toList))] S)) (c' := 0) ?_ ?_
                        · refine xghost (D := []) ?_ ?_ ?_ ?_
                          · exact (.cons (Sub.of_eq rfl) (.cons (Sub.of_eq rfl) (.cons (Sub.of_eq rfl) (.cons (Sub.of_eq rfl) (.cons (Sub.of_eq rfl) (.cons (Sub.of_eq rfl) .nil))))))
                          · exact HpW.refl
                          · exact (by intro p hp; cases hp)
                          · omega
                        · show LW _ _ _ _ _ _ _ _
                          refine LW_seq ?_
                          refine xseq [(5, .lit (.int .i64 v_1)), (6, .ptr (d, 1) 0), (9, .lit (.int .i64 0))] (hp [((d, 0), .box [.lit (.int .i64 t.U), .lit (.int .i64 t.R), .lit (.int .i64 t.Peers), .lit (.int .i64 t.Window), .lit (.int .i64 t.Every), .lit (.int .i64 t.Patience), eS (lI .u8) t.Secret]), ((d, 1), .box (flat (lI .i64) m.toList))] S) 2 ?_ (fun k kp hk => ?_)
                          · refine LW_block ?_
                            refine LW_loopX (σ := Int) (s := 0) (fun zz => [(5, .lit (.int .i64 v_1)), (6, .ptr (d, 1) 0), (9, .lit (.int .i64 zz))]) (fun zz => (hp [((d, 0), .box [.lit (.int .i64 t.U), .lit (.int .i64 t.R), .lit (.int .i64 t.Peers), .lit (.int .i64 t.Window), .lit (.int .i64 t.Every), .lit (.int .i64 t.Patience), eS (lI .u8) t.Secret]), ((d, 1), .box (flat (lI .i64) m.toList))] S)) h ?_ ?_
                            · clear h
                              rintro t9 x1 d1 hd1 hf1 h hx1
                              show LW _ _ _ _ [(5, .lit (.int .i64 v_1)), (6, .ptr (d, 1) 0), (9, .lit (.int .i64 t9))] (hp [((d, 0), .box [.lit (.int .i64 t.U), .lit (.int .i64 t.R), .lit (.int .i64 t.Peers), .lit (.int .i64 t.Window), .lit (.int .i64 t.Every), .lit (.int .i64 t.Patience), eS (lI .u8) t.Secret]), ((d, 1), .box (flat (lI .i64) m.toList))] S) 0 _
                              have hn1d : (d = d1) = False := by simp; omega
                              have hm1d : (d1 = d) = False := by simp; omega
                              rw [s_stanchionlaw06_ConfTurns_b2] at h
                              refine LW_seq ?_
                              refine xseq [(5, .lit (.int .i64 v_1)), (6, .ptr (d, 1) 0), (9, .lit (.int .i64 t9)), (60, .lit (.bool (decide (t9 < v_1))))] (hp [((d, 0), .box [.lit (.int .i64 t.U), .lit (.int .i64 t.R), .lit (.int .i64 t.Peers), .lit (.int .i64 t.Window), .lit (.int .i64 t.Every), .lit (.int .i64 t.Patience), eS (lI .u8) t.Secret]), ((d, 1), .box (flat (lI .i64) m.toList))] S) 0 ?_ (fun k kp hk => ?_)
                              · refine xcond (decide (t9 < v_1)) rfl (fun hc_6 => ?_) (fun hc_6 => ?_)
                                · rw [ite_t hc_6] at h
                                  refine LW_skip ?_
                                  show LW _ _ _ _ _ _ _ _
                                  refine LW_seq ?_
                                  refine LW_block ?_
                                  obtain ⟨hg_2, h⟩ := gd_some h
                                  refine xseq [(5, .lit (.int .i64 v_1)), (6, .ptr (d, 1) 0), (9, .lit (.int .i64 t9)), (66, .lit (.bool ((m.toList.getD (Int.toNat t9) 0) != 1)))] (hp [((d, 0), .box [.lit (.int .i64 t.U), .lit (.int .i64 t.R), .lit (.int .i64 t.Peers), .lit (.int .i64 t.Window), .lit (.int .i64 t.Every), .lit (.int .i64 t.Patience), eS (lI .u8) t.Secret]), ((d, 1), .box (flat (lI .i64) m.toList))] S) 0 ?_ (fun k kp hk => ?_)
                                  · refine xcond ((m.toList.getD (Int.toNat t9) 0) != 1) rfl (fun hc_7 => ?_) (fun hc_7 => ?_)
                                    · rw [ite_t hc_7] at h
                                      refine xseq [(4, .lit (.bool false)), (5, .lit (.int .i64 v_1)), (6, .ptr (d, 1) 0), (9, .lit (.int .i64 t9))] (hp [((d, 0), .box [.lit (.int .i64 t.U), .lit (.int .i64 t.R), .lit (.int .i64 t.Peers), .lit (.int .i64 t.Window), .lit (.int .i64 t.Every), .lit (.int .i64 t.Patience), eS (lI .u8) t.Secret]), ((d, 1), .box (flat (lI .i64) m.toList))] S) 0 ?_ (fun k kp hk => ?_)
                                      · obtain ⟨hq, hxe⟩ := mr_go h hx1
                                        clear h hx1
                                        subst hxe
                                        have h := hq
                                        clear hq
                                        refine LW_retX (sl' := [(4, .lit (.bool false))]) (S' := (hp [((d, 0), .box [.lit (.int .i64 t.U), .lit (.int .i64 t.R), .lit (.int .i64 t.Peers), .lit (.int .i64 t.Window), .lit (.int .i64 t.Every), .lit (.int .i64 t.Patience), eS (lI .u8) t.Secret]), ((d, 1), .box (flat (lI .i64) m.toList))] S)) (c' := 0) ?_ ?_
                                        · refine xghost (D := []) ?_ ?_ ?_ ?_
                                          · exact (.cons (Sub.of_eq rfl) .nil)
                                          · exact HpW.refl
                                          · exact (by intro p hp; cases hp)
                                          · omega
                                        · obtain rfl := Option.some.inj h
                                          show FPost _ _ _ _ _ _ _
                                          exact ⟨_, hp_less (L := []) (D := [((d, 0), .box [.lit (.int .i64 t.U), .lit (.int .i64 t.R), .lit (.int .i64 t.Peers), .lit (.int .i64 t.Window), .lit (.int .i64 t.Every), .lit (.int .i64 t.Patience), eS (lI .u8) t.Secret]), ((d, 1), .box (flat (lI .i64) m.toList))]) (by intro p hp; simp only [List.mem_cons, List.not_mem_nil, or_false] at hp; rcases hp with rfl | rfl <;> first | exact hd _ (Nat.le_refl _)), rfl, rfl⟩
                                      · try simp only [go_sem, Prod.mk.injEq, reduceIte, Nat.reduceEqDiff, Nat.reduceAdd, Nat.reduceSub, Nat.reduceMul, Nat.reduceDiv, Nat.reducePow, Nat.reduceLT, Nat.reduceLeDiff, Nat.reduceBEq, Nat.reduceBneDiff, Int.reduceToNat, Int.reduceEq, Int.reduceLE, Int.reduceLT, reduceCtorEq, hn1d, hm1d, hn1d, hm1d]
                                        repeat (with_reducible refine And.intro ?_ ?_; next => first | assumption | trivial | omega | decide | (constructor <;> first | assumption | omega) | (simp [Keep.ok, hp_cons_apply, hset_cons, hn1d, hm1d, hn1d, hm1d]; done))
                                        refine hk _ _ _ ?_
                                        refine xghost (D := []) ?_ ?_ ?_ ?_
                                        · exact (.cons (Sub.of_eq rfl) (.cons (Sub.of_eq rfl) (.cons (Sub.of_eq rfl) (.cons (Sub.of_eq rfl) .nil))))
                                        · exact HpW.refl
                                        · exact (by intro p hp; cases hp)
                                        · omega
                                    · rw [ite_f hc_7] at h
                                      refine LW_skip ?_
                                      show LW _ _ _ _ _ _ _ _
                                      refine xreg [(5, .lit (.int .i64 v_1)), (6, .ptr (d, 1) 0), (9, .lit (.int .i64 (IntKind.i64.wrap (t9 + 1))))] (hp [((d, 0), .box [.lit (.int .i64 t.U), .lit (.int .i64 t.R), .lit (.int .i64 t.Peers), .lit (.int .i64 t.Window), .lit (.int .i64 t.Every), .lit (.int .i64 t.Patience), eS (lI .u8) t.Secret]), ((d, 1), .box (flat (lI .i64) m.toList))] S) 0 ?_ (fun k kp hk => ?_)
                                      · cases h
                                        exact ⟨rfl, Less.refl _⟩
                                      · try simp only [go_sem, Prod.mk.injEq, reduceIte, Nat.reduceEqDiff, Nat.reduceAdd, Nat.reduceSub, Nat.reduceMul, Nat.reduceDiv, Nat.reducePow, Nat.reduceLT, Nat.reduceLeDiff, Nat.reduceBEq, Nat.reduceBneDiff, Int.reduceToNat, Int.reduceEq, Int.reduceLE, Int.reduceLT, reduceCtorEq, hn1d, hm1d, hn1d, hm1d]
                                        repeat (with_reducible refine And.intro ?_ ?_; next => first | assumption | trivial | omega | decide | (constructor <;> first | assumption | omega) | (simp [Keep.ok, hp_cons_apply, hset_cons, hn1d, hm1d, hn1d, hm1d]; done))
                                        refine hk _ _ _ ?_
                                        refine xghost (D := []) ?_ ?_ ?_ ?_
                                        · exact (.cons (Sub.of_eq rfl) (.cons (Sub.of_eq rfl) (.cons (Sub.of_eq rfl) .nil)))
                                        · exact HpW.refl
                                        · exact (by intro p hp; cases hp)
                                        · omega
                                  · try simp only [go_sem, Prod.mk.injEq, reduceIte, Nat.reduceEqDiff, Nat.reduceAdd, Nat.reduceSub, Nat.reduceMul, Nat.reduceDiv, Nat.reducePow, Nat.reduceLT, Nat.reduceLeDiff, Nat.reduceBEq, Nat.reduceBneDiff, Int.reduceToNat, Int.reduceEq, Int.reduceLE, Int.reduceLT, reduceCtorEq, hn1d, hm1d, hn1d, hm1d]
                                    repeat (with_reducible refine And.intro ?_ ?_; next => first | assumption | trivial | omega | decide | (constructor <;> first | assumption | omega) | (simp [Keep.ok, hp_cons_apply, hset_cons, hn1d, hm1d, hn1d, hm1d]; done))
                                    refine vload_go (L := (lI .i64)) (xs := m.toList) (i := Int.toNat t9) ?_ ?_ T3 rfl rfl rfl ?_
                                    · try simp only [go_sem, Prod.mk.injEq, reduceIte, Nat.reduceEqDiff, Nat.reduceAdd, Nat.reduceSub, Nat.reduceMul, Nat.reduceDiv, Nat.reducePow, Nat.reduceLT, Nat.reduceLeDiff, Nat.reduceBEq, Nat.reduceBneDiff, Int.reduceToNat, Int.reduceEq, Int.reduceLE, Int.reduceLT, reduceCtorEq, hn1d, hm1d, hn1d, hm1d]
                                    · rw [Vector.length_toList]; omega
                                    try simp only [go_sem, Prod.mk.injEq, reduceIte, Nat.reduceEqDiff, Nat.reduceAdd, Nat.reduceSub, Nat.reduceMul, Nat.reduceDiv, Nat.reducePow, Nat.reduceLT, Nat.reduceLeDiff, Nat.reduceBEq, Nat.reduceBneDiff, Int.reduceToNat, Int.reduceEq, Int.reduceLE, Int.reduceLT, reduceCtorEq, hn1d, hm1d, hn1d, hm1d]
                                    repeat (with_reducible refine And.intro ?_ ?_; next => first | assumption | trivial | omega | decide | (constructor <;> first | assumption | omega) | (simp [Keep.ok, hp_cons_apply, hset_cons, hn1d, hm1d, hn1d, hm1d]; done))
                                    refine hk _ _ _ ?_
                                    refine xghost (D := []) ?_ ?_ ?_ ?_
                                    · exact (.cons (Sub.of_eq rfl) (.cons (Sub.of_eq rfl) (.cons (Sub.of_eq rfl) (.cons (Sub.of_eq rfl) .nil))))
                                    · exact HpW.refl
                                    · exact (by intro p hp; cases hp)
                                    · omega
                                · rw [ite_f hc_6] at h
                                  obtain ⟨hq, hxe⟩ := mr_go h hx1
                                  clear h hx1
                                  subst hxe
                                  have h := hq
                                  clear hq
                                  refine LW_exitX (sl' := [(5, .lit (.int .i64 v_1)), (6, .ptr (d, 1) 0), (9, .lit (.int .i64 t9)), (60, .lit (.bool (decide (t9 < v_1))))]) (S' := (hp [((d, 0), .box [.lit (.int .i64 t.U), .lit (.int .i64 t.R), .lit (.int .i64 t.Peers), .lit (.int .i64 t.Window), .lit (.int .i64 t.Every), .lit (.int .i64 t.Patience), eS (lI .u8) t.Secret]), ((d, 1), .box (flat (lI .i64) m.toList))] S)) (c' := 0) ?_ ?_
                                  · refine xghost (D := []) ?_ ?_ ?_ ?_
                                    · exact (.cons (Sub.of_eq rfl) (.cons (Sub.of_eq rfl) (.cons (Sub.of_eq rfl) (.cons (Sub.of_eq rfl) .nil))))
                                    · exact HpW.refl
                                    · exact (by intro p hp; cases hp)
                                    · omega
                                  · show LW _ _ _ _ _ _ _ _
                                    refine xseq [(4, .lit (.bool true))] (hp [((d, 0), .box [.lit (.int .i64 t.U), .lit (.int .i64 t.R), .lit (.int .i64 t.Peers), .lit (.int .i64 t.Window), .lit (.int .i64 t.Every), .lit (.int .i64 t.Patience), eS (lI .u8) t.Secret]), ((d, 1), .box (flat (lI .i64) m.toList))] S) 2 ?_ (fun k kp hk => ?_)
                                    · refine LW_ret ?_
                                      obtain rfl := Option.some.inj h
                                      show FPost _ _ _ _ _ _ _
                                      exact ⟨_, hp_less (L := []) (D := [((d, 0), .box [.lit (.int .i64 t.U), .lit (.int .i64 t.R), .lit (.int .i64 t.Peers), .lit (.int .i64 t.Window), .lit (.int .i64 t.Every), .lit (.int .i64 t.Patience), eS (lI .u8) t.Secret]), ((d, 1), .box (flat (lI .i64) m.toList))]) (by intro p hp; simp only [List.mem_cons, List.not_mem_nil, or_false] at hp; rcases hp with rfl | rfl <;> first | exact hd _ (Nat.le_refl _)), rfl, rfl⟩
                                    · try simp only [go_sem, Prod.mk.injEq, reduceIte, Nat.reduceEqDiff, Nat.reduceAdd, Nat.reduceSub, Nat.reduceMul, Nat.reduceDiv, Nat.reducePow, Nat.reduceLT, Nat.reduceLeDiff, Nat.reduceBEq, Nat.reduceBneDiff, Int.reduceToNat, Int.reduceEq, Int.reduceLE, Int.reduceLT, reduceCtorEq, hn1d, hm1d, hn1d, hm1d]
                                      repeat (with_reducible refine And.intro ?_ ?_; next => first | assumption | trivial | omega | decide | (constructor <;> first | assumption | omega) | (simp [Keep.ok, hp_cons_apply, hset_cons, hn1d, hm1d, hn1d, hm1d]; done))
                                      refine hk _ _ _ ?_
                                      refine xghost (D := []) ?_ ?_ ?_ ?_
                                      · exact (.cons (Sub.of_eq rfl) .nil)
                                      · exact HpW.refl
                                      · exact (by intro p hp; cases hp)
                                      · omega
                              · try simp only [go_sem, Prod.mk.injEq, reduceIte, Nat.reduceEqDiff, Nat.reduceAdd, Nat.reduceSub, Nat.reduceMul, Nat.reduceDiv, Nat.reducePow, Nat.reduceLT, Nat.reduceLeDiff, Nat.reduceBEq, Nat.reduceBneDiff, Int.reduceToNat, Int.reduceEq, Int.reduceLE, Int.reduceLT, reduceCtorEq, hn1d, hm1d, hn1d, hm1d]
                                repeat (with_reducible refine And.intro ?_ ?_; next => first | assumption | trivial | omega | decide | (constructor <;> first | assumption | omega) | (simp [Keep.ok, hp_cons_apply, hset_cons, hn1d, hm1d, hn1d, hm1d]; done))
                                refine hk _ _ _ ?_
                                refine xghost (D := []) ?_ ?_ ?_ ?_
                                · exact (.cons (Sub.of_eq rfl) (.cons (Sub.of_eq rfl) (.cons (Sub.of_eq rfl) (.cons (Sub.of_eq rfl) .nil))))
                                · exact HpW.refl
                                · exact (by intro p hp; cases hp)
                                · omega
                            · refine xghost (D := []) ?_ ?_ ?_ ?_
                              · exact (.cons (Sub.of_eq rfl) (.cons (Sub.of_eq rfl) (.cons (Sub.of_eq rfl) .nil)))
                              · exact HpW.refl
                              · exact (by intro p hp; cases hp)
                              · omega
                          · try simp only [go_sem, Prod.mk.injEq, reduceIte, Nat.reduceEqDiff, Nat.reduceAdd, Nat.reduceSub, Nat.reduceMul, Nat.reduceDiv, Nat.reducePow, Nat.reduceLT, Nat.reduceLeDiff, Nat.reduceBEq, Nat.reduceBneDiff, Int.reduceToNat, Int.reduceEq, Int.reduceLE, Int.reduceLT, reduceCtorEq, hn1d, hm1d]
                            repeat (with_reducible refine And.intro ?_ ?_; next => first | assumption | trivial | omega | decide | (constructor <;> first | assumption | omega) | (simp [Keep.ok, hp_cons_apply, hset_cons, hn1d, hm1d]; done))
                            refine hk _ _ _ ?_
                            refine xghost (D := []) ?_ ?_ ?_ ?_
                            · exact (.cons (Sub.of_eq rfl) (.cons (Sub.of_eq rfl) (.cons (Sub.of_eq rfl) .nil)))
                            · exact HpW.refl
                            · exact (by intro p hp; cases hp)
                            · omega
                    · try simp only [go_sem, Prod.mk.injEq, reduceIte, Nat.reduceEqDiff, Nat.reduceAdd, Nat.reduceSub, Nat.reduceMul, Nat.reduceDiv, Nat.reducePow, Nat.reduceLT, Nat.reduceLeDiff, Nat.reduceBEq, Nat.reduceBneDiff, Int.reduceToNat, Int.reduceEq, Int.reduceLE, Int.reduceLT, reduceCtorEq, hn1d, hm1d]
                      repeat (with_reducible refine And.intro ?_ ?_; next => first | assumption | trivial | omega | decide | (constructor <;> first | assumption | omega) | (simp [Keep.ok, hp_cons_apply, hset_cons, hn1d, hm1d]; done))
                      refine hk _ _ _ ?_
                      refine xghost (D := []) ?_ ?_ ?_ ?_
                      · exact (.cons (Sub.of_eq rfl) (.cons (Sub.of_eq rfl) (.cons (Sub.of_eq rfl) (.cons (Sub.of_eq rfl) (.cons (Sub.of_eq rfl) (.cons (Sub.of_eq rfl) .nil))))))
                      · exact HpW.refl
                      · exact (by intro p hp; cases hp)
                      · omega
                  · refine xghost (D := []) ?_ ?_ ?_ ?_
                    · exact (.cons (Sub.of_eq rfl) (.cons (Sub.of_eq rfl) (.cons (Sub.of_eq rfl) (.cons (Sub.of_eq rfl) (.cons (Sub.of_eq rfl) .nil)))))
                    · exact HpW.refl
                    · exact (by intro p hp; cases hp)
                    · omega
                · try simp only [go_sem, Prod.mk.injEq, reduceIte, Nat.reduceEqDiff, Nat.reduceAdd, Nat.reduceSub, Nat.reduceMul, Nat.reduceDiv, Nat.reducePow, Nat.reduceLT, Nat.reduceLeDiff, Nat.reduceBEq, Nat.reduceBneDiff, Int.reduceToNat, Int.reduceEq, Int.reduceLE, Int.reduceLT, reduceCtorEq]
                  repeat (with_reducible refine And.intro ?_ ?_; next => first | assumption | trivial | omega | decide | (constructor <;> first | assumption | omega) | (simp [Keep.ok, hp_cons_apply, hset_cons]; done))
                  refine hk _ _ _ ?_
                  refine xghost (D := []) ?_ ?_ ?_ ?_
                  · exact (.cons (Sub.of_eq rfl) (.cons (Sub.of_eq rfl) (.cons (Sub.of_eq rfl) (.cons (Sub.of_eq rfl) (.cons (Sub.of_eq rfl) .nil)))))
                  · exact HpW.refl
                  · exact (by intro p hp; cases hp)
                  · omega
              · try simp only [go_sem, Prod.mk.injEq, reduceIte, Nat.reduceEqDiff, Nat.reduceAdd, Nat.reduceSub, Nat.reduceMul, Nat.reduceDiv, Nat.reducePow, Nat.reduceLT, Nat.reduceLeDiff, Nat.reduceBEq, Nat.reduceBneDiff, Int.reduceToNat, Int.reduceEq, Int.reduceLE, Int.reduceLT, reduceCtorEq]
                repeat (with_reducible refine And.intro ?_ ?_; next => first | assumption | trivial | omega | decide | (constructor <;> first | assumption | omega) | (simp [Keep.ok, hp_cons_apply, hset_cons]; done))
                refine hk _ _ _ ?_
                refine xghost (D := []) ?_ ?_ ?_ ?_
                · exact (.cons (Sub.of_eq rfl) (.cons (Sub.of_eq rfl) (.cons (Sub.of_eq rfl) (.cons (Sub.of_eq rfl) .nil))))
                · exact HpW.refl
                · exact (by intro p hp; cases hp)
                · omega
          · try simp only [go_sem, Prod.mk.injEq, reduceIte, Nat.reduceEqDiff, Nat.reduceAdd, Nat.reduceSub, Nat.reduceMul, Nat.reduceDiv, Nat.reducePow, Nat.reduceLT, Nat.reduceLeDiff, Nat.reduceBEq, Nat.reduceBneDiff, Int.reduceToNat, Int.reduceEq, Int.reduceLE, Int.reduceLT, reduceCtorEq]
            repeat (with_reducible refine And.intro ?_ ?_; next => first | assumption | trivial | omega | decide | (constructor <;> first | assumption | omega) | (simp [Keep.ok, hp_cons_apply, hset_cons]; done))
            refine xo_guard (decide (o < 0)) rfl (fun hc_8 => ?_) (fun hc_8 => ?_)
            · try simp only [go_sem, Prod.mk.injEq, reduceIte, Nat.reduceEqDiff, Nat.reduceAdd, Nat.reduceSub, Nat.reduceMul, Nat.reduceDiv, Nat.reducePow, Nat.reduceLT, Nat.reduceLeDiff, Nat.reduceBEq, Nat.reduceBneDiff, Int.reduceToNat, Int.reduceEq, Int.reduceLE, Int.reduceLT, reduceCtorEq, hc_8]
              repeat (with_reducible refine And.intro ?_ ?_; next => first | assumption | trivial | omega | decide | (constructor <;> first | assumption | omega) | (simp [Keep.ok, hp_cons_apply, hset_cons]; done))
              refine xo_guard (decide (1099511627776 < o)) rfl (fun hc_9 => ?_) (fun hc_9 => ?_)
              · try simp only [go_sem, Prod.mk.injEq, reduceIte, Nat.reduceEqDiff, Nat.reduceAdd, Nat.reduceSub, Nat.reduceMul, Nat.reduceDiv, Nat.reducePow, Nat.reduceLT, Nat.reduceLeDiff, Nat.reduceBEq, Nat.reduceBneDiff, Int.reduceToNat, Int.reduceEq, Int.reduceLE, Int.reduceLT, reduceCtorEq, hc_8, hc_9]
                repeat (with_reducible refine And.intro ?_ ?_; next => first | assumption | trivial | omega | decide | (constructor <;> first | assumption | omega) | (simp [Keep.ok, hp_cons_apply, hset_cons]; done))
                refine hk _ _ _ ?_
                refine xghost (D := []) ?_ ?_ ?_ ?_
                · exact (.cons (Sub.of_eq rfl) (.cons (Sub.of_eq rfl) (.cons (Sub.of_eq rfl) (.cons (Sub.of_eq (by first | rfl | (simp only [sget_cons, reduceIte, Nat.reduceEqDiff, Bool.and_true, Bool.true_and, Bool.and_false, Bool.false_and, Bool.or_true, Bool.true_or, Bool.or_false, Bool.false_or, Bool.not_true, Bool.not_false, Bool.not_not, hc_8, hc_9]; done))) .nil))))
                · exact HpW.refl
                · exact (by intro p hp; cases hp)
                · omega
              · try simp only [go_sem, Prod.mk.injEq, reduceIte, Nat.reduceEqDiff, Nat.reduceAdd, Nat.reduceSub, Nat.reduceMul, Nat.reduceDiv, Nat.reducePow, Nat.reduceLT, Nat.reduceLeDiff, Nat.reduceBEq, Nat.reduceBneDiff, Int.reduceToNat, Int.reduceEq, Int.reduceLE, Int.reduceLT, reduceCtorEq, hc_8, hc_9]
                repeat (with_reducible refine And.intro ?_ ?_; next => first | assumption | trivial | omega | decide | (constructor <;> first | assumption | omega) | (simp [Keep.ok, hp_cons_apply, hset_cons]; done))
                refine hk _ _ _ ?_
                refine xghost (D := []) ?_ ?_ ?_ ?_
                · exact (.cons (Sub.of_eq rfl) (.cons (Sub.of_eq rfl) (.cons (Sub.of_eq rfl) (.cons (Sub.of_eq (by first | rfl | (simp only [sget_cons, reduceIte, Nat.reduceEqDiff, Bool.and_true, Bool.true_and, Bool.and_false, Bool.false_and, Bool.or_true, Bool.true_or, Bool.or_false, Bool.false_or, Bool.not_true, Bool.not_false, Bool.not_not, hc_8, hc_9]; done))) .nil))))
                · exact HpW.refl
                · exact (by intro p hp; cases hp)
                · omega
            · try simp only [go_sem, Prod.mk.injEq, reduceIte, Nat.reduceEqDiff, Nat.reduceAdd, Nat.reduceSub, Nat.reduceMul, Nat.reduceDiv, Nat.reducePow, Nat.reduceLT, Nat.reduceLeDiff, Nat.reduceBEq, Nat.reduceBneDiff, Int.reduceToNat, Int.reduceEq, Int.reduceLE, Int.reduceLT, reduceCtorEq, hc_8]
              repeat (with_reducible refine And.intro ?_ ?_; next => first | assumption | trivial | omega | decide | (constructor <;> first | assumption | omega) | (simp [Keep.ok, hp_cons_apply, hset_cons]; done))
              refine hk _ _ _ ?_
              refine xghost (D := []) ?_ ?_ ?_ ?_
              · exact (.cons (Sub.of_eq rfl) (.cons (Sub.of_eq rfl) (.cons (Sub.of_eq rfl) (.cons (Sub.of_eq (by first | rfl | (simp only [sget_cons, reduceIte, Nat.reduceEqDiff, Bool.and_true, Bool.true_and, Bool.and_false, Bool.false_and, Bool.or_true, Bool.true_or, Bool.or_false, Bool.false_or, Bool.not_true, Bool.not_false, Bool.not_not, hc_8]; done))) .nil))))
              · exact HpW.refl
              · exact (by intro p hp; cases hp)
              · omega
        · try simp only [go_sem, Prod.mk.injEq, reduceIte, Nat.reduceEqDiff, Nat.reduceAdd, Nat.reduceSub, Nat.reduceMul, Nat.reduceDiv, Nat.reducePow, Nat.reduceLT, Nat.reduceLeDiff, Nat.reduceBEq, Nat.reduceBneDiff, Int.reduceToNat, Int.reduceEq, Int.reduceLE, Int.reduceLT, reduceCtorEq]
          repeat (with_reducible refine And.intro ?_ ?_; next => first | assumption | trivial | omega | decide | (constructor <;> first | assumption | omega) | (simp [Keep.ok, hp_cons_apply, hset_cons]; done))
          have hcall := s_conf_Count_ok (hp [((d, 0), .box [.lit (.int .i64 t.U), .lit (.int .i64 t.R), .lit (.int .i64 t.Peers), .lit (.int .i64 t.Window), .lit (.int .i64 t.Every), .lit (.int .i64 t.Patience), eS (lI .u8) t.Secret])] S) t 2 hv_1
          refine call1_x hcall rfl ?_ ?_
          · exact (.cons Sub.refl (.cons Sub.refl .nil))
          clear hcall
          rintro _ SS ⟨rfl, hSS⟩ -
          rw [hSS]
          clear hSS
          try simp only [go_sem, Prod.mk.injEq, reduceIte, Nat.reduceEqDiff, Nat.reduceAdd, Nat.reduceSub, Nat.reduceMul, Nat.reduceDiv, Nat.reducePow, Nat.reduceLT, Nat.reduceLeDiff, Nat.reduceBEq, Nat.reduceBneDiff, Int.reduceToNat, Int.reduceEq, Int.reduceLE, Int.reduceLT, reduceCtorEq]
          repeat (with_reducible refine And.intro ?_ ?_; next => first | assumption | trivial | omega | decide | (constructor <;> first | assumption | omega) | (simp [Keep.ok, hp_cons_apply, hset_cons]; done))
          refine hk _ _ _ ?_
          refine xghost (D := []) ?_ ?_ ?_ ?_
          · exact (.cons (Sub.of_eq rfl) (.cons (Sub.of_eq rfl) (.cons (Sub.of_eq rfl) .nil)))
          · exact HpW.refl
          · exact (by intro p hp; cases hp)
          · omega
    · try simp only [go_sem, Prod.mk.injEq, reduceIte, Nat.reduceEqDiff, Nat.reduceAdd, Nat.reduceSub, Nat.reduceMul, Nat.reduceDiv, Nat.reducePow, Nat.reduceLT, Nat.reduceLeDiff, Nat.reduceBEq, Nat.reduceBneDiff, Int.reduceToNat, Int.reduceEq, Int.reduceLE, Int.reduceLT, reduceCtorEq]
      repeat (with_reducible refine And.intro ?_ ?_; next => first | assumption | trivial | omega | decide | (constructor <;> first | assumption | omega) | (simp [Keep.ok, hp_cons_apply, hset_cons]; done))
      have hcall := s_stanchionlaw06_alive_ok (hp [((d, 0), .box [.lit (.int .i64 t.U), .lit (.int .i64 t.R), .lit (.int .i64 t.Peers), .lit (.int .i64 t.Window), .lit (.int .i64 t.Every), .lit (.int .i64 t.Patience), eS (lI .u8) t.Secret])] S)  hv
      refine call1_x hcall rfl ?_ ?_
      · exact .nil
      clear hcall
      rintro _ SS ⟨rfl, hSS⟩ -
      rw [hSS]
      clear hSS
      try simp only [go_sem, Prod.mk.injEq, reduceIte, Nat.reduceEqDiff, Nat.reduceAdd, Nat.reduceSub, Nat.reduceMul, Nat.reduceDiv, Nat.reducePow, Nat.reduceLT, Nat.reduceLeDiff, Nat.reduceBEq, Nat.reduceBneDiff, Int.reduceToNat, Int.reduceEq, Int.reduceLE, Int.reduceLT, reduceCtorEq]
      repeat (with_reducible refine And.intro ?_ ?_; next => first | assumption | trivial | omega | decide | (constructor <;> first | assumption | omega) | (simp [Keep.ok, hp_cons_apply, hset_cons]; done))
      refine hk _ _ _ ?_
      refine xghost (D := []) ?_ ?_ ?_ ?_
      · exact (.cons (Sub.of_eq rfl) (.cons (Sub.of_eq rfl) (.cons (Sub.of_eq rfl) .nil)))
      · exact HpW.refl
      · exact (by intro p hp; cases hp)
      · omega
  · try simp only [go_sem, Prod.mk.injEq, reduceIte, Nat.reduceEqDiff, Nat.reduceAdd, Nat.reduceSub, Nat.reduceMul, Nat.reduceDiv, Nat.reducePow, Nat.reduceLT, Nat.reduceLeDiff, Nat.reduceBEq, Nat.reduceBneDiff, Int.reduceToNat, Int.reduceEq, Int.reduceLE, Int.reduceLT, reduceCtorEq]
    repeat (with_reducible refine And.intro ?_ ?_; next => first | assumption | trivial | omega | decide | (constructor <;> first | assumption | omega) | (simp [Keep.ok, hp_cons_apply, hset_cons]; done))
    refine hk _ _ _ ?_
    refine xghost (D := []) ?_ ?_ ?_ ?_
    · exact (.cons (Sub.of_eq rfl) (.cons (Sub.of_eq rfl) .nil))
    · exact HpW.refl
    · exact (by intro p hp; cases hp)
    · omega
/-! stanchion/stanchionref00.CopyBytes -/
def s_stanchionref00_CopyBytes (b : List Int) : Option (List Int) :=
  gd (((0 + b.length) * 1 ≤ 140737488355328 ∧ 0 + b.length < 9223372036854775808)) (some b)
theorem s_stanchionref00_CopyBytes_ok (S : AHeap) (b : List Int) {r : List Int} (h : s_stanchionref00_CopyBytes b = some r) :
    AC Try.prog n_stanchionref00_CopyBytes [eS (lI .u8) b] S fun r' S' => r' = .ret (eS (lI .u8) r) ∧ S' = S := by
  refine AC_of tok mixed fits_stanchionref00_CopyBytes fun d hd => ?_
  unfold c_stanchionref00_CopyBytes
  show LW _ _ _ _ [(0, eS (lI .u8) b)] (hp [] S) 0 _
  rw [s_stanchionref00_CopyBytes] at h
  refine xseq [(0, eS (lI .u8) b)] (hp [] S) 0 ?_ (fun k kp hk => ?_)
  · refine xseq [(0, eS (lI .u8) b), (3, eT (lI .u8) (d, 0) [])] (hp [((d, 0), oT (lI .u8) [])] S) 1 ?_ (fun k kp hk => ?_)
    · obtain ⟨hg, h⟩ := gd_some h
      refine xseq [(3, eT (lI .u8) (d, 0) b)] (hp [((d, 0), oT (lI .u8) b)] S) 1 ?_ (fun k kp hk => ?_)
      · refine xseq [(2, eS (lI .u8) b)] (hp [((d, 0), oT (lI .u8) b)] S) 1 ?_ (fun k kp hk => ?_)
        · refine LW_ret ?_
          obtain rfl := Option.some.inj h
          show FPost _ _ _ _ _ _ _
          exact ⟨_, hp_less (L := []) (D := [((d, 0), oT (lI .u8) b)]) (by intro p hp; simp only [List.mem_cons, List.not_mem_nil, or_false] at hp; rcases hp with rfl <;> first | exact hd _ (Nat.le_refl _)), rfl, rfl⟩
        · try simp only [go_sem, Prod.mk.injEq, reduceIte, Nat.reduceEqDiff, Nat.reduceAdd, Nat.reduceSub, Nat.reduceMul, Nat.reduceDiv, Nat.reducePow, Nat.reduceLT, Nat.reduceLeDiff, Nat.reduceBEq, Nat.reduceBneDiff, Int.reduceToNat, Int.reduceEq, Int.reduceLE, Int.reduceLT, reduceCtorEq]
          repeat (with_reducible refine And.intro ?_ ?_; next => first | assumption | trivial | omega | decide | (constructor <;> first | assumption | omega) | (simp [Keep.ok, hp_cons_apply, hset_cons]; done))
          refine hk _ _ _ ?_
          refine xghost (D := []) ?_ ?_ ?_ ?_
          · exact (.cons Sub.tip .nil)
          · exact HpW.refl
          · exact (by intro p hp; cases hp)
          · omega
      · try simp only [go_sem, Prod.mk.injEq, reduceIte, Nat.reduceEqDiff, Nat.reduceAdd, Nat.reduceSub, Nat.reduceMul, Nat.reduceDiv, Nat.reducePow, Nat.reduceLT, Nat.reduceLeDiff, Nat.reduceBEq, Nat.reduceBneDiff, Int.reduceToNat, Int.reduceEq, Int.reduceLE, Int.reduceLT, reduceCtorEq]
        repeat (with_reducible refine And.intro ?_ ?_; next => first | assumption | trivial | omega | decide | (constructor <;> first | assumption | omega) | (simp [Keep.ok, hp_cons_apply, hset_cons]; done))
        refine append1_eT (L := (lI .u8)) (n := (d, 0)) (xs := []) (ys := b) T22 T22 T5 ?_ rfl ?_ asrc_eS ?_ rfl ?_ ?_
        · first | exact .inl rfl | exact .inr rfl
        · try simp only [go_sem, Prod.mk.injEq, reduceIte, Nat.reduceEqDiff, Nat.reduceAdd, Nat.reduceSub, Nat.reduceMul, Nat.reduceDiv, Nat.reducePow, Nat.reduceLT, Nat.reduceLeDiff, Nat.reduceBEq, Nat.reduceBneDiff, Int.reduceToNat, Int.reduceEq, Int.reduceLE, Int.reduceLT, reduceCtorEq]
        · exact ⟨trivial, rfl⟩
        · dsimp only [List.length]; omega
        try simp only [go_sem, Prod.mk.injEq, reduceIte, Nat.reduceEqDiff, Nat.reduceAdd, Nat.reduceSub, Nat.reduceMul, Nat.reduceDiv, Nat.reducePow, Nat.reduceLT, Nat.reduceLeDiff, Nat.reduceBEq, Nat.reduceBneDiff, Int.reduceToNat, Int.reduceEq, Int.reduceLE, Int.reduceLT, reduceCtorEq]
        repeat (with_reducible refine And.intro ?_ ?_; next => first | assumption | trivial | omega | decide | (constructor <;> first | assumption | omega) | (simp [Keep.ok, hp_cons_apply, hset_cons]; done))
        refine hk _ _ _ ?_
        refine xghost (D := []) ?_ ?_ ?_ ?_
        · exact (.cons (Sub.of_eq rfl) .nil)
        · exact HpW.refl
        · exact (by intro p hp; cases hp)
        · omega
    · try simp only [go_sem, Prod.mk.injEq, reduceIte, Nat.reduceEqDiff, Nat.reduceAdd, Nat.reduceSub, Nat.reduceMul, Nat.reduceDiv, Nat.reducePow, Nat.reduceLT, Nat.reduceLeDiff, Nat.reduceBEq, Nat.reduceBneDiff, Int.reduceToNat, Int.reduceEq, Int.reduceLE, Int.reduceLT, reduceCtorEq]
      repeat (with_reducible refine And.intro ?_ ?_; next => first | assumption | trivial | omega | decide | (constructor <;> first | assumption | omega) | (simp [Keep.ok, hp_cons_apply, hset_cons]; done))
      refine hk _ _ _ ?_
      refine Ghost.trans (xname (lI .u8) 3 Sub.refl) ?_
      try simp only [go_sem, Prod.mk.injEq, reduceIte, Nat.reduceEqDiff, Nat.reduceAdd, Nat.reduceSub, Nat.reduceMul, Nat.reduceDiv, Nat.reducePow, Nat.reduceLT, Nat.reduceLeDiff, Nat.reduceBEq, Nat.reduceBneDiff, Int.reduceToNat, Int.reduceEq, Int.reduceLE, Int.reduceLT, reduceCtorEq]
      refine xghost (D := []) ?_ ?_ ?_ ?_
      · exact (.cons (Sub.of_eq rfl) (.cons (Sub.of_eq rfl) .nil))
      · exact HpW.refl
      · exact (by intro p hp; cases hp)
      · omega
  · try simp only [go_sem, Prod.mk.injEq, reduceIte, Nat.reduceEqDiff, Nat.reduceAdd, Nat.reduceSub, Nat.reduceMul, Nat.reduceDiv, Nat.reducePow, Nat.reduceLT, Nat.reduceLeDiff, Nat.reduceBEq, Nat.reduceBneDiff, Int.reduceToNat, Int.reduceEq, Int.reduceLE, Int.reduceLT, reduceCtorEq]
    repeat (with_reducible refine And.intro ?_ ?_; next => first | assumption | trivial | omega | decide | (constructor <;> first | assumption | omega) | (simp [Keep.ok, hp_cons_apply, hset_cons]; done))
    refine hk _ _ _ ?_
    refine xghost (D := []) ?_ ?_ ?_ ?_
    · exact (.cons (Sub.of_eq rfl) .nil)
    · exact HpW.refl
    · exact (by intro p hp; cases hp)
    · omega
end
end Go.Proofs.Ytejlgalnkblndaa
