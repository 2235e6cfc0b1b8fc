/- Go functions as Lean functions, and that their code does as these say. Printed by a program of this work. -/
import Derived.Test.YthdmpdagkccphaaXL
import Derived.Test.YthdmpdagkccphaaXa
import Derived.Test.YthdmpdagkccphaaXb
set_option linter.unusedVariables false
set_option linter.unusedSimpArgs false
set_option maxRecDepth 100000
set_option maxHeartbeats 4000000
namespace Go.Proofs.Ythdmpdagkccphaa
open Go Go.Al
noncomputable section
/-! (stanchion/stanchionref04.Disk).Trim -/
def s_stanchionref04_Disk_Trim_j2 (v_4 : Gref04Disk × Int) (v_5 : List Int) (m : Int) : Option (Gref04Disk × Int) :=
 some ((Gref04Disk.mk v_4.1.Power (Ar2.mk v_4.1.Data.x0 v_5) (Ar2.mk v_4.1.Safe.x0 m)), 0)
def s_stanchionref04_Disk_Trim_j3 (v_4 : Gref04Disk × Int) (v_6 : List Int) (m_1 : Int) : Option (Gref04Disk × Int) :=
 some ((Gref04Disk.mk v_4.1.Power (Ar2.mk v_6 v_4.1.Data.x1) (Ar2.mk m_1 v_4.1.Safe.x1)), 0)
def s_stanchionref04_Disk_Trim_j1 (dx : Gref04Disk) (n : Int) (a_1 : Int) (t24 : Bool) : Option (Gref04Disk × Int) :=
 bd (s_stanchionref04_Disk_draw dx) fun (v_4 : Gref04Disk × Int) => if (v_4.2 != 0) = true then some (v_4.1, v_4.2) else if a_1 = 0 then gd ((0 ≤ 0 ∧ 0 ≤ n ∧ Int.toNat n ≤ v_4.1.Data.x0.length)) (bd (s_stanchionref00_CopyBytes ((v_4.1.Data.x0.take (Int.toNat n)).drop (Int.toNat 0))) fun (v_6 : List Int) => if (decide (n < v_4.1.Safe.x0)) = true then s_stanchionref04_Disk_Trim_j3 v_4 v_6 n else s_stanchionref04_Disk_Trim_j3 v_4 v_6 v_4.1.Safe.x0) else if a_1 = 1 then gd ((0 ≤ 0 ∧ 0 ≤ n ∧ Int.toNat n ≤ v_4.1.Data.x1.length)) (bd (s_stanchionref00_CopyBytes ((v_4.1.Data.x1.take (Int.toNat n)).drop (Int.toNat 0))) fun (v_5 : List Int) => if (decide (n < v_4.1.Safe.x1)) = true then s_stanchionref04_Disk_Trim_j2 v_4 v_5 n else s_stanchionref04_Disk_Trim_j2 v_4 v_5 v_4.1.Safe.x1) else none
def s_stanchionref04_Disk_Trim (dx : Gref04Disk) (a : Int) (n : Int) : Option (Gref04Disk × Int) :=
 if a = 0 then bd (s_stanchionref04_area 0) fun (v_3 : Bool) => if (((!v_3) || (decide (n < 0))) || (decide ((dx.Data.x0.length : Int) < n))) = true then some (dx, 41) else s_stanchionref04_Disk_Trim_j1 dx n 0 (((!v_3) || (decide (n < 0))) || (decide ((dx.Data.x0.length : Int) < n))) else if a = 1 then bd (s_stanchionref04_area 1) fun (v_2 : Bool) => if (((!v_2) || (decide (n < 0))) || (decide ((dx.Data.x1.length : Int) < n))) = true then some (dx, 41) else s_stanchionref04_Disk_Trim_j1 dx n 1 (((!v_2) || (decide (n < 0))) || (decide ((dx.Data.x1.length : Int) < n))) else bd (s_stanchionref04_area a) fun (v_1 : Bool) => gd ((!((!v_1) || (decide (n < 0)))) = true → False) (if (((!v_1) || (decide (n < 0))) || true) = true then some (dx, 41) else s_stanchionref04_Disk_Trim_j1 dx n a (((!v_1) || (decide (n < 0))) || true))
theorem s_stanchionref04_Disk_Trim_ok (S : AHeap) (dx : Gref04Disk) (a : Int) (n : Int) {r : Gref04Disk × Int} (h : s_stanchionref04_Disk_Trim dx a n = some r) :
  AC Try.prog n_stanchionref04_Disk_Trim [.agg [.lit (.int .i64 dx.Power), eS (lI .u8) dx.Data.x0, eS (lI .u8) dx.Data.x1, .lit (.int .i64 dx.Safe.x0), .lit (.int .i64 dx.Safe.x1)], .lit (.int .i64 a), .lit (.int .i64 n)] S fun r' S' => r' = .ret (.tup [.agg [.lit (.int .i64 r.1.Power), eS (lI .u8) r.1.Data.x0, eS (lI .u8) r.1.Data.x1, .lit (.int .i64 r.1.Safe.x0), .lit (.int .i64 r.1.Safe.x1)], .lit (.int .i64 r.2)]) ∧ S' = S := by
 refine AC_of tok mixed fits_stanchionref04_Disk_Trim fun d hd => ?_
 unfold c_stanchionref04_Disk_Trim
 show LW _ _ _ _ [(0, .agg [.lit (.int .i64 dx.Power), eS (lI .u8) dx.Data.x0, eS (lI .u8) dx.Data.x1, .lit (.int .i64 dx.Safe.x0), .lit (.int .i64 dx.Safe.x1)]), (1, .lit (.int .i64 a)), (2, .lit (.int .i64 n))] (hp [] S) 0 _
 rw [s_stanchionref04_Disk_Trim] at h
 refine xseq [(1, .lit (.int .i64 a)), (2, .lit (.int .i64 n)), (3, .ptr (d, 0) 0), (6, .ptr (d, 1) 0)] (hp [((d, 0), .box [.lit (.int .i64 dx.Power), eS (lI .u8) dx.Data.x0, eS (lI .u8) dx.Data.x1, .lit (.int .i64 dx.Safe.x0), .lit (.int .i64 dx.Safe.x1)]), ((d, 1), .box [.lit (.int .i64 0), .lit (.slice none 0 0), .lit (.slice none 0 0), .lit (.int .i64 0), .lit (.int .i64 0)])] S) 2 ?_ (fun k kp hk => ?_)
 ·refine xjoin (J := Int × Bool) (fun jj => [(1, .lit (.int .i64 jj.1)), (2, .lit (.int .i64 n)), (3, .ptr (d, 0) 0), (6, .ptr (d, 1) 0), (24, .lit (.bool jj.2))]) (fun jj => (hp [((d, 0), .box [.lit (.int .i64 dx.Power), eS (lI .u8) dx.Data.x0, eS (lI .u8) dx.Data.x1, .lit (.int .i64 dx.Safe.x0), .lit (.int .i64 dx.Safe.x1)]), ((d, 1), .box [.lit (.int .i64 0), .lit (.slice none 0 0), .lit (.slice none 0 0), .lit (.int .i64 0), .lit (.int .i64 0)])] S)) 2 (fun jj => s_stanchionref04_Disk_Trim_j1 dx n jj.1 jj.2 = some r) ?_ (fun hj_2 => ?_)
  ·rintro ⟨a_1, t24⟩ h
   show LW _ _ _ _ [(1, .lit (.int .i64 a_1)), (2, .lit (.int .i64 n)), (3, .ptr (d, 0) 0), (6, .ptr (d, 1) 0), (24, .lit (.bool t24))] (hp [((d, 0), .box [.lit (.int .i64 dx.Power), eS (lI .u8) dx.Data.x0, eS (lI .u8) dx.Data.x1, .lit (.int .i64 dx.Safe.x0), .lit (.int .i64 dx.Safe.x1)]), ((d, 1), .box [.lit (.int .i64 0), .lit (.slice none 0 0), .lit (.slice none 0 0), .lit (.int .i64 0), .lit (.int .i64 0)])] S) 2 _
   replace h : s_stanchionref04_Disk_Trim_j1 dx n a_1 t24 = some r := h
   rw [s_stanchionref04_Disk_Trim_j1] at h
   obtain ⟨v_4, hv_4, h⟩ := bd_some h
   refine xseq [(1, .lit (.int .i64 a_1)), (2, .lit (.int .i64 n)), (3, .ptr (d, 0) 0), (6, .ptr (d, 1) 0), (8, .lit (.int .i64 v_4.2))] (hp [((d, 0), .box [.lit (.int .i64 v_4.1.Power), eS (lI .u8) v_4.1.Data.x0, eS (lI .u8) v_4.1.Data.x1, .lit (.int .i64 v_4.1.Safe.x0), .lit (.int .i64 v_4.1.Safe.x1)]), ((d, 1), .box [.lit (.int .i64 0), .lit (.slice none 0 0), .lit (.slice none 0 0), .lit (.int .i64 0), .lit (.int .i64 0)])] S) 2 ?_ (fun k kp hk => ?_)
   ·refine LW_seq ?_
    refine xseq [(1, .lit (.int .i64 a_1)), (2, .lit (.int .i64 n)), (3, .ptr (d, 0) 0), (6, .ptr (d, 1) 0), (8, .lit (.int .i64 v_4.2)), (32, .lit (.bool (v_4.2 != 0)))] (hp [((d, 0), .box [.lit (.int .i64 v_4.1.Power), eS (lI .u8) v_4.1.Data.x0, eS (lI .u8) v_4.1.Data.x1, .lit (.int .i64 v_4.1.Safe.x0), .lit (.int .i64 v_4.1.Safe.x1)]), ((d, 1), .box [.lit (.int .i64 0), .lit (.slice none 0 0), .lit (.slice none 0 0), .lit (.int .i64 0), .lit (.int .i64 0)])] S) 2 ?_ (fun k kp hk => ?_)
    ·refine xcond (v_4.2 != 0) rfl (fun hc_9 => ?_) (fun hc_9 => ?_)
     ·rw [ite_t hc_9] at h
      refine xseq [(6, .ptr (d, 1) 0), (7, .lit (.int .i64 v_4.2))] (hp [((d, 0), .box [.lit (.int .i64 v_4.1.Power), eS (lI .u8) v_4.1.Data.x0, eS (lI .u8) v_4.1.Data.x1, .lit (.int .i64 v_4.1.Safe.x0), .lit (.int .i64 v_4.1.Safe.x1)]), ((d, 1), .box [.lit (.int .i64 v_4.1.Power), eS (lI .u8) v_4.1.Data.x0, eS (lI .u8) v_4.1.Data.x1, .lit (.int .i64 v_4.1.Safe.x0), .lit (.int .i64 v_4.1.Safe.x1)])] S) 2 ?_ (fun k kp hk => ?_)
      ·refine LW_ret ?_
       obtain rfl := Option.some.inj h
       show FPost _ _ _ _ _ _ _
       simp only [FPost, ares, one1, go_sem, Prod.mk.injEq, reduceIte, Nat.reduceEqDiff, Nat.reduceAdd, Nat.reduceSub, Nat.reduceMul, Nat.reduceDiv, Nat.reducePow, Nat.reduceLT, Nat.reduceLeDiff, Nat.reduceBEq, Nat.reduceBneDiff, Int.reduceToNat, Int.reduceEq, Int.reduceLE, Int.reduceLT, reduceCtorEq]
       repeat (with_reducible refine And.intro ?_ ?_; next => first | assumption | trivial | omega | decide | (constructor <;> first | assumption | omega) | (simp [Keep.ok, hp_cons_apply, hset_cons]; done))
       first | exact ⟨_, hp_less (L := []) (D := [((d, 0), .box [.lit (.int .i64 v_4.1.Power), eS (lI .u8) v_4.1.Data.x0, eS (lI .u8) v_4.1.Data.x1, .lit (.int .i64 v_4.1.Safe.x0), .lit (.int .i64 v_4.1.Safe.x1)]), ((d, 1), .box [.lit (.int .i64 v_4.1.Power), eS (lI .u8) v_4.1.Data.x0, eS (lI .u8) v_4.1.Data.x1, .lit (.int .i64 v_4.1.Safe.x0), .lit (.int .i64 v_4.1.Safe.x1)])]) (by intro p hp; simp only [List.mem_cons, List.not_mem_nil, or_false] at hp; rcases hp with rfl | rfl <;> first | exact hd _ (Nat.le_refl _)), rfl, rfl⟩ | exact ⟨_, hp_less (L := []) (D := [((d, 0), .box [.lit (.int .i64 v_4.1.Power), eS (lI .u8) v_4.1.Data.x0, eS (lI .u8) v_4.1.Data.x1, .lit (.int .i64 v_4.1.Safe.x0), .lit (.int .i64 v_4.1.Safe.x1)]), ((d, 1), .box [.lit (.int .i64 v_4.1.Power), eS (lI .u8) v_4.1.Data.x0, eS (lI .u8) v_4.1.Data.x1, .lit (.int .i64 v_4.1.Safe.x0), .lit (.int .i64 v_4.1.Safe.x1)])]) (by intro p hp; simp only [List.mem_cons, List.not_mem_nil, or_false] at hp; rcases hp with rfl | rfl <;> first | exact hd _ (Nat.le_refl _)), rfl⟩
      ·try simp (maxSteps := 4000000) only [go_sem, Prod.mk.injEq, reduceIte, Nat.reduceEqDiff, Nat.reduceAdd, Nat.reduceSub, Nat.reduceMul, Nat.reduceDiv, Nat.reducePow, Nat.reduceLT, Nat.reduceLeDiff, Nat.reduceBEq, Nat.reduceBneDiff, Int.reduceToNat, Int.reduceEq, Int.reduceLE, Int.reduceLT, reduceCtorEq]
       repeat (with_reducible refine And.intro ?_ ?_; next => first | assumption | trivial | omega | decide | (constructor <;> first | assumption | omega) | (simp [Keep.ok, hp_cons_apply, hset_cons]; done))
       refine hk _ _ _ ?_
       refine xghost (D := []) ?_ ?_ ?_ ?_
       ·exact (.cons (Sub.of_eq rfl) (.cons (Sub.of_eq rfl) .nil))
       ·exact HpW.refl
       ·exact (by intro p hp; cases hp)
       ·omega
     ·rw [ite_f hc_9] at h
      refine LW_skip ?_
      show LW _ _ _ _ _ _ _ _
      by_cases hs_3 : a_1 = 0
      ·subst hs_3
       rw [if_pos rfl] at h
       obtain ⟨hg_2, h⟩ := gd_some h
       obtain ⟨v_6, hv_6, h⟩ := bd_some h
       refine xseq [(1, .lit (.int .i64 0)), (2, .lit (.int .i64 n)), (3, .ptr (d, 0) 0), (6, .ptr (d, 1) 0)] (hp [((d, 0), .box [.lit (.int .i64 v_4.1.Power), eS (lI .u8) v_6, eS (lI .u8) v_4.1.Data.x1, .lit (.int .i64 v_4.1.Safe.x0), .lit (.int .i64 v_4.1.Safe.x1)]), ((d, 1), .box [.lit (.int .i64 0), .lit (.slice none 0 0), .lit (.slice none 0 0), .lit (.int .i64 0), .lit (.int .i64 0)])] S) 2 ?_ (fun k kp hk => ?_)
       ·refine xjoin (J := Int) (fun jj => [(3, .ptr (d, 0) 0), (6, .ptr (d, 1) 0)]) (fun jj => (hp [((d, 0), .box [.lit (.int .i64 v_4.1.Power), eS (lI .u8) v_6, eS (lI .u8) v_4.1.Data.x1, .lit (.int .i64 jj), .lit (.int .i64 v_4.1.Safe.x1)]), ((d, 1), .box [.lit (.int .i64 0), .lit (.slice none 0 0), .lit (.slice none 0 0), .lit (.int .i64 0), .lit (.int .i64 0)])] S)) 2 (fun jj => s_stanchionref04_Disk_Trim_j3 v_4 v_6 jj = some r) ?_ (fun hj_1 => ?_)
        ·rintro m_1 h
         show LW _ _ _ _ [(3, .ptr (d, 0) 0), (6, .ptr (d, 1) 0)] (hp [((d, 0), .box [.lit (.int .i64 v_4.1.Power), eS (lI .u8) v_6, eS (lI .u8) v_4.1.Data.x1, .lit (.int .i64 m_1), .lit (.int .i64 v_4.1.Safe.x1)]), ((d, 1), .box [.lit (.int .i64 0), .lit (.slice none 0 0), .lit (.slice none 0 0), .lit (.int .i64 0), .lit (.int .i64 0)])] S) 2 _
         replace h : s_stanchionref04_Disk_Trim_j3 v_4 v_6 m_1 = some r := h
         rw [s_stanchionref04_Disk_Trim_j3] at h
         refine xseq [(6, .ptr (d, 1) 0), (7, .lit (.int .i64 0))] (hp [((d, 0), .box [.lit (.int .i64 v_4.1.Power), eS (lI .u8) v_6, eS (lI .u8) v_4.1.Data.x1, .lit (.int .i64 m_1), .lit (.int .i64 v_4.1.Safe.x1)]), ((d, 1), .box [.lit (.int .i64 v_4.1.Power), eS (lI .u8) v_6, eS (lI .u8) v_4.1.Data.x1, .lit (.int .i64 m_1), .lit (.int .i64 v_4.1.Safe.x1)])] S) 2 ?_ (fun k kp hk => ?_)
         ·refine LW_ret ?_
          obtain rfl := Option.some.inj h
          show FPost _ _ _ _ _ _ _
          simp only [FPost, ares, one1, go_sem, Prod.mk.injEq, reduceIte, Nat.reduceEqDiff, Nat.reduceAdd, Nat.reduceSub, Nat.reduceMul, Nat.reduceDiv, Nat.reducePow, Nat.reduceLT, Nat.reduceLeDiff, Nat.reduceBEq, Nat.reduceBneDiff, Int.reduceToNat, Int.reduceEq, Int.reduceLE, Int.reduceLT, reduceCtorEq]
          repeat (with_reducible refine And.intro ?_ ?_; next => first | assumption | trivial | omega | decide | (constructor <;> first | assumption | omega) | (simp [Keep.ok, hp_cons_apply, hset_cons]; done))
          first | exact ⟨_, hp_less (L := []) (D := [((d, 0), .box [.lit (.int .i64 v_4.1.Power), eS (lI .u8) v_6, eS (lI .u8) v_4.1.Data.x1, .lit (.int .i64 m_1), .lit (.int .i64 v_4.1.Safe.x1)]), ((d, 1), .box [.lit (.int .i64 v_4.1.Power), eS (lI .u8) v_6, eS (lI .u8) v_4.1.Data.x1, .lit (.int .i64 m_1), .lit (.int .i64 v_4.1.Safe.x1)])]) (by intro p hp; simp only [List.mem_cons, List.not_mem_nil, or_false] at hp; rcases hp with rfl | rfl <;> first | exact hd _ (Nat.le_refl _)), rfl, rfl⟩ | exact ⟨_, hp_less (L := []) (D := [((d, 0), .box [.lit (.int .i64 v_4.1.Power), eS (lI .u8) v_6, eS (lI .u8) v_4.1.Data.x1, .lit (.int .i64 m_1), .lit (.int .i64 v_4.1.Safe.x1)]), ((d, 1), .box [.lit (.int .i64 v_4.1.Power), eS (lI .u8) v_6, eS (lI .u8) v_4.1.Data.x1, .lit (.int .i64 m_1), .lit (.int .i64 v_4.1.Safe.x1)])]) (by intro p hp; simp only [List.mem_cons, List.not_mem_nil, or_false] at hp; rcases hp with rfl | rfl <;> first | exact hd _ (Nat.le_refl _)), rfl⟩
         ·try simp (maxSteps := 4000000) only [go_sem, Prod.mk.injEq, reduceIte, Nat.reduceEqDiff, Nat.reduceAdd, Nat.reduceSub, Nat.reduceMul, Nat.reduceDiv, Nat.reducePow, Nat.reduceLT, Nat.reduceLeDiff, Nat.reduceBEq, Nat.reduceBneDiff, Int.reduceToNat, Int.reduceEq, Int.reduceLE, Int.reduceLT, reduceCtorEq]
          repeat (with_reducible refine And.intro ?_ ?_; next => first | assumption | trivial | omega | decide | (constructor <;> first | assumption | omega) | (simp [Keep.ok, hp_cons_apply, hset_cons]; done))
          refine hk _ _ _ ?_
          refine xghost (D := []) ?_ ?_ ?_ ?_
          ·exact (.cons (Sub.of_eq rfl) (.cons (Sub.of_eq rfl) .nil))
          ·exact HpW.refl
          ·exact (by intro p hp; cases hp)
          ·omega
        ·refine xseq [(1, .lit (.int .i64 0)), (2, .lit (.int .i64 n)), (3, .ptr (d, 0) 0), (6, .ptr (d, 1) 0), (50, .lit (.bool (decide (n < v_4.1.Safe.x0))))] (hp [((d, 0), .box [.lit (.int .i64 v_4.1.Power), eS (lI .u8) v_6, eS (lI .u8) v_4.1.Data.x1, .lit (.int .i64 v_4.1.Safe.x0), .lit (.int .i64 v_4.1.Safe.x1)]), ((d, 1), .box [.lit (.int .i64 0), .lit (.slice none 0 0), .lit (.slice none 0 0), .lit (.int .i64 0), .lit (.int .i64 0)])] S) 2 ?_ (fun k kp hk => ?_)
         ·refine xcond (decide (n < v_4.1.Safe.x0)) rfl (fun hc_11 => ?_) (fun hc_11 => ?_)
          ·rw [ite_t hc_11] at h
           refine xreg [(3, .ptr (d, 0) 0), (6, .ptr (d, 1) 0)] (hp [((d, 0), .box [.lit (.int .i64 v_4.1.Power), eS (lI .u8) v_6, eS (lI .u8) v_4.1.Data.x1, .lit (.int .i64 n), .lit (.int .i64 v_4.1.Safe.x1)]), ((d, 1), .box [.lit (.int .i64 0), .lit (.slice none 0 0), .lit (.slice none 0 0), .lit (.int .i64 0), .lit (.int .i64 0)])] S) 2 ?_ (fun k kp hk => ?_)
           ·exact hj_1 n h
           ·try simp (maxSteps := 4000000) only [go_sem, Prod.mk.injEq, reduceIte, Nat.reduceEqDiff, Nat.reduceAdd, Nat.reduceSub, Nat.reduceMul, Nat.reduceDiv, Nat.reducePow, Nat.reduceLT, Nat.reduceLeDiff, Nat.reduceBEq, Nat.reduceBneDiff, Int.reduceToNat, Int.reduceEq, Int.reduceLE, Int.reduceLT, reduceCtorEq, vptr_0, vptr_1]
            repeat (with_reducible refine And.intro ?_ ?_; next => first | assumption | trivial | omega | decide | (constructor <;> first | assumption | omega) | (simp [Keep.ok, hp_cons_apply, hset_cons, vptr_0, vptr_1]; done))
            refine hk _ _ _ ?_
            refine xghost (D := []) ?_ ?_ ?_ ?_
            ·exact (.cons (Sub.of_eq rfl) (.cons (Sub.of_eq rfl) .nil))
            ·exact HpW.refl
            ·exact (by intro p hp; cases hp)
            ·omega
          ·rw [ite_f hc_11] at h
           refine LW_skipX (sl' := [(3, .ptr (d, 0) 0), (6, .ptr (d, 1) 0)]) (S' := (hp [((d, 0), .box [.lit (.int .i64 v_4.1.Power), eS (lI .u8) v_6, eS (lI .u8) v_4.1.Data.x1, .lit (.int .i64 v_4.1.Safe.x0), .lit (.int .i64 v_4.1.Safe.x1)]), ((d, 1), .box [.lit (.int .i64 0), .lit (.slice none 0 0), .lit (.slice none 0 0), .lit (.int .i64 0), .lit (.int .i64 0)])] S)) (c' := 2) ?_ ?_
           ·refine xghost (D := []) ?_ ?_ ?_ ?_
            ·exact (.cons (Sub.of_eq rfl) (.cons (Sub.of_eq rfl) .nil))
            ·exact HpW.refl
            ·exact (by intro p hp; cases hp)
            ·omega
           ·exact hj_1 v_4.1.Safe.x0 h
         ·try simp (maxSteps := 4000000) only [go_sem, Prod.mk.injEq, reduceIte, Nat.reduceEqDiff, Nat.reduceAdd, Nat.reduceSub, Nat.reduceMul, Nat.reduceDiv, Nat.reducePow, Nat.reduceLT, Nat.reduceLeDiff, Nat.reduceBEq, Nat.reduceBneDiff, Int.reduceToNat, Int.reduceEq, Int.reduceLE, Int.reduceLT, reduceCtorEq, vptr_0, vptr_1]
          repeat (with_reducible refine And.intro ?_ ?_; next => first | assumption | trivial | omega | decide | (constructor <;> first | assumption | omega) | (simp [Keep.ok, hp_cons_apply, hset_cons, vptr_0, vptr_1]; done))
          refine hk _ _ _ ?_
          refine xghost (D := []) ?_ ?_ ?_ ?_
          ·exact (.cons (Sub.of_eq rfl) (.cons (Sub.of_eq rfl) (.cons (Sub.of_eq rfl) (.cons (Sub.of_eq rfl) (.cons (Sub.of_eq rfl) .nil)))))
          ·exact HpW.refl
          ·exact (by intro p hp; cases hp)
          ·omega
       ·try simp (maxSteps := 4000000) only [go_sem, Prod.mk.injEq, reduceIte, Nat.reduceEqDiff, Nat.reduceAdd, Nat.reduceSub, Nat.reduceMul, Nat.reduceDiv, Nat.reducePow, Nat.reduceLT, Nat.reduceLeDiff, Nat.reduceBEq, Nat.reduceBneDiff, Int.reduceToNat, Int.reduceEq, Int.reduceLE, Int.reduceLT, reduceCtorEq, vptr_0, vptr_1]
        repeat (with_reducible refine And.intro ?_ ?_; next => first | assumption | trivial | omega | decide | (constructor <;> first | assumption | omega) | (simp [Keep.ok, hp_cons_apply, hset_cons, vptr_0, vptr_1]; done))
        have hcall := s_stanchionref00_CopyBytes_ok (hp [((d, 0), .box [.lit (.int .i64 v_4.1.Power), eS (lI .u8) v_4.1.Data.x0, eS (lI .u8) v_4.1.Data.x1, .lit (.int .i64 v_4.1.Safe.x0), .lit (.int .i64 v_4.1.Safe.x1)]), ((d, 1), .box [.lit (.int .i64 0), .lit (.slice none 0 0), .lit (.slice none 0 0), .lit (.int .i64 0), .lit (.int .i64 0)])] S) ((v_4.1.Data.x0.take (Int.toNat n)).drop (Int.toNat 0)) hv_6
        refine call1_x hcall rfl ?_ ?_
        ·exact (.cons Sub.refl .nil)
        clear hcall
        rintro _ SS ⟨rfl, hSS⟩ -
        rw [hSS]
        clear hSS
        try simp (maxSteps := 4000000) only [go_sem, Prod.mk.injEq, reduceIte, Nat.reduceEqDiff, Nat.reduceAdd, Nat.reduceSub, Nat.reduceMul, Nat.reduceDiv, Nat.reducePow, Nat.reduceLT, Nat.reduceLeDiff, Nat.reduceBEq, Nat.reduceBneDiff, Int.reduceToNat, Int.reduceEq, Int.reduceLE, Int.reduceLT, reduceCtorEq, vptr_0, vptr_1]
        repeat (with_reducible refine And.intro ?_ ?_; next => first | assumption | trivial | omega | decide | (constructor <;> first | assumption | omega) | (simp [Keep.ok, hp_cons_apply, hset_cons, vptr_0, vptr_1]; done))
        refine hk _ _ _ ?_
        refine xghost (D := []) ?_ ?_ ?_ ?_
        ·exact (.cons (Sub.of_eq rfl) (.cons (Sub.of_eq rfl) (.cons (Sub.of_eq rfl) (.cons (Sub.of_eq rfl) .nil))))
        ·exact HpW.refl
        ·exact (by intro p hp; cases hp)
        ·omega
      ·rw [if_neg hs_3] at h
       by_cases hs_2 : a_1 = 1
       ·subst hs_2
        rw [if_pos rfl] at h
        obtain ⟨hg_1, h⟩ := gd_some h
        obtain ⟨v_5, hv_5, h⟩ := bd_some h
        refine xseq [(1, .lit (.int .i64 1)), (2, .lit (.int .i64 n)), (3, .ptr (d, 0) 0), (6, .ptr (d, 1) 0)] (hp [((d, 0), .box [.lit (.int .i64 v_4.1.Power), eS (lI .u8) v_4.1.Data.x0, eS (lI .u8) v_5, .lit (.int .i64 v_4.1.Safe.x0), .lit (.int .i64 v_4.1.Safe.x1)]), ((d, 1), .box [.lit (.int .i64 0), .lit (.slice none 0 0), .lit (.slice none 0 0), .lit (.int .i64 0), .lit (.int .i64 0)])] S) 2 ?_ (fun k kp hk => ?_)
        ·refine xjoin (J := Int) (fun jj => [(3, .ptr (d, 0) 0), (6, .ptr (d, 1) 0)]) (fun jj => (hp [((d, 0), .box [.lit (.int .i64 v_4.1.Power), eS (lI .u8) v_4.1.Data.x0, eS (lI .u8) v_5, .lit (.int .i64 v_4.1.Safe.x0), .lit (.int .i64 jj)]), ((d, 1), .box [.lit (.int .i64 0), .lit (.slice none 0 0), .lit (.slice none 0 0), .lit (.int .i64 0), .lit (.int .i64 0)])] S)) 2 (fun jj => s_stanchionref04_Disk_Trim_j2 v_4 v_5 jj = some r) ?_ (fun hj => ?_)
         ·rintro m h
          show LW _ _ _ _ [(3, .ptr (d, 0) 0), (6, .ptr (d, 1) 0)] (hp [((d, 0), .box [.lit (.int .i64 v_4.1.Power), eS (lI .u8) v_4.1.Data.x0, eS (lI .u8) v_5, .lit (.int .i64 v_4.1.Safe.x0), .lit (.int .i64 m)]), ((d, 1), .box [.lit (.int .i64 0), .lit (.slice none 0 0), .lit (.slice none 0 0), .lit (.int .i64 0), .lit (.int .i64 0)])] S) 2 _
          replace h : s_stanchionref04_Disk_Trim_j2 v_4 v_5 m = some r := h
          rw [s_stanchionref04_Disk_Trim_j2] at h
          refine xseq [(6, .ptr (d, 1) 0), (7, .lit (.int .i64 0))] (hp [((d, 0), .box [.lit (.int .i64 v_4.1.Power), eS (lI .u8) v_4.1.Data.x0, eS (lI .u8) v_5, .lit (.int .i64 v_4.1.Safe.x0), .lit (.int .i64 m)]), ((d, 1), .box [.lit (.int .i64 v_4.1.Power), eS (lI .u8) v_4.1.Data.x0, eS (lI .u8) v_5, .lit (.int .i64 v_4.1.Safe.x0), .lit (.int .i64 m)])] S) 2 ?_ (fun k kp hk => ?_)
          ·refine LW_ret ?_
           obtain rfl := Option.some.inj h
           show FPost _ _ _ _ _ _ _
           simp only [FPost, ares, one1, go_sem, Prod.mk.injEq, reduceIte, Nat.reduceEqDiff, Nat.reduceAdd, Nat.reduceSub, Nat.reduceMul, Nat.reduceDiv, Nat.reducePow, Nat.reduceLT, Nat.reduceLeDiff, Nat.reduceBEq, Nat.reduceBneDiff, Int.reduceToNat, Int.reduceEq, Int.reduceLE, Int.reduceLT, reduceCtorEq]
           repeat (with_reducible refine And.intro ?_ ?_; next => first | assumption | trivial | omega | decide | (constructor <;> first | assumption | omega) | (simp [Keep.ok, hp_cons_apply, hset_cons]; done))
           first | exact ⟨_, hp_less (L := []) (D := [((d, 0), .box [.lit (.int .i64 v_4.1.Power), eS (lI .u8) v_4.1.Data.x0, eS (lI .u8) v_5, .lit (.int .i64 v_4.1.Safe.x0), .lit (.int .i64 m)]), ((d, 1), .box [.lit (.int .i64 v_4.1.Power), eS (lI .u8) v_4.1.Data.x0, eS (lI .u8) v_5, .lit (.int .i64 v_4.1.Safe.x0), .lit (.int .i64 m)])]) (by intro p hp; simp only [List.mem_cons, List.not_mem_nil, or_false] at hp; rcases hp with rfl | rfl <;> first | exact hd _ (Nat.le_refl _)), rfl, rfl⟩ | exact ⟨_, hp_less (L := []) (D := [((d, 0), .box [.lit (.int .i64 v_4.1.Power), eS (lI .u8) v_4.1.Data.x0, eS (lI .u8) v_5, .lit (.int .i64 v_4.1.Safe.x0), .lit (.int .i64 m)]), ((d, 1), .box [.lit (.int .i64 v_4.1.Power), eS (lI .u8) v_4.1.Data.x0, eS (lI .u8) v_5, .lit (.int .i64 v_4.1.Safe.x0), .lit (.int .i64 m)])]) (by intro p hp; simp only [List.mem_cons, List.not_mem_nil, or_false] at hp; rcases hp with rfl | rfl <;> first | exact hd _ (Nat.le_refl _)), rfl⟩
          ·try simp (maxSteps := 4000000) only [go_sem, Prod.mk.injEq, reduceIte, Nat.reduceEqDiff, Nat.reduceAdd, Nat.reduceSub, Nat.reduceMul, Nat.reduceDiv, Nat.reducePow, Nat.reduceLT, Nat.reduceLeDiff, Nat.reduceBEq, Nat.reduceBneDiff, Int.reduceToNat, Int.reduceEq, Int.reduceLE, Int.reduceLT, reduceCtorEq]
           repeat (with_reducible refine And.intro ?_ ?_; next => first | assumption | trivial | omega | decide | (constructor <;> first | assumption | omega) | (simp [Keep.ok, hp_cons_apply, hset_cons]; done))
           refine hk _ _ _ ?_
           refine xghost (D := []) ?_ ?_ ?_ ?_
           ·exact (.cons (Sub.of_eq rfl) (.cons (Sub.of_eq rfl) .nil))
           ·exact HpW.refl
           ·exact (by intro p hp; cases hp)
           ·omega
         ·refine xseq [(1, .lit (.int .i64 1)), (2, .lit (.int .i64 n)), (3, .ptr (d, 0) 0), (6, .ptr (d, 1) 0), (50, .lit (.bool (decide (n < v_4.1.Safe.x1))))] (hp [((d, 0), .box [.lit (.int .i64 v_4.1.Power), eS (lI .u8) v_4.1.Data.x0, eS (lI .u8) v_5, .lit (.int .i64 v_4.1.Safe.x0), .lit (.int .i64 v_4.1.Safe.x1)]), ((d, 1), .box [.lit (.int .i64 0), .lit (.slice none 0 0), .lit (.slice none 0 0), .lit (.int .i64 0), .lit (.int .i64 0)])] S) 2 ?_ (fun k kp hk => ?_)
          ·refine xcond (decide (n < v_4.1.Safe.x1)) rfl (fun hc_10 => ?_) (fun hc_10 => ?_)
           ·rw [ite_t hc_10] at h
            refine xreg [(3, .ptr (d, 0) 0), (6, .ptr (d, 1) 0)] (hp [((d, 0), .box [.lit (.int .i64 v_4.1.Power), eS (lI .u8) v_4.1.Data.x0, eS (lI .u8) v_5, .lit (.int .i64 v_4.1.Safe.x0), .lit (.int .i64 n)]), ((d, 1), .box [.lit (.int .i64 0), .lit (.slice none 0 0), .lit (.slice none 0 0), .lit (.int .i64 0), .lit (.int .i64 0)])] S) 2 ?_ (fun k kp hk => ?_)
            ·exact hj n h
            ·try simp (maxSteps := 4000000) only [go_sem, Prod.mk.injEq, reduceIte, Nat.reduceEqDiff, Nat.reduceAdd, Nat.reduceSub, Nat.reduceMul, Nat.reduceDiv, Nat.reducePow, Nat.reduceLT, Nat.reduceLeDiff, Nat.reduceBEq, Nat.reduceBneDiff, Int.reduceToNat, Int.reduceEq, Int.reduceLE, Int.reduceLT, reduceCtorEq, vptr_0, vptr_1]
             repeat (with_reducible refine And.intro ?_ ?_; next => first | assumption | trivial | omega | decide | (constructor <;> first | assumption | omega) | (simp [Keep.ok, hp_cons_apply, hset_cons, vptr_0, vptr_1]; done))
             refine hk _ _ _ ?_
             refine xghost (D := []) ?_ ?_ ?_ ?_
             ·exact (.cons (Sub.of_eq rfl) (.cons (Sub.of_eq rfl) .nil))
             ·exact HpW.refl
             ·exact (by intro p hp; cases hp)
             ·omega
           ·rw [ite_f hc_10] at h
            refine LW_skipX (sl' := [(3, .ptr (d, 0) 0), (6, .ptr (d, 1) 0)]) (S' := (hp [((d, 0), .box [.lit (.int .i64 v_4.1.Power), eS (lI .u8) v_4.1.Data.x0, eS (lI .u8) v_5, .lit (.int .i64 v_4.1.Safe.x0), .lit (.int .i64 v_4.1.Safe.x1)]), ((d, 1), .box [.lit (.int .i64 0), .lit (.slice none 0 0), .lit (.slice none 0 0), .lit (.int .i64 0), .lit (.int .i64 0)])] S)) (c' := 2) ?_ ?_
            ·refine xghost (D := []) ?_ ?_ ?_ ?_
             ·exact (.cons (Sub.of_eq rfl) (.cons (Sub.of_eq rfl) .nil))
             ·exact HpW.refl
             ·exact (by intro p hp; cases hp)
             ·omega
            ·exact hj v_4.1.Safe.x1 h
          ·try simp (maxSteps := 4000000) only [go_sem, Prod.mk.injEq, reduceIte, Nat.reduceEqDiff, Nat.reduceAdd, Nat.reduceSub, Nat.reduceMul, Nat.reduceDiv, Nat.reducePow, Nat.reduceLT, Nat.reduceLeDiff, Nat.reduceBEq, Nat.reduceBneDiff, Int.reduceToNat, Int.reduceEq, Int.reduceLE, Int.reduceLT, reduceCtorEq, vptr_0, vptr_1]
           repeat (with_reducible refine And.intro ?_ ?_; next => first | assumption | trivial | omega | decide | (constructor <;> first | assumption | omega) | (simp [Keep.ok, hp_cons_apply, hset_cons, vptr_0, vptr_1]; done))
           refine hk _ _ _ ?_
           refine xghost (D := []) ?_ ?_ ?_ ?_
           ·exact (.cons (Sub.of_eq rfl) (.cons (Sub.of_eq rfl) (.cons (Sub.of_eq rfl) (.cons (Sub.of_eq rfl) (.cons (Sub.of_eq rfl) .nil)))))
           ·exact HpW.refl
           ·exact (by intro p hp; cases hp)
           ·omega
        ·try simp (maxSteps := 4000000) only [go_sem, Prod.mk.injEq, reduceIte, Nat.reduceEqDiff, Nat.reduceAdd, Nat.reduceSub, Nat.reduceMul, Nat.reduceDiv, Nat.reducePow, Nat.reduceLT, Nat.reduceLeDiff, Nat.reduceBEq, Nat.reduceBneDiff, Int.reduceToNat, Int.reduceEq, Int.reduceLE, Int.reduceLT, reduceCtorEq, vptr_0, vptr_1]
         repeat (with_reducible refine And.intro ?_ ?_; next => first | assumption | trivial | omega | decide | (constructor <;> first | assumption | omega) | (simp [Keep.ok, hp_cons_apply, hset_cons, vptr_0, vptr_1]; done))
         have hcall := s_stanchionref00_CopyBytes_ok (hp [((d, 0), .box [.lit (.int .i64 v_4.1.Power), eS (lI .u8) v_4.1.Data.x0, eS (lI .u8) v_4.1.Data.x1, .lit (.int .i64 v_4.1.Safe.x0), .lit (.int .i64 v_4.1.Safe.x1)]), ((d, 1), .box [.lit (.int .i64 0), .lit (.slice none 0 0), .lit (.slice none 0 0), .lit (.int .i64 0), .lit (.int .i64 0)])] S) ((v_4.1.Data.x1.take (Int.toNat n)).drop (Int.toNat 0)) hv_5
         refine call1_x hcall rfl ?_ ?_
         ·exact (.cons Sub.refl .nil)
         clear hcall
         rintro _ SS ⟨rfl, hSS⟩ -
         rw [hSS]
         clear hSS
         try simp (maxSteps := 4000000) only [go_sem, Prod.mk.injEq, reduceIte, Nat.reduceEqDiff, Nat.reduceAdd, Nat.reduceSub, Nat.reduceMul, Nat.reduceDiv, Nat.reducePow, Nat.reduceLT, Nat.reduceLeDiff, Nat.reduceBEq, Nat.reduceBneDiff, Int.reduceToNat, Int.reduceEq, Int.reduceLE, Int.reduceLT, reduceCtorEq, vptr_0, vptr_1]
         repeat (with_reducible refine And.intro ?_ ?_; next => first | assumption | trivial | omega | decide | (constructor <;> first | assumption | omega) | (simp [Keep.ok, hp_cons_apply, hset_cons, vptr_0, vptr_1]; done))
         refine hk _ _ _ ?_
         refine xghost (D := []) ?_ ?_ ?_ ?_
         ·exact (.cons (Sub.of_eq rfl) (.cons (Sub.of_eq rfl) (.cons (Sub.of_eq rfl) (.cons (Sub.of_eq rfl) .nil))))
         ·exact HpW.refl
         ·exact (by intro p hp; cases hp)
         ·omega
       ·rw [if_neg hs_2] at h
        cases h
    ·try simp (maxSteps := 4000000) only [go_sem, Prod.mk.injEq, reduceIte, Nat.reduceEqDiff, Nat.reduceAdd, Nat.reduceSub, Nat.reduceMul, Nat.reduceDiv, Nat.reducePow, Nat.reduceLT, Nat.reduceLeDiff, Nat.reduceBEq, Nat.reduceBneDiff, Int.reduceToNat, Int.reduceEq, Int.reduceLE, Int.reduceLT, reduceCtorEq]
     repeat (with_reducible refine And.intro ?_ ?_; next => first | assumption | trivial | omega | decide | (constructor <;> first | assumption | omega) | (simp [Keep.ok, hp_cons_apply, hset_cons]; done))
     refine hk _ _ _ ?_
     refine xghost (D := []) ?_ ?_ ?_ ?_
     ·exact (.cons (Sub.of_eq rfl) (.cons (Sub.of_eq rfl) (.cons (Sub.of_eq rfl) (.cons (Sub.of_eq rfl) (.cons (Sub.of_eq rfl) (.cons (Sub.of_eq rfl) .nil))))))
     ·exact HpW.refl
     ·exact (by intro p hp; cases hp)
     ·omega
   ·try simp (maxSteps := 4000000) only [go_sem, Prod.mk.injEq, reduceIte, Nat.reduceEqDiff, Nat.reduceAdd, Nat.reduceSub, Nat.reduceMul, Nat.reduceDiv, Nat.reducePow, Nat.reduceLT, Nat.reduceLeDiff, Nat.reduceBEq, Nat.reduceBneDiff, Int.reduceToNat, Int.reduceEq, Int.reduceLE, Int.reduceLT, reduceCtorEq]
    repeat (with_reducible refine And.intro ?_ ?_; next => first | assumption | trivial | omega | decide | (constructor <;> first | assumption | omega) | (simp [Keep.ok, hp_cons_apply, hset_cons]; done))
    have hcall := s_stanchionref04_Disk_draw_ok (hp [((d, 0), .box [.lit (.int .i64 dx.Power), eS (lI .u8) dx.Data.x0, eS (lI .u8) dx.Data.x1, .lit (.int .i64 dx.Safe.x0), .lit (.int .i64 dx.Safe.x1)]), ((d, 1), .box [.lit (.int .i64 0), .lit (.slice none 0 0), .lit (.slice none 0 0), .lit (.int .i64 0), .lit (.int .i64 0)])] S) dx hv_4
    refine call1_x hcall rfl ?_ ?_
    ·exact (.cons Sub.refl .nil)
    clear hcall
    rintro _ SS ⟨rfl, hSS⟩ -
    rw [hSS]
    clear hSS
    try simp (maxSteps := 4000000) only [go_sem, Prod.mk.injEq, reduceIte, Nat.reduceEqDiff, Nat.reduceAdd, Nat.reduceSub, Nat.reduceMul, Nat.reduceDiv, Nat.reducePow, Nat.reduceLT, Nat.reduceLeDiff, Nat.reduceBEq, Nat.reduceBneDiff, Int.reduceToNat, Int.reduceEq, Int.reduceLE, Int.reduceLT, reduceCtorEq]
    repeat (with_reducible refine And.intro ?_ ?_; next => first | assumption | trivial | omega | decide | (constructor <;> first | assumption | omega) | (simp [Keep.ok, hp_cons_apply, hset_cons]; done))
    refine hk _ _ _ ?_
    refine xghost (D := []) ?_ ?_ ?_ ?_
    ·exact (.cons (Sub.of_eq rfl) (.cons (Sub.of_eq rfl) (.cons (Sub.of_eq rfl) (.cons (Sub.of_eq rfl) (.cons (Sub.of_eq rfl) .nil)))))
    ·exact HpW.refl
    ·exact (by intro p hp; cases hp)
    ·omega
  ·by_cases hs_1 : a = 0
   ·subst hs_1
    rw [if_pos rfl] at h
    obtain ⟨v_3, hv_3, h⟩ := bd_some h
    refine xseq [(1, .lit (.int .i64 0)), (2, .lit (.int .i64 n)), (3, .ptr (d, 0) 0), (6, .ptr (d, 1) 0), (24, .lit (.bool (((!v_3) || (decide (n < 0))) || (decide ((dx.Data.x0.length : Int) < n)))))] (hp [((d, 0), .box [.lit (.int .i64 dx.Power), eS (lI .u8) dx.Data.x0, eS (lI .u8) dx.Data.x1, .lit (.int .i64 dx.Safe.x0), .lit (.int .i64 dx.Safe.x1)]), ((d, 1), .box [.lit (.int .i64 0), .lit (.slice none 0 0), .lit (.slice none 0 0), .lit (.int .i64 0), .lit (.int .i64 0)])] S) 2 ?_ (fun k kp hk => ?_)
    ·refine xcond (((!v_3) || (decide (n < 0))) || (decide ((dx.Data.x0.length : Int) < n))) rfl (fun hc_6 => ?_) (fun hc_6 => ?_)
     ·rw [ite_t hc_6] at h
      refine xseq [(6, .ptr (d, 1) 0), (7, .lit (.int .i64 41))] (hp [((d, 0), .box [.lit (.int .i64 dx.Power), eS (lI .u8) dx.Data.x0, eS (lI .u8) dx.Data.x1, .lit (.int .i64 dx.Safe.x0), .lit (.int .i64 dx.Safe.x1)]), ((d, 1), .box [.lit (.int .i64 dx.Power), eS (lI .u8) dx.Data.x0, eS (lI .u8) dx.Data.x1, .lit (.int .i64 dx.Safe.x0), .lit (.int .i64 dx.Safe.x1)])] S) 2 ?_ (fun k kp hk => ?_)
      ·refine LW_ret ?_
       obtain rfl := Option.some.inj h
       show FPost _ _ _ _ _ _ _
       simp only [FPost, ares, one1, go_sem, Prod.mk.injEq, reduceIte, Nat.reduceEqDiff, Nat.reduceAdd, Nat.reduceSub, Nat.reduceMul, Nat.reduceDiv, Nat.reducePow, Nat.reduceLT, Nat.reduceLeDiff, Nat.reduceBEq, Nat.reduceBneDiff, Int.reduceToNat, Int.reduceEq, Int.reduceLE, Int.reduceLT, reduceCtorEq]
       repeat (with_reducible refine And.intro ?_ ?_; next => first | assumption | trivial | omega | decide | (constructor <;> first | assumption | omega) | (simp [Keep.ok, hp_cons_apply, hset_cons]; done))
       first | exact ⟨_, hp_less (L := []) (D := [((d, 0), .box [.lit (.int .i64 dx.Power), eS (lI .u8) dx.Data.x0, eS (lI .u8) dx.Data.x1, .lit (.int .i64 dx.Safe.x0), .lit (.int .i64 dx.Safe.x1)]), ((d, 1), .box [.lit (.int .i64 dx.Power), eS (lI .u8) dx.Data.x0, eS (lI .u8) dx.Data.x1, .lit (.int .i64 dx.Safe.x0), .lit (.int .i64 dx.Safe.x1)])]) (by intro p hp; simp only [List.mem_cons, List.not_mem_nil, or_false] at hp; rcases hp with rfl | rfl <;> first | exact hd _ (Nat.le_refl _)), rfl, rfl⟩ | exact ⟨_, hp_less (L := []) (D := [((d, 0), .box [.lit (.int .i64 dx.Power), eS (lI .u8) dx.Data.x0, eS (lI .u8) dx.Data.x1, .lit (.int .i64 dx.Safe.x0), .lit (.int .i64 dx.Safe.x1)]), ((d, 1), .box [.lit (.int .i64 dx.Power), eS (lI .u8) dx.Data.x0, eS (lI .u8) dx.Data.x1, .lit (.int .i64 dx.Safe.x0), .lit (.int .i64 dx.Safe.x1)])]) (by intro p hp; simp only [List.mem_cons, List.not_mem_nil, or_false] at hp; rcases hp with rfl | rfl <;> first | exact hd _ (Nat.le_refl _)), rfl⟩
      ·try simp (maxSteps := 4000000) only [go_sem, Prod.mk.injEq, reduceIte, Nat.reduceEqDiff, Nat.reduceAdd, Nat.reduceSub, Nat.reduceMul, Nat.reduceDiv, Nat.reducePow, Nat.reduceLT, Nat.reduceLeDiff, Nat.reduceBEq, Nat.reduceBneDiff, Int.reduceToNat, Int.reduceEq, Int.reduceLE, Int.reduceLT, reduceCtorEq]
       repeat (with_reducible refine And.intro ?_ ?_; next => first | assumption | trivial | omega | decide | (constructor <;> first | assumption | omega) | (simp [Keep.ok, hp_cons_apply, hset_cons]; done))
       refine hk _ _ _ ?_
       refine xghost (D := []) ?_ ?_ ?_ ?_
       ·exact (.cons (Sub.of_eq rfl) (.cons (Sub.of_eq rfl) .nil))
       ·exact HpW.refl
       ·exact (by intro p hp; cases hp)
       ·omega
     ·rw [ite_f hc_6] at h
      refine LW_skip ?_
      exact hj_2 (0, (((!v_3) || (decide (n < 0))) || (decide ((dx.Data.x0.length : Int) < n)))) h
    ·try simp (maxSteps := 4000000) only [go_sem, Prod.mk.injEq, reduceIte, Nat.reduceEqDiff, Nat.reduceAdd, Nat.reduceSub, Nat.reduceMul, Nat.reduceDiv, Nat.reducePow, Nat.reduceLT, Nat.reduceLeDiff, Nat.reduceBEq, Nat.reduceBneDiff, Int.reduceToNat, Int.reduceEq, Int.reduceLE, Int.reduceLT, reduceCtorEq, vptr_0, vptr_1]
     repeat (with_reducible refine And.intro ?_ ?_; next => first | assumption | trivial | omega | decide | (constructor <;> first | assumption | omega) | (simp [Keep.ok, hp_cons_apply, hset_cons, vptr_0, vptr_1]; done))
     have hcall := s_stanchionref04_area_ok (hp [((d, 0), .box [.lit (.int .i64 dx.Power), eS (lI .u8) dx.Data.x0, eS (lI .u8) dx.Data.x1, .lit (.int .i64 dx.Safe.x0), .lit (.int .i64 dx.Safe.x1)]), ((d, 1), .box [.lit (.int .i64 0), .lit (.slice none 0 0), .lit (.slice none 0 0), .lit (.int .i64 0), .lit (.int .i64 0)])] S) 0 hv_3
     refine call1_x hcall rfl ?_ ?_
     ·exact (.cons Sub.refl .nil)
     clear hcall
     rintro _ SS ⟨rfl, hSS⟩ -
     rw [hSS]
     clear hSS
     try simp (maxSteps := 4000000) only [go_sem, Prod.mk.injEq, reduceIte, Nat.reduceEqDiff, Nat.reduceAdd, Nat.reduceSub, Nat.reduceMul, Nat.reduceDiv, Nat.reducePow, Nat.reduceLT, Nat.reduceLeDiff, Nat.reduceBEq, Nat.reduceBneDiff, Int.reduceToNat, Int.reduceEq, Int.reduceLE, Int.reduceLT, reduceCtorEq, vptr_0, vptr_1]
     repeat (with_reducible refine And.intro ?_ ?_; next => first | assumption | trivial | omega | decide | (constructor <;> first | assumption | omega) | (simp [Keep.ok, hp_cons_apply, hset_cons, vptr_0, vptr_1]; done))
     refine xo_guard (!v_3) rfl (fun hc_7 => ?_) (fun hc_7 => ?_)
     ·have hc_7 : v_3 = true := by first | (generalize v_3 = q at hc_7 ⊢; revert hc_7; cases q <;> simp; done) | simpa using hc_7
      try simp (maxSteps := 4000000) only [go_sem, Prod.mk.injEq, reduceIte, Nat.reduceEqDiff, Nat.reduceAdd, Nat.reduceSub, Nat.reduceMul, Nat.reduceDiv, Nat.reducePow, Nat.reduceLT, Nat.reduceLeDiff, Nat.reduceBEq, Nat.reduceBneDiff, Int.reduceToNat, Int.reduceEq, Int.reduceLE, Int.reduceLT, reduceCtorEq, vptr_0, vptr_1, hc_7]
      repeat (with_reducible refine And.intro ?_ ?_; next => first | assumption | trivial | omega | decide | (constructor <;> first | assumption | omega) | (simp [Keep.ok, hp_cons_apply, hset_cons, vptr_0, vptr_1]; done))
      refine xo_guard (decide (n < 0)) rfl (fun hc_8 => ?_) (fun hc_8 => ?_)
      ·try simp (maxSteps := 4000000) only [go_sem, Prod.mk.injEq, reduceIte, Nat.reduceEqDiff, Nat.reduceAdd, Nat.reduceSub, Nat.reduceMul, Nat.reduceDiv, Nat.reducePow, Nat.reduceLT, Nat.reduceLeDiff, Nat.reduceBEq, Nat.reduceBneDiff, Int.reduceToNat, Int.reduceEq, Int.reduceLE, Int.reduceLT, reduceCtorEq, vptr_0, vptr_1, hc_7, hc_8]
       repeat (with_reducible refine And.intro ?_ ?_; next => first | assumption | trivial | omega | decide | (constructor <;> first | assumption | omega) | (simp [Keep.ok, hp_cons_apply, hset_cons, vptr_0, vptr_1]; done))
       refine hk _ _ _ ?_
       refine xghost (D := []) ?_ ?_ ?_ ?_
       ·exact (.cons (Sub.of_eq rfl) (.cons (Sub.of_eq rfl) (.cons (Sub.of_eq rfl) (.cons (Sub.of_eq rfl) (.cons (Sub.of_eq (by first | rfl | (simp only [sget_cons, reduceIte, Nat.reduceEqDiff, Bool.and_true, Bool.true_and, Bool.and_false, Bool.false_and, Bool.or_true, Bool.true_or, Bool.or_false, Bool.false_or, Bool.not_true, Bool.not_false, Bool.not_not, hc_7, hc_8]; done))) .nil)))))
       ·exact HpW.refl
       ·exact (by intro p hp; cases hp)
       ·omega
      ·try simp (maxSteps := 4000000) only [go_sem, Prod.mk.injEq, reduceIte, Nat.reduceEqDiff, Nat.reduceAdd, Nat.reduceSub, Nat.reduceMul, Nat.reduceDiv, Nat.reducePow, Nat.reduceLT, Nat.reduceLeDiff, Nat.reduceBEq, Nat.reduceBneDiff, Int.reduceToNat, Int.reduceEq, Int.reduceLE, Int.reduceLT, reduceCtorEq, vptr_0, vptr_1, hc_7, hc_8]
       repeat (with_reducible refine And.intro ?_ ?_; next => first | assumption | trivial | omega | decide | (constructor <;> first | assumption | omega) | (simp [Keep.ok, hp_cons_apply, hset_cons, vptr_0, vptr_1]; done))
       refine hk _ _ _ ?_
       refine xghost (D := []) ?_ ?_ ?_ ?_
       ·exact (.cons (Sub.of_eq rfl) (.cons (Sub.of_eq rfl) (.cons (Sub.of_eq rfl) (.cons (Sub.of_eq rfl) (.cons (Sub.of_eq (by first | rfl | (simp only [sget_cons, reduceIte, Nat.reduceEqDiff, Bool.and_true, Bool.true_and, Bool.and_false, Bool.false_and, Bool.or_true, Bool.true_or, Bool.or_false, Bool.false_or, Bool.not_true, Bool.not_false, Bool.not_not, hc_7, hc_8]; done))) .nil)))))
       ·exact HpW.refl
       ·exact (by intro p hp; cases hp)
       ·omega
     ·have hc_7 : v_3 = false := by first | (generalize v_3 = q at hc_7 ⊢; revert hc_7; cases q <;> simp; done) | simpa using hc_7
      try simp (maxSteps := 4000000) only [go_sem, Prod.mk.injEq, reduceIte, Nat.reduceEqDiff, Nat.reduceAdd, Nat.reduceSub, Nat.reduceMul, Nat.reduceDiv, Nat.reducePow, Nat.reduceLT, Nat.reduceLeDiff, Nat.reduceBEq, Nat.reduceBneDiff, Int.reduceToNat, Int.reduceEq, Int.reduceLE, Int.reduceLT, reduceCtorEq, vptr_0, vptr_1, hc_7]
      repeat (with_reducible refine And.intro ?_ ?_; next => first | assumption | trivial | omega | decide | (constructor <;> first | assumption | omega) | (simp [Keep.ok, hp_cons_apply, hset_cons, vptr_0, vptr_1]; done))
      refine hk _ _ _ ?_
      refine xghost (D := []) ?_ ?_ ?_ ?_
      ·exact (.cons (Sub.of_eq rfl) (.cons (Sub.of_eq rfl) (.cons (Sub.of_eq rfl) (.cons (Sub.of_eq rfl) (.cons (Sub.of_eq (by first | rfl | (simp only [sget_cons, reduceIte, Nat.reduceEqDiff, Bool.and_true, Bool.true_and, Bool.and_false, Bool.false_and, Bool.or_true, Bool.true_or, Bool.or_false, Bool.false_or, Bool.not_true, Bool.not_false, Bool.not_not, hc_7]; done))) .nil)))))
      ·exact HpW.refl
      ·exact (by intro p hp; cases hp)
      ·omega
   ·rw [if_neg hs_1] at h
    by_cases hs : a = 1
    ·subst hs
     rw [if_pos rfl] at h
     obtain ⟨v_2, hv_2, h⟩ := bd_some h
     refine xseq [(1, .lit (.int .i64 1)), (2, .lit (.int .i64 n)), (3, .ptr (d, 0) 0), (6, .ptr (d, 1) 0), (24, .lit (.bool (((!v_2) || (decide (n < 0))) || (decide ((dx.Data.x1.length : Int) < n)))))] (hp [((d, 0), .box [.lit (.int .i64 dx.Power), eS (lI .u8) dx.Data.x0, eS (lI .u8) dx.Data.x1, .lit (.int .i64 dx.Safe.x0), .lit (.int .i64 dx.Safe.x1)]), ((d, 1), .box [.lit (.int .i64 0), .lit (.slice none 0 0), .lit (.slice none 0 0), .lit (.int .i64 0), .lit (.int .i64 0)])] S) 2 ?_ (fun k kp hk => ?_)
     ·refine xcond (((!v_2) || (decide (n < 0))) || (decide ((dx.Data.x1.length : Int) < n))) rfl (fun hc_3 => ?_) (fun hc_3 => ?_)
      ·rw [ite_t hc_3] at h
       refine xseq [(6, .ptr (d, 1) 0), (7, .lit (.int .i64 41))] (hp [((d, 0), .box [.lit (.int .i64 dx.Power), eS (lI .u8) dx.Data.x0, eS (lI .u8) dx.Data.x1, .lit (.int .i64 dx.Safe.x0), .lit (.int .i64 dx.Safe.x1)]), ((d, 1), .box [.lit (.int .i64 dx.Power), eS (lI .u8) dx.Data.x0, eS (lI .u8) dx.Data.x1, .lit (.int .i64 dx.Safe.x0), .lit (.int .i64 dx.Safe.x1)])] S) 2 ?_ (fun k kp hk => ?_)
       ·refine LW_ret ?_
        obtain rfl := Option.some.inj h
        show FPost _ _ _ _ _ _ _
        simp only [FPost, ares, one1, go_sem, Prod.mk.injEq, reduceIte, Nat.reduceEqDiff, Nat.reduceAdd, Nat.reduceSub, Nat.reduceMul, Nat.reduceDiv, Nat.reducePow, Nat.reduceLT, Nat.reduceLeDiff, Nat.reduceBEq, Nat.reduceBneDiff, Int.reduceToNat, Int.reduceEq, Int.reduceLE, Int.reduceLT, reduceCtorEq]
        repeat (with_reducible refine And.intro ?_ ?_; next => first | assumption | trivial | omega | decide | (constructor <;> first | assumption | omega) | (simp [Keep.ok, hp_cons_apply, hset_cons]; done))
        first | exact ⟨_, hp_less (L := []) (D := [((d, 0), .box [.lit (.int .i64 dx.Power), eS (lI .u8) dx.Data.x0, eS (lI .u8) dx.Data.x1, .lit (.int .i64 dx.Safe.x0), .lit (.int .i64 dx.Safe.x1)]), ((d, 1), .box [.lit (.int .i64 dx.Power), eS (lI .u8) dx.Data.x0, eS (lI .u8) dx.Data.x1, .lit (.int .i64 dx.Safe.x0), .lit (.int .i64 dx.Safe.x1)])]) (by intro p hp; simp only [List.mem_cons, List.not_mem_nil, or_false] at hp; rcases hp with rfl | rfl <;> first | exact hd _ (Nat.le_refl _)), rfl, rfl⟩ | exact ⟨_, hp_less (L := []) (D := [((d, 0), .box [.lit (.int .i64 dx.Power), eS (lI .u8) dx.Data.x0, eS (lI .u8) dx.Data.x1, .lit (.int .i64 dx.Safe.x0), .lit (.int .i64 dx.Safe.x1)]), ((d, 1), .box [.lit (.int .i64 dx.Power), eS (lI .u8) dx.Data.x0, eS (lI .u8) dx.Data.x1, .lit (.int .i64 dx.Safe.x0), .lit (.int .i64 dx.Safe.x1)])]) (by intro p hp; simp only [List.mem_cons, List.not_mem_nil, or_false] at hp; rcases hp with rfl | rfl <;> first | exact hd _ (Nat.le_refl _)), rfl⟩
       ·try simp (maxSteps := 4000000) only [go_sem, Prod.mk.injEq, reduceIte, Nat.reduceEqDiff, Nat.reduceAdd, Nat.reduceSub, Nat.reduceMul, Nat.reduceDiv, Nat.reducePow, Nat.reduceLT, Nat.reduceLeDiff, Nat.reduceBEq, Nat.reduceBneDiff, Int.reduceToNat, Int.reduceEq, Int.reduceLE, Int.reduceLT, reduceCtorEq]
        repeat (with_reducible refine And.intro ?_ ?_; next => first | assumption | trivial | omega | decide | (constructor <;> first | assumption | omega) | (simp [Keep.ok, hp_cons_apply, hset_cons]; done))
        refine hk _ _ _ ?_
        refine xghost (D := []) ?_ ?_ ?_ ?_
        ·exact (.cons (Sub.of_eq rfl) (.cons (Sub.of_eq rfl) .nil))
        ·exact HpW.refl
        ·exact (by intro p hp; cases hp)
        ·omega
      ·rw [ite_f hc_3] at h
       refine LW_skip ?_
       exact hj_2 (1, (((!v_2) || (decide (n < 0))) || (decide ((dx.Data.x1.length : Int) < n)))) h
     ·try simp (maxSteps := 4000000) only [go_sem, Prod.mk.injEq, reduceIte, Nat.reduceEqDiff, Nat.reduceAdd, Nat.reduceSub, Nat.reduceMul, Nat.reduceDiv, Nat.reducePow, Nat.reduceLT, Nat.reduceLeDiff, Nat.reduceBEq, Nat.reduceBneDiff, Int.reduceToNat, Int.reduceEq, Int.reduceLE, Int.reduceLT, reduceCtorEq, vptr_0, vptr_1]
      repeat (with_reducible refine And.intro ?_ ?_; next => first | assumption | trivial | omega | decide | (constructor <;> first | assumption | omega) | (simp [Keep.ok, hp_cons_apply, hset_cons, vptr_0, vptr_1]; done))
      have hcall := s_stanchionref04_area_ok (hp [((d, 0), .box [.lit (.int .i64 dx.Power), eS (lI .u8) dx.Data.x0, eS (lI .u8) dx.Data.x1, .lit (.int .i64 dx.Safe.x0), .lit (.int .i64 dx.Safe.x1)]), ((d, 1), .box [.lit (.int .i64 0), .lit (.slice none 0 0), .lit (.slice none 0 0), .lit (.int .i64 0), .lit (.int .i64 0)])] S) 1 hv_2
      refine call1_x hcall rfl ?_ ?_
      ·exact (.cons Sub.refl .nil)
      clear hcall
      rintro _ SS ⟨rfl, hSS⟩ -
      rw [hSS]
      clear hSS
      try simp (maxSteps := 4000000) only [go_sem, Prod.mk.injEq, reduceIte, Nat.reduceEqDiff, Nat.reduceAdd, Nat.reduceSub, Nat.reduceMul, Nat.reduceDiv, Nat.reducePow, Nat.reduceLT, Nat.reduceLeDiff, Nat.reduceBEq, Nat.reduceBneDiff, Int.reduceToNat, Int.reduceEq, Int.reduceLE, Int.reduceLT, reduceCtorEq, vptr_0, vptr_1]
      repeat (with_reducible refine And.intro ?_ ?_; next => first | assumption | trivial | omega | decide | (constructor <;> first | assumption | omega) | (simp [Keep.ok, hp_cons_apply, hset_cons, vptr_0, vptr_1]; done))
      refine xo_guard (!v_2) rfl (fun hc_4 => ?_) (fun hc_4 => ?_)
      ·have hc_4 : v_2 = true := by first | (generalize v_2 = q at hc_4 ⊢; revert hc_4; cases q <;> simp; done) | simpa using hc_4
       try simp (maxSteps := 4000000) only [go_sem, Prod.mk.injEq, reduceIte, Nat.reduceEqDiff, Nat.reduceAdd, Nat.reduceSub, Nat.reduceMul, Nat.reduceDiv, Nat.reducePow, Nat.reduceLT, Nat.reduceLeDiff, Nat.reduceBEq, Nat.reduceBneDiff, Int.reduceToNat, Int.reduceEq, Int.reduceLE, Int.reduceLT, reduceCtorEq, vptr_0, vptr_1, hc_4]
       repeat (with_reducible refine And.intro ?_ ?_; next => first | assumption | trivial | omega | decide | (constructor <;> first | assumption | omega) | (simp [Keep.ok, hp_cons_apply, hset_cons, vptr_0, vptr_1]; done))
       refine xo_guard (decide (n < 0)) rfl (fun hc_5 => ?_) (fun hc_5 => ?_)
       ·try simp (maxSteps := 4000000) only [go_sem, Prod.mk.injEq, reduceIte, Nat.reduceEqDiff, Nat.reduceAdd, Nat.reduceSub, Nat.reduceMul, Nat.reduceDiv, Nat.reducePow, Nat.reduceLT, Nat.reduceLeDiff, Nat.reduceBEq, Nat.reduceBneDiff, Int.reduceToNat, Int.reduceEq, Int.reduceLE, Int.reduceLT, reduceCtorEq, vptr_0, vptr_1, hc_4, hc_5]
        repeat (with_reducible refine And.intro ?_ ?_; next => first | assumption | trivial | omega | decide | (constructor <;> first | assumption | omega) | (simp [Keep.ok, hp_cons_apply, hset_cons, vptr_0, vptr_1]; done))
        refine hk _ _ _ ?_
        refine xghost (D := []) ?_ ?_ ?_ ?_
        ·exact (.cons (Sub.of_eq rfl) (.cons (Sub.of_eq rfl) (.cons (Sub.of_eq rfl) (.cons (Sub.of_eq rfl) (.cons (Sub.of_eq (by first | rfl | (simp only [sget_cons, reduceIte, Nat.reduceEqDiff, Bool.and_true, Bool.true_and, Bool.and_false, Bool.false_and, Bool.or_true, Bool.true_or, Bool.or_false, Bool.false_or, Bool.not_true, Bool.not_false, Bool.not_not, hc_4, hc_5]; done))) .nil)))))
        ·exact HpW.refl
        ·exact (by intro p hp; cases hp)
        ·omega
       ·try simp (maxSteps := 4000000) only [go_sem, Prod.mk.injEq, reduceIte, Nat.reduceEqDiff, Nat.reduceAdd, Nat.reduceSub, Nat.reduceMul, Nat.reduceDiv, Nat.reducePow, Nat.reduceLT, Nat.reduceLeDiff, Nat.reduceBEq, Nat.reduceBneDiff, Int.reduceToNat, Int.reduceEq, Int.reduceLE, Int.reduceLT, reduceCtorEq, vptr_0, vptr_1, hc_4, hc_5]
        repeat (with_reducible refine And.intro ?_ ?_; next => first | assumption | trivial | omega | decide | (constructor <;> first | assumption | omega) | (simp [Keep.ok, hp_cons_apply, hset_cons, vptr_0, vptr_1]; done))
        refine hk _ _ _ ?_
        refine xghost (D := []) ?_ ?_ ?_ ?_
        ·exact (.cons (Sub.of_eq rfl) (.cons (Sub.of_eq rfl) (.cons (Sub.of_eq rfl) (.cons (Sub.of_eq rfl) (.cons (Sub.of_eq (by first | rfl | (simp only [sget_cons, reduceIte, Nat.reduceEqDiff, Bool.and_true, Bool.true_and, Bool.and_false, Bool.false_and, Bool.or_true, Bool.true_or, Bool.or_false, Bool.false_or, Bool.not_true, Bool.not_false, Bool.not_not, hc_4, hc_5]; done))) .nil)))))
        ·exact HpW.refl
        ·exact (by intro p hp; cases hp)
        ·omega
      ·have hc_4 : v_2 = false := by first | (generalize v_2 = q at hc_4 ⊢; revert hc_4; cases q <;> simp; done) | simpa using hc_4
       try simp (maxSteps := 4000000) only [go_sem, Prod.mk.injEq, reduceIte, Nat.reduceEqDiff, Nat.reduceAdd, Nat.reduceSub, Nat.reduceMul, Nat.reduceDiv, Nat.reducePow, Nat.reduceLT, Nat.reduceLeDiff, Nat.reduceBEq, Nat.reduceBneDiff, Int.reduceToNat, Int.reduceEq, Int.reduceLE, Int.reduceLT, reduceCtorEq, vptr_0, vptr_1, hc_4]
       repeat (with_reducible refine And.intro ?_ ?_; next => first | assumption | trivial | omega | decide | (constructor <;> first | assumption | omega) | (simp [Keep.ok, hp_cons_apply, hset_cons, vptr_0, vptr_1]; done))
       refine hk _ _ _ ?_
       refine xghost (D := []) ?_ ?_ ?_ ?_
       ·exact (.cons (Sub.of_eq rfl) (.cons (Sub.of_eq rfl) (.cons (Sub.of_eq rfl) (.cons (Sub.of_eq rfl) (.cons (Sub.of_eq (by first | rfl | (simp only [sget_cons, reduceIte, Nat.reduceEqDiff, Bool.and_true, Bool.true_and, Bool.and_false, Bool.false_and, Bool.or_true, Bool.true_or, Bool.or_false, Bool.false_or, Bool.not_true, Bool.not_false, Bool.not_not, hc_4]; done))) .nil)))))
       ·exact HpW.refl
       ·exact (by intro p hp; cases hp)
       ·omega
    ·rw [if_neg hs] at h
     obtain ⟨v_1, hv_1, h⟩ := bd_some h
     obtain ⟨hg, h⟩ := gd_some h
     refine xseq [(1, .lit (.int .i64 a)), (2, .lit (.int .i64 n)), (3, .ptr (d, 0) 0), (6, .ptr (d, 1) 0), (24, .lit (.bool (((!v_1) || (decide (n < 0))) || true)))] (hp [((d, 0), .box [.lit (.int .i64 dx.Power), eS (lI .u8) dx.Data.x0, eS (lI .u8) dx.Data.x1, .lit (.int .i64 dx.Safe.x0), .lit (.int .i64 dx.Safe.x1)]), ((d, 1), .box [.lit (.int .i64 0), .lit (.slice none 0 0), .lit (.slice none 0 0), .lit (.int .i64 0), .lit (.int .i64 0)])] S) 2 ?_ (fun k kp hk => ?_)
     ·refine xcond (((!v_1) || (decide (n < 0))) || true) rfl (fun hc => ?_) (fun hc => ?_)
      ·rw [ite_t hc] at h
       refine xseq [(6, .ptr (d, 1) 0), (7, .lit (.int .i64 41))] (hp [((d, 0), .box [.lit (.int .i64 dx.Power), eS (lI .u8) dx.Data.x0, eS (lI .u8) dx.Data.x1, .lit (.int .i64 dx.Safe.x0), .lit (.int .i64 dx.Safe.x1)]), ((d, 1), .box [.lit (.int .i64 dx.Power), eS (lI .u8) dx.Data.x0, eS (lI .u8) dx.Data.x1, .lit (.int .i64 dx.Safe.x0), .lit (.int .i64 dx.Safe.x1)])] S) 2 ?_ (fun k kp hk => ?_)
       ·refine LW_ret ?_
        obtain rfl := Option.some.inj h
        show FPost _ _ _ _ _ _ _
        simp only [FPost, ares, one1, go_sem, Prod.mk.injEq, reduceIte, Nat.reduceEqDiff, Nat.reduceAdd, Nat.reduceSub, Nat.reduceMul, Nat.reduceDiv, Nat.reducePow, Nat.reduceLT, Nat.reduceLeDiff, Nat.reduceBEq, Nat.reduceBneDiff, Int.reduceToNat, Int.reduceEq, Int.reduceLE, Int.reduceLT, reduceCtorEq]
        repeat (with_reducible refine And.intro ?_ ?_; next => first | assumption | trivial | omega | decide | (constructor <;> first | assumption | omega) | (simp [Keep.ok, hp_cons_apply, hset_cons]; done))
        first | exact ⟨_, hp_less (L := []) (D := [((d, 0), .box [.lit (.int .i64 dx.Power), eS (lI .u8) dx.Data.x0, eS (lI .u8) dx.Data.x1, .lit (.int .i64 dx.Safe.x0), .lit (.int .i64 dx.Safe.x1)]), ((d, 1), .box [.lit (.int .i64 dx.Power), eS (lI .u8) dx.Data.x0, eS (lI .u8) dx.Data.x1, .lit (.int .i64 dx.Safe.x0), .lit (.int .i64 dx.Safe.x1)])]) (by intro p hp; simp only [List.mem_cons, List.not_mem_nil, or_false] at hp; rcases hp with rfl | rfl <;> first | exact hd _ (Nat.le_refl _)), rfl, rfl⟩ | exact ⟨_, hp_less (L := []) (D := [((d, 0), .box [.lit (.int .i64 dx.Power), eS (lI .u8) dx.Data.x0, eS (lI .u8) dx.Data.x1, .lit (.int .i64 dx.Safe.x0), .lit (.int .i64 dx.Safe.x1)]), ((d, 1), .box [.lit (.int .i64 dx.Power), eS (lI .u8) dx.Data.x0, eS (lI .u8) dx.Data.x1, .lit (.int .i64 dx.Safe.x0), .lit (.int .i64 dx.Safe.x1)])]) (by intro p hp; simp only [List.mem_cons, List.not_mem_nil, or_false] at hp; rcases hp with rfl | rfl <;> first | exact hd _ (Nat.le_refl _)), rfl⟩
       ·try simp (maxSteps := 4000000) only [go_sem, Prod.mk.injEq, reduceIte, Nat.reduceEqDiff, Nat.reduceAdd, Nat.reduceSub, Nat.reduceMul, Nat.reduceDiv, Nat.reducePow, Nat.reduceLT, Nat.reduceLeDiff, Nat.reduceBEq, Nat.reduceBneDiff, Int.reduceToNat, Int.reduceEq, Int.reduceLE, Int.reduceLT, reduceCtorEq]
        repeat (with_reducible refine And.intro ?_ ?_; next => first | assumption | trivial | omega | decide | (constructor <;> first | assumption | omega) | (simp [Keep.ok, hp_cons_apply, hset_cons]; done))
        refine hk _ _ _ ?_
        refine xghost (D := []) ?_ ?_ ?_ ?_
        ·exact (.cons (Sub.of_eq rfl) (.cons (Sub.of_eq rfl) .nil))
        ·exact HpW.refl
        ·exact (by intro p hp; cases hp)
        ·omega
      ·rw [ite_f hc] at h
       refine LW_skip ?_
       exact hj_2 (a, (((!v_1) || (decide (n < 0))) || true)) h
     ·try simp (maxSteps := 4000000) only [go_sem, Prod.mk.injEq, reduceIte, Nat.reduceEqDiff, Nat.reduceAdd, Nat.reduceSub, Nat.reduceMul, Nat.reduceDiv, Nat.reducePow, Nat.reduceLT, Nat.reduceLeDiff, Nat.reduceBEq, Nat.reduceBneDiff, Int.reduceToNat, Int.reduceEq, Int.reduceLE, Int.reduceLT, reduceCtorEq]
      repeat (with_reducible refine And.intro ?_ ?_; next => first | assumption | trivial | omega | decide | (constructor <;> first | assumption | omega) | (simp [Keep.ok, hp_cons_apply, hset_cons]; done))
      have hcall := s_stanchionref04_area_ok (hp [((d, 0), .box [.lit (.int .i64 dx.Power), eS (lI .u8) dx.Data.x0, eS (lI .u8) dx.Data.x1, .lit (.int .i64 dx.Safe.x0), .lit (.int .i64 dx.Safe.x1)]), ((d, 1), .box [.lit (.int .i64 0), .lit (.slice none 0 0), .lit (.slice none 0 0), .lit (.int .i64 0), .lit (.int .i64 0)])] S) a hv_1
      refine call1_x hcall rfl ?_ ?_
      ·exact (.cons Sub.refl .nil)
      clear hcall
      rintro _ SS ⟨rfl, hSS⟩ -
      rw [hSS]
      clear hSS
      try simp (maxSteps := 4000000) only [go_sem, Prod.mk.injEq, reduceIte, Nat.reduceEqDiff, Nat.reduceAdd, Nat.reduceSub, Nat.reduceMul, Nat.reduceDiv, Nat.reducePow, Nat.reduceLT, Nat.reduceLeDiff, Nat.reduceBEq, Nat.reduceBneDiff, Int.reduceToNat, Int.reduceEq, Int.reduceLE, Int.reduceLT, reduceCtorEq]
      repeat (with_reducible refine And.intro ?_ ?_; next => first | assumption | trivial | omega | decide | (constructor <;> first | assumption | omega) | (simp [Keep.ok, hp_cons_apply, hset_cons]; done))
      refine xo_guard (!v_1) rfl (fun hc_1 => ?_) (fun hc_1 => ?_)
      ·have hc_1 : v_1 = true := by first | (generalize v_1 = q at hc_1 ⊢; revert hc_1; cases q <;> simp; done) | simpa using hc_1
       try simp (maxSteps := 4000000) only [go_sem, Prod.mk.injEq, reduceIte, Nat.reduceEqDiff, Nat.reduceAdd, Nat.reduceSub, Nat.reduceMul, Nat.reduceDiv, Nat.reducePow, Nat.reduceLT, Nat.reduceLeDiff, Nat.reduceBEq, Nat.reduceBneDiff, Int.reduceToNat, Int.reduceEq, Int.reduceLE, Int.reduceLT, reduceCtorEq, hc_1]
       repeat (with_reducible refine And.intro ?_ ?_; next => first | assumption | trivial | omega | decide | (constructor <;> first | assumption | omega) | (simp [Keep.ok, hp_cons_apply, hset_cons]; done))
       refine xo_guard (decide (n < 0)) rfl (fun hc_2 => ?_) (fun hc_2 => ?_)
       ·have hg := hg (by simp only [Bool.and_true, Bool.true_and, Bool.and_false, Bool.false_and, Bool.or_true, Bool.true_or, Bool.or_false, Bool.false_or, Bool.not_true, Bool.not_false, Bool.not_not, hc_1, hc_2])
        exact hg.elim
       ·try simp (maxSteps := 4000000) only [go_sem, Prod.mk.injEq, reduceIte, Nat.reduceEqDiff, Nat.reduceAdd, Nat.reduceSub, Nat.reduceMul, Nat.reduceDiv, Nat.reducePow, Nat.reduceLT, Nat.reduceLeDiff, Nat.reduceBEq, Nat.reduceBneDiff, Int.reduceToNat, Int.reduceEq, Int.reduceLE, Int.reduceLT, reduceCtorEq, hc_1, hc_2]
        repeat (with_reducible refine And.intro ?_ ?_; next => first | assumption | trivial | omega | decide | (constructor <;> first | assumption | omega) | (simp [Keep.ok, hp_cons_apply, hset_cons]; done))
        refine hk _ _ _ ?_
        refine xghost (D := []) ?_ ?_ ?_ ?_
        ·exact (.cons (Sub.of_eq rfl) (.cons (Sub.of_eq rfl) (.cons (Sub.of_eq rfl) (.cons (Sub.of_eq rfl) (.cons (Sub.of_eq (by first | rfl | (simp only [sget_cons, reduceIte, Nat.reduceEqDiff, Bool.and_true, Bool.true_and, Bool.and_false, Bool.false_and, Bool.or_true, Bool.true_or, Bool.or_false, Bool.false_or, Bool.not_true, Bool.not_false, Bool.not_not, hc_1, hc_2]; done))) .nil)))))
        ·exact HpW.refl
        ·exact (by intro p hp; cases hp)
        ·omega
      ·have hc_1 : v_1 = false := by first | (generalize v_1 = q at hc_1 ⊢; revert hc_1; cases q <;> simp; done) | simpa using hc_1
       try simp (maxSteps := 4000000) only [go_sem, Prod.mk.injEq, reduceIte, Nat.reduceEqDiff, Nat.reduceAdd, Nat.reduceSub, Nat.reduceMul, Nat.reduceDiv, Nat.reducePow, Nat.reduceLT, Nat.reduceLeDiff, Nat.reduceBEq, Nat.reduceBneDiff, Int.reduceToNat, Int.reduceEq, Int.reduceLE, Int.reduceLT, reduceCtorEq, hc_1]
       repeat (with_reducible refine And.intro ?_ ?_; next => first | assumption | trivial | omega | decide | (constructor <;> first | assumption | omega) | (simp [Keep.ok, hp_cons_apply, hset_cons]; done))
       refine hk _ _ _ ?_
       refine xghost (D := []) ?_ ?_ ?_ ?_
       ·exact (.cons (Sub.of_eq rfl) (.cons (Sub.of_eq rfl) (.cons (Sub.of_eq rfl) (.cons (Sub.of_eq rfl) (.cons (Sub.of_eq (by first | rfl | (simp only [sget_cons, reduceIte, Nat.reduceEqDiff, Bool.and_true, Bool.true_and, Bool.and_false, Bool.false_and, Bool.or_true, Bool.true_or, Bool.or_false, Bool.false_or, Bool.not_true, Bool.not_false, Bool.not_not, hc_1]; done))) .nil)))))
       ·exact HpW.refl
       ·exact (by intro p hp; cases hp)
       ·omega
 ·try simp (maxSteps := 4000000) only [go_sem, Prod.mk.injEq, reduceIte, Nat.reduceEqDiff, Nat.reduceAdd, Nat.reduceSub, Nat.reduceMul, Nat.reduceDiv, Nat.reducePow, Nat.reduceLT, Nat.reduceLeDiff, Nat.reduceBEq, Nat.reduceBneDiff, Int.reduceToNat, Int.reduceEq, Int.reduceLE, Int.reduceLT, reduceCtorEq]
  repeat (with_reducible refine And.intro ?_ ?_; next => first | assumption | trivial | omega | decide | (constructor <;> first | assumption | omega) | (simp [Keep.ok, hp_cons_apply, hset_cons]; done))
  refine hk _ _ _ ?_
  refine xghost (D := []) ?_ ?_ ?_ ?_
  ·exact (.cons (Sub.of_eq rfl) (.cons (Sub.of_eq rfl) (.cons (Sub.of_eq rfl) (.cons (Sub.of_eq rfl) .nil))))
  ·exact HpW.refl
  ·exact (by intro p hp; cases hp)
  ·omega
/-! (stanchion/stanchionref04.Disk).Sync -/
def s_stanchionref04_Disk_Sync_j2 (i_1 : Int) (m_1 : Int) (m_2 : Int) : Option ((Int × Int × Int) ⊕ (Gref04Disk × Int)) :=
 some (.inl ((IntKind.i64.wrap (i_1 + 1)), m_1, m_2))
def s_stanchionref04_Disk_Sync_b2 (v_1 : Gref04Disk × Int) (areas_1 : List Int) : (Int × Int × Int) → Option ((Int × Int × Int) ⊕ (Gref04Disk × Int))
 | (i_1, m, m_1) => if (decide (i_1 < (areas_1.length : Int))) = true then if (areas_1.getD (Int.toNat i_1) 0) = 0 then gd ((0 ≤ i_1 ∧ Int.toNat i_1 < areas_1.length)) (gd ((0 ≤ i_1 ∧ Int.toNat i_1 < areas_1.length)) (s_stanchionref04_Disk_Sync_j2 i_1 (v_1.1.Data.x0.length : Int) m_1)) else if (areas_1.getD (Int.toNat i_1) 0) = 1 then gd ((0 ≤ i_1 ∧ Int.toNat i_1 < areas_1.length)) (gd ((0 ≤ i_1 ∧ Int.toNat i_1 < areas_1.length)) (s_stanchionref04_Disk_Sync_j2 i_1 m (v_1.1.Data.x1.length : Int))) else none else mr (some ((Gref04Disk.mk v_1.1.Power v_1.1.Data (Ar2.mk m m_1)), 0))
def s_stanchionref04_Disk_Sync_j1 (v_1 : Gref04Disk × Int) (areas_1 : List Int) : Option (Gref04Disk × Int) :=
 loop (s_stanchionref04_Disk_Sync_b2 v_1 areas_1) (0, v_1.1.Safe.x0, v_1.1.Safe.x1)
def s_stanchionref04_Disk_Sync_b1 (dx : Gref04Disk) (areas : List Int) : Int → Option ((Int) ⊕ (Gref04Disk × Int))
 | i => if (decide (i < (areas.length : Int))) = true then gd ((0 ≤ i ∧ Int.toNat i < areas.length)) (bd (s_stanchionref04_area (areas.getD (Int.toNat i) 0)) fun (v : Bool) => if (!v) = true then mr (some (dx, 41)) else some (.inl (IntKind.i64.wrap (i + 1)))) else mr (bd (s_stanchionref04_Disk_draw dx) fun (v_1 : Gref04Disk × Int) => if (v_1.2 != 0) = true then some (v_1.1, v_1.2) else if ((areas.length : Int) == 0) = true then s_stanchionref04_Disk_Sync_j1 v_1 ([0, 1]) else s_stanchionref04_Disk_Sync_j1 v_1 areas)
def s_stanchionref04_Disk_Sync (dx : Gref04Disk) (areas : List Int) : Option (Gref04Disk × Int) :=
 loop (s_stanchionref04_Disk_Sync_b1 dx areas) 0
theorem s_stanchionref04_Disk_Sync_ok (S : AHeap) (dx : Gref04Disk) (areas : List Int) {r : Gref04Disk × Int} (h : s_stanchionref04_Disk_Sync dx areas = some r) :
  AC Try.prog n_stanchionref04_Disk_Sync [.agg [.lit (.int .i64 dx.Power), eS (lI .u8) dx.Data.x0, eS (lI .u8) dx.Data.x1, .lit (.int .i64 dx.Safe.x0), .lit (.int .i64 dx.Safe.x1)], eS (lI .i64) areas] S fun r' S' => r' = .ret (.tup [.agg [.lit (.int .i64 r.1.Power), eS (lI .u8) r.1.Data.x0, eS (lI .u8) r.1.Data.x1, .lit (.int .i64 r.1.Safe.x0), .lit (.int .i64 r.1.Safe.x1)], .lit (.int .i64 r.2)]) ∧ S' = S := by
 refine AC_of tok mixed fits_stanchionref04_Disk_Sync fun d hd => ?_
 unfold c_stanchionref04_Disk_Sync
 show LW _ _ _ _ [(0, .agg [.lit (.int .i64 dx.Power), eS (lI .u8) dx.Data.x0, eS (lI .u8) dx.Data.x1, .lit (.int .i64 dx.Safe.x0), .lit (.int .i64 dx.Safe.x1)]), (1, eS (lI .i64) areas)] (hp [] S) 0 _
 rw [s_stanchionref04_Disk_Sync] at h
 refine xseq [(1, eS (lI .i64) areas), (2, .ptr (d, 0) 0), (4, .ptr (d, 1) 0)] (hp [((d, 0), .box [.lit (.int .i64 dx.Power), eS (lI .u8) dx.Data.x0, eS (lI .u8) dx.Data.x1, .lit (.int .i64 dx.Safe.x0), .lit (.int .i64 dx.Safe.x1)]), ((d, 1), .box [.lit (.int .i64 0), .lit (.slice none 0 0), .lit (.slice none 0 0), .lit (.int .i64 0), .lit (.int .i64 0)])] S) 2 ?_ (fun k kp hk => ?_)
 ·refine LW_seq ?_
  refine xseq [(1, eS (lI .i64) areas), (2, .ptr (d, 0) 0), (4, .ptr (d, 1) 0), (6, .lit (.int .i64 0))] (hp [((d, 0), .box [.lit (.int .i64 dx.Power), eS (lI .u8) dx.Data.x0, eS (lI .u8) dx.Data.x1, .lit (.int .i64 dx.Safe.x0), .lit (.int .i64 dx.Safe.x1)]), ((d, 1), .box [.lit (.int .i64 0), .lit (.slice none 0 0), .lit (.slice none 0 0), .lit (.int .i64 0), .lit (.int .i64 0)])] S) 2 ?_ (fun k kp hk => ?_)
  ·refine LW_block ?_
   refine LW_loopX (c := 2) (σ := Int) (s := 0) (fun zz => [(1, eS (lI .i64) areas), (2, .ptr (d, 0) 0), (4, .ptr (d, 1) 0), (6, .lit (.int .i64 zz))]) (fun zz => (hp [((d, 0), .box [.lit (.int .i64 dx.Power), eS (lI .u8) dx.Data.x0, eS (lI .u8) dx.Data.x1, .lit (.int .i64 dx.Safe.x0), .lit (.int .i64 dx.Safe.x1)]), ((d, 1), .box [.lit (.int .i64 0), eS (lI .u8) [], eS (lI .u8) [], .lit (.int .i64 0), .lit (.int .i64 0)])] S)) h ?_ ?_
   ·clear h
    rintro i x1 d1 hd1 hf1 h hx1
    show LW _ _ _ _ [(1, eS (lI .i64) areas), (2, .ptr (d, 0) 0), (4, .ptr (d, 1) 0), (6, .lit (.int .i64 i))] (hp [((d, 0), .box [.lit (.int .i64 dx.Power), eS (lI .u8) dx.Data.x0, eS (lI .u8) dx.Data.x1, .lit (.int .i64 dx.Safe.x0), .lit (.int .i64 dx.Safe.x1)]), ((d, 1), .box [.lit (.int .i64 0), eS (lI .u8) [], eS (lI .u8) [], .lit (.int .i64 0), .lit (.int .i64 0)])] S) 0 _
    have hn1d : (d = d1) = False := by simp; omega
    have hm1d : (d1 = d) = False := by simp; omega
    rw [s_stanchionref04_Disk_Sync_b1] at h
    refine LW_seq ?_
    refine xseq [(1, eS (lI .i64) areas), (2, .ptr (d, 0) 0), (4, .ptr (d, 1) 0), (6, .lit (.int .i64 i)), (12, .lit (.bool (decide (i < (areas.length : Int)))))] (hp [((d, 0), .box [.lit (.int .i64 dx.Power), eS (lI .u8) dx.Data.x0, eS (lI .u8) dx.Data.x1, .lit (.int .i64 dx.Safe.x0), .lit (.int .i64 dx.Safe.x1)]), ((d, 1), .box [.lit (.int .i64 0), eS (lI .u8) [], eS (lI .u8) [], .lit (.int .i64 0), .lit (.int .i64 0)])] S) 0 ?_ (fun k kp hk => ?_)
    ·refine xcond (decide (i < (areas.length : Int))) rfl (fun hc => ?_) (fun hc => ?_)
     ·rw [ite_t hc] at h
      refine LW_skip ?_
      show LW _ _ _ _ _ _ _ _
      refine LW_seq ?_
      refine LW_block ?_
      obtain ⟨hg, h⟩ := gd_some h
      obtain ⟨v, hv, h⟩ := bd_some h
      refine xseq [(1, eS (lI .i64) areas), (2, .ptr (d, 0) 0), (4, .ptr (d, 1) 0), (6, .lit (.int .i64 i)), (20, .lit (.bool (!v)))] (hp [((d, 0), .box [.lit (.int .i64 dx.Power), eS (lI .u8) dx.Data.x0, eS (lI .u8) dx.Data.x1, .lit (.int .i64 dx.Safe.x0), .lit (.int .i64 dx.Safe.x1)]), ((d, 1), .box [.lit (.int .i64 0), eS (lI .u8) [], eS (lI .u8) [], .lit (.int .i64 0), .lit (.int .i64 0)])] S) 0 ?_ (fun k kp hk => ?_)
      ·refine xcond (!v) rfl (fun hc_1 => ?_) (fun hc_1 => ?_)
       ·rw [ite_t hc_1] at h
        refine xseq [(1, eS (lI .i64) areas), (2, .ptr (d, 0) 0), (4, .ptr (d, 1) 0), (5, .lit (.int .i64 41)), (6, .lit (.int .i64 i))] (hp [((d, 0), .box [.lit (.int .i64 dx.Power), eS (lI .u8) dx.Data.x0, eS (lI .u8) dx.Data.x1, .lit (.int .i64 dx.Safe.x0), .lit (.int .i64 dx.Safe.x1)]), ((d, 1), .box [.lit (.int .i64 dx.Power), eS (lI .u8) dx.Data.x0, eS (lI .u8) dx.Data.x1, .lit (.int .i64 dx.Safe.x0), .lit (.int .i64 dx.Safe.x1)])] S) 0 ?_ (fun k kp hk => ?_)
        ·obtain ⟨hq, hxe⟩ := mr_go h hx1
         clear h hx1
         subst hxe
         have h := hq
         clear hq
         refine LW_retX (sl' := [(4, .ptr (d, 1) 0), (5, .lit (.int .i64 41))]) (S' := (hp [((d, 0), .box [.lit (.int .i64 dx.Power), eS (lI .u8) dx.Data.x0, eS (lI .u8) dx.Data.x1, .lit (.int .i64 dx.Safe.x0), .lit (.int .i64 dx.Safe.x1)]), ((d, 1), .box [.lit (.int .i64 dx.Power), eS (lI .u8) dx.Data.x0, eS (lI .u8) dx.Data.x1, .lit (.int .i64 dx.Safe.x0), .lit (.int .i64 dx.Safe.x1)])] S)) (c' := 0) ?_ ?_
         ·refine xghost (D := []) ?_ ?_ ?_ ?_
          ·exact (.cons (Sub.of_eq rfl) (.cons (Sub.of_eq rfl) .nil))
          ·exact HpW.refl
          ·exact (by intro p hp; cases hp)
          ·omega
         ·obtain rfl := Option.some.inj h
          show FPost _ _ _ _ _ _ _
          simp only [FPost, ares, one1, go_sem, Prod.mk.injEq, reduceIte, Nat.reduceEqDiff, Nat.reduceAdd, Nat.reduceSub, Nat.reduceMul, Nat.reduceDiv, Nat.reducePow, Nat.reduceLT, Nat.reduceLeDiff, Nat.reduceBEq, Nat.reduceBneDiff, Int.reduceToNat, Int.reduceEq, Int.reduceLE, Int.reduceLT, reduceCtorEq, hn1d, hm1d]
          repeat (with_reducible refine And.intro ?_ ?_; next => first | assumption | trivial | omega | decide | (constructor <;> first | assumption | omega) | (simp [Keep.ok, hp_cons_apply, hset_cons, hn1d, hm1d]; done))
          first | exact ⟨_, hp_less (L := []) (D := [((d, 0), .box [.lit (.int .i64 dx.Power), eS (lI .u8) dx.Data.x0, eS (lI .u8) dx.Data.x1, .lit (.int .i64 dx.Safe.x0), .lit (.int .i64 dx.Safe.x1)]), ((d, 1), .box [.lit (.int .i64 dx.Power), eS (lI .u8) dx.Data.x0, eS (lI .u8) dx.Data.x1, .lit (.int .i64 dx.Safe.x0), .lit (.int .i64 dx.Safe.x1)])]) (by intro p hp; simp only [List.mem_cons, List.not_mem_nil, or_false] at hp; rcases hp with rfl | rfl <;> first | exact hd _ (Nat.le_refl _)), rfl, rfl⟩ | exact ⟨_, hp_less (L := []) (D := [((d, 0), .box [.lit (.int .i64 dx.Power), eS (lI .u8) dx.Data.x0, eS (lI .u8) dx.Data.x1, .lit (.int .i64 dx.Safe.x0), .lit (.int .i64 dx.Safe.x1)]), ((d, 1), .box [.lit (.int .i64 dx.Power), eS (lI .u8) dx.Data.x0, eS (lI .u8) dx.Data.x1, .lit (.int .i64 dx.Safe.x0), .lit (.int .i64 dx.Safe.x1)])]) (by intro p hp; simp only [List.mem_cons, List.not_mem_nil, or_false] at hp; rcases hp with rfl | rfl <;> first | exact hd _ (Nat.le_refl _)), rfl⟩
        ·try simp (maxSteps := 4000000) only [go_sem, Prod.mk.injEq, reduceIte, Nat.reduceEqDiff, Nat.reduceAdd, Nat.reduceSub, Nat.reduceMul, Nat.reduceDiv, Nat.reducePow, Nat.reduceLT, Nat.reduceLeDiff, Nat.reduceBEq, Nat.reduceBneDiff, Int.reduceToNat, Int.reduceEq, Int.reduceLE, Int.reduceLT, reduceCtorEq, hn1d, hm1d]
         repeat (with_reducible refine And.intro ?_ ?_; next => first | assumption | trivial | omega | decide | (constructor <;> first | assumption | omega) | (simp [Keep.ok, hp_cons_apply, hset_cons, hn1d, hm1d]; done))
         refine hk _ _ _ ?_
         refine xghost (D := []) ?_ ?_ ?_ ?_
         ·exact (.cons (Sub.of_eq rfl) (.cons (Sub.of_eq rfl) (.cons (Sub.of_eq rfl) (.cons (Sub.of_eq rfl) (.cons (Sub.of_eq rfl) .nil)))))
         ·exact HpW.refl
         ·exact (by intro p hp; cases hp)
         ·omega
       ·rw [ite_f hc_1] at h
        refine LW_skip ?_
        show LW _ _ _ _ _ _ _ _
        refine xreg [(1, eS (lI .i64) areas), (2, .ptr (d, 0) 0), (4, .ptr (d, 1) 0), (6, .lit (.int .i64 (IntKind.i64.wrap (i + 1))))] (hp [((d, 0), .box [.lit (.int .i64 dx.Power), eS (lI .u8) dx.Data.x0, eS (lI .u8) dx.Data.x1, .lit (.int .i64 dx.Safe.x0), .lit (.int .i64 dx.Safe.x1)]), ((d, 1), .box [.lit (.int .i64 0), eS (lI .u8) [], eS (lI .u8) [], .lit (.int .i64 0), .lit (.int .i64 0)])] S) 0 ?_ (fun k kp hk => ?_)
        ·cases h
         exact ⟨rfl, Less.refl _⟩
        ·try simp (maxSteps := 4000000) only [go_sem, Prod.mk.injEq, reduceIte, Nat.reduceEqDiff, Nat.reduceAdd, Nat.reduceSub, Nat.reduceMul, Nat.reduceDiv, Nat.reducePow, Nat.reduceLT, Nat.reduceLeDiff, Nat.reduceBEq, Nat.reduceBneDiff, Int.reduceToNat, Int.reduceEq, Int.reduceLE, Int.reduceLT, reduceCtorEq, hn1d, hm1d]
         repeat (with_reducible refine And.intro ?_ ?_; next => first | assumption | trivial | omega | decide | (constructor <;> first | assumption | omega) | (simp [Keep.ok, hp_cons_apply, hset_cons, hn1d, hm1d]; done))
         refine hk _ _ _ ?_
         refine xghost (D := []) ?_ ?_ ?_ ?_
         ·exact (.cons (Sub.of_eq rfl) (.cons (Sub.of_eq rfl) (.cons (Sub.of_eq rfl) (.cons (Sub.of_eq rfl) .nil))))
         ·exact HpW.refl
         ·exact (by intro p hp; cases hp)
         ·omega
      ·try simp (maxSteps := 4000000) only [go_sem, Prod.mk.injEq, reduceIte, Nat.reduceEqDiff, Nat.reduceAdd, Nat.reduceSub, Nat.reduceMul, Nat.reduceDiv, Nat.reducePow, Nat.reduceLT, Nat.reduceLeDiff, Nat.reduceBEq, Nat.reduceBneDiff, Int.reduceToNat, Int.reduceEq, Int.reduceLE, Int.reduceLT, reduceCtorEq, hn1d, hm1d]
       repeat (with_reducible refine And.intro ?_ ?_; next => first | assumption | trivial | omega | decide | (constructor <;> first | assumption | omega) | (simp [Keep.ok, hp_cons_apply, hset_cons, hn1d, hm1d]; done))
       have hcall := s_stanchionref04_area_ok (hp [((d, 0), .box [.lit (.int .i64 dx.Power), eS (lI .u8) dx.Data.x0, eS (lI .u8) dx.Data.x1, .lit (.int .i64 dx.Safe.x0), .lit (.int .i64 dx.Safe.x1)]), ((d, 1), .box [.lit (.int .i64 0), eS (lI .u8) [], eS (lI .u8) [], .lit (.int .i64 0), .lit (.int .i64 0)])] S) (areas.getD (Int.toNat i) 0) hv
       refine call1_x hcall rfl ?_ ?_
       ·exact (.cons Sub.refl .nil)
       clear hcall
       rintro _ SS ⟨rfl, hSS⟩ -
       rw [hSS]
       clear hSS
       try simp (maxSteps := 4000000) only [go_sem, Prod.mk.injEq, reduceIte, Nat.reduceEqDiff, Nat.reduceAdd, Nat.reduceSub, Nat.reduceMul, Nat.reduceDiv, Nat.reducePow, Nat.reduceLT, Nat.reduceLeDiff, Nat.reduceBEq, Nat.reduceBneDiff, Int.reduceToNat, Int.reduceEq, Int.reduceLE, Int.reduceLT, reduceCtorEq, hn1d, hm1d]
       repeat (with_reducible refine And.intro ?_ ?_; next => first | assumption | trivial | omega | decide | (constructor <;> first | assumption | omega) | (simp [Keep.ok, hp_cons_apply, hset_cons, hn1d, hm1d]; done))
       refine hk _ _ _ ?_
       refine xghost (D := []) ?_ ?_ ?_ ?_
       ·exact (.cons (Sub.of_eq rfl) (.cons (Sub.of_eq rfl) (.cons (Sub.of_eq rfl) (.cons (Sub.of_eq rfl) (.cons (Sub.of_eq rfl) .nil)))))
       ·exact HpW.refl
       ·exact (by intro p hp; cases hp)
       ·omega
     ·rw [ite_f hc] at h
      obtain ⟨hq, hxe⟩ := mr_go h hx1
      clear h hx1
      subst hxe
      have h := hq
      clear hq
      refine LW_exitX (sl' := [(1, eS (lI .i64) areas), (2, .ptr (d, 0) 0), (4, .ptr (d, 1) 0), (6, .lit (.int .i64 i)), (12, .lit (.bool (decide (i < (areas.length : Int)))))]) (S' := (hp [((d, 0), .box [.lit (.int .i64 dx.Power), eS (lI .u8) dx.Data.x0, eS (lI .u8) dx.Data.x1, .lit (.int .i64 dx.Safe.x0), .lit (.int .i64 dx.Safe.x1)]), ((d, 1), .box [.lit (.int .i64 0), eS (lI .u8) [], eS (lI .u8) [], .lit (.int .i64 0), .lit (.int .i64 0)])] S)) (c' := 0) ?_ ?_
      ·refine xghost (D := []) ?_ ?_ ?_ ?_
       ·exact (.cons (Sub.of_eq rfl) (.cons (Sub.of_eq rfl) (.cons (Sub.of_eq rfl) (.cons (Sub.of_eq rfl) (.cons (Sub.of_eq rfl) .nil)))))
       ·exact HpW.refl
       ·exact (by intro p hp; cases hp)
       ·omega
      ·show LW _ _ _ _ _ _ _ _
       obtain ⟨v_1, hv_1, h⟩ := bd_some h
       refine xseq [(1, eS (lI .i64) areas), (2, .ptr (d, 0) 0), (4, .ptr (d, 1) 0), (7, .lit (.int .i64 v_1.2))] (hp [((d, 0), .box [.lit (.int .i64 v_1.1.Power), eS (lI .u8) v_1.1.Data.x0, eS (lI .u8) v_1.1.Data.x1, .lit (.int .i64 v_1.1.Safe.x0), .lit (.int .i64 v_1.1.Safe.x1)]), ((d, 1), .box [.lit (.int .i64 0), eS (lI .u8) [], eS (lI .u8) [], .lit (.int .i64 0), .lit (.int .i64 0)])] S) 2 ?_ (fun k kp hk => ?_)
       ·refine LW_seq ?_
        refine xseq [(1, eS (lI .i64) areas), (2, .ptr (d, 0) 0), (4, .ptr (d, 1) 0), (7, .lit (.int .i64 v_1.2)), (28, .lit (.bool (v_1.2 != 0)))] (hp [((d, 0), .box [.lit (.int .i64 v_1.1.Power), eS (lI .u8) v_1.1.Data.x0, eS (lI .u8) v_1.1.Data.x1, .lit (.int .i64 v_1.1.Safe.x0), .lit (.int .i64 v_1.1.Safe.x1)]), ((d, 1), .box [.lit (.int .i64 0), eS (lI .u8) [], eS (lI .u8) [], .lit (.int .i64 0), .lit (.int .i64 0)])] S) 2 ?_ (fun k kp hk => ?_)
        ·refine xcond (v_1.2 != 0) rfl (fun hc_2 => ?_) (fun hc_2 => ?_)
         ·rw [ite_t hc_2] at h
          refine xseq [(4, .ptr (d, 1) 0), (5, .lit (.int .i64 v_1.2))] (hp [((d, 0), .box [.lit (.int .i64 v_1.1.Power), eS (lI .u8) v_1.1.Data.x0, eS (lI .u8) v_1.1.Data.x1, .lit (.int .i64 v_1.1.Safe.x0), .lit (.int .i64 v_1.1.Safe.x1)]), ((d, 1), .box [.lit (.int .i64 v_1.1.Power), eS (lI .u8) v_1.1.Data.x0, eS (lI .u8) v_1.1.Data.x1, .lit (.int .i64 v_1.1.Safe.x0), .lit (.int .i64 v_1.1.Safe.x1)])] S) 2 ?_ (fun k kp hk => ?_)
          ·refine LW_ret ?_
           obtain rfl := Option.some.inj h
           show FPost _ _ _ _ _ _ _
           simp only [FPost, ares, one1, go_sem, Prod.mk.injEq, reduceIte, Nat.reduceEqDiff, Nat.reduceAdd, Nat.reduceSub, Nat.reduceMul, Nat.reduceDiv, Nat.reducePow, Nat.reduceLT, Nat.reduceLeDiff, Nat.reduceBEq, Nat.reduceBneDiff, Int.reduceToNat, Int.reduceEq, Int.reduceLE, Int.reduceLT, reduceCtorEq, hn1d, hm1d]
           repeat (with_reducible refine And.intro ?_ ?_; next => first | assumption | trivial | omega | decide | (constructor <;> first | assumption | omega) | (simp [Keep.ok, hp_cons_apply, hset_cons, hn1d, hm1d]; done))
           first | exact ⟨_, hp_less (L := []) (D := [((d, 0), .box [.lit (.int .i64 v_1.1.Power), eS (lI .u8) v_1.1.Data.x0, eS (lI .u8) v_1.1.Data.x1, .lit (.int .i64 v_1.1.Safe.x0), .lit (.int .i64 v_1.1.Safe.x1)]), ((d, 1), .box [.lit (.int .i64 v_1.1.Power), eS (lI .u8) v_1.1.Data.x0, eS (lI .u8) v_1.1.Data.x1, .lit (.int .i64 v_1.1.Safe.x0), .lit (.int .i64 v_1.1.Safe.x1)])]) (by intro p hp; simp only [List.mem_cons, List.not_mem_nil, or_false] at hp; rcases hp with rfl | rfl <;> first | exact hd _ (Nat.le_refl _)), rfl, rfl⟩ | exact ⟨_, hp_less (L := []) (D := [((d, 0), .box [.lit (.int .i64 v_1.1.Power), eS (lI .u8) v_1.1.Data.x0, eS (lI .u8) v_1.1.Data.x1, .lit (.int .i64 v_1.1.Safe.x0), .lit (.int .i64 v_1.1.Safe.x1)]), ((d, 1), .box [.lit (.int .i64 v_1.1.Power), eS (lI .u8) v_1.1.Data.x0, eS (lI .u8) v_1.1.Data.x1, .lit (.int .i64 v_1.1.Safe.x0), .lit (.int .i64 v_1.1.Safe.x1)])]) (by intro p hp; simp only [List.mem_cons, List.not_mem_nil, or_false] at hp; rcases hp with rfl | rfl <;> first | exact hd _ (Nat.le_refl _)), rfl⟩
          ·try simp (maxSteps := 4000000) only [go_sem, Prod.mk.injEq, reduceIte, Nat.reduceEqDiff, Nat.reduceAdd, Nat.reduceSub, Nat.reduceMul, Nat.reduceDiv, Nat.reducePow, Nat.reduceLT, Nat.reduceLeDiff, Nat.reduceBEq, Nat.reduceBneDiff, Int.reduceToNat, Int.reduceEq, Int.reduceLE, Int.reduceLT, reduceCtorEq, hn1d, hm1d]
           repeat (with_reducible refine And.intro ?_ ?_; next => first | assumption | trivial | omega | decide | (constructor <;> first | assumption | omega) | (simp [Keep.ok, hp_cons_apply, hset_cons, hn1d, hm1d]; done))
           refine hk _ _ _ ?_
           refine xghost (D := []) ?_ ?_ ?_ ?_
           ·exact (.cons (Sub.of_eq rfl) (.cons (Sub.of_eq rfl) .nil))
           ·exact HpW.refl
           ·exact (by intro p hp; cases hp)
           ·omega
         ·rw [ite_f hc_2] at h
          refine LW_skip ?_
          show LW _ _ _ _ _ _ _ _
          refine xjoin (J := List Int) (fun jj => [(1, eS (lI .i64) jj), (2, .ptr (d, 0) 0), (4, .ptr (d, 1) 0)]) (fun jj => (hp [((d, 0), .box [.lit (.int .i64 v_1.1.Power), eS (lI .u8) v_1.1.Data.x0, eS (lI .u8) v_1.1.Data.x1, .lit (.int .i64 v_1.1.Safe.x0), .lit (.int .i64 v_1.1.Safe.x1)]), ((d, 1), .box [.lit (.int .i64 0), eS (lI .u8) [], eS (lI .u8) [], .lit (.int .i64 0), .lit (.int .i64 0)])] S)) 2 (fun jj => s_stanchionref04_Disk_Sync_j1 v_1 jj = some r) ?_ (fun hj_1 => ?_)
          ·rintro areas_1 h
           show LW _ _ _ _ [(1, eS (lI .i64) areas_1), (2, .ptr (d, 0) 0), (4, .ptr (d, 1) 0)] (hp [((d, 0), .box [.lit (.int .i64 v_1.1.Power), eS (lI .u8) v_1.1.Data.x0, eS (lI .u8) v_1.1.Data.x1, .lit (.int .i64 v_1.1.Safe.x0), .lit (.int .i64 v_1.1.Safe.x1)]), ((d, 1), .box [.lit (.int .i64 0), eS (lI .u8) [], eS (lI .u8) [], .lit (.int .i64 0), .lit (.int .i64 0)])] S) 2 _
           replace h : s_stanchionref04_Disk_Sync_j1 v_1 areas_1 = some r := h
           rw [s_stanchionref04_Disk_Sync_j1] at h
           refine LW_seq ?_
           refine xseq [(1, eS (lI .i64) areas_1), (2, .ptr (d, 0) 0), (4, .ptr (d, 1) 0), (8, .lit (.int .i64 0))] (hp [((d, 0), .box [.lit (.int .i64 v_1.1.Power), eS (lI .u8) v_1.1.Data.x0, eS (lI .u8) v_1.1.Data.x1, .lit (.int .i64 v_1.1.Safe.x0), .lit (.int .i64 v_1.1.Safe.x1)]), ((d, 1), .box [.lit (.int .i64 0), eS (lI .u8) [], eS (lI .u8) [], .lit (.int .i64 0), .lit (.int .i64 0)])] S) 2 ?_ (fun k kp hk => ?_)
           ·refine LW_block ?_
            refine LW_loopX (c := 2) (σ := Int × Int × Int) (s := (0, v_1.1.Safe.x0, v_1.1.Safe.x1)) (fun zz => [(1, eS (lI .i64) areas_1), (2, .ptr (d, 0) 0), (4, .ptr (d, 1) 0), (8, .lit (.int .i64 zz.1))]) (fun zz => (hp [((d, 0), .box [.lit (.int .i64 v_1.1.Power), eS (lI .u8) v_1.1.Data.x0, eS (lI .u8) v_1.1.Data.x1, .lit (.int .i64 zz.2.1), .lit (.int .i64 zz.2.2)]), ((d, 1), .box [.lit (.int .i64 0), eS (lI .u8) [], eS (lI .u8) [], .lit (.int .i64 0), .lit (.int .i64 0)])] S)) h ?_ ?_
            ·clear h
             rintro ⟨i_1, m, m_1⟩ x1 d1 hd1 hf1 h hx1
             show LW _ _ _ _ [(1, eS (lI .i64) areas_1), (2, .ptr (d, 0) 0), (4, .ptr (d, 1) 0), (8, .lit (.int .i64 i_1))] (hp [((d, 0), .box [.lit (.int .i64 v_1.1.Power), eS (lI .u8) v_1.1.Data.x0, eS (lI .u8) v_1.1.Data.x1, .lit (.int .i64 m), .lit (.int .i64 m_1)]), ((d, 1), .box [.lit (.int .i64 0), eS (lI .u8) [], eS (lI .u8) [], .lit (.int .i64 0), .lit (.int .i64 0)])] S) 0 _
             have hn1d : (d = d1) = False := by simp; omega
             have hm1d : (d1 = d) = False := by simp; omega
             rw [s_stanchionref04_Disk_Sync_b2] at h
             refine LW_seq ?_
             refine xseq [(1, eS (lI .i64) areas_1), (2, .ptr (d, 0) 0), (4, .ptr (d, 1) 0), (8, .lit (.int .i64 i_1)), (38, .lit (.bool (decide (i_1 < (areas_1.length : Int)))))] (hp [((d, 0), .box [.lit (.int .i64 v_1.1.Power), eS (lI .u8) v_1.1.Data.x0, eS (lI .u8) v_1.1.Data.x1, .lit (.int .i64 m), .lit (.int .i64 m_1)]), ((d, 1), .box [.lit (.int .i64 0), eS (lI .u8) [], eS (lI .u8) [], .lit (.int .i64 0), .lit (.int .i64 0)])] S) 0 ?_ (fun k kp hk => ?_)
             ·refine xcond (decide (i_1 < (areas_1.length : Int))) rfl (fun hc_4 => ?_) (fun hc_4 => ?_)
              ·rw [ite_t hc_4] at h
               refine LW_skip ?_
               show LW _ _ _ _ _ _ _ _
               refine xjoin (J := Int × Int) (fun jj => [(1, eS (lI .i64) areas_1), (2, .ptr (d, 0) 0), (4, .ptr (d, 1) 0), (8, .lit (.int .i64 i_1))]) (fun jj => (hp [((d, 0), .box [.lit (.int .i64 v_1.1.Power), eS (lI .u8) v_1.1.Data.x0, eS (lI .u8) v_1.1.Data.x1, .lit (.int .i64 jj.1), .lit (.int .i64 jj.2)]), ((d, 1), .box [.lit (.int .i64 0), eS (lI .u8) [], eS (lI .u8) [], .lit (.int .i64 0), .lit (.int .i64 0)])] S)) 0 (fun jj => s_stanchionref04_Disk_Sync_j2 i_1 jj.1 jj.2 = some x1) ?_ (fun hj => ?_)
               ·rintro ⟨m_1, m_2⟩ h
                show LW _ _ _ _ [(1, eS (lI .i64) areas_1), (2, .ptr (d, 0) 0), (4, .ptr (d, 1) 0), (8, .lit (.int .i64 i_1))] (hp [((d, 0), .box [.lit (.int .i64 v_1.1.Power), eS (lI .u8) v_1.1.Data.x0, eS (lI .u8) v_1.1.Data.x1, .lit (.int .i64 m_1), .lit (.int .i64 m_2)]), ((d, 1), .box [.lit (.int .i64 0), eS (lI .u8) [], eS (lI .u8) [], .lit (.int .i64 0), .lit (.int .i64 0)])] S) 0 _
                replace h : s_stanchionref04_Disk_Sync_j2 i_1 m_1 m_2 = some x1 := h
                rw [s_stanchionref04_Disk_Sync_j2] at h
                refine xreg [(1, eS (lI .i64) areas_1), (2, .ptr (d, 0) 0), (4, .ptr (d, 1) 0), (8, .lit (.int .i64 (IntKind.i64.wrap (i_1 + 1))))] (hp [((d, 0), .box [.lit (.int .i64 v_1.1.Power), eS (lI .u8) v_1.1.Data.x0, eS (lI .u8) v_1.1.Data.x1, .lit (.int .i64 m_1), .lit (.int .i64 m_2)]), ((d, 1), .box [.lit (.int .i64 0), eS (lI .u8) [], eS (lI .u8) [], .lit (.int .i64 0), .lit (.int .i64 0)])] S) 0 ?_ (fun k kp hk => ?_)
                ·cases h
                 exact ⟨rfl, Less.refl _⟩
                ·try simp (maxSteps := 4000000) only [go_sem, Prod.mk.injEq, reduceIte, Nat.reduceEqDiff, Nat.reduceAdd, Nat.reduceSub, Nat.reduceMul, Nat.reduceDiv, Nat.reducePow, Nat.reduceLT, Nat.reduceLeDiff, Nat.reduceBEq, Nat.reduceBneDiff, Int.reduceToNat, Int.reduceEq, Int.reduceLE, Int.reduceLT, reduceCtorEq, hn1d, hm1d, hn1d, hm1d]
                 repeat (with_reducible refine And.intro ?_ ?_; next => first | assumption | trivial | omega | decide | (constructor <;> first | assumption | omega) | (simp [Keep.ok, hp_cons_apply, hset_cons, hn1d, hm1d, hn1d, hm1d]; done))
                 refine hk _ _ _ ?_
                 refine xghost (D := []) ?_ ?_ ?_ ?_
                 ·exact (.cons (Sub.of_eq rfl) (.cons (Sub.of_eq rfl) (.cons (Sub.of_eq rfl) (.cons (Sub.of_eq rfl) .nil))))
                 ·exact HpW.refl
                 ·exact (by intro p hp; cases hp)
                 ·omega
               ·refine LW_block ?_
                by_cases hs_1 : (areas_1.getD (Int.toNat i_1) 0) = 0
                ·rw [if_pos hs_1] at h
                 obtain ⟨hg_5, h⟩ := gd_some h
                 obtain ⟨hg_6, h⟩ := gd_some h
                 refine xregd [(1, eS (lI .i64) areas_1), (2, .ptr (d, 0) 0), (4, .ptr (d, 1) 0), (8, .lit (.int .i64 i_1))] (hp [((d, 0), .box [.lit (.int .i64 v_1.1.Power), eS (lI .u8) v_1.1.Data.x0, eS (lI .u8) v_1.1.Data.x1, .lit (.int .i64 (v_1.1.Data.x0.length : Int)), .lit (.int .i64 m_1)]), ((d, 1), .box [.lit (.int .i64 0), eS (lI .u8) [], eS (lI .u8) [], .lit (.int .i64 0), .lit (.int .i64 0)])] S) 0 ?_ (fun k kp hk => ?_)
                 ·exact hj ((v_1.1.Data.x0.length : Int), m_1) h
                 ·try simp (maxSteps := 4000000) only [go_sem, Prod.mk.injEq, reduceIte, Nat.reduceEqDiff, Nat.reduceAdd, Nat.reduceSub, Nat.reduceMul, Nat.reduceDiv, Nat.reducePow, Nat.reduceLT, Nat.reduceLeDiff, Nat.reduceBEq, Nat.reduceBneDiff, Int.reduceToNat, Int.reduceEq, Int.reduceLE, Int.reduceLT, reduceCtorEq, hn1d, hm1d, hn1d, hm1d, hs_1, vptr_0, vptr_1]
                  repeat (with_reducible refine And.intro ?_ ?_; next => first | assumption | trivial | omega | decide | (constructor <;> first | assumption | omega) | (simp [Keep.ok, hp_cons_apply, hset_cons, hn1d, hm1d, hn1d, hm1d, hs_1, vptr_0, vptr_1]; done))
                  refine hk _ _ _ ?_
                  refine xghost (D := []) ?_ ?_ ?_ ?_
                  ·exact (.cons (Sub.of_eq rfl) (.cons (Sub.of_eq rfl) (.cons (Sub.of_eq rfl) (.cons (Sub.of_eq rfl) .nil))))
                  ·exact HpW.refl
                  ·exact (by intro p hp; cases hp)
                  ·omega
                ·rw [if_neg hs_1] at h
                 by_cases hs : (areas_1.getD (Int.toNat i_1) 0) = 1
                 ·rw [if_pos hs] at h
                  obtain ⟨hg_3, h⟩ := gd_some h
                  obtain ⟨hg_4, h⟩ := gd_some h
                  refine xregd [(1, eS (lI .i64) areas_1), (2, .ptr (d, 0) 0), (4, .ptr (d, 1) 0), (8, .lit (.int .i64 i_1))] (hp [((d, 0), .box [.lit (.int .i64 v_1.1.Power), eS (lI .u8) v_1.1.Data.x0, eS (lI .u8) v_1.1.Data.x1, .lit (.int .i64 m), .lit (.int .i64 (v_1.1.Data.x1.length : Int))]), ((d, 1), .box [.lit (.int .i64 0), eS (lI .u8) [], eS (lI .u8) [], .lit (.int .i64 0), .lit (.int .i64 0)])] S) 0 ?_ (fun k kp hk => ?_)
                  ·exact hj (m, (v_1.1.Data.x1.length : Int)) h
                  ·try simp (maxSteps := 4000000) only [go_sem, Prod.mk.injEq, reduceIte, Nat.reduceEqDiff, Nat.reduceAdd, Nat.reduceSub, Nat.reduceMul, Nat.reduceDiv, Nat.reducePow, Nat.reduceLT, Nat.reduceLeDiff, Nat.reduceBEq, Nat.reduceBneDiff, Int.reduceToNat, Int.reduceEq, Int.reduceLE, Int.reduceLT, reduceCtorEq, hn1d, hm1d, hn1d, hm1d, hs, vptr_0, vptr_1]
                   repeat (with_reducible refine And.intro ?_ ?_; next => first | assumption | trivial | omega | decide | (constructor <;> first | assumption | omega) | (simp [Keep.ok, hp_cons_apply, hset_cons, hn1d, hm1d, hn1d, hm1d, hs, vptr_0, vptr_1]; done))
                   refine hk _ _ _ ?_
                   refine xghost (D := []) ?_ ?_ ?_ ?_
                   ·exact (.cons (Sub.of_eq rfl) (.cons (Sub.of_eq rfl) (.cons (Sub.of_eq rfl) (.cons (Sub.of_eq rfl) .nil))))
                   ·exact HpW.refl
                   ·exact (by intro p hp; cases hp)
                   ·omega
                 ·rw [if_neg hs] at h
                  cases h
              ·rw [ite_f hc_4] at h
               obtain ⟨hq, hxe⟩ := mr_go h hx1
               clear h hx1
               subst hxe
               have h := hq
               clear hq
               refine LW_exitX (sl' := [(1, eS (lI .i64) areas_1), (2, .ptr (d, 0) 0), (4, .ptr (d, 1) 0), (8, .lit (.int .i64 i_1)), (38, .lit (.bool (decide (i_1 < (areas_1.length : Int)))))]) (S' := (hp [((d, 0), .box [.lit (.int .i64 v_1.1.Power), eS (lI .u8) v_1.1.Data.x0, eS (lI .u8) v_1.1.Data.x1, .lit (.int .i64 m), .lit (.int .i64 m_1)]), ((d, 1), .box [.lit (.int .i64 0), eS (lI .u8) [], eS (lI .u8) [], .lit (.int .i64 0), .lit (.int .i64 0)])] S)) (c' := 0) ?_ ?_
               ·refine xghost (D := []) ?_ ?_ ?_ ?_
                ·exact (.cons (Sub.of_eq rfl) (.cons (Sub.of_eq rfl) (.cons (Sub.of_eq rfl) (.cons (Sub.of_eq rfl) (.cons (Sub.of_eq rfl) .nil)))))
                ·exact HpW.refl
                ·exact (by intro p hp; cases hp)
                ·omega
               ·show LW _ _ _ _ _ _ _ _
                refine xseq [(4, .ptr (d, 1) 0), (5, .lit (.int .i64 0))] (hp [((d, 0), .box [.lit (.int .i64 v_1.1.Power), eS (lI .u8) v_1.1.Data.x0, eS (lI .u8) v_1.1.Data.x1, .lit (.int .i64 m), .lit (.int .i64 m_1)]), ((d, 1), .box [.lit (.int .i64 v_1.1.Power), eS (lI .u8) v_1.1.Data.x0, eS (lI .u8) v_1.1.Data.x1, .lit (.int .i64 m), .lit (.int .i64 m_1)])] S) 2 ?_ (fun k kp hk => ?_)
                ·refine LW_ret ?_
                 obtain rfl := Option.some.inj h
                 show FPost _ _ _ _ _ _ _
                 simp only [FPost, ares, one1, go_sem, Prod.mk.injEq, reduceIte, Nat.reduceEqDiff, Nat.reduceAdd, Nat.reduceSub, Nat.reduceMul, Nat.reduceDiv, Nat.reducePow, Nat.reduceLT, Nat.reduceLeDiff, Nat.reduceBEq, Nat.reduceBneDiff, Int.reduceToNat, Int.reduceEq, Int.reduceLE, Int.reduceLT, reduceCtorEq, hn1d, hm1d, hn1d, hm1d]
                 repeat (with_reducible refine And.intro ?_ ?_; next => first | assumption | trivial | omega | decide | (constructor <;> first | assumption | omega) | (simp [Keep.ok, hp_cons_apply, hset_cons, hn1d, hm1d, hn1d, hm1d]; done))
                 first | exact ⟨_, hp_less (L := []) (D := [((d, 0), .box [.lit (.int .i64 v_1.1.Power), eS (lI .u8) v_1.1.Data.x0, eS (lI .u8) v_1.1.Data.x1, .lit (.int .i64 m), .lit (.int .i64 m_1)]), ((d, 1), .box [.lit (.int .i64 v_1.1.Power), eS (lI .u8) v_1.1.Data.x0, eS (lI .u8) v_1.1.Data.x1, .lit (.int .i64 m), .lit (.int .i64 m_1)])]) (by intro p hp; simp only [List.mem_cons, List.not_mem_nil, or_false] at hp; rcases hp with rfl | rfl <;> first | exact hd _ (Nat.le_refl _)), rfl, rfl⟩ | exact ⟨_, hp_less (L := []) (D := [((d, 0), .box [.lit (.int .i64 v_1.1.Power), eS (lI .u8) v_1.1.Data.x0, eS (lI .u8) v_1.1.Data.x1, .lit (.int .i64 m), .lit (.int .i64 m_1)]), ((d, 1), .box [.lit (.int .i64 v_1.1.Power), eS (lI .u8) v_1.1.Data.x0, eS (lI .u8) v_1.1.Data.x1, .lit (.int .i64 m), .lit (.int .i64 m_1)])]) (by intro p hp; simp only [List.mem_cons, List.not_mem_nil, or_false] at hp; rcases hp with rfl | rfl <;> first | exact hd _ (Nat.le_refl _)), rfl⟩
                ·try simp (maxSteps := 4000000) only [go_sem, Prod.mk.injEq, reduceIte, Nat.reduceEqDiff, Nat.reduceAdd, Nat.reduceSub, Nat.reduceMul, Nat.reduceDiv, Nat.reducePow, Nat.reduceLT, Nat.reduceLeDiff, Nat.reduceBEq, Nat.reduceBneDiff, Int.reduceToNat, Int.reduceEq, Int.reduceLE, Int.reduceLT, reduceCtorEq, hn1d, hm1d, hn1d, hm1d]
                 repeat (with_reducible refine And.intro ?_ ?_; next => first | assumption | trivial | omega | decide | (constructor <;> first | assumption | omega) | (simp [Keep.ok, hp_cons_apply, hset_cons, hn1d, hm1d, hn1d, hm1d]; done))
                 refine hk _ _ _ ?_
                 refine xghost (D := []) ?_ ?_ ?_ ?_
                 ·exact (.cons (Sub.of_eq rfl) (.cons (Sub.of_eq rfl) .nil))
                 ·exact HpW.refl
                 ·exact (by intro p hp; cases hp)
                 ·omega
             ·try simp (maxSteps := 4000000) only [go_sem, Prod.mk.injEq, reduceIte, Nat.reduceEqDiff, Nat.reduceAdd, Nat.reduceSub, Nat.reduceMul, Nat.reduceDiv, Nat.reducePow, Nat.reduceLT, Nat.reduceLeDiff, Nat.reduceBEq, Nat.reduceBneDiff, Int.reduceToNat, Int.reduceEq, Int.reduceLE, Int.reduceLT, reduceCtorEq, hn1d, hm1d, hn1d, hm1d]
              repeat (with_reducible refine And.intro ?_ ?_; next => first | assumption | trivial | omega | decide | (constructor <;> first | assumption | omega) | (simp [Keep.ok, hp_cons_apply, hset_cons, hn1d, hm1d, hn1d, hm1d]; done))
              refine hk _ _ _ ?_
              refine xghost (D := []) ?_ ?_ ?_ ?_
              ·exact (.cons (Sub.of_eq rfl) (.cons (Sub.of_eq rfl) (.cons (Sub.of_eq rfl) (.cons (Sub.of_eq rfl) (.cons (Sub.of_eq rfl) .nil)))))
              ·exact HpW.refl
              ·exact (by intro p hp; cases hp)
              ·omega
            ·refine xghost (D := []) ?_ ?_ ?_ ?_
             ·exact (.cons (Sub.of_eq rfl) (.cons (Sub.of_eq rfl) (.cons (Sub.of_eq rfl) (.cons (Sub.of_eq rfl) .nil))))
             ·exact HpW.refl
             ·exact (by intro p hp; cases hp)
             ·omega
           ·try simp (maxSteps := 4000000) only [go_sem, Prod.mk.injEq, reduceIte, Nat.reduceEqDiff, Nat.reduceAdd, Nat.reduceSub, Nat.reduceMul, Nat.reduceDiv, Nat.reducePow, Nat.reduceLT, Nat.reduceLeDiff, Nat.reduceBEq, Nat.reduceBneDiff, Int.reduceToNat, Int.reduceEq, Int.reduceLE, Int.reduceLT, reduceCtorEq, hn1d, hm1d]
            repeat (with_reducible refine And.intro ?_ ?_; next => first | assumption | trivial | omega | decide | (constructor <;> first | assumption | omega) | (simp [Keep.ok, hp_cons_apply, hset_cons, hn1d, hm1d]; done))
            refine hk _ _ _ ?_
            refine xghost (D := []) ?_ ?_ ?_ ?_
            ·exact (.cons (Sub.of_eq rfl) (.cons (Sub.of_eq rfl) (.cons (Sub.of_eq rfl) (.cons (Sub.of_eq rfl) .nil))))
            ·exact HpW.refl
            ·exact (by intro p hp; cases hp)
            ·omega
          ·refine xseq [(1, eS (lI .i64) areas), (2, .ptr (d, 0) 0), (4, .ptr (d, 1) 0), (33, .lit (.bool ((areas.length : Int) == 0)))] (hp [((d, 0), .box [.lit (.int .i64 v_1.1.Power), eS (lI .u8) v_1.1.Data.x0, eS (lI .u8) v_1.1.Data.x1, .lit (.int .i64 v_1.1.Safe.x0), .lit (.int .i64 v_1.1.Safe.x1)]), ((d, 1), .box [.lit (.int .i64 0), eS (lI .u8) [], eS (lI .u8) [], .lit (.int .i64 0), .lit (.int .i64 0)])] S) 2 ?_ (fun k kp hk => ?_)
           ·refine xcond ((areas.length : Int) == 0) rfl (fun hc_3 => ?_) (fun hc_3 => ?_)
            ·rw [ite_t hc_3] at h
             refine xreg [(1, eS (lI .i64) ([0, 1])), (2, .ptr (d, 0) 0), (4, .ptr (d, 1) 0)] (hp [((d, 0), .box [.lit (.int .i64 v_1.1.Power), eS (lI .u8) v_1.1.Data.x0, eS (lI .u8) v_1.1.Data.x1, .lit (.int .i64 v_1.1.Safe.x0), .lit (.int .i64 v_1.1.Safe.x1)]), ((d, 1), .box [.lit (.int .i64 0), eS (lI .u8) [], eS (lI .u8) [], .lit (.int .i64 0), .lit (.int .i64 0)])] S) 2 ?_ (fun k kp hk => ?_)
             ·exact hj_1 ([0, 1]) h
             ·try simp (maxSteps := 4000000) only [go_sem, Prod.mk.injEq, reduceIte, Nat.reduceEqDiff, Nat.reduceAdd, Nat.reduceSub, Nat.reduceMul, Nat.reduceDiv, Nat.reducePow, Nat.reduceLT, Nat.reduceLeDiff, Nat.reduceBEq, Nat.reduceBneDiff, Int.reduceToNat, Int.reduceEq, Int.reduceLE, Int.reduceLT, reduceCtorEq, hn1d, hm1d]
              repeat (with_reducible refine And.intro ?_ ?_; next => first | assumption | trivial | omega | decide | (constructor <;> first | assumption | omega) | (simp [Keep.ok, hp_cons_apply, hset_cons, hn1d, hm1d]; done))
              refine hk _ _ _ ?_
              refine xghost (D := []) ?_ ?_ ?_ ?_
              ·exact (.cons (Sub.young (L := (lI .i64)) (xs := ([0, 1]))) (.cons (Sub.of_eq rfl) (.cons (Sub.of_eq rfl) .nil)))
              ·exact HpW.refl
              ·exact (by intro p hp; cases hp)
              ·omega
            ·rw [ite_f hc_3] at h
             refine LW_skipX (sl' := [(1, eS (lI .i64) areas), (2, .ptr (d, 0) 0), (4, .ptr (d, 1) 0)]) (S' := (hp [((d, 0), .box [.lit (.int .i64 v_1.1.Power), eS (lI .u8) v_1.1.Data.x0, eS (lI .u8) v_1.1.Data.x1, .lit (.int .i64 v_1.1.Safe.x0), .lit (.int .i64 v_1.1.Safe.x1)]), ((d, 1), .box [.lit (.int .i64 0), eS (lI .u8) [], eS (lI .u8) [], .lit (.int .i64 0), .lit (.int .i64 0)])] S)) (c' := 2) ?_ ?_
             ·refine xghost (D := []) ?_ ?_ ?_ ?_
              ·exact (.cons (Sub.of_eq rfl) (.cons (Sub.of_eq rfl) (.cons (Sub.of_eq rfl) .nil)))
              ·exact HpW.refl
              ·exact (by intro p hp; cases hp)
              ·omega
             ·exact hj_1 areas h
           ·try simp (maxSteps := 4000000) only [go_sem, Prod.mk.injEq, reduceIte, Nat.reduceEqDiff, Nat.reduceAdd, Nat.reduceSub, Nat.reduceMul, Nat.reduceDiv, Nat.reducePow, Nat.reduceLT, Nat.reduceLeDiff, Nat.reduceBEq, Nat.reduceBneDiff, Int.reduceToNat, Int.reduceEq, Int.reduceLE, Int.reduceLT, reduceCtorEq, hn1d, hm1d]
            repeat (with_reducible refine And.intro ?_ ?_; next => first | assumption | trivial | omega | decide | (constructor <;> first | assumption | omega) | (simp [Keep.ok, hp_cons_apply, hset_cons, hn1d, hm1d]; done))
            refine hk _ _ _ ?_
            refine xghost (D := []) ?_ ?_ ?_ ?_
            ·exact (.cons (Sub.of_eq rfl) (.cons (Sub.of_eq rfl) (.cons (Sub.of_eq rfl) (.cons (Sub.of_eq rfl) .nil))))
            ·exact HpW.refl
            ·exact (by intro p hp; cases hp)
            ·omega
        ·try simp (maxSteps := 4000000) only [go_sem, Prod.mk.injEq, reduceIte, Nat.reduceEqDiff, Nat.reduceAdd, Nat.reduceSub, Nat.reduceMul, Nat.reduceDiv, Nat.reducePow, Nat.reduceLT, Nat.reduceLeDiff, Nat.reduceBEq, Nat.reduceBneDiff, Int.reduceToNat, Int.reduceEq, Int.reduceLE, Int.reduceLT, reduceCtorEq, hn1d, hm1d]
         repeat (with_reducible refine And.intro ?_ ?_; next => first | assumption | trivial | omega | decide | (constructor <;> first | assumption | omega) | (simp [Keep.ok, hp_cons_apply, hset_cons, hn1d, hm1d]; done))
         refine hk _ _ _ ?_
         refine xghost (D := []) ?_ ?_ ?_ ?_
         ·exact (.cons (Sub.of_eq rfl) (.cons (Sub.of_eq rfl) (.cons (Sub.of_eq rfl) (.cons (Sub.of_eq rfl) (.cons (Sub.of_eq rfl) .nil)))))
         ·exact HpW.refl
         ·exact (by intro p hp; cases hp)
         ·omega
       ·try simp (maxSteps := 4000000) only [go_sem, Prod.mk.injEq, reduceIte, Nat.reduceEqDiff, Nat.reduceAdd, Nat.reduceSub, Nat.reduceMul, Nat.reduceDiv, Nat.reducePow, Nat.reduceLT, Nat.reduceLeDiff, Nat.reduceBEq, Nat.reduceBneDiff, Int.reduceToNat, Int.reduceEq, Int.reduceLE, Int.reduceLT, reduceCtorEq, hn1d, hm1d]
        repeat (with_reducible refine And.intro ?_ ?_; next => first | assumption | trivial | omega | decide | (constructor <;> first | assumption | omega) | (simp [Keep.ok, hp_cons_apply, hset_cons, hn1d, hm1d]; done))
        have hcall := s_stanchionref04_Disk_draw_ok (hp [((d, 0), .box [.lit (.int .i64 dx.Power), eS (lI .u8) dx.Data.x0, eS (lI .u8) dx.Data.x1, .lit (.int .i64 dx.Safe.x0), .lit (.int .i64 dx.Safe.x1)]), ((d, 1), .box [.lit (.int .i64 0), eS (lI .u8) [], eS (lI .u8) [], .lit (.int .i64 0), .lit (.int .i64 0)])] S) dx hv_1
        refine call1_x hcall rfl ?_ ?_
        ·exact (.cons Sub.refl .nil)
        clear hcall
        rintro _ SS ⟨rfl, hSS⟩ -
        rw [hSS]
        clear hSS
        try simp (maxSteps := 4000000) only [go_sem, Prod.mk.injEq, reduceIte, Nat.reduceEqDiff, Nat.reduceAdd, Nat.reduceSub, Nat.reduceMul, Nat.reduceDiv, Nat.reducePow, Nat.reduceLT, Nat.reduceLeDiff, Nat.reduceBEq, Nat.reduceBneDiff, Int.reduceToNat, Int.reduceEq, Int.reduceLE, Int.reduceLT, reduceCtorEq, hn1d, hm1d]
        repeat (with_reducible refine And.intro ?_ ?_; next => first | assumption | trivial | omega | decide | (constructor <;> first | assumption | omega) | (simp [Keep.ok, hp_cons_apply, hset_cons, hn1d, hm1d]; done))
        refine hk _ _ _ ?_
        refine xghost (D := []) ?_ ?_ ?_ ?_
        ·exact (.cons (Sub.of_eq rfl) (.cons (Sub.of_eq rfl) (.cons (Sub.of_eq rfl) (.cons (Sub.of_eq rfl) .nil))))
        ·exact HpW.refl
        ·exact (by intro p hp; cases hp)
        ·omega
    ·try simp (maxSteps := 4000000) only [go_sem, Prod.mk.injEq, reduceIte, Nat.reduceEqDiff, Nat.reduceAdd, Nat.reduceSub, Nat.reduceMul, Nat.reduceDiv, Nat.reducePow, Nat.reduceLT, Nat.reduceLeDiff, Nat.reduceBEq, Nat.reduceBneDiff, Int.reduceToNat, Int.reduceEq, Int.reduceLE, Int.reduceLT, reduceCtorEq, hn1d, hm1d]
     repeat (with_reducible refine And.intro ?_ ?_; next => first | assumption | trivial | omega | decide | (constructor <;> first | assumption | omega) | (simp [Keep.ok, hp_cons_apply, hset_cons, hn1d, hm1d]; done))
     refine hk _ _ _ ?_
     refine xghost (D := []) ?_ ?_ ?_ ?_
     ·exact (.cons (Sub.of_eq rfl) (.cons (Sub.of_eq rfl) (.cons (Sub.of_eq rfl) (.cons (Sub.of_eq rfl) (.cons (Sub.of_eq rfl) .nil)))))
     ·exact HpW.refl
     ·exact (by intro p hp; cases hp)
     ·omega
   ·refine xghost (D := []) ?_ ?_ ?_ ?_
    ·exact (.cons (Sub.of_eq rfl) (.cons (Sub.of_eq rfl) (.cons (Sub.of_eq rfl) (.cons (Sub.of_eq rfl) .nil))))
    ·exact (.cons .refl (.cons (.box (.cons Sub.refl (.cons Sub.nil (.cons Sub.nil (.cons Sub.refl (.cons Sub.refl .nil))))) ⟨.inl rfl, ⟨.inl rfl, ⟨.inl rfl, ⟨.inl rfl, ⟨.inl rfl, trivial⟩⟩⟩⟩⟩) .nil))
    ·exact (by intro p hp; cases hp)
    ·omega
  ·try simp (maxSteps := 4000000) only [go_sem, Prod.mk.injEq, reduceIte, Nat.reduceEqDiff, Nat.reduceAdd, Nat.reduceSub, Nat.reduceMul, Nat.reduceDiv, Nat.reducePow, Nat.reduceLT, Nat.reduceLeDiff, Nat.reduceBEq, Nat.reduceBneDiff, Int.reduceToNat, Int.reduceEq, Int.reduceLE, Int.reduceLT, reduceCtorEq]
   repeat (with_reducible refine And.intro ?_ ?_; next => first | assumption | trivial | omega | decide | (constructor <;> first | assumption | omega) | (simp [Keep.ok, hp_cons_apply, hset_cons]; done))
   refine hk _ _ _ ?_
   refine xghost (D := []) ?_ ?_ ?_ ?_
   ·exact (.cons (Sub.of_eq rfl) (.cons (Sub.of_eq rfl) (.cons (Sub.of_eq rfl) (.cons (Sub.of_eq rfl) .nil))))
   ·exact HpW.refl
   ·exact (by intro p hp; cases hp)
   ·omega
 ·try simp (maxSteps := 4000000) only [go_sem, Prod.mk.injEq, reduceIte, Nat.reduceEqDiff, Nat.reduceAdd, Nat.reduceSub, Nat.reduceMul, Nat.reduceDiv, Nat.reducePow, Nat.reduceLT, Nat.reduceLeDiff, Nat.reduceBEq, Nat.reduceBneDiff, Int.reduceToNat, Int.reduceEq, Int.reduceLE, Int.reduceLT, reduceCtorEq]
  repeat (with_reducible refine And.intro ?_ ?_; next => first | assumption | trivial | omega | decide | (constructor <;> first | assumption | omega) | (simp [Keep.ok, hp_cons_apply, hset_cons]; done))
  refine hk _ _ _ ?_
  refine xghost (D := []) ?_ ?_ ?_ ?_
  ·exact (.cons (Sub.of_eq rfl) (.cons (Sub.of_eq rfl) (.cons (Sub.of_eq rfl) .nil)))
  ·exact HpW.refl
  ·exact (by intro p hp; cases hp)
  ·omega
/-! stanchion/stanchionlaw04.does -/
def s_stanchionlaw04_does (m : Gref04Disk) (o : Glaw04Op) : Option (Gref04Disk × Int) :=
 if (o.What == 1) = true then bd (s_stanchionref04_Disk_Append m o.Area o.Parts) fun (v : Gref04Disk × Int) => some (v.1, v.2) else if (o.What == 2) = true then bd (s_stanchionref04_Disk_Trim m o.Area o.N) fun (v_1 : Gref04Disk × Int) => some (v_1.1, v_1.2) else if (o.What == 3) = true then bd (s_stanchionref04_Disk_Sync m o.Areas) fun (v_2 : Gref04Disk × Int) => some (v_2.1, v_2.2) else some (m, 0)
theorem s_stanchionlaw04_does_ok (S : AHeap) (m : Gref04Disk) (o : Glaw04Op) {r : Gref04Disk × Int} (h : s_stanchionlaw04_does m o = some r) :
  AC Try.prog n_stanchionlaw04_does [.agg [.lit (.int .i64 m.Power), eS (lI .u8) m.Data.x0, eS (lI .u8) m.Data.x1, .lit (.int .i64 m.Safe.x0), .lit (.int .i64 m.Safe.x1)], .agg [.lit (.int .i64 o.What), .lit (.int .i64 o.Area), .lit (.int .i64 o.N), eS (lS (lI .u8)) o.Parts, eS (lI .i64) o.Areas]] S fun r' S' => r' = .ret (.tup [.agg [.lit (.int .i64 r.1.Power), eS (lI .u8) r.1.Data.x0, eS (lI .u8) r.1.Data.x1, .lit (.int .i64 r.1.Safe.x0), .lit (.int .i64 r.1.Safe.x1)], .lit (.int .i64 r.2)]) ∧ S' = S := by
 refine AC_of tok mixed fits_stanchionlaw04_does fun d hd => ?_
 unfold c_stanchionlaw04_does
 show LW _ _ _ _ [(0, .agg [.lit (.int .i64 m.Power), eS (lI .u8) m.Data.x0, eS (lI .u8) m.Data.x1, .lit (.int .i64 m.Safe.x0), .lit (.int .i64 m.Safe.x1)]), (1, .agg [.lit (.int .i64 o.What), .lit (.int .i64 o.Area), .lit (.int .i64 o.N), eS (lS (lI .u8)) o.Parts, eS (lI .i64) o.Areas])] (hp [] S) 0 _
 rw [s_stanchionlaw04_does] at h
 refine xseq [(2, .ptr (d, 0) 0), (3, .ptr (d, 1) 0), (4, .ptr (d, 2) 0)] (hp [((d, 0), .box [.lit (.int .i64 m.Power), eS (lI .u8) m.Data.x0, eS (lI .u8) m.Data.x1, .lit (.int .i64 m.Safe.x0), .lit (.int .i64 m.Safe.x1)]), ((d, 1), .box [.lit (.int .i64 o.What), .lit (.int .i64 o.Area), .lit (.int .i64 o.N), eS (lS (lI .u8)) o.Parts, eS (lI .i64) o.Areas]), ((d, 2), .box [.lit (.int .i64 0), .lit (.slice none 0 0), .lit (.slice none 0 0), .lit (.int .i64 0), .lit (.int .i64 0)])] S) 3 ?_ (fun k kp hk => ?_)
 ·refine LW_seq ?_
  refine xseq [(2, .ptr (d, 0) 0), (3, .ptr (d, 1) 0), (4, .ptr (d, 2) 0), (7, .lit (.int .i64 o.What))] (hp [((d, 0), .box [.lit (.int .i64 m.Power), eS (lI .u8) m.Data.x0, eS (lI .u8) m.Data.x1, .lit (.int .i64 m.Safe.x0), .lit (.int .i64 m.Safe.x1)]), ((d, 1), .box [.lit (.int .i64 o.What), .lit (.int .i64 o.Area), .lit (.int .i64 o.N), eS (lS (lI .u8)) o.Parts, eS (lI .i64) o.Areas]), ((d, 2), .box [.lit (.int .i64 0), .lit (.slice none 0 0), .lit (.slice none 0 0), .lit (.int .i64 0), .lit (.int .i64 0)])] S) 3 ?_ (fun k kp hk => ?_)
  ·refine LW_block ?_
   refine xseq [(2, .ptr (d, 0) 0), (3, .ptr (d, 1) 0), (4, .ptr (d, 2) 0), (7, .lit (.int .i64 o.What)), (8, .lit (.bool (o.What == 1)))] (hp [((d, 0), .box [.lit (.int .i64 m.Power), eS (lI .u8) m.Data.x0, eS (lI .u8) m.Data.x1, .lit (.int .i64 m.Safe.x0), .lit (.int .i64 m.Safe.x1)]), ((d, 1), .box [.lit (.int .i64 o.What), .lit (.int .i64 o.Area), .lit (.int .i64 o.N), eS (lS (lI .u8)) o.Parts, eS (lI .i64) o.Areas]), ((d, 2), .box [.lit (.int .i64 0), .lit (.slice none 0 0), .lit (.slice none 0 0), .lit (.int .i64 0), .lit (.int .i64 0)])] S) 3 ?_ (fun k kp hk => ?_)
   ·refine xcond (o.What == 1) rfl (fun hc => ?_) (fun hc => ?_)
    ·rw [ite_t hc] at h
     obtain ⟨v, hv, h⟩ := bd_some h
     refine xseq [(4, .ptr (d, 2) 0), (5, .lit (.int .i64 v.2))] (hp [((d, 0), .box [.lit (.int .i64 m.Power), eS (lI .u8) m.Data.x0, eS (lI .u8) m.Data.x1, .lit (.int .i64 m.Safe.x0), .lit (.int .i64 m.Safe.x1)]), ((d, 1), .box [.lit (.int .i64 o.What), .lit (.int .i64 o.Area), .lit (.int .i64 o.N), eS (lS (lI .u8)) o.Parts, eS (lI .i64) o.Areas]), ((d, 2), .box [.lit (.int .i64 v.1.Power), eS (lI .u8) v.1.Data.x0, eS (lI .u8) v.1.Data.x1, .lit (.int .i64 v.1.Safe.x0), .lit (.int .i64 v.1.Safe.x1)])] S) 3 ?_ (fun k kp hk => ?_)
     ·refine LW_ret ?_
      obtain rfl := Option.some.inj h
      show FPost _ _ _ _ _ _ _
      simp only [FPost, ares, one1, go_sem, Prod.mk.injEq, reduceIte, Nat.reduceEqDiff, Nat.reduceAdd, Nat.reduceSub, Nat.reduceMul, Nat.reduceDiv, Nat.reducePow, Nat.reduceLT, Nat.reduceLeDiff, Nat.reduceBEq, Nat.reduceBneDiff, Int.reduceToNat, Int.reduceEq, Int.reduceLE, Int.reduceLT, reduceCtorEq]
      repeat (with_reducible refine And.intro ?_ ?_; next => first | assumption | trivial | omega | decide | (constructor <;> first | assumption | omega) | (simp [Keep.ok, hp_cons_apply, hset_cons]; done))
      first | exact ⟨_, hp_less (L := []) (D := [((d, 0), .box [.lit (.int .i64 m.Power), eS (lI .u8) m.Data.x0, eS (lI .u8) m.Data.x1, .lit (.int .i64 m.Safe.x0), .lit (.int .i64 m.Safe.x1)]), ((d, 1), .box [.lit (.int .i64 o.What), .lit (.int .i64 o.Area), .lit (.int .i64 o.N), eS (lS (lI .u8)) o.Parts, eS (lI .i64) o.Areas]), ((d, 2), .box [.lit (.int .i64 v.1.Power), eS (lI .u8) v.1.Data.x0, eS (lI .u8) v.1.Data.x1, .lit (.int .i64 v.1.Safe.x0), .lit (.int .i64 v.1.Safe.x1)])]) (by intro p hp; simp only [List.mem_cons, List.not_mem_nil, or_false] at hp; rcases hp with rfl | rfl | rfl <;> first | exact hd _ (Nat.le_refl _)), rfl, rfl⟩ | exact ⟨_, hp_less (L := []) (D := [((d, 0), .box [.lit (.int .i64 m.Power), eS (lI .u8) m.Data.x0, eS (lI .u8) m.Data.x1, .lit (.int .i64 m.Safe.x0), .lit (.int .i64 m.Safe.x1)]), ((d, 1), .box [.lit (.int .i64 o.What), .lit (.int .i64 o.Area), .lit (.int .i64 o.N), eS (lS (lI .u8)) o.Parts, eS (lI .i64) o.Areas]), ((d, 2), .box [.lit (.int .i64 v.1.Power), eS (lI .u8) v.1.Data.x0, eS (lI .u8) v.1.Data.x1, .lit (.int .i64 v.1.Safe.x0), .lit (.int .i64 v.1.Safe.x1)])]) (by intro p hp; simp only [List.mem_cons, List.not_mem_nil, or_false] at hp; rcases hp with rfl | rfl | rfl <;> first | exact hd _ (Nat.le_refl _)), rfl⟩
     ·try simp (maxSteps := 4000000) only [go_sem, Prod.mk.injEq, reduceIte, Nat.reduceEqDiff, Nat.reduceAdd, Nat.reduceSub, Nat.reduceMul, Nat.reduceDiv, Nat.reducePow, Nat.reduceLT, Nat.reduceLeDiff, Nat.reduceBEq, Nat.reduceBneDiff, Int.reduceToNat, Int.reduceEq, Int.reduceLE, Int.reduceLT, reduceCtorEq]
      repeat (with_reducible refine And.intro ?_ ?_; next => first | assumption | trivial | omega | decide | (constructor <;> first | assumption | omega) | (simp [Keep.ok, hp_cons_apply, hset_cons]; done))
      have hcall := s_stanchionref04_Disk_Append_ok (hp [((d, 0), .box [.lit (.int .i64 m.Power), eS (lI .u8) m.Data.x0, eS (lI .u8) m.Data.x1, .lit (.int .i64 m.Safe.x0), .lit (.int .i64 m.Safe.x1)]), ((d, 1), .box [.lit (.int .i64 o.What), .lit (.int .i64 o.Area), .lit (.int .i64 o.N), eS (lS (lI .u8)) o.Parts, eS (lI .i64) o.Areas]), ((d, 2), .box [.lit (.int .i64 0), .lit (.slice none 0 0), .lit (.slice none 0 0), .lit (.int .i64 0), .lit (.int .i64 0)])] S) m o.Area o.Parts hv
      refine call1_x hcall rfl ?_ ?_
      ·exact (.cons Sub.refl (.cons Sub.refl (.cons Sub.refl .nil)))
      clear hcall
      rintro _ SS ⟨rfl, hSS⟩ -
      rw [hSS]
      clear hSS
      try simp (maxSteps := 4000000) only [go_sem, Prod.mk.injEq, reduceIte, Nat.reduceEqDiff, Nat.reduceAdd, Nat.reduceSub, Nat.reduceMul, Nat.reduceDiv, Nat.reducePow, Nat.reduceLT, Nat.reduceLeDiff, Nat.reduceBEq, Nat.reduceBneDiff, Int.reduceToNat, Int.reduceEq, Int.reduceLE, Int.reduceLT, reduceCtorEq]
      repeat (with_reducible refine And.intro ?_ ?_; next => first | assumption | trivial | omega | decide | (constructor <;> first | assumption | omega) | (simp [Keep.ok, hp_cons_apply, hset_cons]; done))
      refine hk _ _ _ ?_
      refine xghost (D := []) ?_ ?_ ?_ ?_
      ·exact (.cons (Sub.of_eq rfl) (.cons (Sub.of_eq rfl) .nil))
      ·exact HpW.refl
      ·exact (by intro p hp; cases hp)
      ·omega
    ·rw [ite_f hc] at h
     refine xseq [(2, .ptr (d, 0) 0), (3, .ptr (d, 1) 0), (4, .ptr (d, 2) 0), (7, .lit (.int .i64 o.What)), (18, .lit (.bool (o.What == 2)))] (hp [((d, 0), .box [.lit (.int .i64 m.Power), eS (lI .u8) m.Data.x0, eS (lI .u8) m.Data.x1, .lit (.int .i64 m.Safe.x0), .lit (.int .i64 m.Safe.x1)]), ((d, 1), .box [.lit (.int .i64 o.What), .lit (.int .i64 o.Area), .lit (.int .i64 o.N), eS (lS (lI .u8)) o.Parts, eS (lI .i64) o.Areas]), ((d, 2), .box [.lit (.int .i64 0), .lit (.slice none 0 0), .lit (.slice none 0 0), .lit (.int .i64 0), .lit (.int .i64 0)])] S) 3 ?_ (fun k kp hk => ?_)
     ·refine xcond (o.What == 2) rfl (fun hc_1 => ?_) (fun hc_1 => ?_)
      ·rw [ite_t hc_1] at h
       obtain ⟨v_1, hv_1, h⟩ := bd_some h
       refine xseq [(4, .ptr (d, 2) 0), (5, .lit (.int .i64 v_1.2))] (hp [((d, 0), .box [.lit (.int .i64 m.Power), eS (lI .u8) m.Data.x0, eS (lI .u8) m.Data.x1, .lit (.int .i64 m.Safe.x0), .lit (.int .i64 m.Safe.x1)]), ((d, 1), .box [.lit (.int .i64 o.What), .lit (.int .i64 o.Area), .lit (.int .i64 o.N), eS (lS (lI .u8)) o.Parts, eS (lI .i64) o.Areas]), ((d, 2), .box [.lit (.int .i64 v_1.1.Power), eS (lI .u8) v_1.1.Data.x0, eS (lI .u8) v_1.1.Data.x1, .lit (.int .i64 v_1.1.Safe.x0), .lit (.int .i64 v_1.1.Safe.x1)])] S) 3 ?_ (fun k kp hk => ?_)
       ·refine LW_ret ?_
        obtain rfl := Option.some.inj h
        show FPost _ _ _ _ _ _ _
        simp only [FPost, ares, one1, go_sem, Prod.mk.injEq, reduceIte, Nat.reduceEqDiff, Nat.reduceAdd, Nat.reduceSub, Nat.reduceMul, Nat.reduceDiv, Nat.reducePow, Nat.reduceLT, Nat.reduceLeDiff, Nat.reduceBEq, Nat.reduceBneDiff, Int.reduceToNat, Int.reduceEq, Int.reduceLE, Int.reduceLT, reduceCtorEq]
        repeat (with_reducible refine And.intro ?_ ?_; next => first | assumption | trivial | omega | decide | (constructor <;> first | assumption | omega) | (simp [Keep.ok, hp_cons_apply, hset_cons]; done))
        first | exact ⟨_, hp_less (L := []) (D := [((d, 0), .box [.lit (.int .i64 m.Power), eS (lI .u8) m.Data.x0, eS (lI .u8) m.Data.x1, .lit (.int .i64 m.Safe.x0), .lit (.int .i64 m.Safe.x1)]), ((d, 1), .box [.lit (.int .i64 o.What), .lit (.int .i64 o.Area), .lit (.int .i64 o.N), eS (lS (lI .u8)) o.Parts, eS (lI .i64) o.Areas]), ((d, 2), .box [.lit (.int .i64 v_1.1.Power), eS (lI .u8) v_1.1.Data.x0, eS (lI .u8) v_1.1.Data.x1, .lit (.int .i64 v_1.1.Safe.x0), .lit (.int .i64 v_1.1.Safe.x1)])]) (by intro p hp; simp only [List.mem_cons, List.not_mem_nil, or_false] at hp; rcases hp with rfl | rfl | rfl <;> first | exact hd _ (Nat.le_refl _)), rfl, rfl⟩ | exact ⟨_, hp_less (L := []) (D := [((d, 0), .box [.lit (.int .i64 m.Power), eS (lI .u8) m.Data.x0, eS (lI .u8) m.Data.x1, .lit (.int .i64 m.Safe.x0), .lit (.int .i64 m.Safe.x1)]), ((d, 1), .box [.lit (.int .i64 o.What), .lit (.int .i64 o.Area), .lit (.int .i64 o.N), eS (lS (lI .u8)) o.Parts, eS (lI .i64) o.Areas]), ((d, 2), .box [.lit (.int .i64 v_1.1.Power), eS (lI .u8) v_1.1.Data.x0, eS (lI .u8) v_1.1.Data.x1, .lit (.int .i64 v_1.1.Safe.x0), .lit (.int .i64 v_1.1.Safe.x1)])]) (by intro p hp; simp only [List.mem_cons, List.not_mem_nil, or_false] at hp; rcases hp with rfl | rfl | rfl <;> first | exact hd _ (Nat.le_refl _)), rfl⟩
       ·try simp (maxSteps := 4000000) only [go_sem, Prod.mk.injEq, reduceIte, Nat.reduceEqDiff, Nat.reduceAdd, Nat.reduceSub, Nat.reduceMul, Nat.reduceDiv, Nat.reducePow, Nat.reduceLT, Nat.reduceLeDiff, Nat.reduceBEq, Nat.reduceBneDiff, Int.reduceToNat, Int.reduceEq, Int.reduceLE, Int.reduceLT, reduceCtorEq]
        repeat (with_reducible refine And.intro ?_ ?_; next => first | assumption | trivial | omega | decide | (constructor <;> first | assumption | omega) | (simp [Keep.ok, hp_cons_apply, hset_cons]; done))
        have hcall := s_stanchionref04_Disk_Trim_ok (hp [((d, 0), .box [.lit (.int .i64 m.Power), eS (lI .u8) m.Data.x0, eS (lI .u8) m.Data.x1, .lit (.int .i64 m.Safe.x0), .lit (.int .i64 m.Safe.x1)]), ((d, 1), .box [.lit (.int .i64 o.What), .lit (.int .i64 o.Area), .lit (.int .i64 o.N), eS (lS (lI .u8)) o.Parts, eS (lI .i64) o.Areas]), ((d, 2), .box [.lit (.int .i64 0), .lit (.slice none 0 0), .lit (.slice none 0 0), .lit (.int .i64 0), .lit (.int .i64 0)])] S) m o.Area o.N hv_1
        refine call1_x hcall rfl ?_ ?_
        ·exact (.cons Sub.refl (.cons Sub.refl (.cons Sub.refl .nil)))
        clear hcall
        rintro _ SS ⟨rfl, hSS⟩ -
        rw [hSS]
        clear hSS
        try simp (maxSteps := 4000000) only [go_sem, Prod.mk.injEq, reduceIte, Nat.reduceEqDiff, Nat.reduceAdd, Nat.reduceSub, Nat.reduceMul, Nat.reduceDiv, Nat.reducePow, Nat.reduceLT, Nat.reduceLeDiff, Nat.reduceBEq, Nat.reduceBneDiff, Int.reduceToNat, Int.reduceEq, Int.reduceLE, Int.reduceLT, reduceCtorEq]
        repeat (with_reducible refine And.intro ?_ ?_; next => first | assumption | trivial | omega | decide | (constructor <;> first | assumption | omega) | (simp [Keep.ok, hp_cons_apply, hset_cons]; done))
        refine hk _ _ _ ?_
        refine xghost (D := []) ?_ ?_ ?_ ?_
        ·exact (.cons (Sub.of_eq rfl) (.cons (Sub.of_eq rfl) .nil))
        ·exact HpW.refl
        ·exact (by intro p hp; cases hp)
        ·omega
      ·rw [ite_f hc_1] at h
       refine xseq [(2, .ptr (d, 0) 0), (3, .ptr (d, 1) 0), (4, .ptr (d, 2) 0), (28, .lit (.bool (o.What == 3)))] (hp [((d, 0), .box [.lit (.int .i64 m.Power), eS (lI .u8) m.Data.x0, eS (lI .u8) m.Data.x1, .lit (.int .i64 m.Safe.x0), .lit (.int .i64 m.Safe.x1)]), ((d, 1), .box [.lit (.int .i64 o.What), .lit (.int .i64 o.Area), .lit (.int .i64 o.N), eS (lS (lI .u8)) o.Parts, eS (lI .i64) o.Areas]), ((d, 2), .box [.lit (.int .i64 0), .lit (.slice none 0 0), .lit (.slice none 0 0), .lit (.int .i64 0), .lit (.int .i64 0)])] S) 3 ?_ (fun k kp hk => ?_)
       ·refine xcond (o.What == 3) rfl (fun hc_2 => ?_) (fun hc_2 => ?_)
        ·rw [ite_t hc_2] at h
         obtain ⟨v_2, hv_2, h⟩ := bd_some h
         refine xseq [(4, .ptr (d, 2) 0), (5, .lit (.int .i64 v_2.2))] (hp [((d, 0), .box [.lit (.int .i64 m.Power), eS (lI .u8) m.Data.x0, eS (lI .u8) m.Data.x1, .lit (.int .i64 m.Safe.x0), .lit (.int .i64 m.Safe.x1)]), ((d, 1), .box [.lit (.int .i64 o.What), .lit (.int .i64 o.Area), .lit (.int .i64 o.N), eS (lS (lI .u8)) o.Parts, eS (lI .i64) o.Areas]), ((d, 2), .box [.lit (.int .i64 v_2.1.Power), eS (lI .u8) v_2.1.Data.x0, eS (lI .u8) v_2.1.Data.x1, .lit (.int .i64 v_2.1.Safe.x0), .lit (.int .i64 v_2.1.Safe.x1)])] S) 3 ?_ (fun k kp hk => ?_)
         ·refine LW_ret ?_
          obtain rfl := Option.some.inj h
          show FPost _ _ _ _ _ _ _
          simp only [FPost, ares, one1, go_sem, Prod.mk.injEq, reduceIte, Nat.reduceEqDiff, Nat.reduceAdd, Nat.reduceSub, Nat.reduceMul, Nat.reduceDiv, Nat.reducePow, Nat.reduceLT, Nat.reduceLeDiff, Nat.reduceBEq, Nat.reduceBneDiff, Int.reduceToNat, Int.reduceEq, Int.reduceLE, Int.reduceLT, reduceCtorEq]
          repeat (with_reducible refine And.intro ?_ ?_; next => first | assumption | trivial | omega | decide | (constructor <;> first | assumption | omega) | (simp [Keep.ok, hp_cons_apply, hset_cons]; done))
          first | exact ⟨_, hp_less (L := []) (D := [((d, 0), .box [.lit (.int .i64 m.Power), eS (lI .u8) m.Data.x0, eS (lI .u8) m.Data.x1, .lit (.int .i64 m.Safe.x0), .lit (.int .i64 m.Safe.x1)]), ((d, 1), .box [.lit (.int .i64 o.What), .lit (.int .i64 o.Area), .lit (.int .i64 o.N), eS (lS (lI .u8)) o.Parts, eS (lI .i64) o.Areas]), ((d, 2), .box [.lit (.int .i64 v_2.1.Power), eS (lI .u8) v_2.1.Data.x0, eS (lI .u8) v_2.1.Data.x1, .lit (.int .i64 v_2.1.Safe.x0), .lit (.int .i64 v_2.1.Safe.x1)])]) (by intro p hp; simp only [List.mem_cons, List.not_mem_nil, or_false] at hp; rcases hp with rfl | rfl | rfl <;> first | exact hd _ (Nat.le_refl _)), rfl, rfl⟩ | exact ⟨_, hp_less (L := []) (D := [((d, 0), .box [.lit (.int .i64 m.Power), eS (lI .u8) m.Data.x0, eS (lI .u8) m.Data.x1, .lit (.int .i64 m.Safe.x0), .lit (.int .i64 m.Safe.x1)]), ((d, 1), .box [.lit (.int .i64 o.What), .lit (.int .i64 o.Area), .lit (.int .i64 o.N), eS (lS (lI .u8)) o.Parts, eS (lI .i64) o.Areas]), ((d, 2), .box [.lit (.int .i64 v_2.1.Power), eS (lI .u8) v_2.1.Data.x0, eS (lI .u8) v_2.1.Data.x1, .lit (.int .i64 v_2.1.Safe.x0), .lit (.int .i64 v_2.1.Safe.x1)])]) (by intro p hp; simp only [List.mem_cons, List.not_mem_nil, or_false] at hp; rcases hp with rfl | rfl | rfl <;> first | exact hd _ (Nat.le_refl _)), rfl⟩
         ·try simp (maxSteps := 4000000) only [go_sem, Prod.mk.injEq, reduceIte, Nat.reduceEqDiff, Nat.reduceAdd, Nat.reduceSub, Nat.reduceMul, Nat.reduceDiv, Nat.reducePow, Nat.reduceLT, Nat.reduceLeDiff, Nat.reduceBEq, Nat.reduceBneDiff, Int.reduceToNat, Int.reduceEq, Int.reduceLE, Int.reduceLT, reduceCtorEq]
          repeat (with_reducible refine And.intro ?_ ?_; next => first | assumption | trivial | omega | decide | (constructor <;> first | assumption | omega) | (simp [Keep.ok, hp_cons_apply, hset_cons]; done))
          have hcall := s_stanchionref04_Disk_Sync_ok (hp [((d, 0), .box [.lit (.int .i64 m.Power), eS (lI .u8) m.Data.x0, eS (lI .u8) m.Data.x1, .lit (.int .i64 m.Safe.x0), .lit (.int .i64 m.Safe.x1)]), ((d, 1), .box [.lit (.int .i64 o.What), .lit (.int .i64 o.Area), .lit (.int .i64 o.N), eS (lS (lI .u8)) o.Parts, eS (lI .i64) o.Areas]), ((d, 2), .box [.lit (.int .i64 0), .lit (.slice none 0 0), .lit (.slice none 0 0), .lit (.int .i64 0), .lit (.int .i64 0)])] S) m o.Areas hv_2
          refine call1_x hcall rfl ?_ ?_
          ·exact (.cons Sub.refl (.cons Sub.refl .nil))
          clear hcall
          rintro _ SS ⟨rfl, hSS⟩ -
          rw [hSS]
          clear hSS
          try simp (maxSteps := 4000000) only [go_sem, Prod.mk.injEq, reduceIte, Nat.reduceEqDiff, Nat.reduceAdd, Nat.reduceSub, Nat.reduceMul, Nat.reduceDiv, Nat.reducePow, Nat.reduceLT, Nat.reduceLeDiff, Nat.reduceBEq, Nat.reduceBneDiff, Int.reduceToNat, Int.reduceEq, Int.reduceLE, Int.reduceLT, reduceCtorEq]
          repeat (with_reducible refine And.intro ?_ ?_; next => first | assumption | trivial | omega | decide | (constructor <;> first | assumption | omega) | (simp [Keep.ok, hp_cons_apply, hset_cons]; done))
          refine hk _ _ _ ?_
          refine xghost (D := []) ?_ ?_ ?_ ?_
          ·exact (.cons (Sub.of_eq rfl) (.cons (Sub.of_eq rfl) .nil))
          ·exact HpW.refl
          ·exact (by intro p hp; cases hp)
          ·omega
        ·rw [ite_f hc_2] at h
         refine LW_skip ?_
         show LW _ _ _ _ _ _ _ _
         refine xseq [(4, .ptr (d, 2) 0), (5, .lit (.int .i64 0))] (hp [((d, 0), .box [.lit (.int .i64 m.Power), eS (lI .u8) m.Data.x0, eS (lI .u8) m.Data.x1, .lit (.int .i64 m.Safe.x0), .lit (.int .i64 m.Safe.x1)]), ((d, 1), .box [.lit (.int .i64 o.What), .lit (.int .i64 o.Area), .lit (.int .i64 o.N), eS (lS (lI .u8)) o.Parts, eS (lI .i64) o.Areas]), ((d, 2), .box [.lit (.int .i64 m.Power), eS (lI .u8) m.Data.x0, eS (lI .u8) m.Data.x1, .lit (.int .i64 m.Safe.x0), .lit (.int .i64 m.Safe.x1)])] S) 3 ?_ (fun k kp hk => ?_)
         ·refine LW_ret ?_
          obtain rfl := Option.some.inj h
          show FPost _ _ _ _ _ _ _
          simp only [FPost, ares, one1, go_sem, Prod.mk.injEq, reduceIte, Nat.reduceEqDiff, Nat.reduceAdd, Nat.reduceSub, Nat.reduceMul, Nat.reduceDiv, Nat.reducePow, Nat.reduceLT, Nat.reduceLeDiff, Nat.reduceBEq, Nat.reduceBneDiff, Int.reduceToNat, Int.reduceEq, Int.reduceLE, Int.reduceLT, reduceCtorEq]
          repeat (with_reducible refine And.intro ?_ ?_; next => first | assumption | trivial | omega | decide | (constructor <;> first | assumption | omega) | (simp [Keep.ok, hp_cons_apply, hset_cons]; done))
          first | exact ⟨_, hp_less (L := []) (D := [((d, 0), .box [.lit (.int .i64 m.Power), eS (lI .u8) m.Data.x0, eS (lI .u8) m.Data.x1, .lit (.int .i64 m.Safe.x0), .lit (.int .i64 m.Safe.x1)]), ((d, 1), .box [.lit (.int .i64 o.What), .lit (.int .i64 o.Area), .lit (.int .i64 o.N), eS (lS (lI .u8)) o.Parts, eS (lI .i64) o.Areas]), ((d, 2), .box [.lit (.int .i64 m.Power), eS (lI .u8) m.Data.x0, eS (lI .u8) m.Data.x1, .lit (.int .i64 m.Safe.x0), .lit (.int .i64 m.Safe.x1)])]) (by intro p hp; simp only [List.mem_cons, List.not_mem_nil, or_false] at hp; rcases hp with rfl | rfl | rfl <;> first | exact hd _ (Nat.le_refl _)), rfl, rfl⟩ | exact ⟨_, hp_less (L := []) (D := [((d, 0), .box [.lit (.int .i64 m.Power), eS (lI .u8) m.Data.x0, eS (lI .u8) m.Data.x1, .lit (.int .i64 m.Safe.x0), .lit (.int .i64 m.Safe.x1)]), ((d, 1), .box [.lit (.int .i64 o.What), .lit (.int .i64 o.Area), .lit (.int .i64 o.N), eS (lS (lI .u8)) o.Parts, eS (lI .i64) o.Areas]), ((d, 2), .box [.lit (.int .i64 m.Power), eS (lI .u8) m.Data.x0, eS (lI .u8) m.Data.x1, .lit (.int .i64 m.Safe.x0), .lit (.int .i64 m.Safe.x1)])]) (by intro p hp; simp only [List.mem_cons, List.not_mem_nil, or_false] at hp; rcases hp with rfl | rfl | rfl <;> first | exact hd _ (Nat.le_refl _)), rfl⟩
         ·try simp (maxSteps := 4000000) only [go_sem, Prod.mk.injEq, reduceIte, Nat.reduceEqDiff, Nat.reduceAdd, Nat.reduceSub, Nat.reduceMul, Nat.reduceDiv, Nat.reducePow, Nat.reduceLT, Nat.reduceLeDiff, Nat.reduceBEq, Nat.reduceBneDiff, Int.reduceToNat, Int.reduceEq, Int.reduceLE, Int.reduceLT, reduceCtorEq]
          repeat (with_reducible refine And.intro ?_ ?_; next => first | assumption | trivial | omega | decide | (constructor <;> first | assumption | omega) | (simp [Keep.ok, hp_cons_apply, hset_cons]; done))
          refine hk _ _ _ ?_
          refine xghost (D := []) ?_ ?_ ?_ ?_
          ·exact (.cons (Sub.of_eq rfl) (.cons (Sub.of_eq rfl) .nil))
          ·exact HpW.refl
          ·exact (by intro p hp; cases hp)
          ·omega
       ·try simp (maxSteps := 4000000) only [go_sem, Prod.mk.injEq, reduceIte, Nat.reduceEqDiff, Nat.reduceAdd, Nat.reduceSub, Nat.reduceMul, Nat.reduceDiv, Nat.reducePow, Nat.reduceLT, Nat.reduceLeDiff, Nat.reduceBEq, Nat.reduceBneDiff, Int.reduceToNat, Int.reduceEq, Int.reduceLE, Int.reduceLT, reduceCtorEq]
        repeat (with_reducible refine And.intro ?_ ?_; next => first | assumption | trivial | omega | decide | (constructor <;> first | assumption | omega) | (simp [Keep.ok, hp_cons_apply, hset_cons]; done))
        refine hk _ _ _ ?_
        refine xghost (D := []) ?_ ?_ ?_ ?_
        ·exact (.cons (Sub.of_eq rfl) (.cons (Sub.of_eq rfl) (.cons (Sub.of_eq rfl) (.cons (Sub.of_eq rfl) .nil))))
        ·exact HpW.refl
        ·exact (by intro p hp; cases hp)
        ·omega
     ·try simp (maxSteps := 4000000) only [go_sem, Prod.mk.injEq, reduceIte, Nat.reduceEqDiff, Nat.reduceAdd, Nat.reduceSub, Nat.reduceMul, Nat.reduceDiv, Nat.reducePow, Nat.reduceLT, Nat.reduceLeDiff, Nat.reduceBEq, Nat.reduceBneDiff, Int.reduceToNat, Int.reduceEq, Int.reduceLE, Int.reduceLT, reduceCtorEq]
      repeat (with_reducible refine And.intro ?_ ?_; next => first | assumption | trivial | omega | decide | (constructor <;> first | assumption | omega) | (simp [Keep.ok, hp_cons_apply, hset_cons]; done))
      refine hk _ _ _ ?_
      refine xghost (D := []) ?_ ?_ ?_ ?_
      ·exact (.cons (Sub.of_eq rfl) (.cons (Sub.of_eq rfl) (.cons (Sub.of_eq rfl) (.cons (Sub.of_eq rfl) (.cons (Sub.of_eq rfl) .nil)))))
      ·exact HpW.refl
      ·exact (by intro p hp; cases hp)
      ·omega
   ·try simp (maxSteps := 4000000) only [go_sem, Prod.mk.injEq, reduceIte, Nat.reduceEqDiff, Nat.reduceAdd, Nat.reduceSub, Nat.reduceMul, Nat.reduceDiv, Nat.reducePow, Nat.reduceLT, Nat.reduceLeDiff, Nat.reduceBEq, Nat.reduceBneDiff, Int.reduceToNat, Int.reduceEq, Int.reduceLE, Int.reduceLT, reduceCtorEq]
    repeat (with_reducible refine And.intro ?_ ?_; next => first | assumption | trivial | omega | decide | (constructor <;> first | assumption | omega) | (simp [Keep.ok, hp_cons_apply, hset_cons]; done))
    refine hk _ _ _ ?_
    refine xghost (D := []) ?_ ?_ ?_ ?_
    ·exact (.cons (Sub.of_eq rfl) (.cons (Sub.of_eq rfl) (.cons (Sub.of_eq rfl) (.cons (Sub.of_eq rfl) (.cons (Sub.of_eq rfl) .nil)))))
    ·exact HpW.refl
    ·exact (by intro p hp; cases hp)
    ·omega
  ·try simp (maxSteps := 4000000) only [go_sem, Prod.mk.injEq, reduceIte, Nat.reduceEqDiff, Nat.reduceAdd, Nat.reduceSub, Nat.reduceMul, Nat.reduceDiv, Nat.reducePow, Nat.reduceLT, Nat.reduceLeDiff, Nat.reduceBEq, Nat.reduceBneDiff, Int.reduceToNat, Int.reduceEq, Int.reduceLE, Int.reduceLT, reduceCtorEq]
   repeat (with_reducible refine And.intro ?_ ?_; next => first | assumption | trivial | omega | decide | (constructor <;> first | assumption | omega) | (simp [Keep.ok, hp_cons_apply, hset_cons]; done))
   refine hk _ _ _ ?_
   refine xghost (D := []) ?_ ?_ ?_ ?_
   ·exact (.cons (Sub.of_eq rfl) (.cons (Sub.of_eq rfl) (.cons (Sub.of_eq rfl) (.cons (Sub.of_eq rfl) .nil))))
   ·exact HpW.refl
   ·exact (by intro p hp; cases hp)
   ·omega
 ·try simp (maxSteps := 4000000) only [go_sem, Prod.mk.injEq, reduceIte, Nat.reduceEqDiff, Nat.reduceAdd, Nat.reduceSub, Nat.reduceMul, Nat.reduceDiv, Nat.reducePow, Nat.reduceLT, Nat.reduceLeDiff, Nat.reduceBEq, Nat.reduceBneDiff, Int.reduceToNat, Int.reduceEq, Int.reduceLE, Int.reduceLT, reduceCtorEq]
  repeat (with_reducible refine And.intro ?_ ?_; next => first | assumption | trivial | omega | decide | (constructor <;> first | assumption | omega) | (simp [Keep.ok, hp_cons_apply, hset_cons]; done))
  refine hk _ _ _ ?_
  refine xghost (D := []) ?_ ?_ ?_ ?_
  ·exact (.cons (Sub.of_eq rfl) (.cons (Sub.of_eq rfl) (.cons (Sub.of_eq rfl) .nil)))
  ·exact HpW.refl
  ·exact (by intro p hp; cases hp)
  ·omega
/-! (*stanchion/disk.Disk).Trim -/
def s_disk_Disk_Trim_j2 (v_6 : Int × GdiskDisk) (m : List Int) (m_1 : Int) (m_2 : List Int) (m_3 : Int) : Option (Int × GdiskDisk) :=
 some (v_6.1, (GdiskDisk.mk v_6.2.power (Ar2.mk (Gdiskarea.mk m m_1) (Gdiskarea.mk m_2 m_3))))
def s_disk_Disk_Trim_j1 (dx : GdiskDisk) (size : Int) (n_1 : Int) (t28 : Bool) : Option (Int × GdiskDisk) :=
 bd (s_disk_Disk_draw dx) fun (v_6 : Int × GdiskDisk) => if (v_6.1 == 0) = true then if n_1 = 0 then gd ((0 ≤ 0 ∧ 0 ≤ size ∧ Int.toNat size ≤ v_6.2.areas.x0.data.length)) (s_disk_Disk_Trim_j2 v_6 (v_6.2.areas.x0.data.take (Int.toNat size)) (if size < v_6.2.areas.x0.safe then size else v_6.2.areas.x0.safe) v_6.2.areas.x1.data v_6.2.areas.x1.safe) else if n_1 = 1 then gd ((0 ≤ 0 ∧ 0 ≤ size ∧ Int.toNat size ≤ v_6.2.areas.x1.data.length)) (s_disk_Disk_Trim_j2 v_6 v_6.2.areas.x0.data v_6.2.areas.x0.safe (v_6.2.areas.x1.data.take (Int.toNat size)) (if size < v_6.2.areas.x1.safe then size else v_6.2.areas.x1.safe)) else none else s_disk_Disk_Trim_j2 v_6 v_6.2.areas.x0.data v_6.2.areas.x0.safe v_6.2.areas.x1.data v_6.2.areas.x1.safe
def s_disk_Disk_Trim (dx : GdiskDisk) (n : Int) (size : Int) : Option (Int × GdiskDisk) :=
 if n = 0 then bd (s_disk_there ([0])) fun (v_5 : Bool) => if (((!v_5) || (decide (size < 0))) || (decide ((dx.areas.x0.data.length : Int) < size))) = true then some (41, dx) else s_disk_Disk_Trim_j1 dx size 0 (((!v_5) || (decide (size < 0))) || (decide ((dx.areas.x0.data.length : Int) < size))) else if n = 1 then bd (s_disk_there ([1])) fun (v_3 : Bool) => if (((!v_3) || (decide (size < 0))) || (decide ((dx.areas.x1.data.length : Int) < size))) = true then some (41, dx) else s_disk_Disk_Trim_j1 dx size 1 (((!v_3) || (decide (size < 0))) || (decide ((dx.areas.x1.data.length : Int) < size))) else bd (s_disk_there ([n])) fun (v_1 : Bool) => gd ((!((!v_1) || (decide (size < 0)))) = true → False) (if (((!v_1) || (decide (size < 0))) || true) = true then some (41, dx) else s_disk_Disk_Trim_j1 dx size n (((!v_1) || (decide (size < 0))) || true))
theorem s_disk_Disk_Trim_ok (S : AHeap) {n0 : Name} (dx : GdiskDisk) (n : Int) (size : Int) {r : Int × GdiskDisk} (hS0 : S n0 = some (oGdiskDisk dx)) (h : s_disk_Disk_Trim dx n size = some r) :
  AC Try.prog n_disk_Disk_Trim [.ptr n0 0, .lit (.int .i64 n), .lit (.int .i64 size)] S fun r' S' => r' = .ret (.lit (.int .i64 r.1)) ∧ S' = S.set n0 (oGdiskDisk r.2) := by
 refine AC_of tok mixed fits_disk_Disk_Trim fun d hd => ?_
 unfold c_disk_Disk_Trim
 show LW _ _ _ _ [(0, .ptr n0 0), (1, .lit (.int .i64 n)), (2, .lit (.int .i64 size))] S 0 _
 refine LW_heap (hp_in hS0) ?_
 have hl_n0 : n0.1 < d := lt_of_hd hd hS0
 have hq_n0 : ∀ k, (n0 = (d, k)) = False := fun k => ne_deep hl_n0
 have hr_n0 : ∀ k, ((d, k) = n0) = False := fun k => ne_deep' hl_n0
 show LW _ _ _ _ [(0, .ptr n0 0), (1, .lit (.int .i64 n)), (2, .lit (.int .i64 size))] (hp [(n0, .box [.lit (.int .i64 dx.power), eO (lI .u8) dx.areas.x0.data, .lit (.int .i64 dx.areas.x0.safe), eO (lI .u8) dx.areas.x1.data, .lit (.int .i64 dx.areas.x1.safe)])] S) 0 _
 rw [s_disk_Disk_Trim] at h
 refine xseq [(0, .ptr n0 0), (1, .lit (.int .i64 n)), (2, .lit (.int .i64 size))] (hp [(n0, .box [.lit (.int .i64 dx.power), eO (lI .u8) dx.areas.x0.data, .lit (.int .i64 dx.areas.x0.safe), eO (lI .u8) dx.areas.x1.data, .lit (.int .i64 dx.areas.x1.safe)])] S) 0 ?_ (fun k kp hk => ?_)
 ·refine xjoin (J := Int × Bool) (fun jj => [(0, .ptr n0 0), (1, .lit (.int .i64 jj.1)), (2, .lit (.int .i64 size)), (28, .lit (.bool jj.2))]) (fun jj => (hp [(n0, .box [.lit (.int .i64 dx.power), eO (lI .u8) dx.areas.x0.data, .lit (.int .i64 dx.areas.x0.safe), eO (lI .u8) dx.areas.x1.data, .lit (.int .i64 dx.areas.x1.safe)])] S)) 1 (fun jj => s_disk_Disk_Trim_j1 dx size jj.1 jj.2 = some r) ?_ (fun hj_1 => ?_)
  ·rintro ⟨n_1, t28⟩ h
   show LW _ _ _ _ [(0, .ptr n0 0), (1, .lit (.int .i64 n_1)), (2, .lit (.int .i64 size)), (28, .lit (.bool t28))] (hp [(n0, .box [.lit (.int .i64 dx.power), eO (lI .u8) dx.areas.x0.data, .lit (.int .i64 dx.areas.x0.safe), eO (lI .u8) dx.areas.x1.data, .lit (.int .i64 dx.areas.x1.safe)])] S) 1 _
   replace h : s_disk_Disk_Trim_j1 dx size n_1 t28 = some r := h
   rw [s_disk_Disk_Trim_j1] at h
   obtain ⟨v_6, hv_6, h⟩ := bd_some h
   refine xseq [(0, .ptr n0 0), (1, .lit (.int .i64 n_1)), (2, .lit (.int .i64 size)), (7, .lit (.int .i64 v_6.1))] (hp [(n0, .box [.lit (.int .i64 v_6.2.power), eO (lI .u8) v_6.2.areas.x0.data, .lit (.int .i64 v_6.2.areas.x0.safe), eO (lI .u8) v_6.2.areas.x1.data, .lit (.int .i64 v_6.2.areas.x1.safe)])] S) 1 ?_ (fun k kp hk => ?_)
   ·refine xjoin (J := List Int × Int × List Int × Int) (fun jj => [(7, .lit (.int .i64 v_6.1))]) (fun jj => (hp [(n0, .box [.lit (.int .i64 v_6.2.power), eO (lI .u8) jj.1, .lit (.int .i64 jj.2.1), eO (lI .u8) jj.2.2.1, .lit (.int .i64 jj.2.2.2)])] S)) 2 (fun jj => s_disk_Disk_Trim_j2 v_6 jj.1 jj.2.1 jj.2.2.1 jj.2.2.2 = some r) ?_ (fun hj => ?_)
    ·rintro ⟨m, m_1, m_2, m_3⟩ h
     show LW _ _ _ _ [(7, .lit (.int .i64 v_6.1))] (hp [(n0, .box [.lit (.int .i64 v_6.2.power), eO (lI .u8) m, .lit (.int .i64 m_1), eO (lI .u8) m_2, .lit (.int .i64 m_3)])] S) 2 _
     replace h : s_disk_Disk_Trim_j2 v_6 m m_1 m_2 m_3 = some r := h
     rw [s_disk_Disk_Trim_j2] at h
     refine xseq [(6, .lit (.int .i64 v_6.1))] (hp [(n0, .box [.lit (.int .i64 v_6.2.power), eO (lI .u8) m, .lit (.int .i64 m_1), eO (lI .u8) m_2, .lit (.int .i64 m_3)])] S) 2 ?_ (fun k kp hk => ?_)
     ·refine LW_ret ?_
      obtain rfl := Option.some.inj h
      show FPost _ _ _ _ _ _ _
      exact ⟨_, hp_less (L := [(n0, .box [.lit (.int .i64 v_6.2.power), eO (lI .u8) m, .lit (.int .i64 m_1), eO (lI .u8) m_2, .lit (.int .i64 m_3)])]) (D := []) (by intro p hp; cases hp), rfl, rfl⟩
     ·try simp (maxSteps := 4000000) only [go_sem, Prod.mk.injEq, reduceIte, Nat.reduceEqDiff, Nat.reduceAdd, Nat.reduceSub, Nat.reduceMul, Nat.reduceDiv, Nat.reducePow, Nat.reduceLT, Nat.reduceLeDiff, Nat.reduceBEq, Nat.reduceBneDiff, Int.reduceToNat, Int.reduceEq, Int.reduceLE, Int.reduceLT, reduceCtorEq, oGdiskDisk, hq_n0, hr_n0]
      repeat (with_reducible refine And.intro ?_ ?_; next => first | assumption | trivial | omega | decide | (constructor <;> first | assumption | omega) | (simp [Keep.ok, hp_cons_apply, hset_cons, oGdiskDisk, hq_n0, hr_n0]; done))
      refine hk _ _ _ ?_
      refine xghost (D := []) ?_ ?_ ?_ ?_
      ·exact (.cons (Sub.of_eq rfl) .nil)
      ·exact HpW.refl
      ·exact (by intro p hp; cases hp)
      ·omega
    ·refine xseq [(0, .ptr n0 0), (1, .lit (.int .i64 n_1)), (2, .lit (.int .i64 size)), (7, .lit (.int .i64 v_6.1)), (32, .lit (.bool (v_6.1 == 0)))] (hp [(n0, .box [.lit (.int .i64 v_6.2.power), eO (lI .u8) v_6.2.areas.x0.data, .lit (.int .i64 v_6.2.areas.x0.safe), eO (lI .u8) v_6.2.areas.x1.data, .lit (.int .i64 v_6.2.areas.x1.safe)])] S) 1 ?_ (fun k kp hk => ?_)
     ·refine xcond (v_6.1 == 0) rfl (fun hc_9 => ?_) (fun hc_9 => ?_)
      ·rw [ite_t hc_9] at h
       by_cases hs_3 : n_1 = 0
       ·subst hs_3
        rw [if_pos rfl] at h
        refine xseq [(2, .lit (.int .i64 size)), (7, .lit (.int .i64 v_6.1)), (8, .ptr n0 1)] (hp [(n0, .box [.lit (.int .i64 v_6.2.power), eO (lI .u8) v_6.2.areas.x0.data, .lit (.int .i64 v_6.2.areas.x0.safe), eO (lI .u8) v_6.2.areas.x1.data, .lit (.int .i64 v_6.2.areas.x1.safe)])] S) 1 ?_ (fun k kp hk => ?_)
        ·refine LW_gh (Ghost.openX (L := (lI .u8)) (xs := v_6.2.areas.x0.data) (n := n0) (i := 1) (cs := [.lit (.int .i64 v_6.2.power), eO (lI .u8) v_6.2.areas.x0.data, .lit (.int .i64 v_6.2.areas.x0.safe), eO (lI .u8) v_6.2.areas.x1.data, .lit (.int .i64 v_6.2.areas.x1.safe)]) (A' := [(n0, .box [.lit (.int .i64 v_6.2.power), eB (lI .u8) (d, 1) v_6.2.areas.x0.data, .lit (.int .i64 v_6.2.areas.x0.safe), eO (lI .u8) v_6.2.areas.x1.data, .lit (.int .i64 v_6.2.areas.x1.safe)]), ((d, 1), oT (lI .u8) v_6.2.areas.x0.data)]) (by simp only [hp_cons_apply, hp_nil_apply, reduceIte, Prod.mk.injEq, Nat.reduceEqDiff, and_true, and_false, true_and, false_and, oGdiskDisk, hq_n0, hr_n0] <;> rfl) rfl (by simp only [hset_cons, hset_nil, hrem_cons, hrem_nil, List.set_cons_zero, List.set_cons_succ, reduceIte, Prod.mk.injEq, Nat.reduceEqDiff, and_true, and_false, true_and, false_and, oGdiskDisk, hq_n0, hr_n0])) ?_
         obtain ⟨hg_2, h⟩ := gd_some h
         refine xregd [(7, .lit (.int .i64 v_6.1))] (hp [(n0, .box [.lit (.int .i64 v_6.2.power), eO (lI .u8) (v_6.2.areas.x0.data.take (Int.toNat size)), .lit (.int .i64 (if size < v_6.2.areas.x0.safe then size else v_6.2.areas.x0.safe)), eO (lI .u8) v_6.2.areas.x1.data, .lit (.int .i64 v_6.2.areas.x1.safe)])] S) 2 ?_ (fun k kp hk => ?_)
         ·exact hj ((v_6.2.areas.x0.data.take (Int.toNat size)), (if size < v_6.2.areas.x0.safe then size else v_6.2.areas.x0.safe), v_6.2.areas.x1.data, v_6.2.areas.x1.safe) h
         ·try simp (maxSteps := 4000000) only [go_sem, Prod.mk.injEq, reduceIte, Nat.reduceEqDiff, Nat.reduceAdd, Nat.reduceSub, Nat.reduceMul, Nat.reduceDiv, Nat.reducePow, Nat.reduceLT, Nat.reduceLeDiff, Nat.reduceBEq, Nat.reduceBneDiff, Int.reduceToNat, Int.reduceEq, Int.reduceLE, Int.reduceLT, reduceCtorEq, oGdiskDisk, hq_n0, hr_n0]
          repeat (with_reducible refine And.intro ?_ ?_; next => first | assumption | trivial | omega | decide | (constructor <;> first | assumption | omega) | (simp [Keep.ok, hp_cons_apply, hset_cons, oGdiskDisk, hq_n0, hr_n0]; done))
          refine hk _ _ _ ?_
          refine Ghost.trans (Ghost.closeSubX (L := (lI .u8)) (xs := v_6.2.areas.x0.data) (n := n0) (m := (d, 1)) (i := 1) (h := Int.toNat size) (j := 43) (cs := [.lit (.int .i64 v_6.2.power), eW (lI .u8) ((Own.buf (d, 1) (v_6.2.areas.x0.data.length * ((lI .u8)).sz)).sub 0 (Int.toNat size * ((lI .u8)).sz) (flat (lI .u8) v_6.2.areas.x0.data).length) (v_6.2.areas.x0.data.take (Int.toNat size)), .lit (.int .i64 (if size < v_6.2.areas.x0.safe then size else v_6.2.areas.x0.safe)), eO (lI .u8) v_6.2.areas.x1.data, .lit (.int .i64 v_6.2.areas.x1.safe)]) (A' := [(n0, .box [.lit (.int .i64 v_6.2.power), eO (lI .u8) (v_6.2.areas.x0.data.take (Int.toNat size)), .lit (.int .i64 (if size < v_6.2.areas.x0.safe then size else v_6.2.areas.x0.safe)), eO (lI .u8) v_6.2.areas.x1.data, .lit (.int .i64 v_6.2.areas.x1.safe)])]) (by simp only [hp_cons_apply, hp_nil_apply, reduceIte, Prod.mk.injEq, Nat.reduceEqDiff, and_true, and_false, true_and, false_and, oGdiskDisk, hq_n0, hr_n0] <;> rfl) (by omega) rfl (by simp only [hp_cons_apply, hp_nil_apply, reduceIte, Prod.mk.injEq, Nat.reduceEqDiff, and_true, and_false, true_and, false_and, oGdiskDisk, hq_n0, hr_n0] <;> rfl) (hd _ (Nat.le_refl _)) (by simp only [sget_cons, reduceIte, Nat.reduceEqDiff]) (by simp only [hset_cons, hset_nil, hrem_cons, hrem_nil, List.set_cons_zero, List.set_cons_succ, reduceIte, Prod.mk.injEq, Nat.reduceEqDiff, and_true, and_false, true_and, false_and, oGdiskDisk, hq_n0, hr_n0])) ?_
          refine xghost (D := []) ?_ ?_ ?_ ?_
          ·exact (.cons (Sub.of_eq rfl) .nil)
          ·exact HpW.refl
          ·exact (by intro p hp; cases hp)
          ·omega
        ·try simp (maxSteps := 4000000) only [go_sem, Prod.mk.injEq, reduceIte, Nat.reduceEqDiff, Nat.reduceAdd, Nat.reduceSub, Nat.reduceMul, Nat.reduceDiv, Nat.reducePow, Nat.reduceLT, Nat.reduceLeDiff, Nat.reduceBEq, Nat.reduceBneDiff, Int.reduceToNat, Int.reduceEq, Int.reduceLE, Int.reduceLT, reduceCtorEq, oGdiskDisk, hq_n0, hr_n0, vptr_0, vptr_1]
         repeat (with_reducible refine And.intro ?_ ?_; next => first | assumption | trivial | omega | decide | (constructor <;> first | assumption | omega) | (simp [Keep.ok, hp_cons_apply, hset_cons, oGdiskDisk, hq_n0, hr_n0, vptr_0, vptr_1]; done))
         refine hk _ _ _ ?_
         refine xghost (D := []) ?_ ?_ ?_ ?_
         ·exact (.cons (Sub.of_eq rfl) (.cons (Sub.of_eq rfl) (.cons (Sub.of_eq rfl) .nil)))
         ·exact HpW.refl
         ·exact (by intro p hp; cases hp)
         ·omega
       ·rw [if_neg hs_3] at h
        by_cases hs_2 : n_1 = 1
        ·subst hs_2
         rw [if_pos rfl] at h
         refine xseq [(2, .lit (.int .i64 size)), (7, .lit (.int .i64 v_6.1)), (8, .ptr n0 3)] (hp [(n0, .box [.lit (.int .i64 v_6.2.power), eO (lI .u8) v_6.2.areas.x0.data, .lit (.int .i64 v_6.2.areas.x0.safe), eO (lI .u8) v_6.2.areas.x1.data, .lit (.int .i64 v_6.2.areas.x1.safe)])] S) 1 ?_ (fun k kp hk => ?_)
         ·refine LW_gh (Ghost.openX (L := (lI .u8)) (xs := v_6.2.areas.x1.data) (n := n0) (i := 3) (cs := [.lit (.int .i64 v_6.2.power), eO (lI .u8) v_6.2.areas.x0.data, .lit (.int .i64 v_6.2.areas.x0.safe), eO (lI .u8) v_6.2.areas.x1.data, .lit (.int .i64 v_6.2.areas.x1.safe)]) (A' := [(n0, .box [.lit (.int .i64 v_6.2.power), eO (lI .u8) v_6.2.areas.x0.data, .lit (.int .i64 v_6.2.areas.x0.safe), eB (lI .u8) (d, 1) v_6.2.areas.x1.data, .lit (.int .i64 v_6.2.areas.x1.safe)]), ((d, 1), oT (lI .u8) v_6.2.areas.x1.data)]) (by simp only [hp_cons_apply, hp_nil_apply, reduceIte, Prod.mk.injEq, Nat.reduceEqDiff, and_true, and_false, true_and, false_and, oGdiskDisk, hq_n0, hr_n0] <;> rfl) rfl (by simp only [hset_cons, hset_nil, hrem_cons, hrem_nil, List.set_cons_zero, List.set_cons_succ, reduceIte, Prod.mk.injEq, Nat.reduceEqDiff, and_true, and_false, true_and, false_and, oGdiskDisk, hq_n0, hr_n0])) ?_
          obtain ⟨hg_1, h⟩ := gd_some h
          refine xregd [(7, .lit (.int .i64 v_6.1))] (hp [(n0, .box [.lit (.int .i64 v_6.2.power), eO (lI .u8) v_6.2.areas.x0.data, .lit (.int .i64 v_6.2.areas.x0.safe), eO (lI .u8) (v_6.2.areas.x1.data.take (Int.toNat size)), .lit (.int .i64 (if size < v_6.2.areas.x1.safe then size else v_6.2.areas.x1.safe))])] S) 2 ?_ (fun k kp hk => ?_)
          ·exact hj (v_6.2.areas.x0.data, v_6.2.areas.x0.safe, (v_6.2.areas.x1.data.take (Int.toNat size)), (if size < v_6.2.areas.x1.safe then size else v_6.2.areas.x1.safe)) h
          ·try simp (maxSteps := 4000000) only [go_sem, Prod.mk.injEq, reduceIte, Nat.reduceEqDiff, Nat.reduceAdd, Nat.reduceSub, Nat.reduceMul, Nat.reduceDiv, Nat.reducePow, Nat.reduceLT, Nat.reduceLeDiff, Nat.reduceBEq, Nat.reduceBneDiff, Int.reduceToNat, Int.reduceEq, Int.reduceLE, Int.reduceLT, reduceCtorEq, oGdiskDisk, hq_n0, hr_n0]
           repeat (with_reducible refine And.intro ?_ ?_; next => first | assumption | trivial | omega | decide | (constructor <;> first | assumption | omega) | (simp [Keep.ok, hp_cons_apply, hset_cons, oGdiskDisk, hq_n0, hr_n0]; done))
           refine hk _ _ _ ?_
           refine Ghost.trans (Ghost.closeSubX (L := (lI .u8)) (xs := v_6.2.areas.x1.data) (n := n0) (m := (d, 1)) (i := 3) (h := Int.toNat size) (j := 43) (cs := [.lit (.int .i64 v_6.2.power), eO (lI .u8) v_6.2.areas.x0.data, .lit (.int .i64 v_6.2.areas.x0.safe), eW (lI .u8) ((Own.buf (d, 1) (v_6.2.areas.x1.data.length * ((lI .u8)).sz)).sub 0 (Int.toNat size * ((lI .u8)).sz) (flat (lI .u8) v_6.2.areas.x1.data).length) (v_6.2.areas.x1.data.take (Int.toNat size)), .lit (.int .i64 (if size < v_6.2.areas.x1.safe then size else v_6.2.areas.x1.safe))]) (A' := [(n0, .box [.lit (.int .i64 v_6.2.power), eO (lI .u8) v_6.2.areas.x0.data, .lit (.int .i64 v_6.2.areas.x0.safe), eO (lI .u8) (v_6.2.areas.x1.data.take (Int.toNat size)), .lit (.int .i64 (if size < v_6.2.areas.x1.safe then size else v_6.2.areas.x1.safe))])]) (by simp only [hp_cons_apply, hp_nil_apply, reduceIte, Prod.mk.injEq, Nat.reduceEqDiff, and_true, and_false, true_and, false_and, oGdiskDisk, hq_n0, hr_n0] <;> rfl) (by omega) rfl (by simp only [hp_cons_apply, hp_nil_apply, reduceIte, Prod.mk.injEq, Nat.reduceEqDiff, and_true, and_false, true_and, false_and, oGdiskDisk, hq_n0, hr_n0] <;> rfl) (hd _ (Nat.le_refl _)) (by simp only [sget_cons, reduceIte, Nat.reduceEqDiff]) (by simp only [hset_cons, hset_nil, hrem_cons, hrem_nil, List.set_cons_zero, List.set_cons_succ, reduceIte, Prod.mk.injEq, Nat.reduceEqDiff, and_true, and_false, true_and, false_and, oGdiskDisk, hq_n0, hr_n0])) ?_
           refine xghost (D := []) ?_ ?_ ?_ ?_
           ·exact (.cons (Sub.of_eq rfl) .nil)
           ·exact HpW.refl
           ·exact (by intro p hp; cases hp)
           ·omega
         ·try simp (maxSteps := 4000000) only [go_sem, Prod.mk.injEq, reduceIte, Nat.reduceEqDiff, Nat.reduceAdd, Nat.reduceSub, Nat.reduceMul, Nat.reduceDiv, Nat.reducePow, Nat.reduceLT, Nat.reduceLeDiff, Nat.reduceBEq, Nat.reduceBneDiff, Int.reduceToNat, Int.reduceEq, Int.reduceLE, Int.reduceLT, reduceCtorEq, oGdiskDisk, hq_n0, hr_n0, vptr_0, vptr_1]
          repeat (with_reducible refine And.intro ?_ ?_; next => first | assumption | trivial | omega | decide | (constructor <;> first | assumption | omega) | (simp [Keep.ok, hp_cons_apply, hset_cons, oGdiskDisk, hq_n0, hr_n0, vptr_0, vptr_1]; done))
          refine hk _ _ _ ?_
          refine xghost (D := []) ?_ ?_ ?_ ?_
          ·exact (.cons (Sub.of_eq rfl) (.cons (Sub.of_eq rfl) (.cons (Sub.of_eq rfl) .nil)))
          ·exact HpW.refl
          ·exact (by intro p hp; cases hp)
          ·omega
        ·rw [if_neg hs_2] at h
         cases h
      ·rw [ite_f hc_9] at h
       refine LW_skipX (sl' := [(7, .lit (.int .i64 v_6.1))]) (S' := (hp [(n0, .box [.lit (.int .i64 v_6.2.power), eO (lI .u8) v_6.2.areas.x0.data, .lit (.int .i64 v_6.2.areas.x0.safe), eO (lI .u8) v_6.2.areas.x1.data, .lit (.int .i64 v_6.2.areas.x1.safe)])] S)) (c' := 2) ?_ ?_
       ·refine xghost (D := []) ?_ ?_ ?_ ?_
        ·exact (.cons (Sub.of_eq rfl) .nil)
        ·exact HpW.refl
        ·exact (by intro p hp; cases hp)
        ·omega
       ·exact hj (v_6.2.areas.x0.data, v_6.2.areas.x0.safe, v_6.2.areas.x1.data, v_6.2.areas.x1.safe) h
     ·try simp (maxSteps := 4000000) only [go_sem, Prod.mk.injEq, reduceIte, Nat.reduceEqDiff, Nat.reduceAdd, Nat.reduceSub, Nat.reduceMul, Nat.reduceDiv, Nat.reducePow, Nat.reduceLT, Nat.reduceLeDiff, Nat.reduceBEq, Nat.reduceBneDiff, Int.reduceToNat, Int.reduceEq, Int.reduceLE, Int.reduceLT, reduceCtorEq, oGdiskDisk, hq_n0, hr_n0]
      repeat (with_reducible refine And.intro ?_ ?_; next => first | assumption | trivial | omega | decide | (constructor <;> first | assumption | omega) | (simp [Keep.ok, hp_cons_apply, hset_cons, oGdiskDisk, hq_n0, hr_n0]; done))
      refine hk _ _ _ ?_
      refine xghost (D := []) ?_ ?_ ?_ ?_
      ·exact (.cons (Sub.of_eq rfl) (.cons (Sub.of_eq rfl) (.cons (Sub.of_eq rfl) (.cons (Sub.of_eq rfl) (.cons (Sub.of_eq rfl) .nil)))))
      ·exact HpW.refl
      ·exact (by intro p hp; cases hp)
      ·omega
   ·try simp (maxSteps := 4000000) only [go_sem, Prod.mk.injEq, reduceIte, Nat.reduceEqDiff, Nat.reduceAdd, Nat.reduceSub, Nat.reduceMul, Nat.reduceDiv, Nat.reducePow, Nat.reduceLT, Nat.reduceLeDiff, Nat.reduceBEq, Nat.reduceBneDiff, Int.reduceToNat, Int.reduceEq, Int.reduceLE, Int.reduceLT, reduceCtorEq, oGdiskDisk, hq_n0, hr_n0]
    repeat (with_reducible refine And.intro ?_ ?_; next => first | assumption | trivial | omega | decide | (constructor <;> first | assumption | omega) | (simp [Keep.ok, hp_cons_apply, hset_cons, oGdiskDisk, hq_n0, hr_n0]; done))
    have hcall := s_disk_Disk_draw_ok (n0 := n0) (hS0 := by simp only [hp_cons_apply, hp_nil_apply, reduceIte, Prod.mk.injEq, Nat.reduceEqDiff, and_true, and_false, true_and, false_and, oGdiskDisk, hq_n0, hr_n0] <;> rfl) (hp [(n0, .box [.lit (.int .i64 dx.power), eO (lI .u8) dx.areas.x0.data, .lit (.int .i64 dx.areas.x0.safe), eO (lI .u8) dx.areas.x1.data, .lit (.int .i64 dx.areas.x1.safe)])] S) _ (h := hv_6)
    refine call1_x hcall rfl ?_ ?_
    ·exact (.cons Sub.refl .nil)
    clear hcall
    rintro _ SS ⟨rfl, hSS⟩ -
    rw [hSS]
    clear hSS
    try simp (maxSteps := 4000000) only [go_sem, Prod.mk.injEq, reduceIte, Nat.reduceEqDiff, Nat.reduceAdd, Nat.reduceSub, Nat.reduceMul, Nat.reduceDiv, Nat.reducePow, Nat.reduceLT, Nat.reduceLeDiff, Nat.reduceBEq, Nat.reduceBneDiff, Int.reduceToNat, Int.reduceEq, Int.reduceLE, Int.reduceLT, reduceCtorEq, oGdiskDisk, hq_n0, hr_n0]
    repeat (with_reducible refine And.intro ?_ ?_; next => first | assumption | trivial | omega | decide | (constructor <;> first | assumption | omega) | (simp [Keep.ok, hp_cons_apply, hset_cons, oGdiskDisk, hq_n0, hr_n0]; done))
    refine hk _ _ _ ?_
    refine xghost (D := []) ?_ ?_ ?_ ?_
    ·exact (.cons (Sub.of_eq rfl) (.cons (Sub.of_eq rfl) (.cons (Sub.of_eq rfl) (.cons (Sub.of_eq rfl) .nil))))
    ·exact HpW.refl
    ·exact (by intro p hp; cases hp)
    ·omega
  ·by_cases hs_1 : n = 0
   ·subst hs_1
    rw [if_pos rfl] at h
    refine LW_gh (Ghost.openX (L := (lI .u8)) (xs := dx.areas.x0.data) (n := n0) (i := 1) (cs := [.lit (.int .i64 dx.power), eO (lI .u8) dx.areas.x0.data, .lit (.int .i64 dx.areas.x0.safe), eO (lI .u8) dx.areas.x1.data, .lit (.int .i64 dx.areas.x1.safe)]) (A' := [(n0, .box [.lit (.int .i64 dx.power), eB (lI .u8) (d, 0) dx.areas.x0.data, .lit (.int .i64 dx.areas.x0.safe), eO (lI .u8) dx.areas.x1.data, .lit (.int .i64 dx.areas.x1.safe)]), ((d, 0), oT (lI .u8) dx.areas.x0.data)]) (by simp only [hp_cons_apply, hp_nil_apply, reduceIte, Prod.mk.injEq, Nat.reduceEqDiff, and_true, and_false, true_and, false_and, oGdiskDisk, hq_n0, hr_n0] <;> rfl) rfl (by simp only [hset_cons, hset_nil, hrem_cons, hrem_nil, List.set_cons_zero, List.set_cons_succ, reduceIte, Prod.mk.injEq, Nat.reduceEqDiff, and_true, and_false, true_and, false_and, oGdiskDisk, hq_n0, hr_n0])) ?_
    obtain ⟨v_5, hv_5, h⟩ := bd_some h
    refine xseq [(0, .ptr n0 0), (1, .lit (.int .i64 0)), (2, .lit (.int .i64 size)), (28, .lit (.bool (((!v_5) || (decide (size < 0))) || (decide ((dx.areas.x0.data.length : Int) < size)))))] (hp [(n0, .box [.lit (.int .i64 dx.power), eB (lI .u8) (d, 0) dx.areas.x0.data, .lit (.int .i64 dx.areas.x0.safe), eO (lI .u8) dx.areas.x1.data, .lit (.int .i64 dx.areas.x1.safe)]), ((d, 0), oT (lI .u8) dx.areas.x0.data)] S) 1 ?_ (fun k kp hk => ?_)
    ·refine xcond (((!v_5) || (decide (size < 0))) || (decide ((dx.areas.x0.data.length : Int) < size))) rfl (fun hc_6 => ?_) (fun hc_6 => ?_)
     ·rw [ite_t hc_6] at h
      refine xseq [(6, .lit (.int .i64 41))] (hp [(n0, .box [.lit (.int .i64 dx.power), eB (lI .u8) (d, 0) dx.areas.x0.data, .lit (.int .i64 dx.areas.x0.safe), eO (lI .u8) dx.areas.x1.data, .lit (.int .i64 dx.areas.x1.safe)]), ((d, 0), oT (lI .u8) dx.areas.x0.data)] S) 1 ?_ (fun k kp hk => ?_)
      ·refine LW_retX (sl' := [(6, .lit (.int .i64 41))]) (S' := (hp [(n0, .box [.lit (.int .i64 dx.power), eO (lI .u8) dx.areas.x0.data, .lit (.int .i64 dx.areas.x0.safe), eO (lI .u8) dx.areas.x1.data, .lit (.int .i64 dx.areas.x1.safe)])] S)) (c' := 1) ?_ ?_
       ·refine Ghost.trans (Ghost.closeX (L := (lI .u8)) (xs := dx.areas.x0.data) (n := n0) (m := (d, 0)) (i := 1) (cs := [.lit (.int .i64 dx.power), eB (lI .u8) (d, 0) dx.areas.x0.data, .lit (.int .i64 dx.areas.x0.safe), eO (lI .u8) dx.areas.x1.data, .lit (.int .i64 dx.areas.x1.safe)]) (A' := [(n0, .box [.lit (.int .i64 dx.power), eO (lI .u8) dx.areas.x0.data, .lit (.int .i64 dx.areas.x0.safe), eO (lI .u8) dx.areas.x1.data, .lit (.int .i64 dx.areas.x1.safe)])]) (by simp only [hp_cons_apply, hp_nil_apply, reduceIte, Prod.mk.injEq, Nat.reduceEqDiff, and_true, and_false, true_and, false_and, oGdiskDisk, hq_n0, hr_n0] <;> rfl) rfl (by simp only [hp_cons_apply, hp_nil_apply, reduceIte, Prod.mk.injEq, Nat.reduceEqDiff, and_true, and_false, true_and, false_and, oGdiskDisk, hq_n0, hr_n0] <;> rfl) (hd _ (Nat.le_refl _)) (by simp only [hset_cons, hset_nil, hrem_cons, hrem_nil, List.set_cons_zero, List.set_cons_succ, reduceIte, Prod.mk.injEq, Nat.reduceEqDiff, and_true, and_false, true_and, false_and, oGdiskDisk, hq_n0, hr_n0])) ?_
        refine xghost (D := []) ?_ ?_ ?_ ?_
        ·exact (.cons (Sub.of_eq rfl) .nil)
        ·exact HpW.refl
        ·exact (by intro p hp; cases hp)
        ·omega
       ·obtain rfl := Option.some.inj h
        show FPost _ _ _ _ _ _ _
        exact ⟨_, hp_less (L := [(n0, .box [.lit (.int .i64 dx.power), eO (lI .u8) dx.areas.x0.data, .lit (.int .i64 dx.areas.x0.safe), eO (lI .u8) dx.areas.x1.data, .lit (.int .i64 dx.areas.x1.safe)])]) (D := []) (by intro p hp; cases hp), rfl, rfl⟩
      ·try simp (maxSteps := 4000000) only [go_sem, Prod.mk.injEq, reduceIte, Nat.reduceEqDiff, Nat.reduceAdd, Nat.reduceSub, Nat.reduceMul, Nat.reduceDiv, Nat.reducePow, Nat.reduceLT, Nat.reduceLeDiff, Nat.reduceBEq, Nat.reduceBneDiff, Int.reduceToNat, Int.reduceEq, Int.reduceLE, Int.reduceLT, reduceCtorEq, oGdiskDisk, hq_n0, hr_n0]
       repeat (with_reducible refine And.intro ?_ ?_; next => first | assumption | trivial | omega | decide | (constructor <;> first | assumption | omega) | (simp [Keep.ok, hp_cons_apply, hset_cons, oGdiskDisk, hq_n0, hr_n0]; done))
       refine hk _ _ _ ?_
       refine xghost (D := []) ?_ ?_ ?_ ?_
       ·exact (.cons (Sub.of_eq rfl) .nil)
       ·exact HpW.refl
       ·exact (by intro p hp; cases hp)
       ·omega
     ·rw [ite_f hc_6] at h
      refine LW_skipX (sl' := [(0, .ptr n0 0), (1, .lit (.int .i64 0)), (2, .lit (.int .i64 size)), (28, .lit (.bool (((!v_5) || (decide (size < 0))) || (decide ((dx.areas.x0.data.length : Int) < size)))))]) (S' := (hp [(n0, .box [.lit (.int .i64 dx.power), eO (lI .u8) dx.areas.x0.data, .lit (.int .i64 dx.areas.x0.safe), eO (lI .u8) dx.areas.x1.data, .lit (.int .i64 dx.areas.x1.safe)])] S)) (c' := 1) ?_ ?_
      ·refine Ghost.trans (Ghost.closeX (L := (lI .u8)) (xs := dx.areas.x0.data) (n := n0) (m := (d, 0)) (i := 1) (cs := [.lit (.int .i64 dx.power), eB (lI .u8) (d, 0) dx.areas.x0.data, .lit (.int .i64 dx.areas.x0.safe), eO (lI .u8) dx.areas.x1.data, .lit (.int .i64 dx.areas.x1.safe)]) (A' := [(n0, .box [.lit (.int .i64 dx.power), eO (lI .u8) dx.areas.x0.data, .lit (.int .i64 dx.areas.x0.safe), eO (lI .u8) dx.areas.x1.data, .lit (.int .i64 dx.areas.x1.safe)])]) (by simp only [hp_cons_apply, hp_nil_apply, reduceIte, Prod.mk.injEq, Nat.reduceEqDiff, and_true, and_false, true_and, false_and, oGdiskDisk, hq_n0, hr_n0] <;> rfl) rfl (by simp only [hp_cons_apply, hp_nil_apply, reduceIte, Prod.mk.injEq, Nat.reduceEqDiff, and_true, and_false, true_and, false_and, oGdiskDisk, hq_n0, hr_n0] <;> rfl) (hd _ (Nat.le_refl _)) (by simp only [hset_cons, hset_nil, hrem_cons, hrem_nil, List.set_cons_zero, List.set_cons_succ, reduceIte, Prod.mk.injEq, Nat.reduceEqDiff, and_true, and_false, true_and, false_and, oGdiskDisk, hq_n0, hr_n0])) ?_
       refine xghost (D := []) ?_ ?_ ?_ ?_
       ·exact (.cons (Sub.of_eq rfl) (.cons (Sub.of_eq rfl) (.cons (Sub.of_eq rfl) (.cons (Sub.of_eq rfl) .nil))))
       ·exact HpW.refl
       ·exact (by intro p hp; cases hp)
       ·omega
      ·exact hj_1 (0, (((!v_5) || (decide (size < 0))) || (decide ((dx.areas.x0.data.length : Int) < size)))) h
    ·try simp (maxSteps := 4000000) only [go_sem, Prod.mk.injEq, reduceIte, Nat.reduceEqDiff, Nat.reduceAdd, Nat.reduceSub, Nat.reduceMul, Nat.reduceDiv, Nat.reducePow, Nat.reduceLT, Nat.reduceLeDiff, Nat.reduceBEq, Nat.reduceBneDiff, Int.reduceToNat, Int.reduceEq, Int.reduceLE, Int.reduceLT, reduceCtorEq, oGdiskDisk, hq_n0, hr_n0, vptr_0, vptr_1]
     repeat (with_reducible refine And.intro ?_ ?_; next => first | assumption | trivial | omega | decide | (constructor <;> first | assumption | omega) | (simp [Keep.ok, hp_cons_apply, hset_cons, oGdiskDisk, hq_n0, hr_n0, vptr_0, vptr_1]; done))
     have hcall := s_disk_there_ok (hp [(n0, .box [.lit (.int .i64 dx.power), eB (lI .u8) (d, 0) dx.areas.x0.data, .lit (.int .i64 dx.areas.x0.safe), eO (lI .u8) dx.areas.x1.data, .lit (.int .i64 dx.areas.x1.safe)]), ((d, 0), oT (lI .u8) dx.areas.x0.data)] S) ([0]) hv_5
     refine call1_x hcall rfl ?_ ?_
     ·exact (.cons (Sub.young (L := (lI .i64)) (xs := [0])) .nil)
     clear hcall
     rintro _ SS ⟨rfl, hSS⟩ -
     rw [hSS]
     clear hSS
     try simp (maxSteps := 4000000) only [go_sem, Prod.mk.injEq, reduceIte, Nat.reduceEqDiff, Nat.reduceAdd, Nat.reduceSub, Nat.reduceMul, Nat.reduceDiv, Nat.reducePow, Nat.reduceLT, Nat.reduceLeDiff, Nat.reduceBEq, Nat.reduceBneDiff, Int.reduceToNat, Int.reduceEq, Int.reduceLE, Int.reduceLT, reduceCtorEq, oGdiskDisk, hq_n0, hr_n0, vptr_0, vptr_1]
     repeat (with_reducible refine And.intro ?_ ?_; next => first | assumption | trivial | omega | decide | (constructor <;> first | assumption | omega) | (simp [Keep.ok, hp_cons_apply, hset_cons, oGdiskDisk, hq_n0, hr_n0, vptr_0, vptr_1]; done))
     refine xo_guard (!v_5) rfl (fun hc_7 => ?_) (fun hc_7 => ?_)
     ·have hc_7 : v_5 = true := by first | (generalize v_5 = q at hc_7 ⊢; revert hc_7; cases q <;> simp; done) | simpa using hc_7
      try simp (maxSteps := 4000000) only [go_sem, Prod.mk.injEq, reduceIte, Nat.reduceEqDiff, Nat.reduceAdd, Nat.reduceSub, Nat.reduceMul, Nat.reduceDiv, Nat.reducePow, Nat.reduceLT, Nat.reduceLeDiff, Nat.reduceBEq, Nat.reduceBneDiff, Int.reduceToNat, Int.reduceEq, Int.reduceLE, Int.reduceLT, reduceCtorEq, oGdiskDisk, hq_n0, hr_n0, vptr_0, vptr_1, hc_7]
      repeat (with_reducible refine And.intro ?_ ?_; next => first | assumption | trivial | omega | decide | (constructor <;> first | assumption | omega) | (simp [Keep.ok, hp_cons_apply, hset_cons, oGdiskDisk, hq_n0, hr_n0, vptr_0, vptr_1]; done))
      refine xo_guard (decide (size < 0)) rfl (fun hc_8 => ?_) (fun hc_8 => ?_)
      ·try simp (maxSteps := 4000000) only [go_sem, Prod.mk.injEq, reduceIte, Nat.reduceEqDiff, Nat.reduceAdd, Nat.reduceSub, Nat.reduceMul, Nat.reduceDiv, Nat.reducePow, Nat.reduceLT, Nat.reduceLeDiff, Nat.reduceBEq, Nat.reduceBneDiff, Int.reduceToNat, Int.reduceEq, Int.reduceLE, Int.reduceLT, reduceCtorEq, oGdiskDisk, hq_n0, hr_n0, vptr_0, vptr_1, hc_7, hc_8]
       repeat (with_reducible refine And.intro ?_ ?_; next => first | assumption | trivial | omega | decide | (constructor <;> first | assumption | omega) | (simp [Keep.ok, hp_cons_apply, hset_cons, oGdiskDisk, hq_n0, hr_n0, vptr_0, vptr_1]; done))
       refine hk _ _ _ ?_
       refine xghost (D := []) ?_ ?_ ?_ ?_
       ·exact (.cons (Sub.of_eq rfl) (.cons (Sub.of_eq rfl) (.cons (Sub.of_eq rfl) (.cons (Sub.of_eq (by first | rfl | (simp only [sget_cons, reduceIte, Nat.reduceEqDiff, Bool.and_true, Bool.true_and, Bool.and_false, Bool.false_and, Bool.or_true, Bool.true_or, Bool.or_false, Bool.false_or, Bool.not_true, Bool.not_false, Bool.not_not, hc_7, hc_8]; done))) .nil))))
       ·exact HpW.refl
       ·exact (by intro p hp; cases hp)
       ·omega
      ·try simp (maxSteps := 4000000) only [go_sem, Prod.mk.injEq, reduceIte, Nat.reduceEqDiff, Nat.reduceAdd, Nat.reduceSub, Nat.reduceMul, Nat.reduceDiv, Nat.reducePow, Nat.reduceLT, Nat.reduceLeDiff, Nat.reduceBEq, Nat.reduceBneDiff, Int.reduceToNat, Int.reduceEq, Int.reduceLE, Int.reduceLT, reduceCtorEq, oGdiskDisk, hq_n0, hr_n0, vptr_0, vptr_1, hc_7, hc_8]
       repeat (with_reducible refine And.intro ?_ ?_; next => first | assumption | trivial | omega | decide | (constructor <;> first | assumption | omega) | (simp [Keep.ok, hp_cons_apply, hset_cons, oGdiskDisk, hq_n0, hr_n0, vptr_0, vptr_1]; done))
       refine hk _ _ _ ?_
       refine xghost (D := []) ?_ ?_ ?_ ?_
       ·exact (.cons (Sub.of_eq rfl) (.cons (Sub.of_eq rfl) (.cons (Sub.of_eq rfl) (.cons (Sub.of_eq (by first | rfl | (simp only [sget_cons, reduceIte, Nat.reduceEqDiff, Bool.and_true, Bool.true_and, Bool.and_false, Bool.false_and, Bool.or_true, Bool.true_or, Bool.or_false, Bool.false_or, Bool.not_true, Bool.not_false, Bool.not_not, hc_7, hc_8]; done))) .nil))))
       ·exact HpW.refl
       ·exact (by intro p hp; cases hp)
       ·omega
     ·have hc_7 : v_5 = false := by first | (generalize v_5 = q at hc_7 ⊢; revert hc_7; cases q <;> simp; done) | simpa using hc_7
      try simp (maxSteps := 4000000) only [go_sem, Prod.mk.injEq, reduceIte, Nat.reduceEqDiff, Nat.reduceAdd, Nat.reduceSub, Nat.reduceMul, Nat.reduceDiv, Nat.reducePow, Nat.reduceLT, Nat.reduceLeDiff, Nat.reduceBEq, Nat.reduceBneDiff, Int.reduceToNat, Int.reduceEq, Int.reduceLE, Int.reduceLT, reduceCtorEq, oGdiskDisk, hq_n0, hr_n0, vptr_0, vptr_1, hc_7]
      repeat (with_reducible refine And.intro ?_ ?_; next => first | assumption | trivial | omega | decide | (constructor <;> first | assumption | omega) | (simp [Keep.ok, hp_cons_apply, hset_cons, oGdiskDisk, hq_n0, hr_n0, vptr_0, vptr_1]; done))
      refine hk _ _ _ ?_
      refine xghost (D := []) ?_ ?_ ?_ ?_
      ·exact (.cons (Sub.of_eq rfl) (.cons (Sub.of_eq rfl) (.cons (Sub.of_eq rfl) (.cons (Sub.of_eq (by first | rfl | (simp only [sget_cons, reduceIte, Nat.reduceEqDiff, Bool.and_true, Bool.true_and, Bool.and_false, Bool.false_and, Bool.or_true, Bool.true_or, Bool.or_false, Bool.false_or, Bool.not_true, Bool.not_false, Bool.not_not, hc_7]; done))) .nil))))
      ·exact HpW.refl
      ·exact (by intro p hp; cases hp)
      ·omega
   ·rw [if_neg hs_1] at h
    by_cases hs : n = 1
    ·subst hs
     rw [if_pos rfl] at h
     refine LW_gh (Ghost.openX (L := (lI .u8)) (xs := dx.areas.x1.data) (n := n0) (i := 3) (cs := [.lit (.int .i64 dx.power), eO (lI .u8) dx.areas.x0.data, .lit (.int .i64 dx.areas.x0.safe), eO (lI .u8) dx.areas.x1.data, .lit (.int .i64 dx.areas.x1.safe)]) (A' := [(n0, .box [.lit (.int .i64 dx.power), eO (lI .u8) dx.areas.x0.data, .lit (.int .i64 dx.areas.x0.safe), eB (lI .u8) (d, 0) dx.areas.x1.data, .lit (.int .i64 dx.areas.x1.safe)]), ((d, 0), oT (lI .u8) dx.areas.x1.data)]) (by simp only [hp_cons_apply, hp_nil_apply, reduceIte, Prod.mk.injEq, Nat.reduceEqDiff, and_true, and_false, true_and, false_and, oGdiskDisk, hq_n0, hr_n0] <;> rfl) rfl (by simp only [hset_cons, hset_nil, hrem_cons, hrem_nil, List.set_cons_zero, List.set_cons_succ, reduceIte, Prod.mk.injEq, Nat.reduceEqDiff, and_true, and_false, true_and, false_and, oGdiskDisk, hq_n0, hr_n0])) ?_
     obtain ⟨v_3, hv_3, h⟩ := bd_some h
     refine xseq [(0, .ptr n0 0), (1, .lit (.int .i64 1)), (2, .lit (.int .i64 size)), (28, .lit (.bool (((!v_3) || (decide (size < 0))) || (decide ((dx.areas.x1.data.length : Int) < size)))))] (hp [(n0, .box [.lit (.int .i64 dx.power), eO (lI .u8) dx.areas.x0.data, .lit (.int .i64 dx.areas.x0.safe), eB (lI .u8) (d, 0) dx.areas.x1.data, .lit (.int .i64 dx.areas.x1.safe)]), ((d, 0), oT (lI .u8) dx.areas.x1.data)] S) 1 ?_ (fun k kp hk => ?_)
     ·refine xcond (((!v_3) || (decide (size < 0))) || (decide ((dx.areas.x1.data.length : Int) < size))) rfl (fun hc_3 => ?_) (fun hc_3 => ?_)
      ·rw [ite_t hc_3] at h
       refine xseq [(6, .lit (.int .i64 41))] (hp [(n0, .box [.lit (.int .i64 dx.power), eO (lI .u8) dx.areas.x0.data, .lit (.int .i64 dx.areas.x0.safe), eB (lI .u8) (d, 0) dx.areas.x1.data, .lit (.int .i64 dx.areas.x1.safe)]), ((d, 0), oT (lI .u8) dx.areas.x1.data)] S) 1 ?_ (fun k kp hk => ?_)
       ·refine LW_retX (sl' := [(6, .lit (.int .i64 41))]) (S' := (hp [(n0, .box [.lit (.int .i64 dx.power), eO (lI .u8) dx.areas.x0.data, .lit (.int .i64 dx.areas.x0.safe), eO (lI .u8) dx.areas.x1.data, .lit (.int .i64 dx.areas.x1.safe)])] S)) (c' := 1) ?_ ?_
        ·refine Ghost.trans (Ghost.closeX (L := (lI .u8)) (xs := dx.areas.x1.data) (n := n0) (m := (d, 0)) (i := 3) (cs := [.lit (.int .i64 dx.power), eO (lI .u8) dx.areas.x0.data, .lit (.int .i64 dx.areas.x0.safe), eB (lI .u8) (d, 0) dx.areas.x1.data, .lit (.int .i64 dx.areas.x1.safe)]) (A' := [(n0, .box [.lit (.int .i64 dx.power), eO (lI .u8) dx.areas.x0.data, .lit (.int .i64 dx.areas.x0.safe), eO (lI .u8) dx.areas.x1.data, .lit (.int .i64 dx.areas.x1.safe)])]) (by simp only [hp_cons_apply, hp_nil_apply, reduceIte, Prod.mk.injEq, Nat.reduceEqDiff, and_true, and_false, true_and, false_and, oGdiskDisk, hq_n0, hr_n0] <;> rfl) rfl (by simp only [hp_cons_apply, hp_nil_apply, reduceIte, Prod.mk.injEq, Nat.reduceEqDiff, and_true, and_false, true_and, false_and, oGdiskDisk, hq_n0, hr_n0] <;> rfl) (hd _ (Nat.le_refl _)) (by simp only [hset_cons, hset_nil, hrem_cons, hrem_nil, List.set_cons_zero, List.set_cons_succ, reduceIte, Prod.mk.injEq, Nat.reduceEqDiff, and_true, and_false, true_and, false_and, oGdiskDisk, hq_n0, hr_n0])) ?_
         refine xghost (D := []) ?_ ?_ ?_ ?_
         ·exact (.cons (Sub.of_eq rfl) .nil)
         ·exact HpW.refl
         ·exact (by intro p hp; cases hp)
         ·omega
        ·obtain rfl := Option.some.inj h
         show FPost _ _ _ _ _ _ _
         exact ⟨_, hp_less (L := [(n0, .box [.lit (.int .i64 dx.power), eO (lI .u8) dx.areas.x0.data, .lit (.int .i64 dx.areas.x0.safe), eO (lI .u8) dx.areas.x1.data, .lit (.int .i64 dx.areas.x1.safe)])]) (D := []) (by intro p hp; cases hp), rfl, rfl⟩
       ·try simp (maxSteps := 4000000) only [go_sem, Prod.mk.injEq, reduceIte, Nat.reduceEqDiff, Nat.reduceAdd, Nat.reduceSub, Nat.reduceMul, Nat.reduceDiv, Nat.reducePow, Nat.reduceLT, Nat.reduceLeDiff, Nat.reduceBEq, Nat.reduceBneDiff, Int.reduceToNat, Int.reduceEq, Int.reduceLE, Int.reduceLT, reduceCtorEq, oGdiskDisk, hq_n0, hr_n0]
        repeat (with_reducible refine And.intro ?_ ?_; next => first | assumption | trivial | omega | decide | (constructor <;> first | assumption | omega) | (simp [Keep.ok, hp_cons_apply, hset_cons, oGdiskDisk, hq_n0, hr_n0]; done))
        refine hk _ _ _ ?_
        refine xghost (D := []) ?_ ?_ ?_ ?_
        ·exact (.cons (Sub.of_eq rfl) .nil)
        ·exact HpW.refl
        ·exact (by intro p hp; cases hp)
        ·omega
      ·rw [ite_f hc_3] at h
       refine LW_skipX (sl' := [(0, .ptr n0 0), (1, .lit (.int .i64 1)), (2, .lit (.int .i64 size)), (28, .lit (.bool (((!v_3) || (decide (size < 0))) || (decide ((dx.areas.x1.data.length : Int) < size)))))]) (S' := (hp [(n0, .box [.lit (.int .i64 dx.power), eO (lI .u8) dx.areas.x0.data, .lit (.int .i64 dx.areas.x0.safe), eO (lI .u8) dx.areas.x1.data, .lit (.int .i64 dx.areas.x1.safe)])] S)) (c' := 1) ?_ ?_
       ·refine Ghost.trans (Ghost.closeX (L := (lI .u8)) (xs := dx.areas.x1.data) (n := n0) (m := (d, 0)) (i := 3) (cs := [.lit (.int .i64 dx.power), eO (lI .u8) dx.areas.x0.data, .lit (.int .i64 dx.areas.x0.safe), eB (lI .u8) (d, 0) dx.areas.x1.data, .lit (.int .i64 dx.areas.x1.safe)]) (A' := [(n0, .box [.lit (.int .i64 dx.power), eO (lI .u8) dx.areas.x0.data, .lit (.int .i64 dx.areas.x0.safe), eO (lI .u8) dx.areas.x1.data, .lit (.int .i64 dx.areas.x1.safe)])]) (by simp only [hp_cons_apply, hp_nil_apply, reduceIte, Prod.mk.injEq, Nat.reduceEqDiff, and_true, and_false, true_and, false_and, oGdiskDisk, hq_n0, hr_n0] <;> rfl) rfl (by simp only [hp_cons_apply, hp_nil_apply, reduceIte, Prod.mk.injEq, Nat.reduceEqDiff, and_true, and_false, true_and, false_and, oGdiskDisk, hq_n0, hr_n0] <;> rfl) (hd _ (Nat.le_refl _)) (by simp only [hset_cons, hset_nil, hrem_cons, hrem_nil, List.set_cons_zero, List.set_cons_succ, reduceIte, Prod.mk.injEq, Nat.reduceEqDiff, and_true, and_false, true_and, false_and, oGdiskDisk, hq_n0, hr_n0])) ?_
        refine xghost (D := []) ?_ ?_ ?_ ?_
        ·exact (.cons (Sub.of_eq rfl) (.cons (Sub.of_eq rfl) (.cons (Sub.of_eq rfl) (.cons (Sub.of_eq rfl) .nil))))
        ·exact HpW.refl
        ·exact (by intro p hp; cases hp)
        ·omega
       ·exact hj_1 (1, (((!v_3) || (decide (size < 0))) || (decide ((dx.areas.x1.data.length : Int) < size)))) h
     ·try simp (maxSteps := 4000000) only [go_sem, Prod.mk.injEq, reduceIte, Nat.reduceEqDiff, Nat.reduceAdd, Nat.reduceSub, Nat.reduceMul, Nat.reduceDiv, Nat.reducePow, Nat.reduceLT, Nat.reduceLeDiff, Nat.reduceBEq, Nat.reduceBneDiff, Int.reduceToNat, Int.reduceEq, Int.reduceLE, Int.reduceLT, reduceCtorEq, oGdiskDisk, hq_n0, hr_n0, vptr_0, vptr_1]
      repeat (with_reducible refine And.intro ?_ ?_; next => first | assumption | trivial | omega | decide | (constructor <;> first | assumption | omega) | (simp [Keep.ok, hp_cons_apply, hset_cons, oGdiskDisk, hq_n0, hr_n0, vptr_0, vptr_1]; done))
      have hcall := s_disk_there_ok (hp [(n0, .box [.lit (.int .i64 dx.power), eO (lI .u8) dx.areas.x0.data, .lit (.int .i64 dx.areas.x0.safe), eB (lI .u8) (d, 0) dx.areas.x1.data, .lit (.int .i64 dx.areas.x1.safe)]), ((d, 0), oT (lI .u8) dx.areas.x1.data)] S) ([1]) hv_3
      refine call1_x hcall rfl ?_ ?_
      ·exact (.cons (Sub.young (L := (lI .i64)) (xs := [1])) .nil)
      clear hcall
      rintro _ SS ⟨rfl, hSS⟩ -
      rw [hSS]
      clear hSS
      try simp (maxSteps := 4000000) only [go_sem, Prod.mk.injEq, reduceIte, Nat.reduceEqDiff, Nat.reduceAdd, Nat.reduceSub, Nat.reduceMul, Nat.reduceDiv, Nat.reducePow, Nat.reduceLT, Nat.reduceLeDiff, Nat.reduceBEq, Nat.reduceBneDiff, Int.reduceToNat, Int.reduceEq, Int.reduceLE, Int.reduceLT, reduceCtorEq, oGdiskDisk, hq_n0, hr_n0, vptr_0, vptr_1]
      repeat (with_reducible refine And.intro ?_ ?_; next => first | assumption | trivial | omega | decide | (constructor <;> first | assumption | omega) | (simp [Keep.ok, hp_cons_apply, hset_cons, oGdiskDisk, hq_n0, hr_n0, vptr_0, vptr_1]; done))
      refine xo_guard (!v_3) rfl (fun hc_4 => ?_) (fun hc_4 => ?_)
      ·have hc_4 : v_3 = true := by first | (generalize v_3 = q at hc_4 ⊢; revert hc_4; cases q <;> simp; done) | simpa using hc_4
       try simp (maxSteps := 4000000) only [go_sem, Prod.mk.injEq, reduceIte, Nat.reduceEqDiff, Nat.reduceAdd, Nat.reduceSub, Nat.reduceMul, Nat.reduceDiv, Nat.reducePow, Nat.reduceLT, Nat.reduceLeDiff, Nat.reduceBEq, Nat.reduceBneDiff, Int.reduceToNat, Int.reduceEq, Int.reduceLE, Int.reduceLT, reduceCtorEq, oGdiskDisk, hq_n0, hr_n0, vptr_0, vptr_1, hc_4]
       repeat (with_reducible refine And.intro ?_ ?_; next => first | assumption | trivial | omega | decide | (constructor <;> first | assumption | omega) | (simp [Keep.ok, hp_cons_apply, hset_cons, oGdiskDisk, hq_n0, hr_n0, vptr_0, vptr_1]; done))
       refine xo_guard (decide (size < 0)) rfl (fun hc_5 => ?_) (fun hc_5 => ?_)
       ·try simp (maxSteps := 4000000) only [go_sem, Prod.mk.injEq, reduceIte, Nat.reduceEqDiff, Nat.reduceAdd, Nat.reduceSub, Nat.reduceMul, Nat.reduceDiv, Nat.reducePow, Nat.reduceLT, Nat.reduceLeDiff, Nat.reduceBEq, Nat.reduceBneDiff, Int.reduceToNat, Int.reduceEq, Int.reduceLE, Int.reduceLT, reduceCtorEq, oGdiskDisk, hq_n0, hr_n0, vptr_0, vptr_1, hc_4, hc_5]
        repeat (with_reducible refine And.intro ?_ ?_; next => first | assumption | trivial | omega | decide | (constructor <;> first | assumption | omega) | (simp [Keep.ok, hp_cons_apply, hset_cons, oGdiskDisk, hq_n0, hr_n0, vptr_0, vptr_1]; done))
        refine hk _ _ _ ?_
        refine xghost (D := []) ?_ ?_ ?_ ?_
        ·exact (.cons (Sub.of_eq rfl) (.cons (Sub.of_eq rfl) (.cons (Sub.of_eq rfl) (.cons (Sub.of_eq (by first | rfl | (simp only [sget_cons, reduceIte, Nat.reduceEqDiff, Bool.and_true, Bool.true_and, Bool.and_false, Bool.false_and, Bool.or_true, Bool.true_or, Bool.or_false, Bool.false_or, Bool.not_true, Bool.not_false, Bool.not_not, hc_4, hc_5]; done))) .nil))))
        ·exact HpW.refl
        ·exact (by intro p hp; cases hp)
        ·omega
       ·try simp (maxSteps := 4000000) only [go_sem, Prod.mk.injEq, reduceIte, Nat.reduceEqDiff, Nat.reduceAdd, Nat.reduceSub, Nat.reduceMul, Nat.reduceDiv, Nat.reducePow, Nat.reduceLT, Nat.reduceLeDiff, Nat.reduceBEq, Nat.reduceBneDiff, Int.reduceToNat, Int.reduceEq, Int.reduceLE, Int.reduceLT, reduceCtorEq, oGdiskDisk, hq_n0, hr_n0, vptr_0, vptr_1, hc_4, hc_5]
        repeat (with_reducible refine And.intro ?_ ?_; next => first | assumption | trivial | omega | decide | (constructor <;> first | assumption | omega) | (simp [Keep.ok, hp_cons_apply, hset_cons, oGdiskDisk, hq_n0, hr_n0, vptr_0, vptr_1]; done))
        refine hk _ _ _ ?_
        refine xghost (D := []) ?_ ?_ ?_ ?_
        ·exact (.cons (Sub.of_eq rfl) (.cons (Sub.of_eq rfl) (.cons (Sub.of_eq rfl) (.cons (Sub.of_eq (by first | rfl | (simp only [sget_cons, reduceIte, Nat.reduceEqDiff, Bool.and_true, Bool.true_and, Bool.and_false, Bool.false_and, Bool.or_true, Bool.true_or, Bool.or_false, Bool.false_or, Bool.not_true, Bool.not_false, Bool.not_not, hc_4, hc_5]; done))) .nil))))
        ·exact HpW.refl
        ·exact (by intro p hp; cases hp)
        ·omega
      ·have hc_4 : v_3 = false := by first | (generalize v_3 = q at hc_4 ⊢; revert hc_4; cases q <;> simp; done) | simpa using hc_4
       try simp (maxSteps := 4000000) only [go_sem, Prod.mk.injEq, reduceIte, Nat.reduceEqDiff, Nat.reduceAdd, Nat.reduceSub, Nat.reduceMul, Nat.reduceDiv, Nat.reducePow, Nat.reduceLT, Nat.reduceLeDiff, Nat.reduceBEq, Nat.reduceBneDiff, Int.reduceToNat, Int.reduceEq, Int.reduceLE, Int.reduceLT, reduceCtorEq, oGdiskDisk, hq_n0, hr_n0, vptr_0, vptr_1, hc_4]
       repeat (with_reducible refine And.intro ?_ ?_; next => first | assumption | trivial | omega | decide | (constructor <;> first | assumption | omega) | (simp [Keep.ok, hp_cons_apply, hset_cons, oGdiskDisk, hq_n0, hr_n0, vptr_0, vptr_1]; done))
       refine hk _ _ _ ?_
       refine xghost (D := []) ?_ ?_ ?_ ?_
       ·exact (.cons (Sub.of_eq rfl) (.cons (Sub.of_eq rfl) (.cons (Sub.of_eq rfl) (.cons (Sub.of_eq (by first | rfl | (simp only [sget_cons, reduceIte, Nat.reduceEqDiff, Bool.and_true, Bool.true_and, Bool.and_false, Bool.false_and, Bool.or_true, Bool.true_or, Bool.or_false, Bool.false_or, Bool.not_true, Bool.not_false, Bool.not_not, hc_4]; done))) .nil))))
       ·exact HpW.refl
       ·exact (by intro p hp; cases hp)
       ·omega
    ·rw [if_neg hs] at h
     obtain ⟨v_1, hv_1, h⟩ := bd_some h
     obtain ⟨hg, h⟩ := gd_some h
     refine xseq [(0, .ptr n0 0), (1, .lit (.int .i64 n)), (2, .lit (.int .i64 size)), (28, .lit (.bool (((!v_1) || (decide (size < 0))) || true)))] (hp [(n0, .box [.lit (.int .i64 dx.power), eO (lI .u8) dx.areas.x0.data, .lit (.int .i64 dx.areas.x0.safe), eO (lI .u8) dx.areas.x1.data, .lit (.int .i64 dx.areas.x1.safe)])] S) 0 ?_ (fun k kp hk => ?_)
     ·refine xcond (((!v_1) || (decide (size < 0))) || true) rfl (fun hc => ?_) (fun hc => ?_)
      ·rw [ite_t hc] at h
       refine xseq [(6, .lit (.int .i64 41))] (hp [(n0, .box [.lit (.int .i64 dx.power), eO (lI .u8) dx.areas.x0.data, .lit (.int .i64 dx.areas.x0.safe), eO (lI .u8) dx.areas.x1.data, .lit (.int .i64 dx.areas.x1.safe)])] S) 0 ?_ (fun k kp hk => ?_)
       ·refine LW_ret ?_
        obtain rfl := Option.some.inj h
        show FPost _ _ _ _ _ _ _
        exact ⟨_, hp_less (L := [(n0, .box [.lit (.int .i64 dx.power), eO (lI .u8) dx.areas.x0.data, .lit (.int .i64 dx.areas.x0.safe), eO (lI .u8) dx.areas.x1.data, .lit (.int .i64 dx.areas.x1.safe)])]) (D := []) (by intro p hp; cases hp), rfl, rfl⟩
       ·try simp (maxSteps := 4000000) only [go_sem, Prod.mk.injEq, reduceIte, Nat.reduceEqDiff, Nat.reduceAdd, Nat.reduceSub, Nat.reduceMul, Nat.reduceDiv, Nat.reducePow, Nat.reduceLT, Nat.reduceLeDiff, Nat.reduceBEq, Nat.reduceBneDiff, Int.reduceToNat, Int.reduceEq, Int.reduceLE, Int.reduceLT, reduceCtorEq, oGdiskDisk, hq_n0, hr_n0]
        repeat (with_reducible refine And.intro ?_ ?_; next => first | assumption | trivial | omega | decide | (constructor <;> first | assumption | omega) | (simp [Keep.ok, hp_cons_apply, hset_cons, oGdiskDisk, hq_n0, hr_n0]; done))
        refine hk _ _ _ ?_
        refine xghost (D := []) ?_ ?_ ?_ ?_
        ·exact (.cons (Sub.of_eq rfl) .nil)
        ·exact HpW.refl
        ·exact (by intro p hp; cases hp)
        ·omega
      ·rw [ite_f hc] at h
       refine LW_skipX (sl' := [(0, .ptr n0 0), (1, .lit (.int .i64 n)), (2, .lit (.int .i64 size)), (28, .lit (.bool (((!v_1) || (decide (size < 0))) || true)))]) (S' := (hp [(n0, .box [.lit (.int .i64 dx.power), eO (lI .u8) dx.areas.x0.data, .lit (.int .i64 dx.areas.x0.safe), eO (lI .u8) dx.areas.x1.data, .lit (.int .i64 dx.areas.x1.safe)])] S)) (c' := 1) ?_ ?_
       ·refine xghost (D := []) ?_ ?_ ?_ ?_
        ·exact (.cons (Sub.of_eq rfl) (.cons (Sub.of_eq rfl) (.cons (Sub.of_eq rfl) (.cons (Sub.of_eq rfl) .nil))))
        ·exact HpW.refl
        ·exact (by intro p hp; cases hp)
        ·omega
       ·exact hj_1 (n, (((!v_1) || (decide (size < 0))) || true)) h
     ·try simp (maxSteps := 4000000) only [go_sem, Prod.mk.injEq, reduceIte, Nat.reduceEqDiff, Nat.reduceAdd, Nat.reduceSub, Nat.reduceMul, Nat.reduceDiv, Nat.reducePow, Nat.reduceLT, Nat.reduceLeDiff, Nat.reduceBEq, Nat.reduceBneDiff, Int.reduceToNat, Int.reduceEq, Int.reduceLE, Int.reduceLT, reduceCtorEq, oGdiskDisk, hq_n0, hr_n0]
      repeat (with_reducible refine And.intro ?_ ?_; next => first | assumption | trivial | omega | decide | (constructor <;> first | assumption | omega) | (simp [Keep.ok, hp_cons_apply, hset_cons, oGdiskDisk, hq_n0, hr_n0]; done))
      have hcall := s_disk_there_ok (hp [(n0, .box [.lit (.int .i64 dx.power), eO (lI .u8) dx.areas.x0.data, .lit (.int .i64 dx.areas.x0.safe), eO (lI .u8) dx.areas.x1.data, .lit (.int .i64 dx.areas.x1.safe)])] S) ([n]) hv_1
      refine call1_x hcall rfl ?_ ?_
      ·exact (.cons (Sub.young (L := (lI .i64)) (xs := [n])) .nil)
      clear hcall
      rintro _ SS ⟨rfl, hSS⟩ -
      rw [hSS]
      clear hSS
      try simp (maxSteps := 4000000) only [go_sem, Prod.mk.injEq, reduceIte, Nat.reduceEqDiff, Nat.reduceAdd, Nat.reduceSub, Nat.reduceMul, Nat.reduceDiv, Nat.reducePow, Nat.reduceLT, Nat.reduceLeDiff, Nat.reduceBEq, Nat.reduceBneDiff, Int.reduceToNat, Int.reduceEq, Int.reduceLE, Int.reduceLT, reduceCtorEq, oGdiskDisk, hq_n0, hr_n0]
      repeat (with_reducible refine And.intro ?_ ?_; next => first | assumption | trivial | omega | decide | (constructor <;> first | assumption | omega) | (simp [Keep.ok, hp_cons_apply, hset_cons, oGdiskDisk, hq_n0, hr_n0]; done))
      refine xo_guard (!v_1) rfl (fun hc_1 => ?_) (fun hc_1 => ?_)
      ·have hc_1 : v_1 = true := by first | (generalize v_1 = q at hc_1 ⊢; revert hc_1; cases q <;> simp; done) | simpa using hc_1
       try simp (maxSteps := 4000000) only [go_sem, Prod.mk.injEq, reduceIte, Nat.reduceEqDiff, Nat.reduceAdd, Nat.reduceSub, Nat.reduceMul, Nat.reduceDiv, Nat.reducePow, Nat.reduceLT, Nat.reduceLeDiff, Nat.reduceBEq, Nat.reduceBneDiff, Int.reduceToNat, Int.reduceEq, Int.reduceLE, Int.reduceLT, reduceCtorEq, oGdiskDisk, hq_n0, hr_n0, hc_1]
       repeat (with_reducible refine And.intro ?_ ?_; next => first | assumption | trivial | omega | decide | (constructor <;> first | assumption | omega) | (simp [Keep.ok, hp_cons_apply, hset_cons, oGdiskDisk, hq_n0, hr_n0]; done))
       refine xo_guard (decide (size < 0)) rfl (fun hc_2 => ?_) (fun hc_2 => ?_)
       ·have hg := hg (by simp only [Bool.and_true, Bool.true_and, Bool.and_false, Bool.false_and, Bool.or_true, Bool.true_or, Bool.or_false, Bool.false_or, Bool.not_true, Bool.not_false, Bool.not_not, hc_1, hc_2])
        exact hg.elim
       ·try simp (maxSteps := 4000000) only [go_sem, Prod.mk.injEq, reduceIte, Nat.reduceEqDiff, Nat.reduceAdd, Nat.reduceSub, Nat.reduceMul, Nat.reduceDiv, Nat.reducePow, Nat.reduceLT, Nat.reduceLeDiff, Nat.reduceBEq, Nat.reduceBneDiff, Int.reduceToNat, Int.reduceEq, Int.reduceLE, Int.reduceLT, reduceCtorEq, oGdiskDisk, hq_n0, hr_n0, hc_1, hc_2]
        repeat (with_reducible refine And.intro ?_ ?_; next => first | assumption | trivial | omega | decide | (constructor <;> first | assumption | omega) | (simp [Keep.ok, hp_cons_apply, hset_cons, oGdiskDisk, hq_n0, hr_n0]; done))
        refine hk _ _ _ ?_
        refine xghost (D := []) ?_ ?_ ?_ ?_
        ·exact (.cons (Sub.of_eq rfl) (.cons (Sub.of_eq rfl) (.cons (Sub.of_eq rfl) (.cons (Sub.of_eq (by first | rfl | (simp only [sget_cons, reduceIte, Nat.reduceEqDiff, Bool.and_true, Bool.true_and, Bool.and_false, Bool.false_and, Bool.or_true, Bool.true_or, Bool.or_false, Bool.false_or, Bool.not_true, Bool.not_false, Bool.not_not, hc_1, hc_2]; done))) .nil))))
        ·exact HpW.refl
        ·exact (by intro p hp; cases hp)
        ·omega
      ·have hc_1 : v_1 = false := by first | (generalize v_1 = q at hc_1 ⊢; revert hc_1; cases q <;> simp; done) | simpa using hc_1
       try simp (maxSteps := 4000000) only [go_sem, Prod.mk.injEq, reduceIte, Nat.reduceEqDiff, Nat.reduceAdd, Nat.reduceSub, Nat.reduceMul, Nat.reduceDiv, Nat.reducePow, Nat.reduceLT, Nat.reduceLeDiff, Nat.reduceBEq, Nat.reduceBneDiff, Int.reduceToNat, Int.reduceEq, Int.reduceLE, Int.reduceLT, reduceCtorEq, oGdiskDisk, hq_n0, hr_n0, hc_1]
       repeat (with_reducible refine And.intro ?_ ?_; next => first | assumption | trivial | omega | decide | (constructor <;> first | assumption | omega) | (simp [Keep.ok, hp_cons_apply, hset_cons, oGdiskDisk, hq_n0, hr_n0]; done))
       refine hk _ _ _ ?_
       refine xghost (D := []) ?_ ?_ ?_ ?_
       ·exact (.cons (Sub.of_eq rfl) (.cons (Sub.of_eq rfl) (.cons (Sub.of_eq rfl) (.cons (Sub.of_eq (by first | rfl | (simp only [sget_cons, reduceIte, Nat.reduceEqDiff, Bool.and_true, Bool.true_and, Bool.and_false, Bool.false_and, Bool.or_true, Bool.true_or, Bool.or_false, Bool.false_or, Bool.not_true, Bool.not_false, Bool.not_not, hc_1]; done))) .nil))))
       ·exact HpW.refl
       ·exact (by intro p hp; cases hp)
       ·omega
 ·try simp (maxSteps := 4000000) only [go_sem, Prod.mk.injEq, reduceIte, Nat.reduceEqDiff, Nat.reduceAdd, Nat.reduceSub, Nat.reduceMul, Nat.reduceDiv, Nat.reducePow, Nat.reduceLT, Nat.reduceLeDiff, Nat.reduceBEq, Nat.reduceBneDiff, Int.reduceToNat, Int.reduceEq, Int.reduceLE, Int.reduceLT, reduceCtorEq, oGdiskDisk, hq_n0, hr_n0]
  repeat (with_reducible refine And.intro ?_ ?_; next => first | assumption | trivial | omega | decide | (constructor <;> first | assumption | omega) | (simp [Keep.ok, hp_cons_apply, hset_cons, oGdiskDisk, hq_n0, hr_n0]; done))
  refine hk _ _ _ ?_
  refine xghost (D := []) ?_ ?_ ?_ ?_
  ·exact (.cons (Sub.of_eq rfl) (.cons (Sub.of_eq rfl) (.cons (Sub.of_eq rfl) .nil)))
  ·exact HpW.refl
  ·exact (by intro p hp; cases hp)
  ·omega
end
end Go.Proofs.Ythdmpdagkccphaa
