/- Go functions as Lean functions, and that their code does as these say. Printed by a program of this work. -/
import Derived.Test.YthdmpdagkccphaaWL
import Derived.Test.YthdmpdagkccphaaWa
import Derived.Test.YthdmpdagkccphaaWb
import Derived.Test.YthdmpdagkccphaaWc
set_option linter.unusedVariables false
set_option linter.unusedSimpArgs false
set_option maxRecDepth 100000
set_option maxHeartbeats 4000000
namespace Go.Proofs.Ythdmpdagkccphaa
open Go Go.Al
noncomputable section
/-! stanchion/stanchionlaw04.DiskAreas -/
def s_stanchionlaw04_DiskAreas_j1 (t9 : Int) (D_1 : GdiskDisk) (D_2 : GdiskDisk) : Option ((Int × GdiskDisk × GdiskDisk) ⊕ Bool) :=
 some (.inl ((IntKind.i64.wrap (t9 + 1)), D_1, D_2))
def s_stanchionlaw04_DiskAreas_j2 (o : Int) (v_1 : List Glaw04Op) (t9 : Int) (D : GdiskDisk) (D_1 : GdiskDisk) (m : List Int) : Option ((Int × GdiskDisk × GdiskDisk) ⊕ Bool) :=
 bd (s_stanchionlaw04_act D (Glaw04Op.mk ((v_1.getD (Int.toNat t9) yGlaw04Op.dflt).What) ((v_1.getD (Int.toNat t9) yGlaw04Op.dflt).Area) ((v_1.getD (Int.toNat t9) yGlaw04Op.dflt).N) ((v_1.getD (Int.toNat t9) yGlaw04Op.dflt).Parts) m)) fun (v_5 : Int × GdiskDisk) => if ((v_1.getD (Int.toNat t9) yGlaw04Op.dflt).Area == o) = true then bd (s_stanchionlaw04_act D_1 (Glaw04Op.mk ((v_1.getD (Int.toNat t9) yGlaw04Op.dflt).What) ((v_1.getD (Int.toNat t9) yGlaw04Op.dflt).Area) ((v_1.getD (Int.toNat t9) yGlaw04Op.dflt).N) ((v_1.getD (Int.toNat t9) yGlaw04Op.dflt).Parts) m)) fun (v_6 : Int × GdiskDisk) => s_stanchionlaw04_DiskAreas_j1 t9 v_5.2 v_6.2 else s_stanchionlaw04_DiskAreas_j1 t9 v_5.2 D_1
def s_stanchionlaw04_DiskAreas_b1 (o : Int) (A : List Int) (v_1 : List Glaw04Op) : (Int × GdiskDisk × GdiskDisk) → Option ((Int × GdiskDisk × GdiskDisk) ⊕ Bool)
 | (t9, D, D_1) => if (decide (t9 < (v_1.length : Int))) = true then gd ((0 ≤ t9 ∧ Int.toNat t9 < v_1.length)) (if ((v_1.getD (Int.toNat t9) yGlaw04Op.dflt).What == 3) = true then s_stanchionlaw04_DiskAreas_j2 o v_1 t9 D D_1 ([(v_1.getD (Int.toNat t9) yGlaw04Op.dflt).Area]) else s_stanchionlaw04_DiskAreas_j2 o v_1 t9 D D_1 ((v_1.getD (Int.toNat t9) yGlaw04Op.dflt).Areas)) else mr (bd (s_disk_Disk_Read D o) fun (v_7 : List Int × Int) => bd (s_disk_Disk_Read D_1 o) fun (v_8 : List Int × Int) => bd (s_stanchionref00_CopyInts A) fun (v_9 : List Int) => bd (s_disk_Disk_Crash D v_9 (-1)) fun (v_10 : GdiskDisk) => bd (s_stanchionref00_CopyInts A) fun (v_11 : List Int) => bd (s_disk_Disk_Crash D_1 v_11 (-1)) fun (v_12 : GdiskDisk) => bd (s_stanchionref00_SameBytes v_7.1 v_8.1) fun (v_13 : Bool) => if (!v_13) = true then some false else bd (s_disk_Disk_Read v_10 o) fun (v_14 : List Int × Int) => bd (s_disk_Disk_Read v_12 o) fun (v_15 : List Int × Int) => bd (s_stanchionref00_SameBytes v_14.1 v_15.1) fun (v_16 : Bool) => some v_16)
def s_stanchionlaw04_DiskAreas (t : List Glaw04Op) (o : Int) (A : List Int) : Option Bool :=
 bd (s_stanchionlaw04_alive ) fun (v : Bool) => if (!v) = true then some false else bd (s_stanchionlaw04_cut t) fun (v_1 : List Glaw04Op) => bd (s_stanchionlaw04_great v_1) fun (v_2 : Bool) => if (v_2 || ((o != 0) && (o != 1))) = true then some true else bd (s_disk_New (-1)) fun (v_3 : GdiskDisk) => bd (s_disk_New (-1)) fun (v_4 : GdiskDisk) => loop (s_stanchionlaw04_DiskAreas_b1 o A v_1) (0, v_3, v_4)
theorem s_stanchionlaw04_DiskAreas_ok (S : AHeap) (t : List Glaw04Op) (o : Int) (A : List Int) {r : Bool} (h : s_stanchionlaw04_DiskAreas t o A = some r) :
  AC Try.prog n_stanchionlaw04_DiskAreas [eS yGlaw04Op t, .lit (.int .i64 o), eS (lI .i64) A] S fun r' S' => r' = .ret (.lit (.bool r)) ∧ S' = S := by
 refine AC_of tok mixed fits_stanchionlaw04_DiskAreas fun d hd => ?_
 unfold c_stanchionlaw04_DiskAreas
 show LW _ _ _ _ [(0, eS yGlaw04Op t), (1, .lit (.int .i64 o)), (2, eS (lI .i64) A)] (hp [] S) 0 _
 rw [s_stanchionlaw04_DiskAreas] at h
 refine xseq [(0, eS yGlaw04Op t), (1, .lit (.int .i64 o)), (2, eS (lI .i64) A)] (hp [] S) 0 ?_ (fun k kp hk => ?_)
 ·refine LW_seq ?_
  obtain ⟨v, hv, h⟩ := bd_some h
  refine xseq [(0, eS yGlaw04Op t), (1, .lit (.int .i64 o)), (2, eS (lI .i64) A), (16, .lit (.bool (!v)))] (hp [] S) 0 ?_ (fun k kp hk => ?_)
  ·refine xcond (!v) rfl (fun hc => ?_) (fun hc => ?_)
   ·rw [ite_t hc] at h
    refine xseq [(6, .lit (.bool false))] (hp [] S) 0 ?_ (fun k kp hk => ?_)
    ·refine LW_ret ?_
     obtain rfl := Option.some.inj h
     show FPost _ _ _ _ _ _ _
     exact ⟨_, hp_less (L := []) (D := []) (by intro p hp; cases hp), rfl, rfl⟩
    ·try simp (maxSteps := 4000000) only [go_sem, Prod.mk.injEq, reduceIte, Nat.reduceEqDiff, Nat.reduceAdd, Nat.reduceSub, Nat.reduceMul, Nat.reduceDiv, Nat.reducePow, Nat.reduceLT, Nat.reduceLeDiff, Nat.reduceBEq, Nat.reduceBneDiff, Int.reduceToNat, Int.reduceEq, Int.reduceLE, Int.reduceLT, reduceCtorEq]
     repeat (with_reducible refine And.intro ?_ ?_; next => first | assumption | trivial | omega | decide | (constructor <;> first | assumption | omega) | (simp [Keep.ok, hp_cons_apply, hset_cons]; done))
     refine hk _ _ _ ?_
     refine xghost (D := []) ?_ ?_ ?_ ?_
     ·exact (.cons (Sub.of_eq rfl) .nil)
     ·exact HpW.refl
     ·exact (by intro p hp; cases hp)
     ·omega
   ·rw [ite_f hc] at h
    refine LW_skip ?_
    show LW _ _ _ _ _ _ _ _
    obtain ⟨v_1, hv_1, h⟩ := bd_some h
    refine xseq [(0, eS yGlaw04Op v_1), (1, .lit (.int .i64 o)), (2, eS (lI .i64) A)] (hp [] S) 0 ?_ (fun k kp hk => ?_)
    ·refine LW_seq ?_
     obtain ⟨v_2, hv_2, h⟩ := bd_some h
     refine xseq [(0, eS yGlaw04Op v_1), (1, .lit (.int .i64 o)), (2, eS (lI .i64) A), (28, .lit (.bool (v_2 || ((o != 0) && (o != 1)))))] (hp [] S) 0 ?_ (fun k kp hk => ?_)
     ·refine xcond (v_2 || ((o != 0) && (o != 1))) rfl (fun hc_1 => ?_) (fun hc_1 => ?_)
      ·rw [ite_t hc_1] at h
       refine xseq [(6, .lit (.bool true))] (hp [] S) 0 ?_ (fun k kp hk => ?_)
       ·refine LW_ret ?_
        obtain rfl := Option.some.inj h
        show FPost _ _ _ _ _ _ _
        exact ⟨_, hp_less (L := []) (D := []) (by intro p hp; cases hp), rfl, rfl⟩
       ·try simp (maxSteps := 4000000) only [go_sem, Prod.mk.injEq, reduceIte, Nat.reduceEqDiff, Nat.reduceAdd, Nat.reduceSub, Nat.reduceMul, Nat.reduceDiv, Nat.reducePow, Nat.reduceLT, Nat.reduceLeDiff, Nat.reduceBEq, Nat.reduceBneDiff, Int.reduceToNat, Int.reduceEq, Int.reduceLE, Int.reduceLT, reduceCtorEq]
        repeat (with_reducible refine And.intro ?_ ?_; next => first | assumption | trivial | omega | decide | (constructor <;> first | assumption | omega) | (simp [Keep.ok, hp_cons_apply, hset_cons]; done))
        refine hk _ _ _ ?_
        refine xghost (D := []) ?_ ?_ ?_ ?_
        ·exact (.cons (Sub.of_eq rfl) .nil)
        ·exact HpW.refl
        ·exact (by intro p hp; cases hp)
        ·omega
      ·rw [ite_f hc_1] at h
       refine LW_skip ?_
       show LW _ _ _ _ _ _ _ _
       obtain ⟨v_3, hv_3, h⟩ := bd_some h
       refine xseq [(0, eS yGlaw04Op v_1), (1, .lit (.int .i64 o)), (2, eS (lI .i64) A), (7, .ptr (d, 0) 0)] (hp [((d, 0), oGdiskDisk v_3)] S) 1 ?_ (fun k kp hk => ?_)
       ·obtain ⟨v_4, hv_4, h⟩ := bd_some h
        refine xseq [(0, eS yGlaw04Op v_1), (1, .lit (.int .i64 o)), (2, eS (lI .i64) A), (7, .ptr (d, 0) 0), (8, .ptr (d, 1) 0)] (hp [((d, 0), oGdiskDisk v_3), ((d, 1), oGdiskDisk v_4)] S) 2 ?_ (fun k kp hk => ?_)
        ·refine LW_seq ?_
         refine xseq [(0, eS yGlaw04Op v_1), (1, .lit (.int .i64 o)), (2, eS (lI .i64) A), (7, .ptr (d, 0) 0), (8, .ptr (d, 1) 0), (36, .lit (.bool false))] (hp [((d, 0), oGdiskDisk v_3), ((d, 1), oGdiskDisk v_4)] S) 2 ?_ (fun k kp hk => ?_)
         ·refine xcond false rfl (fun h0 => by cases h0) (fun _ => ?_)
          refine LW_skip ?_
          show LW _ _ _ _ _ _ _ _
          refine LW_seq ?_
          refine xseq [(0, eS yGlaw04Op v_1), (1, .lit (.int .i64 o)), (2, eS (lI .i64) A), (7, .ptr (d, 0) 0), (8, .ptr (d, 1) 0), (9, .lit (.int .i64 0))] (hp [((d, 0), oGdiskDisk v_3), ((d, 1), oGdiskDisk v_4)] S) 2 ?_ (fun k kp hk => ?_)
          ·refine LW_block ?_
           refine LW_loopX (c := 2) (σ := Int × GdiskDisk × GdiskDisk) (s := (0, v_3, v_4)) (fun zz => [(0, eS yGlaw04Op v_1), (1, .lit (.int .i64 o)), (2, eS (lI .i64) A), (7, .ptr (d, 0) 0), (8, .ptr (d, 1) 0), (9, .lit (.int .i64 zz.1))]) (fun zz => (hp [((d, 0), oGdiskDisk zz.2.1), ((d, 1), oGdiskDisk zz.2.2)] S)) h ?_ ?_
           ·clear h
            rintro ⟨t9, D, D_1⟩ x1 d1 hd1 hf1 h hx1
            show LW _ _ _ _ [(0, eS yGlaw04Op v_1), (1, .lit (.int .i64 o)), (2, eS (lI .i64) A), (7, .ptr (d, 0) 0), (8, .ptr (d, 1) 0), (9, .lit (.int .i64 t9))] (hp [((d, 0), oGdiskDisk D), ((d, 1), oGdiskDisk D_1)] S) 0 _
            have hn1d : (d = d1) = False := by simp; omega
            have hm1d : (d1 = d) = False := by simp; omega
            rw [s_stanchionlaw04_DiskAreas_b1] at h
            refine LW_seq ?_
            refine xseq [(0, eS yGlaw04Op v_1), (1, .lit (.int .i64 o)), (2, eS (lI .i64) A), (7, .ptr (d, 0) 0), (8, .ptr (d, 1) 0), (9, .lit (.int .i64 t9)), (40, .lit (.bool (decide (t9 < (v_1.length : Int)))))] (hp [((d, 0), oGdiskDisk D), ((d, 1), oGdiskDisk D_1)] S) 0 ?_ (fun k kp hk => ?_)
            ·refine xcond (decide (t9 < (v_1.length : Int))) rfl (fun hc_2 => ?_) (fun hc_2 => ?_)
             ·rw [ite_t hc_2] at h
              refine LW_skip ?_
              show LW _ _ _ _ _ _ _ _
              refine xjoin (J := GdiskDisk × GdiskDisk) (fun jj => [(0, eS yGlaw04Op v_1), (1, .lit (.int .i64 o)), (2, eS (lI .i64) A), (7, .ptr (d, 0) 0), (8, .ptr (d, 1) 0), (9, .lit (.int .i64 t9))]) (fun jj => (hp [((d, 0), oGdiskDisk jj.1), ((d, 1), oGdiskDisk jj.2)] S)) 1 (fun jj => s_stanchionlaw04_DiskAreas_j1 t9 jj.1 jj.2 = some x1) ?_ (fun hj_1 => ?_)
              ·rintro ⟨D_1, D_2⟩ h
               show LW _ _ _ _ [(0, eS yGlaw04Op v_1), (1, .lit (.int .i64 o)), (2, eS (lI .i64) A), (7, .ptr (d, 0) 0), (8, .ptr (d, 1) 0), (9, .lit (.int .i64 t9))] (hp [((d, 0), oGdiskDisk D_1), ((d, 1), oGdiskDisk D_2)] S) 1 _
               replace h : s_stanchionlaw04_DiskAreas_j1 t9 D_1 D_2 = some x1 := h
               rw [s_stanchionlaw04_DiskAreas_j1] at h
               refine xreg [(0, eS yGlaw04Op v_1), (1, .lit (.int .i64 o)), (2, eS (lI .i64) A), (7, .ptr (d, 0) 0), (8, .ptr (d, 1) 0), (9, .lit (.int .i64 (IntKind.i64.wrap (t9 + 1))))] (hp [((d, 0), oGdiskDisk D_1), ((d, 1), oGdiskDisk D_2)] S) 1 ?_ (fun k kp hk => ?_)
               ·cases h
                exact ⟨rfl, Less.refl _⟩
               ·try simp (maxSteps := 4000000) only [go_sem, Prod.mk.injEq, reduceIte, Nat.reduceEqDiff, Nat.reduceAdd, Nat.reduceSub, Nat.reduceMul, Nat.reduceDiv, Nat.reducePow, Nat.reduceLT, Nat.reduceLeDiff, Nat.reduceBEq, Nat.reduceBneDiff, Int.reduceToNat, Int.reduceEq, Int.reduceLE, Int.reduceLT, reduceCtorEq, hn1d, hm1d]
                repeat (with_reducible refine And.intro ?_ ?_; next => first | assumption | trivial | omega | decide | (constructor <;> first | assumption | omega) | (simp [Keep.ok, hp_cons_apply, hset_cons, hn1d, hm1d]; done))
                refine hk _ _ _ ?_
                refine xghost (D := []) ?_ ?_ ?_ ?_
                ·exact (.cons (Sub.of_eq rfl) (.cons (Sub.of_eq rfl) (.cons (Sub.of_eq rfl) (.cons (Sub.of_eq rfl) (.cons (Sub.of_eq rfl) (.cons (Sub.of_eq rfl) .nil))))))
                ·exact HpW.refl
                ·exact (by intro p hp; cases hp)
                ·omega
              ·refine LW_block ?_
               obtain ⟨hg, h⟩ := gd_some h
               refine xseq [(0, eS yGlaw04Op v_1), (1, .lit (.int .i64 o)), (2, eS (lI .i64) A), (7, .ptr (d, 0) 0), (8, .ptr (d, 1) 0), (9, .lit (.int .i64 t9)), (10, .ptr (d1, 0) 0)] (hp [((d, 0), oGdiskDisk D), ((d, 1), oGdiskDisk D_1), ((d1, 0), .box [.lit (.int .i64 ((v_1.getD (Int.toNat t9) yGlaw04Op.dflt).What)), .lit (.int .i64 ((v_1.getD (Int.toNat t9) yGlaw04Op.dflt).Area)), .lit (.int .i64 ((v_1.getD (Int.toNat t9) yGlaw04Op.dflt).N)), eS (lS (lI .u8)) ((v_1.getD (Int.toNat t9) yGlaw04Op.dflt).Parts), eS (lI .i64) ((v_1.getD (Int.toNat t9) yGlaw04Op.dflt).Areas)])] S) 1 ?_ (fun k kp hk => ?_)
               ·refine xjoin (J := List Int) (fun jj => [(0, eS yGlaw04Op v_1), (1, .lit (.int .i64 o)), (2, eS (lI .i64) A), (7, .ptr (d, 0) 0), (8, .ptr (d, 1) 0), (9, .lit (.int .i64 t9)), (10, .ptr (d1, 0) 0)]) (fun jj => (hp [((d, 0), oGdiskDisk D), ((d, 1), oGdiskDisk D_1), ((d1, 0), .box [.lit (.int .i64 ((v_1.getD (Int.toNat t9) yGlaw04Op.dflt).What)), .lit (.int .i64 ((v_1.getD (Int.toNat t9) yGlaw04Op.dflt).Area)), .lit (.int .i64 ((v_1.getD (Int.toNat t9) yGlaw04Op.dflt).N)), eS (lS (lI .u8)) ((v_1.getD (Int.toNat t9) yGlaw04Op.dflt).Parts), eS (lI .i64) jj])] S)) 1 (fun jj => s_stanchionlaw04_DiskAreas_j2 o v_1 t9 D D_1 jj = some x1) ?_ (fun hj => ?_)
                ·rintro m h
                 show LW _ _ _ _ [(0, eS yGlaw04Op v_1), (1, .lit (.int .i64 o)), (2, eS (lI .i64) A), (7, .ptr (d, 0) 0), (8, .ptr (d, 1) 0), (9, .lit (.int .i64 t9)), (10, .ptr (d1, 0) 0)] (hp [((d, 0), oGdiskDisk D), ((d, 1), oGdiskDisk D_1), ((d1, 0), .box [.lit (.int .i64 ((v_1.getD (Int.toNat t9) yGlaw04Op.dflt).What)), .lit (.int .i64 ((v_1.getD (Int.toNat t9) yGlaw04Op.dflt).Area)), .lit (.int .i64 ((v_1.getD (Int.toNat t9) yGlaw04Op.dflt).N)), eS (lS (lI .u8)) ((v_1.getD (Int.toNat t9) yGlaw04Op.dflt).Parts), eS (lI .i64) m])] S) 1 _
                 replace h : s_stanchionlaw04_DiskAreas_j2 o v_1 t9 D D_1 m = some x1 := h
                 rw [s_stanchionlaw04_DiskAreas_j2] at h
                 obtain ⟨v_5, hv_5, h⟩ := bd_some h
                 refine xseq [(0, eS yGlaw04Op v_1), (1, .lit (.int .i64 o)), (2, eS (lI .i64) A), (7, .ptr (d, 0) 0), (8, .ptr (d, 1) 0), (9, .lit (.int .i64 t9)), (10, .ptr (d1, 0) 0)] (hp [((d, 0), oGdiskDisk v_5.2), ((d, 1), oGdiskDisk D_1), ((d1, 0), .box [.lit (.int .i64 ((v_1.getD (Int.toNat t9) yGlaw04Op.dflt).What)), .lit (.int .i64 ((v_1.getD (Int.toNat t9) yGlaw04Op.dflt).Area)), .lit (.int .i64 ((v_1.getD (Int.toNat t9) yGlaw04Op.dflt).N)), eS (lS (lI .u8)) ((v_1.getD (Int.toNat t9) yGlaw04Op.dflt).Parts), eS (lI .i64) m])] S) 1 ?_ (fun k kp hk => ?_)
                 ·refine xseq [(0, eS yGlaw04Op v_1), (1, .lit (.int .i64 o)), (2, eS (lI .i64) A), (7, .ptr (d, 0) 0), (8, .ptr (d, 1) 0), (9, .lit (.int .i64 t9)), (10, .ptr (d1, 0) 0), (60, .lit (.bool ((v_1.getD (Int.toNat t9) yGlaw04Op.dflt).Area == o)))] (hp [((d, 0), oGdiskDisk v_5.2), ((d, 1), oGdiskDisk D_1), ((d1, 0), .box [.lit (.int .i64 ((v_1.getD (Int.toNat t9) yGlaw04Op.dflt).What)), .lit (.int .i64 ((v_1.getD (Int.toNat t9) yGlaw04Op.dflt).Area)), .lit (.int .i64 ((v_1.getD (Int.toNat t9) yGlaw04Op.dflt).N)), eS (lS (lI .u8)) ((v_1.getD (Int.toNat t9) yGlaw04Op.dflt).Parts), eS (lI .i64) m])] S) 1 ?_ (fun k kp hk => ?_)
                  ·refine xcond ((v_1.getD (Int.toNat t9) yGlaw04Op.dflt).Area == o) rfl (fun hc_4 => ?_) (fun hc_4 => ?_)
                   ·rw [ite_t hc_4] at h
                    obtain ⟨v_6, hv_6, h⟩ := bd_some h
                    refine xreg [(0, eS yGlaw04Op v_1), (1, .lit (.int .i64 o)), (2, eS (lI .i64) A), (7, .ptr (d, 0) 0), (8, .ptr (d, 1) 0), (9, .lit (.int .i64 t9))] (hp [((d, 0), oGdiskDisk v_5.2), ((d, 1), oGdiskDisk v_6.2)] S) 1 ?_ (fun k kp hk => ?_)
                    ·exact hj_1 (v_5.2, v_6.2) h
                    ·try simp (maxSteps := 4000000) only [go_sem, Prod.mk.injEq, reduceIte, Nat.reduceEqDiff, Nat.reduceAdd, Nat.reduceSub, Nat.reduceMul, Nat.reduceDiv, Nat.reducePow, Nat.reduceLT, Nat.reduceLeDiff, Nat.reduceBEq, Nat.reduceBneDiff, Int.reduceToNat, Int.reduceEq, Int.reduceLE, Int.reduceLT, reduceCtorEq, hn1d, hm1d]
                     repeat (with_reducible refine And.intro ?_ ?_; next => first | assumption | trivial | omega | decide | (constructor <;> first | assumption | omega) | (simp [Keep.ok, hp_cons_apply, hset_cons, hn1d, hm1d]; done))
                     have hcall := s_stanchionlaw04_act_ok (n0 := (d, 1)) (hS0 := by simp only [hp_cons_apply, hp_nil_apply, reduceIte, Prod.mk.injEq, Nat.reduceEqDiff, and_true, and_false, true_and, false_and, hn1d, hm1d] <;> rfl) (hp [((d, 0), oGdiskDisk v_5.2), ((d, 1), oGdiskDisk D_1), ((d1, 0), .box [.lit (.int .i64 ((v_1.getD (Int.toNat t9) yGlaw04Op.dflt).What)), .lit (.int .i64 ((v_1.getD (Int.toNat t9) yGlaw04Op.dflt).Area)), .lit (.int .i64 ((v_1.getD (Int.toNat t9) yGlaw04Op.dflt).N)), eS (lS (lI .u8)) ((v_1.getD (Int.toNat t9) yGlaw04Op.dflt).Parts), eS (lI .i64) m])] S) _ (Glaw04Op.mk ((v_1.getD (Int.toNat t9) yGlaw04Op.dflt).What) ((v_1.getD (Int.toNat t9) yGlaw04Op.dflt).Area) ((v_1.getD (Int.toNat t9) yGlaw04Op.dflt).N) ((v_1.getD (Int.toNat t9) yGlaw04Op.dflt).Parts) m) (h := hv_6)
                     refine call1_x hcall rfl ?_ ?_
                     ·exact (.cons Sub.refl (.cons Sub.refl .nil))
                     clear hcall
                     rintro _ SS ⟨rfl, hSS⟩ -
                     rw [hSS]
                     clear hSS
                     try simp (maxSteps := 4000000) only [go_sem, Prod.mk.injEq, reduceIte, Nat.reduceEqDiff, Nat.reduceAdd, Nat.reduceSub, Nat.reduceMul, Nat.reduceDiv, Nat.reducePow, Nat.reduceLT, Nat.reduceLeDiff, Nat.reduceBEq, Nat.reduceBneDiff, Int.reduceToNat, Int.reduceEq, Int.reduceLE, Int.reduceLT, reduceCtorEq, hn1d, hm1d]
                     repeat (with_reducible refine And.intro ?_ ?_; next => first | assumption | trivial | omega | decide | (constructor <;> first | assumption | omega) | (simp [Keep.ok, hp_cons_apply, hset_cons, hn1d, hm1d]; done))
                     refine hk _ _ _ ?_
                     refine xghost (D := [((d1, 0), .box [.lit (.int .i64 ((v_1.getD (Int.toNat t9) yGlaw04Op.dflt).What)), .lit (.int .i64 ((v_1.getD (Int.toNat t9) yGlaw04Op.dflt).Area)), .lit (.int .i64 ((v_1.getD (Int.toNat t9) yGlaw04Op.dflt).N)), eS (lS (lI .u8)) ((v_1.getD (Int.toNat t9) yGlaw04Op.dflt).Parts), eS (lI .i64) m])]) ?_ ?_ ?_ ?_
                     ·exact (.cons (Sub.of_eq rfl) (.cons (Sub.of_eq rfl) (.cons (Sub.of_eq rfl) (.cons (Sub.of_eq rfl) (.cons (Sub.of_eq rfl) (.cons (Sub.of_eq rfl) .nil))))))
                     ·exact (.cons .refl (.cons .refl (.cons .refl .nil)))
                     ·exact (by intro p hp; simp only [List.mem_cons, List.not_mem_nil, or_false] at hp; rcases hp with rfl <;> first | exact hd _ (show d ≤ d1 by omega))
                     ·omega
                   ·rw [ite_f hc_4] at h
                    refine LW_skipX (sl' := [(0, eS yGlaw04Op v_1), (1, .lit (.int .i64 o)), (2, eS (lI .i64) A), (7, .ptr (d, 0) 0), (8, .ptr (d, 1) 0), (9, .lit (.int .i64 t9))]) (S' := (hp [((d, 0), oGdiskDisk v_5.2), ((d, 1), oGdiskDisk D_1)] S)) (c' := 1) ?_ ?_
                    ·refine xghost (D := [((d1, 0), .box [.lit (.int .i64 ((v_1.getD (Int.toNat t9) yGlaw04Op.dflt).What)), .lit (.int .i64 ((v_1.getD (Int.toNat t9) yGlaw04Op.dflt).Area)), .lit (.int .i64 ((v_1.getD (Int.toNat t9) yGlaw04Op.dflt).N)), eS (lS (lI .u8)) ((v_1.getD (Int.toNat t9) yGlaw04Op.dflt).Parts), eS (lI .i64) m])]) ?_ ?_ ?_ ?_
                     ·exact (.cons (Sub.of_eq rfl) (.cons (Sub.of_eq rfl) (.cons (Sub.of_eq rfl) (.cons (Sub.of_eq rfl) (.cons (Sub.of_eq rfl) (.cons (Sub.of_eq rfl) .nil))))))
                     ·exact (.cons .refl (.cons .refl (.cons .refl .nil)))
                     ·exact (by intro p hp; simp only [List.mem_cons, List.not_mem_nil, or_false] at hp; rcases hp with rfl <;> first | exact hd _ (show d ≤ d1 by omega))
                     ·omega
                    ·exact hj_1 (v_5.2, D_1) h
                  ·try simp (maxSteps := 4000000) only [go_sem, Prod.mk.injEq, reduceIte, Nat.reduceEqDiff, Nat.reduceAdd, Nat.reduceSub, Nat.reduceMul, Nat.reduceDiv, Nat.reducePow, Nat.reduceLT, Nat.reduceLeDiff, Nat.reduceBEq, Nat.reduceBneDiff, Int.reduceToNat, Int.reduceEq, Int.reduceLE, Int.reduceLT, reduceCtorEq, hn1d, hm1d]
                   repeat (with_reducible refine And.intro ?_ ?_; next => first | assumption | trivial | omega | decide | (constructor <;> first | assumption | omega) | (simp [Keep.ok, hp_cons_apply, hset_cons, hn1d, hm1d]; done))
                   refine hk _ _ _ ?_
                   refine xghost (D := []) ?_ ?_ ?_ ?_
                   ·exact (.cons (Sub.of_eq rfl) (.cons (Sub.of_eq rfl) (.cons (Sub.of_eq rfl) (.cons (Sub.of_eq rfl) (.cons (Sub.of_eq rfl) (.cons (Sub.of_eq rfl) (.cons (Sub.of_eq rfl) (.cons (Sub.of_eq rfl) .nil))))))))
                   ·exact HpW.refl
                   ·exact (by intro p hp; cases hp)
                   ·omega
                 ·try simp (maxSteps := 4000000) only [go_sem, Prod.mk.injEq, reduceIte, Nat.reduceEqDiff, Nat.reduceAdd, Nat.reduceSub, Nat.reduceMul, Nat.reduceDiv, Nat.reducePow, Nat.reduceLT, Nat.reduceLeDiff, Nat.reduceBEq, Nat.reduceBneDiff, Int.reduceToNat, Int.reduceEq, Int.reduceLE, Int.reduceLT, reduceCtorEq, hn1d, hm1d]
                  repeat (with_reducible refine And.intro ?_ ?_; next => first | assumption | trivial | omega | decide | (constructor <;> first | assumption | omega) | (simp [Keep.ok, hp_cons_apply, hset_cons, hn1d, hm1d]; done))
                  have hcall := s_stanchionlaw04_act_ok (n0 := (d, 0)) (hS0 := by simp only [hp_cons_apply, hp_nil_apply, reduceIte, Prod.mk.injEq, Nat.reduceEqDiff, and_true, and_false, true_and, false_and, hn1d, hm1d] <;> rfl) (hp [((d, 0), oGdiskDisk D), ((d, 1), oGdiskDisk D_1), ((d1, 0), .box [.lit (.int .i64 ((v_1.getD (Int.toNat t9) yGlaw04Op.dflt).What)), .lit (.int .i64 ((v_1.getD (Int.toNat t9) yGlaw04Op.dflt).Area)), .lit (.int .i64 ((v_1.getD (Int.toNat t9) yGlaw04Op.dflt).N)), eS (lS (lI .u8)) ((v_1.getD (Int.toNat t9) yGlaw04Op.dflt).Parts), eS (lI .i64) m])] S) _ (Glaw04Op.mk ((v_1.getD (Int.toNat t9) yGlaw04Op.dflt).What) ((v_1.getD (Int.toNat t9) yGlaw04Op.dflt).Area) ((v_1.getD (Int.toNat t9) yGlaw04Op.dflt).N) ((v_1.getD (Int.toNat t9) yGlaw04Op.dflt).Parts) m) (h := hv_5)
                  refine call1_x hcall rfl ?_ ?_
                  ·exact (.cons Sub.refl (.cons Sub.refl .nil))
                  clear hcall
                  rintro _ SS ⟨rfl, hSS⟩ -
                  rw [hSS]
                  clear hSS
                  try simp (maxSteps := 4000000) only [go_sem, Prod.mk.injEq, reduceIte, Nat.reduceEqDiff, Nat.reduceAdd, Nat.reduceSub, Nat.reduceMul, Nat.reduceDiv, Nat.reducePow, Nat.reduceLT, Nat.reduceLeDiff, Nat.reduceBEq, Nat.reduceBneDiff, Int.reduceToNat, Int.reduceEq, Int.reduceLE, Int.reduceLT, reduceCtorEq, hn1d, hm1d]
                  repeat (with_reducible refine And.intro ?_ ?_; next => first | assumption | trivial | omega | decide | (constructor <;> first | assumption | omega) | (simp [Keep.ok, hp_cons_apply, hset_cons, hn1d, hm1d]; done))
                  refine hk _ _ _ ?_
                  refine xghost (D := []) ?_ ?_ ?_ ?_
                  ·exact (.cons (Sub.of_eq rfl) (.cons (Sub.of_eq rfl) (.cons (Sub.of_eq rfl) (.cons (Sub.of_eq rfl) (.cons (Sub.of_eq rfl) (.cons (Sub.of_eq rfl) (.cons (Sub.of_eq rfl) .nil)))))))
                  ·exact HpW.refl
                  ·exact (by intro p hp; cases hp)
                  ·omega
                ·refine xseq [(0, eS yGlaw04Op v_1), (1, .lit (.int .i64 o)), (2, eS (lI .i64) A), (7, .ptr (d, 0) 0), (8, .ptr (d, 1) 0), (9, .lit (.int .i64 t9)), (10, .ptr (d1, 0) 0), (49, .lit (.bool ((v_1.getD (Int.toNat t9) yGlaw04Op.dflt).What == 3)))] (hp [((d, 0), oGdiskDisk D), ((d, 1), oGdiskDisk D_1), ((d1, 0), .box [.lit (.int .i64 ((v_1.getD (Int.toNat t9) yGlaw04Op.dflt).What)), .lit (.int .i64 ((v_1.getD (Int.toNat t9) yGlaw04Op.dflt).Area)), .lit (.int .i64 ((v_1.getD (Int.toNat t9) yGlaw04Op.dflt).N)), eS (lS (lI .u8)) ((v_1.getD (Int.toNat t9) yGlaw04Op.dflt).Parts), eS (lI .i64) ((v_1.getD (Int.toNat t9) yGlaw04Op.dflt).Areas)])] S) 1 ?_ (fun k kp hk => ?_)
                 ·refine xcond ((v_1.getD (Int.toNat t9) yGlaw04Op.dflt).What == 3) rfl (fun hc_3 => ?_) (fun hc_3 => ?_)
                  ·rw [ite_t hc_3] at h
                   refine xreg [(0, eS yGlaw04Op v_1), (1, .lit (.int .i64 o)), (2, eS (lI .i64) A), (7, .ptr (d, 0) 0), (8, .ptr (d, 1) 0), (9, .lit (.int .i64 t9)), (10, .ptr (d1, 0) 0)] (hp [((d, 0), oGdiskDisk D), ((d, 1), oGdiskDisk D_1), ((d1, 0), .box [.lit (.int .i64 ((v_1.getD (Int.toNat t9) yGlaw04Op.dflt).What)), .lit (.int .i64 ((v_1.getD (Int.toNat t9) yGlaw04Op.dflt).Area)), .lit (.int .i64 ((v_1.getD (Int.toNat t9) yGlaw04Op.dflt).N)), eS (lS (lI .u8)) ((v_1.getD (Int.toNat t9) yGlaw04Op.dflt).Parts), eS (lI .i64) ([(v_1.getD (Int.toNat t9) yGlaw04Op.dflt).Area])])] S) 1 ?_ (fun k kp hk => ?_)
                   ·exact hj ([(v_1.getD (Int.toNat t9) yGlaw04Op.dflt).Area]) h
                   ·try simp (maxSteps := 4000000) only [go_sem, Prod.mk.injEq, reduceIte, Nat.reduceEqDiff, Nat.reduceAdd, Nat.reduceSub, Nat.reduceMul, Nat.reduceDiv, Nat.reducePow, Nat.reduceLT, Nat.reduceLeDiff, Nat.reduceBEq, Nat.reduceBneDiff, Int.reduceToNat, Int.reduceEq, Int.reduceLE, Int.reduceLT, reduceCtorEq, hn1d, hm1d]
                    repeat (with_reducible refine And.intro ?_ ?_; next => first | assumption | trivial | omega | decide | (constructor <;> first | assumption | omega) | (simp [Keep.ok, hp_cons_apply, hset_cons, hn1d, hm1d]; done))
                    refine hk _ _ _ ?_
                    refine xghost (D := []) ?_ ?_ ?_ ?_
                    ·exact (.cons (Sub.of_eq rfl) (.cons (Sub.of_eq rfl) (.cons (Sub.of_eq rfl) (.cons (Sub.of_eq rfl) (.cons (Sub.of_eq rfl) (.cons (Sub.of_eq rfl) (.cons (Sub.of_eq rfl) .nil)))))))
                    ·exact (.cons .refl (.cons .refl (.cons (.box (.cons Sub.refl (.cons Sub.refl (.cons Sub.refl (.cons Sub.refl (.cons (Sub.young (L := (lI .i64)) (xs := ([(v_1.getD (Int.toNat t9) yGlaw04Op.dflt).Area]))) .nil))))) ⟨.inl rfl, ⟨.inl rfl, ⟨.inl rfl, ⟨.inl rfl, ⟨.inl rfl, trivial⟩⟩⟩⟩⟩) .nil)))
                    ·exact (by intro p hp; cases hp)
                    ·omega
                  ·rw [ite_f hc_3] at h
                   refine LW_skipX (sl' := [(0, eS yGlaw04Op v_1), (1, .lit (.int .i64 o)), (2, eS (lI .i64) A), (7, .ptr (d, 0) 0), (8, .ptr (d, 1) 0), (9, .lit (.int .i64 t9)), (10, .ptr (d1, 0) 0)]) (S' := (hp [((d, 0), oGdiskDisk D), ((d, 1), oGdiskDisk D_1), ((d1, 0), .box [.lit (.int .i64 ((v_1.getD (Int.toNat t9) yGlaw04Op.dflt).What)), .lit (.int .i64 ((v_1.getD (Int.toNat t9) yGlaw04Op.dflt).Area)), .lit (.int .i64 ((v_1.getD (Int.toNat t9) yGlaw04Op.dflt).N)), eS (lS (lI .u8)) ((v_1.getD (Int.toNat t9) yGlaw04Op.dflt).Parts), eS (lI .i64) ((v_1.getD (Int.toNat t9) yGlaw04Op.dflt).Areas)])] S)) (c' := 1) ?_ ?_
                   ·refine xghost (D := []) ?_ ?_ ?_ ?_
                    ·exact (.cons (Sub.of_eq rfl) (.cons (Sub.of_eq rfl) (.cons (Sub.of_eq rfl) (.cons (Sub.of_eq rfl) (.cons (Sub.of_eq rfl) (.cons (Sub.of_eq rfl) (.cons (Sub.of_eq rfl) .nil)))))))
                    ·exact HpW.refl
                    ·exact (by intro p hp; cases hp)
                    ·omega
                   ·exact hj ((v_1.getD (Int.toNat t9) yGlaw04Op.dflt).Areas) h
                 ·try simp (maxSteps := 4000000) only [go_sem, Prod.mk.injEq, reduceIte, Nat.reduceEqDiff, Nat.reduceAdd, Nat.reduceSub, Nat.reduceMul, Nat.reduceDiv, Nat.reducePow, Nat.reduceLT, Nat.reduceLeDiff, Nat.reduceBEq, Nat.reduceBneDiff, Int.reduceToNat, Int.reduceEq, Int.reduceLE, Int.reduceLT, reduceCtorEq, hn1d, hm1d]
                  repeat (with_reducible refine And.intro ?_ ?_; next => first | assumption | trivial | omega | decide | (constructor <;> first | assumption | omega) | (simp [Keep.ok, hp_cons_apply, hset_cons, hn1d, hm1d]; done))
                  refine hk _ _ _ ?_
                  refine xghost (D := []) ?_ ?_ ?_ ?_
                  ·exact (.cons (Sub.of_eq rfl) (.cons (Sub.of_eq rfl) (.cons (Sub.of_eq rfl) (.cons (Sub.of_eq rfl) (.cons (Sub.of_eq rfl) (.cons (Sub.of_eq rfl) (.cons (Sub.of_eq rfl) (.cons (Sub.of_eq rfl) .nil))))))))
                  ·exact HpW.refl
                  ·exact (by intro p hp; cases hp)
                  ·omega
               ·try simp (maxSteps := 4000000) only [go_sem, Prod.mk.injEq, reduceIte, Nat.reduceEqDiff, Nat.reduceAdd, Nat.reduceSub, Nat.reduceMul, Nat.reduceDiv, Nat.reducePow, Nat.reduceLT, Nat.reduceLeDiff, Nat.reduceBEq, Nat.reduceBneDiff, Int.reduceToNat, Int.reduceEq, Int.reduceLE, Int.reduceLT, reduceCtorEq, hn1d, hm1d]
                repeat (with_reducible refine And.intro ?_ ?_; next => first | assumption | trivial | omega | decide | (constructor <;> first | assumption | omega) | (simp [Keep.ok, hp_cons_apply, hset_cons, hn1d, hm1d]; done))
                refine hk _ _ _ ?_
                refine xghost (D := []) ?_ ?_ ?_ ?_
                ·exact (.cons (Sub.of_eq rfl) (.cons (Sub.of_eq rfl) (.cons (Sub.of_eq rfl) (.cons (Sub.of_eq rfl) (.cons (Sub.of_eq rfl) (.cons (Sub.of_eq rfl) (.cons (Sub.of_eq rfl) .nil)))))))
                ·exact HpW.refl
                ·exact (by intro p hp; cases hp)
                ·omega
             ·rw [ite_f hc_2] at h
              obtain ⟨hq, hxe⟩ := mr_go h hx1
              clear h hx1
              subst hxe
              have h := hq
              clear hq
              refine LW_exitX (sl' := [(0, eS yGlaw04Op v_1), (1, .lit (.int .i64 o)), (2, eS (lI .i64) A), (7, .ptr (d, 0) 0), (8, .ptr (d, 1) 0), (9, .lit (.int .i64 t9)), (40, .lit (.bool (decide (t9 < (v_1.length : Int)))))]) (S' := (hp [((d, 0), oGdiskDisk D), ((d, 1), oGdiskDisk D_1)] S)) (c' := 0) ?_ ?_
              ·refine xghost (D := []) ?_ ?_ ?_ ?_
               ·exact (.cons (Sub.of_eq rfl) (.cons (Sub.of_eq rfl) (.cons (Sub.of_eq rfl) (.cons (Sub.of_eq rfl) (.cons (Sub.of_eq rfl) (.cons (Sub.of_eq rfl) (.cons (Sub.of_eq rfl) .nil)))))))
               ·exact HpW.refl
               ·exact (by intro p hp; cases hp)
               ·omega
              ·show LW _ _ _ _ _ _ _ _
               obtain ⟨v_7, hv_7, h⟩ := bd_some h
               refine xseq [(1, .lit (.int .i64 o)), (2, eS (lI .i64) A), (7, .ptr (d, 0) 0), (8, .ptr (d, 1) 0), (11, eS (lI .u8) v_7.1)] (hp [((d, 0), oGdiskDisk D), ((d, 1), oGdiskDisk D_1)] S) 2 ?_ (fun k kp hk => ?_)
               ·obtain ⟨v_8, hv_8, h⟩ := bd_some h
                refine xseq [(1, .lit (.int .i64 o)), (2, eS (lI .i64) A), (7, .ptr (d, 0) 0), (8, .ptr (d, 1) 0), (11, eS (lI .u8) v_7.1), (13, eS (lI .u8) v_8.1)] (hp [((d, 0), oGdiskDisk D), ((d, 1), oGdiskDisk D_1)] S) 2 ?_ (fun k kp hk => ?_)
                ·obtain ⟨v_9, hv_9, h⟩ := bd_some h
                 obtain ⟨v_10, hv_10, h⟩ := bd_some h
                 refine xseq [(1, .lit (.int .i64 o)), (2, eS (lI .i64) A), (7, .ptr (d, 2) 0), (8, .ptr (d, 1) 0), (11, eS (lI .u8) v_7.1), (13, eS (lI .u8) v_8.1)] (hp [((d, 0), oGdiskDisk D), ((d, 1), oGdiskDisk D_1), ((d, 2), oGdiskDisk v_10)] S) 3 ?_ (fun k kp hk => ?_)
                 ·obtain ⟨v_11, hv_11, h⟩ := bd_some h
                  obtain ⟨v_12, hv_12, h⟩ := bd_some h
                  refine xseq [(1, .lit (.int .i64 o)), (7, .ptr (d, 2) 0), (8, .ptr (d, 3) 0), (11, eS (lI .u8) v_7.1), (13, eS (lI .u8) v_8.1)] (hp [((d, 0), oGdiskDisk D), ((d, 1), oGdiskDisk D_1), ((d, 2), oGdiskDisk v_10), ((d, 3), oGdiskDisk v_12)] S) 4 ?_ (fun k kp hk => ?_)
                  ·refine LW_seq ?_
                   obtain ⟨v_13, hv_13, h⟩ := bd_some h
                   refine xseq [(1, .lit (.int .i64 o)), (7, .ptr (d, 2) 0), (8, .ptr (d, 3) 0), (95, .lit (.bool (!v_13)))] (hp [((d, 0), oGdiskDisk D), ((d, 1), oGdiskDisk D_1), ((d, 2), oGdiskDisk v_10), ((d, 3), oGdiskDisk v_12)] S) 4 ?_ (fun k kp hk => ?_)
                   ·refine xcond (!v_13) rfl (fun hc_5 => ?_) (fun hc_5 => ?_)
                    ·rw [ite_t hc_5] at h
                     refine xseq [(6, .lit (.bool false))] (hp [((d, 0), oGdiskDisk D), ((d, 1), oGdiskDisk D_1), ((d, 2), oGdiskDisk v_10), ((d, 3), oGdiskDisk v_12)] S) 4 ?_ (fun k kp hk => ?_)
                     ·refine LW_ret ?_
                      obtain rfl := Option.some.inj h
                      show FPost _ _ _ _ _ _ _
                      exact ⟨_, hp_less (L := []) (D := [((d, 0), oGdiskDisk D), ((d, 1), oGdiskDisk D_1), ((d, 2), oGdiskDisk v_10), ((d, 3), oGdiskDisk v_12)]) (by intro p hp; simp only [List.mem_cons, List.not_mem_nil, or_false] at hp; rcases hp with rfl | rfl | rfl | rfl <;> first | exact hd _ (Nat.le_refl _)), rfl, rfl⟩
                     ·try simp (maxSteps := 4000000) only [go_sem, Prod.mk.injEq, reduceIte, Nat.reduceEqDiff, Nat.reduceAdd, Nat.reduceSub, Nat.reduceMul, Nat.reduceDiv, Nat.reducePow, Nat.reduceLT, Nat.reduceLeDiff, Nat.reduceBEq, Nat.reduceBneDiff, Int.reduceToNat, Int.reduceEq, Int.reduceLE, Int.reduceLT, reduceCtorEq, hn1d, hm1d]
                      repeat (with_reducible refine And.intro ?_ ?_; next => first | assumption | trivial | omega | decide | (constructor <;> first | assumption | omega) | (simp [Keep.ok, hp_cons_apply, hset_cons, hn1d, hm1d]; done))
                      refine hk _ _ _ ?_
                      refine xghost (D := []) ?_ ?_ ?_ ?_
                      ·exact (.cons (Sub.of_eq rfl) .nil)
                      ·exact HpW.refl
                      ·exact (by intro p hp; cases hp)
                      ·omega
                    ·rw [ite_f hc_5] at h
                     refine LW_skip ?_
                     show LW _ _ _ _ _ _ _ _
                     obtain ⟨v_14, hv_14, h⟩ := bd_some h
                     refine xseq [(1, .lit (.int .i64 o)), (8, .ptr (d, 3) 0), (11, eS (lI .u8) v_14.1)] (hp [((d, 0), oGdiskDisk D), ((d, 1), oGdiskDisk D_1), ((d, 2), oGdiskDisk v_10), ((d, 3), oGdiskDisk v_12)] S) 4 ?_ (fun k kp hk => ?_)
                     ·obtain ⟨v_15, hv_15, h⟩ := bd_some h
                      refine xseq [(11, eS (lI .u8) v_14.1), (13, eS (lI .u8) v_15.1)] (hp [((d, 0), oGdiskDisk D), ((d, 1), oGdiskDisk D_1), ((d, 2), oGdiskDisk v_10), ((d, 3), oGdiskDisk v_12)] S) 4 ?_ (fun k kp hk => ?_)
                      ·obtain ⟨v_16, hv_16, h⟩ := bd_some h
                       refine xseq [(6, .lit (.bool v_16))] (hp [((d, 0), oGdiskDisk D), ((d, 1), oGdiskDisk D_1), ((d, 2), oGdiskDisk v_10), ((d, 3), oGdiskDisk v_12)] S) 4 ?_ (fun k kp hk => ?_)
                       ·refine LW_ret ?_
                        obtain rfl := Option.some.inj h
                        show FPost _ _ _ _ _ _ _
                        exact ⟨_, hp_less (L := []) (D := [((d, 0), oGdiskDisk D), ((d, 1), oGdiskDisk D_1), ((d, 2), oGdiskDisk v_10), ((d, 3), oGdiskDisk v_12)]) (by intro p hp; simp only [List.mem_cons, List.not_mem_nil, or_false] at hp; rcases hp with rfl | rfl | rfl | rfl <;> first | exact hd _ (Nat.le_refl _)), rfl, rfl⟩
                       ·try simp (maxSteps := 4000000) only [go_sem, Prod.mk.injEq, reduceIte, Nat.reduceEqDiff, Nat.reduceAdd, Nat.reduceSub, Nat.reduceMul, Nat.reduceDiv, Nat.reducePow, Nat.reduceLT, Nat.reduceLeDiff, Nat.reduceBEq, Nat.reduceBneDiff, Int.reduceToNat, Int.reduceEq, Int.reduceLE, Int.reduceLT, reduceCtorEq, hn1d, hm1d]
                        repeat (with_reducible refine And.intro ?_ ?_; next => first | assumption | trivial | omega | decide | (constructor <;> first | assumption | omega) | (simp [Keep.ok, hp_cons_apply, hset_cons, hn1d, hm1d]; done))
                        have hcall := s_stanchionref00_SameBytes_ok (hp [((d, 0), oGdiskDisk D), ((d, 1), oGdiskDisk D_1), ((d, 2), oGdiskDisk v_10), ((d, 3), oGdiskDisk v_12)] S) v_14.1 v_15.1 hv_16
                        refine call1_x hcall rfl ?_ ?_
                        ·exact (.cons Sub.refl (.cons Sub.refl .nil))
                        clear hcall
                        rintro _ SS ⟨rfl, hSS⟩ -
                        rw [hSS]
                        clear hSS
                        try simp (maxSteps := 4000000) only [go_sem, Prod.mk.injEq, reduceIte, Nat.reduceEqDiff, Nat.reduceAdd, Nat.reduceSub, Nat.reduceMul, Nat.reduceDiv, Nat.reducePow, Nat.reduceLT, Nat.reduceLeDiff, Nat.reduceBEq, Nat.reduceBneDiff, Int.reduceToNat, Int.reduceEq, Int.reduceLE, Int.reduceLT, reduceCtorEq, hn1d, hm1d]
                        repeat (with_reducible refine And.intro ?_ ?_; next => first | assumption | trivial | omega | decide | (constructor <;> first | assumption | omega) | (simp [Keep.ok, hp_cons_apply, hset_cons, hn1d, hm1d]; done))
                        refine hk _ _ _ ?_
                        refine xghost (D := []) ?_ ?_ ?_ ?_
                        ·exact (.cons (Sub.of_eq rfl) .nil)
                        ·exact HpW.refl
                        ·exact (by intro p hp; cases hp)
                        ·omega
                      ·try simp (maxSteps := 4000000) only [go_sem, Prod.mk.injEq, reduceIte, Nat.reduceEqDiff, Nat.reduceAdd, Nat.reduceSub, Nat.reduceMul, Nat.reduceDiv, Nat.reducePow, Nat.reduceLT, Nat.reduceLeDiff, Nat.reduceBEq, Nat.reduceBneDiff, Int.reduceToNat, Int.reduceEq, Int.reduceLE, Int.reduceLT, reduceCtorEq, hn1d, hm1d]
                       repeat (with_reducible refine And.intro ?_ ?_; next => first | assumption | trivial | omega | decide | (constructor <;> first | assumption | omega) | (simp [Keep.ok, hp_cons_apply, hset_cons, hn1d, hm1d]; done))
                       have hcall := s_disk_Disk_Read_ok (n0 := (d, 3)) (hS0 := by simp only [hp_cons_apply, hp_nil_apply, reduceIte, Prod.mk.injEq, Nat.reduceEqDiff, and_true, and_false, true_and, false_and, hn1d, hm1d] <;> rfl) (hp [((d, 0), oGdiskDisk D), ((d, 1), oGdiskDisk D_1), ((d, 2), oGdiskDisk v_10), ((d, 3), oGdiskDisk v_12)] S) _ o (h := hv_15)
                       refine call1_x hcall rfl ?_ ?_
                       ·exact (.cons Sub.refl (.cons Sub.refl .nil))
                       clear hcall
                       rintro _ SS ⟨rfl, hSS⟩ -
                       rw [hSS]
                       clear hSS
                       try simp (maxSteps := 4000000) only [go_sem, Prod.mk.injEq, reduceIte, Nat.reduceEqDiff, Nat.reduceAdd, Nat.reduceSub, Nat.reduceMul, Nat.reduceDiv, Nat.reducePow, Nat.reduceLT, Nat.reduceLeDiff, Nat.reduceBEq, Nat.reduceBneDiff, Int.reduceToNat, Int.reduceEq, Int.reduceLE, Int.reduceLT, reduceCtorEq, hn1d, hm1d]
                       repeat (with_reducible refine And.intro ?_ ?_; next => first | assumption | trivial | omega | decide | (constructor <;> first | assumption | omega) | (simp [Keep.ok, hp_cons_apply, hset_cons, hn1d, hm1d]; done))
                       refine hk _ _ _ ?_
                       refine xghost (D := []) ?_ ?_ ?_ ?_
                       ·exact (.cons (Sub.of_eq rfl) (.cons (Sub.of_eq rfl) .nil))
                       ·exact HpW.refl
                       ·exact (by intro p hp; cases hp)
                       ·omega
                     ·try simp (maxSteps := 4000000) only [go_sem, Prod.mk.injEq, reduceIte, Nat.reduceEqDiff, Nat.reduceAdd, Nat.reduceSub, Nat.reduceMul, Nat.reduceDiv, Nat.reducePow, Nat.reduceLT, Nat.reduceLeDiff, Nat.reduceBEq, Nat.reduceBneDiff, Int.reduceToNat, Int.reduceEq, Int.reduceLE, Int.reduceLT, reduceCtorEq, hn1d, hm1d]
                      repeat (with_reducible refine And.intro ?_ ?_; next => first | assumption | trivial | omega | decide | (constructor <;> first | assumption | omega) | (simp [Keep.ok, hp_cons_apply, hset_cons, hn1d, hm1d]; done))
                      have hcall := s_disk_Disk_Read_ok (n0 := (d, 2)) (hS0 := by simp only [hp_cons_apply, hp_nil_apply, reduceIte, Prod.mk.injEq, Nat.reduceEqDiff, and_true, and_false, true_and, false_and, hn1d, hm1d] <;> rfl) (hp [((d, 0), oGdiskDisk D), ((d, 1), oGdiskDisk D_1), ((d, 2), oGdiskDisk v_10), ((d, 3), oGdiskDisk v_12)] S) _ o (h := hv_14)
                      refine call1_x hcall rfl ?_ ?_
                      ·exact (.cons Sub.refl (.cons Sub.refl .nil))
                      clear hcall
                      rintro _ SS ⟨rfl, hSS⟩ -
                      rw [hSS]
                      clear hSS
                      try simp (maxSteps := 4000000) only [go_sem, Prod.mk.injEq, reduceIte, Nat.reduceEqDiff, Nat.reduceAdd, Nat.reduceSub, Nat.reduceMul, Nat.reduceDiv, Nat.reducePow, Nat.reduceLT, Nat.reduceLeDiff, Nat.reduceBEq, Nat.reduceBneDiff, Int.reduceToNat, Int.reduceEq, Int.reduceLE, Int.reduceLT, reduceCtorEq, hn1d, hm1d]
                      repeat (with_reducible refine And.intro ?_ ?_; next => first | assumption | trivial | omega | decide | (constructor <;> first | assumption | omega) | (simp [Keep.ok, hp_cons_apply, hset_cons, hn1d, hm1d]; done))
                      refine hk _ _ _ ?_
                      refine xghost (D := []) ?_ ?_ ?_ ?_
                      ·exact (.cons (Sub.of_eq rfl) (.cons (Sub.of_eq rfl) (.cons (Sub.of_eq rfl) .nil)))
                      ·exact HpW.refl
                      ·exact (by intro p hp; cases hp)
                      ·omega
                   ·try simp (maxSteps := 4000000) only [go_sem, Prod.mk.injEq, reduceIte, Nat.reduceEqDiff, Nat.reduceAdd, Nat.reduceSub, Nat.reduceMul, Nat.reduceDiv, Nat.reducePow, Nat.reduceLT, Nat.reduceLeDiff, Nat.reduceBEq, Nat.reduceBneDiff, Int.reduceToNat, Int.reduceEq, Int.reduceLE, Int.reduceLT, reduceCtorEq, hn1d, hm1d]
                    repeat (with_reducible refine And.intro ?_ ?_; next => first | assumption | trivial | omega | decide | (constructor <;> first | assumption | omega) | (simp [Keep.ok, hp_cons_apply, hset_cons, hn1d, hm1d]; done))
                    have hcall := s_stanchionref00_SameBytes_ok (hp [((d, 0), oGdiskDisk D), ((d, 1), oGdiskDisk D_1), ((d, 2), oGdiskDisk v_10), ((d, 3), oGdiskDisk v_12)] S) v_7.1 v_8.1 hv_13
                    refine call1_x hcall rfl ?_ ?_
                    ·exact (.cons Sub.refl (.cons Sub.refl .nil))
                    clear hcall
                    rintro _ SS ⟨rfl, hSS⟩ -
                    rw [hSS]
                    clear hSS
                    try simp (maxSteps := 4000000) only [go_sem, Prod.mk.injEq, reduceIte, Nat.reduceEqDiff, Nat.reduceAdd, Nat.reduceSub, Nat.reduceMul, Nat.reduceDiv, Nat.reducePow, Nat.reduceLT, Nat.reduceLeDiff, Nat.reduceBEq, Nat.reduceBneDiff, Int.reduceToNat, Int.reduceEq, Int.reduceLE, Int.reduceLT, reduceCtorEq, hn1d, hm1d]
                    repeat (with_reducible refine And.intro ?_ ?_; next => first | assumption | trivial | omega | decide | (constructor <;> first | assumption | omega) | (simp [Keep.ok, hp_cons_apply, hset_cons, hn1d, hm1d]; done))
                    refine hk _ _ _ ?_
                    refine xghost (D := []) ?_ ?_ ?_ ?_
                    ·exact (.cons (Sub.of_eq rfl) (.cons (Sub.of_eq rfl) (.cons (Sub.of_eq rfl) (.cons (Sub.of_eq rfl) .nil))))
                    ·exact HpW.refl
                    ·exact (by intro p hp; cases hp)
                    ·omega
                  ·try simp (maxSteps := 4000000) only [go_sem, Prod.mk.injEq, reduceIte, Nat.reduceEqDiff, Nat.reduceAdd, Nat.reduceSub, Nat.reduceMul, Nat.reduceDiv, Nat.reducePow, Nat.reduceLT, Nat.reduceLeDiff, Nat.reduceBEq, Nat.reduceBneDiff, Int.reduceToNat, Int.reduceEq, Int.reduceLE, Int.reduceLT, reduceCtorEq, hn1d, hm1d]
                   repeat (with_reducible refine And.intro ?_ ?_; next => first | assumption | trivial | omega | decide | (constructor <;> first | assumption | omega) | (simp [Keep.ok, hp_cons_apply, hset_cons, hn1d, hm1d]; done))
                   have hcall := s_stanchionref00_CopyInts_ok (hp [((d, 0), oGdiskDisk D), ((d, 1), oGdiskDisk D_1), ((d, 2), oGdiskDisk v_10)] S) A hv_11
                   refine call1_x hcall rfl ?_ ?_
                   ·exact (.cons Sub.refl .nil)
                   clear hcall
                   rintro _ SS ⟨rfl, hSS⟩ -
                   rw [hSS]
                   clear hSS
                   try simp (maxSteps := 4000000) only [go_sem, Prod.mk.injEq, reduceIte, Nat.reduceEqDiff, Nat.reduceAdd, Nat.reduceSub, Nat.reduceMul, Nat.reduceDiv, Nat.reducePow, Nat.reduceLT, Nat.reduceLeDiff, Nat.reduceBEq, Nat.reduceBneDiff, Int.reduceToNat, Int.reduceEq, Int.reduceLE, Int.reduceLT, reduceCtorEq, hn1d, hm1d]
                   repeat (with_reducible refine And.intro ?_ ?_; next => first | assumption | trivial | omega | decide | (constructor <;> first | assumption | omega) | (simp [Keep.ok, hp_cons_apply, hset_cons, hn1d, hm1d]; done))
                   have hcall := s_disk_Disk_Crash_ok (n0 := (d, 1)) (hS0 := by simp only [hp_cons_apply, hp_nil_apply, reduceIte, Prod.mk.injEq, Nat.reduceEqDiff, and_true, and_false, true_and, false_and, hn1d, hm1d] <;> rfl) (hp [((d, 0), oGdiskDisk D), ((d, 1), oGdiskDisk D_1), ((d, 2), oGdiskDisk v_10)] S) _ v_11 (-1) (h := hv_12)
                   refine call1_new hcall rfl rfl ?_ ?_
                   ·exact (.cons Sub.refl (.cons Sub.refl (.cons Sub.refl .nil)))
                   clear hcall
                   try simp (maxSteps := 4000000) only [go_sem, Prod.mk.injEq, reduceIte, Nat.reduceEqDiff, Nat.reduceAdd, Nat.reduceSub, Nat.reduceMul, Nat.reduceDiv, Nat.reducePow, Nat.reduceLT, Nat.reduceLeDiff, Nat.reduceBEq, Nat.reduceBneDiff, Int.reduceToNat, Int.reduceEq, Int.reduceLE, Int.reduceLT, reduceCtorEq, hn1d, hm1d]
                   repeat (with_reducible refine And.intro ?_ ?_; next => first | assumption | trivial | omega | decide | (constructor <;> first | assumption | omega) | (simp [Keep.ok, hp_cons_apply, hset_cons, hn1d, hm1d]; done))
                   refine hk _ _ _ ?_
                   refine xghost (D := []) ?_ ?_ ?_ ?_
                   ·exact (.cons (Sub.of_eq rfl) (.cons (Sub.of_eq rfl) (.cons (Sub.of_eq rfl) (.cons (Sub.of_eq rfl) (.cons (Sub.of_eq rfl) .nil)))))
                   ·exact HpW.refl
                   ·exact (by intro p hp; cases hp)
                   ·omega
                 ·try simp (maxSteps := 4000000) only [go_sem, Prod.mk.injEq, reduceIte, Nat.reduceEqDiff, Nat.reduceAdd, Nat.reduceSub, Nat.reduceMul, Nat.reduceDiv, Nat.reducePow, Nat.reduceLT, Nat.reduceLeDiff, Nat.reduceBEq, Nat.reduceBneDiff, Int.reduceToNat, Int.reduceEq, Int.reduceLE, Int.reduceLT, reduceCtorEq, hn1d, hm1d]
                  repeat (with_reducible refine And.intro ?_ ?_; next => first | assumption | trivial | omega | decide | (constructor <;> first | assumption | omega) | (simp [Keep.ok, hp_cons_apply, hset_cons, hn1d, hm1d]; done))
                  have hcall := s_stanchionref00_CopyInts_ok (hp [((d, 0), oGdiskDisk D), ((d, 1), oGdiskDisk D_1)] S) A hv_9
                  refine call1_x hcall rfl ?_ ?_
                  ·exact (.cons Sub.refl .nil)
                  clear hcall
                  rintro _ SS ⟨rfl, hSS⟩ -
                  rw [hSS]
                  clear hSS
                  try simp (maxSteps := 4000000) only [go_sem, Prod.mk.injEq, reduceIte, Nat.reduceEqDiff, Nat.reduceAdd, Nat.reduceSub, Nat.reduceMul, Nat.reduceDiv, Nat.reducePow, Nat.reduceLT, Nat.reduceLeDiff, Nat.reduceBEq, Nat.reduceBneDiff, Int.reduceToNat, Int.reduceEq, Int.reduceLE, Int.reduceLT, reduceCtorEq, hn1d, hm1d]
                  repeat (with_reducible refine And.intro ?_ ?_; next => first | assumption | trivial | omega | decide | (constructor <;> first | assumption | omega) | (simp [Keep.ok, hp_cons_apply, hset_cons, hn1d, hm1d]; done))
                  have hcall := s_disk_Disk_Crash_ok (n0 := (d, 0)) (hS0 := by simp only [hp_cons_apply, hp_nil_apply, reduceIte, Prod.mk.injEq, Nat.reduceEqDiff, and_true, and_false, true_and, false_and, hn1d, hm1d] <;> rfl) (hp [((d, 0), oGdiskDisk D), ((d, 1), oGdiskDisk D_1)] S) _ v_9 (-1) (h := hv_10)
                  refine call1_new hcall rfl rfl ?_ ?_
                  ·exact (.cons Sub.refl (.cons Sub.refl (.cons Sub.refl .nil)))
                  clear hcall
                  try simp (maxSteps := 4000000) only [go_sem, Prod.mk.injEq, reduceIte, Nat.reduceEqDiff, Nat.reduceAdd, Nat.reduceSub, Nat.reduceMul, Nat.reduceDiv, Nat.reducePow, Nat.reduceLT, Nat.reduceLeDiff, Nat.reduceBEq, Nat.reduceBneDiff, Int.reduceToNat, Int.reduceEq, Int.reduceLE, Int.reduceLT, reduceCtorEq, hn1d, hm1d]
                  repeat (with_reducible refine And.intro ?_ ?_; next => first | assumption | trivial | omega | decide | (constructor <;> first | assumption | omega) | (simp [Keep.ok, hp_cons_apply, hset_cons, hn1d, hm1d]; done))
                  refine hk _ _ _ ?_
                  refine xghost (D := []) ?_ ?_ ?_ ?_
                  ·exact (.cons (Sub.of_eq rfl) (.cons (Sub.of_eq rfl) (.cons (Sub.of_eq rfl) (.cons (Sub.of_eq rfl) (.cons (Sub.of_eq rfl) (.cons (Sub.of_eq rfl) .nil))))))
                  ·exact HpW.refl
                  ·exact (by intro p hp; cases hp)
                  ·omega
                ·try simp (maxSteps := 4000000) only [go_sem, Prod.mk.injEq, reduceIte, Nat.reduceEqDiff, Nat.reduceAdd, Nat.reduceSub, Nat.reduceMul, Nat.reduceDiv, Nat.reducePow, Nat.reduceLT, Nat.reduceLeDiff, Nat.reduceBEq, Nat.reduceBneDiff, Int.reduceToNat, Int.reduceEq, Int.reduceLE, Int.reduceLT, reduceCtorEq, hn1d, hm1d]
                 repeat (with_reducible refine And.intro ?_ ?_; next => first | assumption | trivial | omega | decide | (constructor <;> first | assumption | omega) | (simp [Keep.ok, hp_cons_apply, hset_cons, hn1d, hm1d]; done))
                 have hcall := s_disk_Disk_Read_ok (n0 := (d, 1)) (hS0 := by simp only [hp_cons_apply, hp_nil_apply, reduceIte, Prod.mk.injEq, Nat.reduceEqDiff, and_true, and_false, true_and, false_and, hn1d, hm1d] <;> rfl) (hp [((d, 0), oGdiskDisk D), ((d, 1), oGdiskDisk D_1)] S) _ o (h := hv_8)
                 refine call1_x hcall rfl ?_ ?_
                 ·exact (.cons Sub.refl (.cons Sub.refl .nil))
                 clear hcall
                 rintro _ SS ⟨rfl, hSS⟩ -
                 rw [hSS]
                 clear hSS
                 try simp (maxSteps := 4000000) only [go_sem, Prod.mk.injEq, reduceIte, Nat.reduceEqDiff, Nat.reduceAdd, Nat.reduceSub, Nat.reduceMul, Nat.reduceDiv, Nat.reducePow, Nat.reduceLT, Nat.reduceLeDiff, Nat.reduceBEq, Nat.reduceBneDiff, Int.reduceToNat, Int.reduceEq, Int.reduceLE, Int.reduceLT, reduceCtorEq, hn1d, hm1d]
                 repeat (with_reducible refine And.intro ?_ ?_; next => first | assumption | trivial | omega | decide | (constructor <;> first | assumption | omega) | (simp [Keep.ok, hp_cons_apply, hset_cons, hn1d, hm1d]; done))
                 refine hk _ _ _ ?_
                 refine xghost (D := []) ?_ ?_ ?_ ?_
                 ·exact (.cons (Sub.of_eq rfl) (.cons (Sub.of_eq rfl) (.cons (Sub.of_eq rfl) (.cons (Sub.of_eq rfl) (.cons (Sub.of_eq rfl) (.cons (Sub.of_eq rfl) .nil))))))
                 ·exact HpW.refl
                 ·exact (by intro p hp; cases hp)
                 ·omega
               ·try simp (maxSteps := 4000000) only [go_sem, Prod.mk.injEq, reduceIte, Nat.reduceEqDiff, Nat.reduceAdd, Nat.reduceSub, Nat.reduceMul, Nat.reduceDiv, Nat.reducePow, Nat.reduceLT, Nat.reduceLeDiff, Nat.reduceBEq, Nat.reduceBneDiff, Int.reduceToNat, Int.reduceEq, Int.reduceLE, Int.reduceLT, reduceCtorEq, hn1d, hm1d]
                repeat (with_reducible refine And.intro ?_ ?_; next => first | assumption | trivial | omega | decide | (constructor <;> first | assumption | omega) | (simp [Keep.ok, hp_cons_apply, hset_cons, hn1d, hm1d]; done))
                have hcall := s_disk_Disk_Read_ok (n0 := (d, 0)) (hS0 := by simp only [hp_cons_apply, hp_nil_apply, reduceIte, Prod.mk.injEq, Nat.reduceEqDiff, and_true, and_false, true_and, false_and, hn1d, hm1d] <;> rfl) (hp [((d, 0), oGdiskDisk D), ((d, 1), oGdiskDisk D_1)] S) _ o (h := hv_7)
                refine call1_x hcall rfl ?_ ?_
                ·exact (.cons Sub.refl (.cons Sub.refl .nil))
                clear hcall
                rintro _ SS ⟨rfl, hSS⟩ -
                rw [hSS]
                clear hSS
                try simp (maxSteps := 4000000) only [go_sem, Prod.mk.injEq, reduceIte, Nat.reduceEqDiff, Nat.reduceAdd, Nat.reduceSub, Nat.reduceMul, Nat.reduceDiv, Nat.reducePow, Nat.reduceLT, Nat.reduceLeDiff, Nat.reduceBEq, Nat.reduceBneDiff, Int.reduceToNat, Int.reduceEq, Int.reduceLE, Int.reduceLT, reduceCtorEq, hn1d, hm1d]
                repeat (with_reducible refine And.intro ?_ ?_; next => first | assumption | trivial | omega | decide | (constructor <;> first | assumption | omega) | (simp [Keep.ok, hp_cons_apply, hset_cons, hn1d, hm1d]; done))
                refine hk _ _ _ ?_
                refine xghost (D := []) ?_ ?_ ?_ ?_
                ·exact (.cons (Sub.of_eq rfl) (.cons (Sub.of_eq rfl) (.cons (Sub.of_eq rfl) (.cons (Sub.of_eq rfl) (.cons (Sub.of_eq rfl) .nil)))))
                ·exact HpW.refl
                ·exact (by intro p hp; cases hp)
                ·omega
            ·try simp (maxSteps := 4000000) only [go_sem, Prod.mk.injEq, reduceIte, Nat.reduceEqDiff, Nat.reduceAdd, Nat.reduceSub, Nat.reduceMul, Nat.reduceDiv, Nat.reducePow, Nat.reduceLT, Nat.reduceLeDiff, Nat.reduceBEq, Nat.reduceBneDiff, Int.reduceToNat, Int.reduceEq, Int.reduceLE, Int.reduceLT, reduceCtorEq, hn1d, hm1d]
             repeat (with_reducible refine And.intro ?_ ?_; next => first | assumption | trivial | omega | decide | (constructor <;> first | assumption | omega) | (simp [Keep.ok, hp_cons_apply, hset_cons, hn1d, hm1d]; done))
             refine hk _ _ _ ?_
             refine xghost (D := []) ?_ ?_ ?_ ?_
             ·exact (.cons (Sub.of_eq rfl) (.cons (Sub.of_eq rfl) (.cons (Sub.of_eq rfl) (.cons (Sub.of_eq rfl) (.cons (Sub.of_eq rfl) (.cons (Sub.of_eq rfl) (.cons (Sub.of_eq rfl) .nil)))))))
             ·exact HpW.refl
             ·exact (by intro p hp; cases hp)
             ·omega
           ·refine xghost (D := []) ?_ ?_ ?_ ?_
            ·exact (.cons (Sub.of_eq rfl) (.cons (Sub.of_eq rfl) (.cons (Sub.of_eq rfl) (.cons (Sub.of_eq rfl) (.cons (Sub.of_eq rfl) (.cons (Sub.of_eq rfl) .nil))))))
            ·exact HpW.refl
            ·exact (by intro p hp; cases hp)
            ·omega
          ·try simp (maxSteps := 4000000) only [go_sem, Prod.mk.injEq, reduceIte, Nat.reduceEqDiff, Nat.reduceAdd, Nat.reduceSub, Nat.reduceMul, Nat.reduceDiv, Nat.reducePow, Nat.reduceLT, Nat.reduceLeDiff, Nat.reduceBEq, Nat.reduceBneDiff, Int.reduceToNat, Int.reduceEq, Int.reduceLE, Int.reduceLT, reduceCtorEq]
           repeat (with_reducible refine And.intro ?_ ?_; next => first | assumption | trivial | omega | decide | (constructor <;> first | assumption | omega) | (simp [Keep.ok, hp_cons_apply, hset_cons]; done))
           refine hk _ _ _ ?_
           refine xghost (D := []) ?_ ?_ ?_ ?_
           ·exact (.cons (Sub.of_eq rfl) (.cons (Sub.of_eq rfl) (.cons (Sub.of_eq rfl) (.cons (Sub.of_eq rfl) (.cons (Sub.of_eq rfl) (.cons (Sub.of_eq rfl) .nil))))))
           ·exact HpW.refl
           ·exact (by intro p hp; cases hp)
           ·omega
         ·try simp (maxSteps := 4000000) only [go_sem, Prod.mk.injEq, reduceIte, Nat.reduceEqDiff, Nat.reduceAdd, Nat.reduceSub, Nat.reduceMul, Nat.reduceDiv, Nat.reducePow, Nat.reduceLT, Nat.reduceLeDiff, Nat.reduceBEq, Nat.reduceBneDiff, Int.reduceToNat, Int.reduceEq, Int.reduceLE, Int.reduceLT, reduceCtorEq]
          repeat (with_reducible refine And.intro ?_ ?_; next => first | assumption | trivial | omega | decide | (constructor <;> first | assumption | omega) | (simp [Keep.ok, hp_cons_apply, hset_cons]; done))
          refine hk _ _ _ ?_
          refine xghost (D := []) ?_ ?_ ?_ ?_
          ·exact (.cons (Sub.of_eq rfl) (.cons (Sub.of_eq rfl) (.cons (Sub.of_eq rfl) (.cons (Sub.of_eq rfl) (.cons (Sub.of_eq rfl) (.cons (Sub.of_eq rfl) .nil))))))
          ·exact HpW.refl
          ·exact (by intro p hp; cases hp)
          ·omega
        ·try simp (maxSteps := 4000000) only [go_sem, Prod.mk.injEq, reduceIte, Nat.reduceEqDiff, Nat.reduceAdd, Nat.reduceSub, Nat.reduceMul, Nat.reduceDiv, Nat.reducePow, Nat.reduceLT, Nat.reduceLeDiff, Nat.reduceBEq, Nat.reduceBneDiff, Int.reduceToNat, Int.reduceEq, Int.reduceLE, Int.reduceLT, reduceCtorEq]
         repeat (with_reducible refine And.intro ?_ ?_; next => first | assumption | trivial | omega | decide | (constructor <;> first | assumption | omega) | (simp [Keep.ok, hp_cons_apply, hset_cons]; done))
         have hcall := s_disk_New_ok (hp [((d, 0), oGdiskDisk v_3)] S) (-1) hv_4
         refine call1_new hcall rfl rfl ?_ ?_
         ·exact (.cons Sub.refl .nil)
         clear hcall
         try simp (maxSteps := 4000000) only [go_sem, Prod.mk.injEq, reduceIte, Nat.reduceEqDiff, Nat.reduceAdd, Nat.reduceSub, Nat.reduceMul, Nat.reduceDiv, Nat.reducePow, Nat.reduceLT, Nat.reduceLeDiff, Nat.reduceBEq, Nat.reduceBneDiff, Int.reduceToNat, Int.reduceEq, Int.reduceLE, Int.reduceLT, reduceCtorEq]
         repeat (with_reducible refine And.intro ?_ ?_; next => first | assumption | trivial | omega | decide | (constructor <;> first | assumption | omega) | (simp [Keep.ok, hp_cons_apply, hset_cons]; done))
         refine hk _ _ _ ?_
         refine xghost (D := []) ?_ ?_ ?_ ?_
         ·exact (.cons (Sub.of_eq rfl) (.cons (Sub.of_eq rfl) (.cons (Sub.of_eq rfl) (.cons (Sub.of_eq rfl) (.cons (Sub.of_eq rfl) .nil)))))
         ·exact HpW.refl
         ·exact (by intro p hp; cases hp)
         ·omega
       ·try simp (maxSteps := 4000000) only [go_sem, Prod.mk.injEq, reduceIte, Nat.reduceEqDiff, Nat.reduceAdd, Nat.reduceSub, Nat.reduceMul, Nat.reduceDiv, Nat.reducePow, Nat.reduceLT, Nat.reduceLeDiff, Nat.reduceBEq, Nat.reduceBneDiff, Int.reduceToNat, Int.reduceEq, Int.reduceLE, Int.reduceLT, reduceCtorEq]
        repeat (with_reducible refine And.intro ?_ ?_; next => first | assumption | trivial | omega | decide | (constructor <;> first | assumption | omega) | (simp [Keep.ok, hp_cons_apply, hset_cons]; done))
        have hcall := s_disk_New_ok (hp [] S) (-1) hv_3
        refine call1_new hcall rfl rfl ?_ ?_
        ·exact (.cons Sub.refl .nil)
        clear hcall
        try simp (maxSteps := 4000000) only [go_sem, Prod.mk.injEq, reduceIte, Nat.reduceEqDiff, Nat.reduceAdd, Nat.reduceSub, Nat.reduceMul, Nat.reduceDiv, Nat.reducePow, Nat.reduceLT, Nat.reduceLeDiff, Nat.reduceBEq, Nat.reduceBneDiff, Int.reduceToNat, Int.reduceEq, Int.reduceLE, Int.reduceLT, reduceCtorEq]
        repeat (with_reducible refine And.intro ?_ ?_; next => first | assumption | trivial | omega | decide | (constructor <;> first | assumption | omega) | (simp [Keep.ok, hp_cons_apply, hset_cons]; done))
        refine hk _ _ _ ?_
        refine xghost (D := []) ?_ ?_ ?_ ?_
        ·exact (.cons (Sub.of_eq rfl) (.cons (Sub.of_eq rfl) (.cons (Sub.of_eq rfl) (.cons (Sub.of_eq rfl) .nil))))
        ·exact HpW.refl
        ·exact (by intro p hp; cases hp)
        ·omega
     ·try simp (maxSteps := 4000000) only [go_sem, Prod.mk.injEq, reduceIte, Nat.reduceEqDiff, Nat.reduceAdd, Nat.reduceSub, Nat.reduceMul, Nat.reduceDiv, Nat.reducePow, Nat.reduceLT, Nat.reduceLeDiff, Nat.reduceBEq, Nat.reduceBneDiff, Int.reduceToNat, Int.reduceEq, Int.reduceLE, Int.reduceLT, reduceCtorEq]
      repeat (with_reducible refine And.intro ?_ ?_; next => first | assumption | trivial | omega | decide | (constructor <;> first | assumption | omega) | (simp [Keep.ok, hp_cons_apply, hset_cons]; done))
      have hcall := s_stanchionlaw04_great_ok (hp [] S) v_1 hv_2
      refine call1_x hcall rfl ?_ ?_
      ·exact (.cons Sub.refl .nil)
      clear hcall
      rintro _ SS ⟨rfl, hSS⟩ -
      rw [hSS]
      clear hSS
      try simp (maxSteps := 4000000) only [go_sem, Prod.mk.injEq, reduceIte, Nat.reduceEqDiff, Nat.reduceAdd, Nat.reduceSub, Nat.reduceMul, Nat.reduceDiv, Nat.reducePow, Nat.reduceLT, Nat.reduceLeDiff, Nat.reduceBEq, Nat.reduceBneDiff, Int.reduceToNat, Int.reduceEq, Int.reduceLE, Int.reduceLT, reduceCtorEq]
      repeat (with_reducible refine And.intro ?_ ?_; next => first | assumption | trivial | omega | decide | (constructor <;> first | assumption | omega) | (simp [Keep.ok, hp_cons_apply, hset_cons]; done))
      refine xo_guard v_2 rfl (fun hc_6 => ?_) (fun hc_6 => ?_)
      ·try simp (maxSteps := 4000000) only [go_sem, Prod.mk.injEq, reduceIte, Nat.reduceEqDiff, Nat.reduceAdd, Nat.reduceSub, Nat.reduceMul, Nat.reduceDiv, Nat.reducePow, Nat.reduceLT, Nat.reduceLeDiff, Nat.reduceBEq, Nat.reduceBneDiff, Int.reduceToNat, Int.reduceEq, Int.reduceLE, Int.reduceLT, reduceCtorEq, hc_6]
       repeat (with_reducible refine And.intro ?_ ?_; next => first | assumption | trivial | omega | decide | (constructor <;> first | assumption | omega) | (simp [Keep.ok, hp_cons_apply, hset_cons]; done))
       refine xo_guard (o != 0) rfl (fun hc_7 => ?_) (fun hc_7 => ?_)
       ·try simp (maxSteps := 4000000) only [go_sem, Prod.mk.injEq, reduceIte, Nat.reduceEqDiff, Nat.reduceAdd, Nat.reduceSub, Nat.reduceMul, Nat.reduceDiv, Nat.reducePow, Nat.reduceLT, Nat.reduceLeDiff, Nat.reduceBEq, Nat.reduceBneDiff, Int.reduceToNat, Int.reduceEq, Int.reduceLE, Int.reduceLT, reduceCtorEq, hc_6, hc_7]
        repeat (with_reducible refine And.intro ?_ ?_; next => first | assumption | trivial | omega | decide | (constructor <;> first | assumption | omega) | (simp [Keep.ok, hp_cons_apply, hset_cons]; done))
        refine hk _ _ _ ?_
        refine xghost (D := []) ?_ ?_ ?_ ?_
        ·exact (.cons (Sub.of_eq rfl) (.cons (Sub.of_eq rfl) (.cons (Sub.of_eq rfl) (.cons (Sub.of_eq (by first | rfl | (simp only [sget_cons, reduceIte, Nat.reduceEqDiff, Bool.and_true, Bool.true_and, Bool.and_false, Bool.false_and, Bool.or_true, Bool.true_or, Bool.or_false, Bool.false_or, Bool.not_true, Bool.not_false, Bool.not_not, hc_6, hc_7]; done))) .nil))))
        ·exact HpW.refl
        ·exact (by intro p hp; cases hp)
        ·omega
       ·try simp (maxSteps := 4000000) only [go_sem, Prod.mk.injEq, reduceIte, Nat.reduceEqDiff, Nat.reduceAdd, Nat.reduceSub, Nat.reduceMul, Nat.reduceDiv, Nat.reducePow, Nat.reduceLT, Nat.reduceLeDiff, Nat.reduceBEq, Nat.reduceBneDiff, Int.reduceToNat, Int.reduceEq, Int.reduceLE, Int.reduceLT, reduceCtorEq, hc_6, hc_7]
        repeat (with_reducible refine And.intro ?_ ?_; next => first | assumption | trivial | omega | decide | (constructor <;> first | assumption | omega) | (simp [Keep.ok, hp_cons_apply, hset_cons]; done))
        refine hk _ _ _ ?_
        refine xghost (D := []) ?_ ?_ ?_ ?_
        ·exact (.cons (Sub.of_eq rfl) (.cons (Sub.of_eq rfl) (.cons (Sub.of_eq rfl) (.cons (Sub.of_eq (by first | rfl | (simp only [sget_cons, reduceIte, Nat.reduceEqDiff, Bool.and_true, Bool.true_and, Bool.and_false, Bool.false_and, Bool.or_true, Bool.true_or, Bool.or_false, Bool.false_or, Bool.not_true, Bool.not_false, Bool.not_not, hc_6, hc_7]; done))) .nil))))
        ·exact HpW.refl
        ·exact (by intro p hp; cases hp)
        ·omega
      ·try simp (maxSteps := 4000000) only [go_sem, Prod.mk.injEq, reduceIte, Nat.reduceEqDiff, Nat.reduceAdd, Nat.reduceSub, Nat.reduceMul, Nat.reduceDiv, Nat.reducePow, Nat.reduceLT, Nat.reduceLeDiff, Nat.reduceBEq, Nat.reduceBneDiff, Int.reduceToNat, Int.reduceEq, Int.reduceLE, Int.reduceLT, reduceCtorEq, hc_6]
       repeat (with_reducible refine And.intro ?_ ?_; next => first | assumption | trivial | omega | decide | (constructor <;> first | assumption | omega) | (simp [Keep.ok, hp_cons_apply, hset_cons]; done))
       refine hk _ _ _ ?_
       refine xghost (D := []) ?_ ?_ ?_ ?_
       ·exact (.cons (Sub.of_eq rfl) (.cons (Sub.of_eq rfl) (.cons (Sub.of_eq rfl) (.cons (Sub.of_eq (by first | rfl | (simp only [sget_cons, reduceIte, Nat.reduceEqDiff, Bool.and_true, Bool.true_and, Bool.and_false, Bool.false_and, Bool.or_true, Bool.true_or, Bool.or_false, Bool.false_or, Bool.not_true, Bool.not_false, Bool.not_not, hc_6]; done))) .nil))))
       ·exact HpW.refl
       ·exact (by intro p hp; cases hp)
       ·omega
    ·try simp (maxSteps := 4000000) only [go_sem, Prod.mk.injEq, reduceIte, Nat.reduceEqDiff, Nat.reduceAdd, Nat.reduceSub, Nat.reduceMul, Nat.reduceDiv, Nat.reducePow, Nat.reduceLT, Nat.reduceLeDiff, Nat.reduceBEq, Nat.reduceBneDiff, Int.reduceToNat, Int.reduceEq, Int.reduceLE, Int.reduceLT, reduceCtorEq]
     repeat (with_reducible refine And.intro ?_ ?_; next => first | assumption | trivial | omega | decide | (constructor <;> first | assumption | omega) | (simp [Keep.ok, hp_cons_apply, hset_cons]; done))
     have hcall := s_stanchionlaw04_cut_ok (hp [] S) t hv_1
     refine call1_x hcall rfl ?_ ?_
     ·exact (.cons Sub.refl .nil)
     clear hcall
     rintro _ SS ⟨rfl, hSS⟩ -
     rw [hSS]
     clear hSS
     try simp (maxSteps := 4000000) only [go_sem, Prod.mk.injEq, reduceIte, Nat.reduceEqDiff, Nat.reduceAdd, Nat.reduceSub, Nat.reduceMul, Nat.reduceDiv, Nat.reducePow, Nat.reduceLT, Nat.reduceLeDiff, Nat.reduceBEq, Nat.reduceBneDiff, Int.reduceToNat, Int.reduceEq, Int.reduceLE, Int.reduceLT, reduceCtorEq]
     repeat (with_reducible refine And.intro ?_ ?_; next => first | assumption | trivial | omega | decide | (constructor <;> first | assumption | omega) | (simp [Keep.ok, hp_cons_apply, hset_cons]; done))
     refine hk _ _ _ ?_
     refine xghost (D := []) ?_ ?_ ?_ ?_
     ·exact (.cons (Sub.of_eq rfl) (.cons (Sub.of_eq rfl) (.cons (Sub.of_eq rfl) .nil)))
     ·exact HpW.refl
     ·exact (by intro p hp; cases hp)
     ·omega
  ·try simp (maxSteps := 4000000) only [go_sem, Prod.mk.injEq, reduceIte, Nat.reduceEqDiff, Nat.reduceAdd, Nat.reduceSub, Nat.reduceMul, Nat.reduceDiv, Nat.reducePow, Nat.reduceLT, Nat.reduceLeDiff, Nat.reduceBEq, Nat.reduceBneDiff, Int.reduceToNat, Int.reduceEq, Int.reduceLE, Int.reduceLT, reduceCtorEq]
   repeat (with_reducible refine And.intro ?_ ?_; next => first | assumption | trivial | omega | decide | (constructor <;> first | assumption | omega) | (simp [Keep.ok, hp_cons_apply, hset_cons]; done))
   have hcall := s_stanchionlaw04_alive_ok (hp [] S)  hv
   refine call1_x hcall rfl ?_ ?_
   ·exact .nil
   clear hcall
   rintro _ SS ⟨rfl, hSS⟩ -
   rw [hSS]
   clear hSS
   try simp (maxSteps := 4000000) only [go_sem, Prod.mk.injEq, reduceIte, Nat.reduceEqDiff, Nat.reduceAdd, Nat.reduceSub, Nat.reduceMul, Nat.reduceDiv, Nat.reducePow, Nat.reduceLT, Nat.reduceLeDiff, Nat.reduceBEq, Nat.reduceBneDiff, Int.reduceToNat, Int.reduceEq, Int.reduceLE, Int.reduceLT, reduceCtorEq]
   repeat (with_reducible refine And.intro ?_ ?_; next => first | assumption | trivial | omega | decide | (constructor <;> first | assumption | omega) | (simp [Keep.ok, hp_cons_apply, hset_cons]; done))
   refine hk _ _ _ ?_
   refine xghost (D := []) ?_ ?_ ?_ ?_
   ·exact (.cons (Sub.of_eq rfl) (.cons (Sub.of_eq rfl) (.cons (Sub.of_eq rfl) (.cons (Sub.of_eq rfl) .nil))))
   ·exact HpW.refl
   ·exact (by intro p hp; cases hp)
   ·omega
 ·try simp (maxSteps := 4000000) only [go_sem, Prod.mk.injEq, reduceIte, Nat.reduceEqDiff, Nat.reduceAdd, Nat.reduceSub, Nat.reduceMul, Nat.reduceDiv, Nat.reducePow, Nat.reduceLT, Nat.reduceLeDiff, Nat.reduceBEq, Nat.reduceBneDiff, Int.reduceToNat, Int.reduceEq, Int.reduceLE, Int.reduceLT, reduceCtorEq]
  repeat (with_reducible refine And.intro ?_ ?_; next => first | assumption | trivial | omega | decide | (constructor <;> first | assumption | omega) | (simp [Keep.ok, hp_cons_apply, hset_cons]; done))
  refine hk _ _ _ ?_
  refine xghost (D := []) ?_ ?_ ?_ ?_
  ·exact (.cons (Sub.of_eq rfl) (.cons (Sub.of_eq rfl) (.cons (Sub.of_eq rfl) .nil)))
  ·exact HpW.refl
  ·exact (by intro p hp; cases hp)
  ·omega
/-! stanchion/stanchionref00.CopyBytes -/
def s_stanchionref00_CopyBytes_T (b : List Int) : Option (List Int) :=
 gd (((0 + b.length) * 1 ≤ 140737488355328 ∧ 0 + b.length < 9223372036854775808)) (some b)
theorem s_stanchionref00_CopyBytes_T_ok (S : AHeap) (b : List Int) {r : List Int} (h : s_stanchionref00_CopyBytes_T b = some r) :
  AC Try.prog n_stanchionref00_CopyBytes [eS (lI .u8) b] S fun r' S' => ∃ m : Name, S m = none ∧ r' = .ret (eT (lI .u8) m r) ∧ S' = S.set m (oT (lI .u8) r) := by
 refine AC_of tok mixed fits_stanchionref00_CopyBytes fun d hd => ?_
 unfold c_stanchionref00_CopyBytes
 show LW _ _ _ _ [(0, eS (lI .u8) b)] (hp [] S) 0 _
 rw [s_stanchionref00_CopyBytes_T] at h
 refine xseq [(0, eS (lI .u8) b)] (hp [] S) 0 ?_ (fun k kp hk => ?_)
 ·refine xseq [(0, eS (lI .u8) b), (3, eT (lI .u8) (d, 0) [])] (hp [((d, 0), oT (lI .u8) [])] S) 1 ?_ (fun k kp hk => ?_)
  ·obtain ⟨hg, h⟩ := gd_some h
   refine xseq [(3, eT (lI .u8) (d, 0) b)] (hp [((d, 0), oT (lI .u8) b)] S) 1 ?_ (fun k kp hk => ?_)
   ·refine xseq [(2, eT (lI .u8) (d, 0) b)] (hp [((d, 0), oT (lI .u8) b)] S) 1 ?_ (fun k kp hk => ?_)
    ·refine LW_ret ?_
     obtain rfl := Option.some.inj h
     show FPost _ _ _ _ _ _ _
     exact ⟨_, hp_less (L := [((d, 0), oT (lI .u8) b)]) (D := []) (by intro p hp; cases hp), (d, 0), hd _ (Nat.le_refl _), rfl, rfl⟩
    ·try simp (maxSteps := 4000000) only [go_sem, Prod.mk.injEq, reduceIte, Nat.reduceEqDiff, Nat.reduceAdd, Nat.reduceSub, Nat.reduceMul, Nat.reduceDiv, Nat.reducePow, Nat.reduceLT, Nat.reduceLeDiff, Nat.reduceBEq, Nat.reduceBneDiff, Int.reduceToNat, Int.reduceEq, Int.reduceLE, Int.reduceLT, reduceCtorEq]
     repeat (with_reducible refine And.intro ?_ ?_; next => first | assumption | trivial | omega | decide | (constructor <;> first | assumption | omega) | (simp [Keep.ok, hp_cons_apply, hset_cons]; done))
     refine hk _ _ _ ?_
     refine xghost (D := []) ?_ ?_ ?_ ?_
     ·exact (.cons (Sub.of_eq rfl) .nil)
     ·exact HpW.refl
     ·exact (by intro p hp; cases hp)
     ·omega
   ·try simp (maxSteps := 4000000) only [go_sem, Prod.mk.injEq, reduceIte, Nat.reduceEqDiff, Nat.reduceAdd, Nat.reduceSub, Nat.reduceMul, Nat.reduceDiv, Nat.reducePow, Nat.reduceLT, Nat.reduceLeDiff, Nat.reduceBEq, Nat.reduceBneDiff, Int.reduceToNat, Int.reduceEq, Int.reduceLE, Int.reduceLT, reduceCtorEq]
    repeat (with_reducible refine And.intro ?_ ?_; next => first | assumption | trivial | omega | decide | (constructor <;> first | assumption | omega) | (simp [Keep.ok, hp_cons_apply, hset_cons]; done))
    refine append1_eT (L := (lI .u8)) (n := (d, 0)) (xs := []) (ys := b) T22 T22 T5 ?_ rfl ?_ asrc_eS ?_ rfl ?_ ?_
    ·first | exact .inl rfl | exact .inr rfl
    ·try simp (maxSteps := 4000000) only [go_sem, Prod.mk.injEq, reduceIte, Nat.reduceEqDiff, Nat.reduceAdd, Nat.reduceSub, Nat.reduceMul, Nat.reduceDiv, Nat.reducePow, Nat.reduceLT, Nat.reduceLeDiff, Nat.reduceBEq, Nat.reduceBneDiff, Int.reduceToNat, Int.reduceEq, Int.reduceLE, Int.reduceLT, reduceCtorEq]
    ·exact ⟨trivial, rfl⟩
    ·dsimp only [List.length]; omega
    try simp (maxSteps := 4000000) only [go_sem, Prod.mk.injEq, reduceIte, Nat.reduceEqDiff, Nat.reduceAdd, Nat.reduceSub, Nat.reduceMul, Nat.reduceDiv, Nat.reducePow, Nat.reduceLT, Nat.reduceLeDiff, Nat.reduceBEq, Nat.reduceBneDiff, Int.reduceToNat, Int.reduceEq, Int.reduceLE, Int.reduceLT, reduceCtorEq]
    repeat (with_reducible refine And.intro ?_ ?_; next => first | assumption | trivial | omega | decide | (constructor <;> first | assumption | omega) | (simp [Keep.ok, hp_cons_apply, hset_cons]; done))
    refine hk _ _ _ ?_
    refine xghost (D := []) ?_ ?_ ?_ ?_
    ·exact (.cons (Sub.of_eq rfl) .nil)
    ·exact HpW.refl
    ·exact (by intro p hp; cases hp)
    ·omega
  ·try simp (maxSteps := 4000000) only [go_sem, Prod.mk.injEq, reduceIte, Nat.reduceEqDiff, Nat.reduceAdd, Nat.reduceSub, Nat.reduceMul, Nat.reduceDiv, Nat.reducePow, Nat.reduceLT, Nat.reduceLeDiff, Nat.reduceBEq, Nat.reduceBneDiff, Int.reduceToNat, Int.reduceEq, Int.reduceLE, Int.reduceLT, reduceCtorEq]
   repeat (with_reducible refine And.intro ?_ ?_; next => first | assumption | trivial | omega | decide | (constructor <;> first | assumption | omega) | (simp [Keep.ok, hp_cons_apply, hset_cons]; done))
   refine hk _ _ _ ?_
   refine Ghost.trans (xname (lI .u8) 3 Sub.refl) ?_
   try simp (maxSteps := 4000000) only [go_sem, Prod.mk.injEq, reduceIte, Nat.reduceEqDiff, Nat.reduceAdd, Nat.reduceSub, Nat.reduceMul, Nat.reduceDiv, Nat.reducePow, Nat.reduceLT, Nat.reduceLeDiff, Nat.reduceBEq, Nat.reduceBneDiff, Int.reduceToNat, Int.reduceEq, Int.reduceLE, Int.reduceLT, reduceCtorEq]
   refine xghost (D := []) ?_ ?_ ?_ ?_
   ·exact (.cons (Sub.of_eq rfl) (.cons (Sub.of_eq rfl) .nil))
   ·exact HpW.refl
   ·exact (by intro p hp; cases hp)
   ·omega
 ·try simp (maxSteps := 4000000) only [go_sem, Prod.mk.injEq, reduceIte, Nat.reduceEqDiff, Nat.reduceAdd, Nat.reduceSub, Nat.reduceMul, Nat.reduceDiv, Nat.reducePow, Nat.reduceLT, Nat.reduceLeDiff, Nat.reduceBEq, Nat.reduceBneDiff, Int.reduceToNat, Int.reduceEq, Int.reduceLE, Int.reduceLT, reduceCtorEq]
  repeat (with_reducible refine And.intro ?_ ?_; next => first | assumption | trivial | omega | decide | (constructor <;> first | assumption | omega) | (simp [Keep.ok, hp_cons_apply, hset_cons]; done))
  refine hk _ _ _ ?_
  refine xghost (D := []) ?_ ?_ ?_ ?_
  ·exact (.cons (Sub.of_eq rfl) .nil)
  ·exact HpW.refl
  ·exact (by intro p hp; cases hp)
  ·omega
/-! stanchion/stanchionlaw04.DiskTrims -/
def s_stanchionlaw04_DiskTrims (t : List Int) (o : Int) (A : List Int) : Option Bool :=
 bd (s_stanchionlaw04_alive ) fun (v : Bool) => if (!v) = true then some false else if (decide (5000 < (IntKind.i64.wrap ((t.length : Int) + (A.length : Int))))) = true then some true else bd (s_disk_New (-1)) fun (v_1 : GdiskDisk) => bd (s_stanchionref00_CopyBytes t) fun (v_2 : List Int) => bd (s_disk_Disk_Append v_1 0 ([v_2])) fun (v_3 : Int × GdiskDisk) => bd (if (!(v_3.1 != 0)) = true then s_disk_Disk_Sync v_3.2 [] else some (0, v_3.2)) fun (v_4 : Int × GdiskDisk) => if ((v_3.1 != 0) || (v_4.1 != 0)) = true then some false else bd (s_disk_Disk_Trim v_4.2 0 o) fun (v_5 : Int × GdiskDisk) => if ((decide (o < 0)) || (decide ((t.length : Int) < o))) = true then bd (s_disk_Disk_Read v_5.2 0) fun (v_6 : List Int × Int) => bd (if (v_5.1 == 41) = true then s_stanchionref00_SameBytes v_6.1 t else some false) fun (v_7 : Bool) => some ((v_5.1 == 41) && v_7) else bd (if (!(v_5.1 != 0)) = true then s_stanchionref00_CopyBytes A else some []) fun (v_8 : List Int) => bd (if (!(v_5.1 != 0)) = true then s_disk_Disk_Append v_5.2 0 ([v_8]) else some (0, v_5.2)) fun (v_9 : Int × GdiskDisk) => if ((v_5.1 != 0) || (v_9.1 != 0)) = true then some false else gd ((0 ≤ 0 ∧ 0 ≤ o ∧ Int.toNat o ≤ t.length)) (bd (s_stanchionref00_CopyBytes_T ((t.take (Int.toNat o)).drop (Int.toNat 0))) fun (v_10 : List Int) => bd (s_disk_Disk_Crash v_9.2 [] (-1)) fun (v_11 : GdiskDisk) => bd (s_disk_Disk_Crash v_9.2 ([1099511627776]) (-1)) fun (v_12 : GdiskDisk) => bd (s_disk_Disk_Read v_11 0) fun (v_13 : List Int × Int) => bd (s_disk_Disk_Read v_12 0) fun (v_14 : List Int × Int) => bd (s_stanchionref00_SameBytes v_13.1 v_10) fun (v_15 : Bool) => gd (v_15 = true → ((v_10.length + A.length) * 1 ≤ 140737488355328 ∧ v_10.length + A.length < 9223372036854775808)) (bd (if v_15 = true then s_stanchionref00_SameBytes v_14.1 (v_10 ++ A) else some false) fun (v_16 : Bool) => some (v_15 && v_16)))
theorem s_stanchionlaw04_DiskTrims_ok (S : AHeap) (t : List Int) (o : Int) (A : List Int) {r : Bool} (h : s_stanchionlaw04_DiskTrims t o A = some r) :
  AC Try.prog n_stanchionlaw04_DiskTrims [eS (lI .u8) t, .lit (.int .i64 o), eS (lI .u8) A] S fun r' S' => r' = .ret (.lit (.bool r)) ∧ S' = S := by
 refine AC_of tok mixed fits_stanchionlaw04_DiskTrims fun d hd => ?_
 unfold c_stanchionlaw04_DiskTrims
 show LW _ _ _ _ [(0, eS (lI .u8) t), (1, .lit (.int .i64 o)), (2, eS (lI .u8) A)] (hp [] S) 0 _
 rw [s_stanchionlaw04_DiskTrims] at h
 refine xseq [(0, eS (lI .u8) t), (1, .lit (.int .i64 o)), (2, eS (lI .u8) A)] (hp [] S) 0 ?_ (fun k kp hk => ?_)
 ·refine LW_seq ?_
  obtain ⟨v, hv, h⟩ := bd_some h
  refine xseq [(0, eS (lI .u8) t), (1, .lit (.int .i64 o)), (2, eS (lI .u8) A), (19, .lit (.bool (!v)))] (hp [] S) 0 ?_ (fun k kp hk => ?_)
  ·refine xcond (!v) rfl (fun hc => ?_) (fun hc => ?_)
   ·rw [ite_t hc] at h
    refine xseq [(6, .lit (.bool false))] (hp [] S) 0 ?_ (fun k kp hk => ?_)
    ·refine LW_ret ?_
     obtain rfl := Option.some.inj h
     show FPost _ _ _ _ _ _ _
     exact ⟨_, hp_less (L := []) (D := []) (by intro p hp; cases hp), rfl, rfl⟩
    ·try simp (maxSteps := 4000000) only [go_sem, Prod.mk.injEq, reduceIte, Nat.reduceEqDiff, Nat.reduceAdd, Nat.reduceSub, Nat.reduceMul, Nat.reduceDiv, Nat.reducePow, Nat.reduceLT, Nat.reduceLeDiff, Nat.reduceBEq, Nat.reduceBneDiff, Int.reduceToNat, Int.reduceEq, Int.reduceLE, Int.reduceLT, reduceCtorEq]
     repeat (with_reducible refine And.intro ?_ ?_; next => first | assumption | trivial | omega | decide | (constructor <;> first | assumption | omega) | (simp [Keep.ok, hp_cons_apply, hset_cons]; done))
     refine hk _ _ _ ?_
     refine xghost (D := []) ?_ ?_ ?_ ?_
     ·exact (.cons (Sub.of_eq rfl) .nil)
     ·exact HpW.refl
     ·exact (by intro p hp; cases hp)
     ·omega
   ·rw [ite_f hc] at h
    refine LW_skip ?_
    show LW _ _ _ _ _ _ _ _
    refine LW_seq ?_
    refine xseq [(0, eS (lI .u8) t), (1, .lit (.int .i64 o)), (2, eS (lI .u8) A), (25, .lit (.bool (decide (5000 < (IntKind.i64.wrap ((t.length : Int) + (A.length : Int)))))))] (hp [] S) 0 ?_ (fun k kp hk => ?_)
    ·refine xcond (decide (5000 < (IntKind.i64.wrap ((t.length : Int) + (A.length : Int))))) rfl (fun hc_1 => ?_) (fun hc_1 => ?_)
     ·rw [ite_t hc_1] at h
      refine xseq [(6, .lit (.bool true))] (hp [] S) 0 ?_ (fun k kp hk => ?_)
      ·refine LW_ret ?_
       obtain rfl := Option.some.inj h
       show FPost _ _ _ _ _ _ _
       exact ⟨_, hp_less (L := []) (D := []) (by intro p hp; cases hp), rfl, rfl⟩
      ·try simp (maxSteps := 4000000) only [go_sem, Prod.mk.injEq, reduceIte, Nat.reduceEqDiff, Nat.reduceAdd, Nat.reduceSub, Nat.reduceMul, Nat.reduceDiv, Nat.reducePow, Nat.reduceLT, Nat.reduceLeDiff, Nat.reduceBEq, Nat.reduceBneDiff, Int.reduceToNat, Int.reduceEq, Int.reduceLE, Int.reduceLT, reduceCtorEq]
       repeat (with_reducible refine And.intro ?_ ?_; next => first | assumption | trivial | omega | decide | (constructor <;> first | assumption | omega) | (simp [Keep.ok, hp_cons_apply, hset_cons]; done))
       refine hk _ _ _ ?_
       refine xghost (D := []) ?_ ?_ ?_ ?_
       ·exact (.cons (Sub.of_eq rfl) .nil)
       ·exact HpW.refl
       ·exact (by intro p hp; cases hp)
       ·omega
     ·rw [ite_f hc_1] at h
      refine LW_skip ?_
      show LW _ _ _ _ _ _ _ _
      obtain ⟨v_1, hv_1, h⟩ := bd_some h
      refine xseq [(0, eS (lI .u8) t), (1, .lit (.int .i64 o)), (2, eS (lI .u8) A), (7, .ptr (d, 0) 0)] (hp [((d, 0), oGdiskDisk v_1)] S) 1 ?_ (fun k kp hk => ?_)
      ·refine LW_seq ?_
       obtain ⟨v_2, hv_2, h⟩ := bd_some h
       obtain ⟨v_3, hv_3, h⟩ := bd_some h
       obtain ⟨v_4, hv_4, h⟩ := bd_some h
       refine xseq [(0, eS (lI .u8) t), (1, .lit (.int .i64 o)), (2, eS (lI .u8) A), (7, .ptr (d, 0) 0), (41, .lit (.bool ((v_3.1 != 0) || (v_4.1 != 0))))] (hp [((d, 0), oGdiskDisk v_4.2)] S) 1 ?_ (fun k kp hk => ?_)
       ·refine xcond ((v_3.1 != 0) || (v_4.1 != 0)) rfl (fun hc_2 => ?_) (fun hc_2 => ?_)
        ·rw [ite_t hc_2] at h
         refine xseq [(6, .lit (.bool false))] (hp [((d, 0), oGdiskDisk v_4.2)] S) 1 ?_ (fun k kp hk => ?_)
         ·refine LW_ret ?_
          obtain rfl := Option.some.inj h
          show FPost _ _ _ _ _ _ _
          exact ⟨_, hp_less (L := []) (D := [((d, 0), oGdiskDisk v_4.2)]) (by intro p hp; simp only [List.mem_cons, List.not_mem_nil, or_false] at hp; rcases hp with rfl <;> first | exact hd _ (Nat.le_refl _)), rfl, rfl⟩
         ·try simp (maxSteps := 4000000) only [go_sem, Prod.mk.injEq, reduceIte, Nat.reduceEqDiff, Nat.reduceAdd, Nat.reduceSub, Nat.reduceMul, Nat.reduceDiv, Nat.reducePow, Nat.reduceLT, Nat.reduceLeDiff, Nat.reduceBEq, Nat.reduceBneDiff, Int.reduceToNat, Int.reduceEq, Int.reduceLE, Int.reduceLT, reduceCtorEq]
          repeat (with_reducible refine And.intro ?_ ?_; next => first | assumption | trivial | omega | decide | (constructor <;> first | assumption | omega) | (simp [Keep.ok, hp_cons_apply, hset_cons]; done))
          refine hk _ _ _ ?_
          refine xghost (D := []) ?_ ?_ ?_ ?_
          ·exact (.cons (Sub.of_eq rfl) .nil)
          ·exact HpW.refl
          ·exact (by intro p hp; cases hp)
          ·omega
        ·rw [ite_f hc_2] at h
         refine LW_skip ?_
         show LW _ _ _ _ _ _ _ _
         obtain ⟨v_5, hv_5, h⟩ := bd_some h
         refine xseq [(0, eS (lI .u8) t), (1, .lit (.int .i64 o)), (2, eS (lI .u8) A), (7, .ptr (d, 0) 0), (8, .lit (.int .i64 v_5.1))] (hp [((d, 0), oGdiskDisk v_5.2)] S) 1 ?_ (fun k kp hk => ?_)
         ·refine LW_seq ?_
          refine xseq [(0, eS (lI .u8) t), (1, .lit (.int .i64 o)), (2, eS (lI .u8) A), (7, .ptr (d, 0) 0), (8, .lit (.int .i64 v_5.1)), (52, .lit (.bool ((decide (o < 0)) || (decide ((t.length : Int) < o)))))] (hp [((d, 0), oGdiskDisk v_5.2)] S) 1 ?_ (fun k kp hk => ?_)
          ·refine xcond ((decide (o < 0)) || (decide ((t.length : Int) < o))) rfl (fun hc_3 => ?_) (fun hc_3 => ?_)
           ·rw [ite_t hc_3] at h
            obtain ⟨v_6, hv_6, h⟩ := bd_some h
            refine xseq [(0, eS (lI .u8) t), (8, .lit (.int .i64 v_5.1)), (9, eS (lI .u8) v_6.1)] (hp [((d, 0), oGdiskDisk v_5.2)] S) 1 ?_ (fun k kp hk => ?_)
            ·obtain ⟨v_7, hv_7, h⟩ := bd_some h
             refine xseq [(6, .lit (.bool ((v_5.1 == 41) && v_7)))] (hp [((d, 0), oGdiskDisk v_5.2)] S) 1 ?_ (fun k kp hk => ?_)
             ·refine LW_ret ?_
              obtain rfl := Option.some.inj h
              show FPost _ _ _ _ _ _ _
              exact ⟨_, hp_less (L := []) (D := [((d, 0), oGdiskDisk v_5.2)]) (by intro p hp; simp only [List.mem_cons, List.not_mem_nil, or_false] at hp; rcases hp with rfl <;> first | exact hd _ (Nat.le_refl _)), rfl, rfl⟩
             ·try simp (maxSteps := 4000000) only [go_sem, Prod.mk.injEq, reduceIte, Nat.reduceEqDiff, Nat.reduceAdd, Nat.reduceSub, Nat.reduceMul, Nat.reduceDiv, Nat.reducePow, Nat.reduceLT, Nat.reduceLeDiff, Nat.reduceBEq, Nat.reduceBneDiff, Int.reduceToNat, Int.reduceEq, Int.reduceLE, Int.reduceLT, reduceCtorEq]
              repeat (with_reducible refine And.intro ?_ ?_; next => first | assumption | trivial | omega | decide | (constructor <;> first | assumption | omega) | (simp [Keep.ok, hp_cons_apply, hset_cons]; done))
              refine xo_guard (v_5.1 == 41) rfl (fun hc_4 => ?_) (fun hc_4 => ?_)
              ·try simp (maxSteps := 4000000) only [go_sem, Prod.mk.injEq, reduceIte, Nat.reduceEqDiff, Nat.reduceAdd, Nat.reduceSub, Nat.reduceMul, Nat.reduceDiv, Nat.reducePow, Nat.reduceLT, Nat.reduceLeDiff, Nat.reduceBEq, Nat.reduceBneDiff, Int.reduceToNat, Int.reduceEq, Int.reduceLE, Int.reduceLT, reduceCtorEq, hc_4]
               repeat (with_reducible refine And.intro ?_ ?_; next => first | assumption | trivial | omega | decide | (constructor <;> first | assumption | omega) | (simp [Keep.ok, hp_cons_apply, hset_cons]; done))
               rw [if_pos (by simp only [Bool.and_true, Bool.true_and, Bool.and_false, Bool.false_and, Bool.or_true, Bool.true_or, Bool.or_false, Bool.false_or, Bool.not_true, Bool.not_false, Bool.not_not, hc_4])] at hv_7
               have hcall := s_stanchionref00_SameBytes_ok (hp [((d, 0), oGdiskDisk v_5.2)] S) v_6.1 t hv_7
               refine call1_x hcall rfl ?_ ?_
               ·exact (.cons Sub.refl (.cons Sub.refl .nil))
               clear hcall
               rintro _ SS ⟨rfl, hSS⟩ -
               rw [hSS]
               clear hSS
               try simp (maxSteps := 4000000) only [go_sem, Prod.mk.injEq, reduceIte, Nat.reduceEqDiff, Nat.reduceAdd, Nat.reduceSub, Nat.reduceMul, Nat.reduceDiv, Nat.reducePow, Nat.reduceLT, Nat.reduceLeDiff, Nat.reduceBEq, Nat.reduceBneDiff, Int.reduceToNat, Int.reduceEq, Int.reduceLE, Int.reduceLT, reduceCtorEq, hc_4]
               repeat (with_reducible refine And.intro ?_ ?_; next => first | assumption | trivial | omega | decide | (constructor <;> first | assumption | omega) | (simp [Keep.ok, hp_cons_apply, hset_cons]; done))
               refine hk _ _ _ ?_
               refine xghost (D := []) ?_ ?_ ?_ ?_
               ·exact (.cons (Sub.of_eq (by first | rfl | (simp only [sget_cons, reduceIte, Nat.reduceEqDiff, Bool.and_true, Bool.true_and, Bool.and_false, Bool.false_and, Bool.or_true, Bool.true_or, Bool.or_false, Bool.false_or, Bool.not_true, Bool.not_false, Bool.not_not, hc_4]; done))) .nil)
               ·exact HpW.refl
               ·exact (by intro p hp; cases hp)
               ·omega
              ·try simp (maxSteps := 4000000) only [go_sem, Prod.mk.injEq, reduceIte, Nat.reduceEqDiff, Nat.reduceAdd, Nat.reduceSub, Nat.reduceMul, Nat.reduceDiv, Nat.reducePow, Nat.reduceLT, Nat.reduceLeDiff, Nat.reduceBEq, Nat.reduceBneDiff, Int.reduceToNat, Int.reduceEq, Int.reduceLE, Int.reduceLT, reduceCtorEq, hc_4]
               repeat (with_reducible refine And.intro ?_ ?_; next => first | assumption | trivial | omega | decide | (constructor <;> first | assumption | omega) | (simp [Keep.ok, hp_cons_apply, hset_cons]; done))
               refine hk _ _ _ ?_
               refine xghost (D := []) ?_ ?_ ?_ ?_
               ·exact (.cons (Sub.of_eq (by first | rfl | (simp only [sget_cons, reduceIte, Nat.reduceEqDiff, Bool.and_true, Bool.true_and, Bool.and_false, Bool.false_and, Bool.or_true, Bool.true_or, Bool.or_false, Bool.false_or, Bool.not_true, Bool.not_false, Bool.not_not, hc_4]; done))) .nil)
               ·exact HpW.refl
               ·exact (by intro p hp; cases hp)
               ·omega
            ·try simp (maxSteps := 4000000) only [go_sem, Prod.mk.injEq, reduceIte, Nat.reduceEqDiff, Nat.reduceAdd, Nat.reduceSub, Nat.reduceMul, Nat.reduceDiv, Nat.reducePow, Nat.reduceLT, Nat.reduceLeDiff, Nat.reduceBEq, Nat.reduceBneDiff, Int.reduceToNat, Int.reduceEq, Int.reduceLE, Int.reduceLT, reduceCtorEq]
             repeat (with_reducible refine And.intro ?_ ?_; next => first | assumption | trivial | omega | decide | (constructor <;> first | assumption | omega) | (simp [Keep.ok, hp_cons_apply, hset_cons]; done))
             have hcall := s_disk_Disk_Read_ok (n0 := (d, 0)) (hS0 := by simp only [hp_cons_apply, hp_nil_apply, reduceIte, Prod.mk.injEq, Nat.reduceEqDiff, and_true, and_false, true_and, false_and] <;> rfl) (hp [((d, 0), oGdiskDisk v_5.2)] S) _ 0 (h := hv_6)
             refine call1_x hcall rfl ?_ ?_
             ·exact (.cons Sub.refl (.cons Sub.refl .nil))
             clear hcall
             rintro _ SS ⟨rfl, hSS⟩ -
             rw [hSS]
             clear hSS
             try simp (maxSteps := 4000000) only [go_sem, Prod.mk.injEq, reduceIte, Nat.reduceEqDiff, Nat.reduceAdd, Nat.reduceSub, Nat.reduceMul, Nat.reduceDiv, Nat.reducePow, Nat.reduceLT, Nat.reduceLeDiff, Nat.reduceBEq, Nat.reduceBneDiff, Int.reduceToNat, Int.reduceEq, Int.reduceLE, Int.reduceLT, reduceCtorEq]
             repeat (with_reducible refine And.intro ?_ ?_; next => first | assumption | trivial | omega | decide | (constructor <;> first | assumption | omega) | (simp [Keep.ok, hp_cons_apply, hset_cons]; done))
             refine hk _ _ _ ?_
             refine xghost (D := []) ?_ ?_ ?_ ?_
             ·exact (.cons (Sub.of_eq rfl) (.cons (Sub.of_eq rfl) (.cons (Sub.of_eq rfl) .nil)))
             ·exact HpW.refl
             ·exact (by intro p hp; cases hp)
             ·omega
           ·rw [ite_f hc_3] at h
            refine LW_skip ?_
            show LW _ _ _ _ _ _ _ _
            refine LW_seq ?_
            obtain ⟨v_8, hv_8, h⟩ := bd_some h
            obtain ⟨v_9, hv_9, h⟩ := bd_some h
            refine xseq [(0, eS (lI .u8) t), (1, .lit (.int .i64 o)), (2, eS (lI .u8) A), (7, .ptr (d, 0) 0), (74, .lit (.bool ((v_5.1 != 0) || (v_9.1 != 0))))] (hp [((d, 0), oGdiskDisk v_9.2)] S) 1 ?_ (fun k kp hk => ?_)
            ·refine xcond ((v_5.1 != 0) || (v_9.1 != 0)) rfl (fun hc_5 => ?_) (fun hc_5 => ?_)
             ·rw [ite_t hc_5] at h
              refine xseq [(6, .lit (.bool false))] (hp [((d, 0), oGdiskDisk v_9.2)] S) 1 ?_ (fun k kp hk => ?_)
              ·refine LW_ret ?_
               obtain rfl := Option.some.inj h
               show FPost _ _ _ _ _ _ _
               exact ⟨_, hp_less (L := []) (D := [((d, 0), oGdiskDisk v_9.2)]) (by intro p hp; simp only [List.mem_cons, List.not_mem_nil, or_false] at hp; rcases hp with rfl <;> first | exact hd _ (Nat.le_refl _)), rfl, rfl⟩
              ·try simp (maxSteps := 4000000) only [go_sem, Prod.mk.injEq, reduceIte, Nat.reduceEqDiff, Nat.reduceAdd, Nat.reduceSub, Nat.reduceMul, Nat.reduceDiv, Nat.reducePow, Nat.reduceLT, Nat.reduceLeDiff, Nat.reduceBEq, Nat.reduceBneDiff, Int.reduceToNat, Int.reduceEq, Int.reduceLE, Int.reduceLT, reduceCtorEq]
               repeat (with_reducible refine And.intro ?_ ?_; next => first | assumption | trivial | omega | decide | (constructor <;> first | assumption | omega) | (simp [Keep.ok, hp_cons_apply, hset_cons]; done))
               refine hk _ _ _ ?_
               refine xghost (D := []) ?_ ?_ ?_ ?_
               ·exact (.cons (Sub.of_eq rfl) .nil)
               ·exact HpW.refl
               ·exact (by intro p hp; cases hp)
               ·omega
             ·rw [ite_f hc_5] at h
              refine LW_skip ?_
              show LW _ _ _ _ _ _ _ _
              obtain ⟨hg, h⟩ := gd_some h
              obtain ⟨v_10, hv_10, h⟩ := bd_some h
              refine xseq [(2, eS (lI .u8) A), (7, .ptr (d, 0) 0), (11, eT (lI .u8) (d, 1) v_10)] (hp [((d, 0), oGdiskDisk v_9.2), ((d, 1), oT (lI .u8) v_10)] S) 2 ?_ (fun k kp hk => ?_)
              ·obtain ⟨v_11, hv_11, h⟩ := bd_some h
               refine xseq [(2, eS (lI .u8) A), (7, .ptr (d, 0) 0), (11, eT (lI .u8) (d, 1) v_10), (12, .ptr (d, 2) 0)] (hp [((d, 0), oGdiskDisk v_9.2), ((d, 1), oT (lI .u8) v_10), ((d, 2), oGdiskDisk v_11)] S) 3 ?_ (fun k kp hk => ?_)
               ·obtain ⟨v_12, hv_12, h⟩ := bd_some h
                refine xseq [(2, eS (lI .u8) A), (11, eT (lI .u8) (d, 1) v_10), (12, .ptr (d, 2) 0), (13, .ptr (d, 3) 0)] (hp [((d, 0), oGdiskDisk v_9.2), ((d, 1), oT (lI .u8) v_10), ((d, 2), oGdiskDisk v_11), ((d, 3), oGdiskDisk v_12)] S) 4 ?_ (fun k kp hk => ?_)
                ·refine LW_seq ?_
                 refine xseq [(2, eS (lI .u8) A), (11, eT (lI .u8) (d, 1) v_10), (12, .ptr (d, 2) 0), (13, .ptr (d, 3) 0), (89, .lit (.bool false))] (hp [((d, 0), oGdiskDisk v_9.2), ((d, 1), oT (lI .u8) v_10), ((d, 2), oGdiskDisk v_11), ((d, 3), oGdiskDisk v_12)] S) 4 ?_ (fun k kp hk => ?_)
                 ·refine xcond false rfl (fun h0 => by cases h0) (fun _ => ?_)
                  refine LW_skip ?_
                  show LW _ _ _ _ _ _ _ _
                  obtain ⟨v_13, hv_13, h⟩ := bd_some h
                  refine xseq [(2, eS (lI .u8) A), (11, eT (lI .u8) (d, 1) v_10), (13, .ptr (d, 3) 0), (14, eS (lI .u8) v_13.1)] (hp [((d, 0), oGdiskDisk v_9.2), ((d, 1), oT (lI .u8) v_10), ((d, 2), oGdiskDisk v_11), ((d, 3), oGdiskDisk v_12)] S) 4 ?_ (fun k kp hk => ?_)
                  ·obtain ⟨v_14, hv_14, h⟩ := bd_some h
                   refine xseq [(2, eS (lI .u8) A), (11, eT (lI .u8) (d, 1) v_10), (14, eS (lI .u8) v_13.1), (16, eS (lI .u8) v_14.1)] (hp [((d, 0), oGdiskDisk v_9.2), ((d, 1), oT (lI .u8) v_10), ((d, 2), oGdiskDisk v_11), ((d, 3), oGdiskDisk v_12)] S) 4 ?_ (fun k kp hk => ?_)
                   ·obtain ⟨v_15, hv_15, h⟩ := bd_some h
                    obtain ⟨hg_1, h⟩ := gd_some h
                    obtain ⟨v_16, hv_16, h⟩ := bd_some h
                    refine xseq [(6, .lit (.bool (v_15 && v_16)))] (hp [((d, 0), oGdiskDisk v_9.2), ((d, 2), oGdiskDisk v_11), ((d, 3), oGdiskDisk v_12)] S) 4 ?_ (fun k kp hk => ?_)
                    ·refine LW_ret ?_
                     obtain rfl := Option.some.inj h
                     show FPost _ _ _ _ _ _ _
                     exact ⟨_, hp_less (L := []) (D := [((d, 0), oGdiskDisk v_9.2), ((d, 2), oGdiskDisk v_11), ((d, 3), oGdiskDisk v_12)]) (by intro p hp; simp only [List.mem_cons, List.not_mem_nil, or_false] at hp; rcases hp with rfl | rfl | rfl <;> first | exact hd _ (Nat.le_refl _)), rfl, rfl⟩
                    ·try simp (maxSteps := 4000000) only [go_sem, Prod.mk.injEq, reduceIte, Nat.reduceEqDiff, Nat.reduceAdd, Nat.reduceSub, Nat.reduceMul, Nat.reduceDiv, Nat.reducePow, Nat.reduceLT, Nat.reduceLeDiff, Nat.reduceBEq, Nat.reduceBneDiff, Int.reduceToNat, Int.reduceEq, Int.reduceLE, Int.reduceLT, reduceCtorEq]
                     repeat (with_reducible refine And.intro ?_ ?_; next => first | assumption | trivial | omega | decide | (constructor <;> first | assumption | omega) | (simp [Keep.ok, hp_cons_apply, hset_cons]; done))
                     have hcall := s_stanchionref00_SameBytes_ok (hp [((d, 0), oGdiskDisk v_9.2), ((d, 1), oT (lI .u8) v_10), ((d, 2), oGdiskDisk v_11), ((d, 3), oGdiskDisk v_12)] S) v_13.1 v_10 hv_15
                     refine call1_x hcall rfl ?_ ?_
                     ·exact (.cons Sub.refl (.cons Sub.tip .nil))
                     clear hcall
                     rintro _ SS ⟨rfl, hSS⟩ -
                     rw [hSS]
                     clear hSS
                     try simp (maxSteps := 4000000) only [go_sem, Prod.mk.injEq, reduceIte, Nat.reduceEqDiff, Nat.reduceAdd, Nat.reduceSub, Nat.reduceMul, Nat.reduceDiv, Nat.reducePow, Nat.reduceLT, Nat.reduceLeDiff, Nat.reduceBEq, Nat.reduceBneDiff, Int.reduceToNat, Int.reduceEq, Int.reduceLE, Int.reduceLT, reduceCtorEq]
                     repeat (with_reducible refine And.intro ?_ ?_; next => first | assumption | trivial | omega | decide | (constructor <;> first | assumption | omega) | (simp [Keep.ok, hp_cons_apply, hset_cons]; done))
                     refine xo_guard v_15 rfl (fun hc_6 => ?_) (fun hc_6 => ?_)
                     ·have hg_1 := hg_1 (by simp only [Bool.and_true, Bool.true_and, Bool.and_false, Bool.false_and, Bool.or_true, Bool.true_or, Bool.or_false, Bool.false_or, Bool.not_true, Bool.not_false, Bool.not_not, hc_6])
                      try simp (maxSteps := 4000000) only [go_sem, Prod.mk.injEq, reduceIte, Nat.reduceEqDiff, Nat.reduceAdd, Nat.reduceSub, Nat.reduceMul, Nat.reduceDiv, Nat.reducePow, Nat.reduceLT, Nat.reduceLeDiff, Nat.reduceBEq, Nat.reduceBneDiff, Int.reduceToNat, Int.reduceEq, Int.reduceLE, Int.reduceLT, reduceCtorEq, hc_6]
                      repeat (with_reducible refine And.intro ?_ ?_; next => first | assumption | trivial | omega | decide | (constructor <;> first | assumption | omega) | (simp [Keep.ok, hp_cons_apply, hset_cons]; done))
                      refine append1_eT (L := (lI .u8)) (n := (d, 1)) (xs := v_10) (ys := A) T22 T22 T5 ?_ rfl ?_ asrc_eS ?_ rfl ?_ ?_
                      ·first | exact .inl rfl | exact .inr rfl
                      ·try simp (maxSteps := 4000000) only [go_sem, Prod.mk.injEq, reduceIte, Nat.reduceEqDiff, Nat.reduceAdd, Nat.reduceSub, Nat.reduceMul, Nat.reduceDiv, Nat.reducePow, Nat.reduceLT, Nat.reduceLeDiff, Nat.reduceBEq, Nat.reduceBneDiff, Int.reduceToNat, Int.reduceEq, Int.reduceLE, Int.reduceLT, reduceCtorEq, hc_6]
                      ·exact ⟨trivial, rfl⟩
                      ·dsimp only [List.length]; omega
                      try simp (maxSteps := 4000000) only [go_sem, Prod.mk.injEq, reduceIte, Nat.reduceEqDiff, Nat.reduceAdd, Nat.reduceSub, Nat.reduceMul, Nat.reduceDiv, Nat.reducePow, Nat.reduceLT, Nat.reduceLeDiff, Nat.reduceBEq, Nat.reduceBneDiff, Int.reduceToNat, Int.reduceEq, Int.reduceLE, Int.reduceLT, reduceCtorEq, hc_6]
                      repeat (with_reducible refine And.intro ?_ ?_; next => first | assumption | trivial | omega | decide | (constructor <;> first | assumption | omega) | (simp [Keep.ok, hp_cons_apply, hset_cons]; done))
                      rw [if_pos (by simp only [Bool.and_true, Bool.true_and, Bool.and_false, Bool.false_and, Bool.or_true, Bool.true_or, Bool.or_false, Bool.false_or, Bool.not_true, Bool.not_false, Bool.not_not, hc_6])] at hv_16
                      have hcall := s_stanchionref00_SameBytes_ok (hp [((d, 0), oGdiskDisk v_9.2), ((d, 1), oT (lI .u8) (v_10 ++ A)), ((d, 2), oGdiskDisk v_11), ((d, 3), oGdiskDisk v_12)] S) v_14.1 (v_10 ++ A) hv_16
                      refine call1_x hcall rfl ?_ ?_
                      ·exact (.cons Sub.refl (.cons Sub.tip .nil))
                      clear hcall
                      rintro _ SS ⟨rfl, hSS⟩ -
                      rw [hSS]
                      clear hSS
                      try simp (maxSteps := 4000000) only [go_sem, Prod.mk.injEq, reduceIte, Nat.reduceEqDiff, Nat.reduceAdd, Nat.reduceSub, Nat.reduceMul, Nat.reduceDiv, Nat.reducePow, Nat.reduceLT, Nat.reduceLeDiff, Nat.reduceBEq, Nat.reduceBneDiff, Int.reduceToNat, Int.reduceEq, Int.reduceLE, Int.reduceLT, reduceCtorEq, hc_6]
                      repeat (with_reducible refine And.intro ?_ ?_; next => first | assumption | trivial | omega | decide | (constructor <;> first | assumption | omega) | (simp [Keep.ok, hp_cons_apply, hset_cons]; done))
                      refine hk _ _ _ ?_
                      refine xghostD ?_ ?_ ?_
                      ·exact (.cons (Sub.of_eq (by first | rfl | (simp only [sget_cons, reduceIte, Nat.reduceEqDiff, Bool.and_true, Bool.true_and, Bool.and_false, Bool.false_and, Bool.or_true, Bool.true_or, Bool.or_false, Bool.false_or, Bool.not_true, Bool.not_false, Bool.not_not, hc_6]; done))) .nil)
                      ·exact (.cons .refl (.drop (by simp only [hp_cons_apply, hp_nil_apply, reduceIte, Prod.mk.injEq, Nat.reduceEqDiff, and_true, and_false, true_and, false_and]; exact hd _ (Nat.le_refl _)) (.cons .refl (.cons .refl .nil))))
                      ·omega
                     ·try simp (maxSteps := 4000000) only [go_sem, Prod.mk.injEq, reduceIte, Nat.reduceEqDiff, Nat.reduceAdd, Nat.reduceSub, Nat.reduceMul, Nat.reduceDiv, Nat.reducePow, Nat.reduceLT, Nat.reduceLeDiff, Nat.reduceBEq, Nat.reduceBneDiff, Int.reduceToNat, Int.reduceEq, Int.reduceLE, Int.reduceLT, reduceCtorEq, hc_6]
                      repeat (with_reducible refine And.intro ?_ ?_; next => first | assumption | trivial | omega | decide | (constructor <;> first | assumption | omega) | (simp [Keep.ok, hp_cons_apply, hset_cons]; done))
                      refine hk _ _ _ ?_
                      refine xghostD ?_ ?_ ?_
                      ·exact (.cons (Sub.of_eq (by first | rfl | (simp only [sget_cons, reduceIte, Nat.reduceEqDiff, Bool.and_true, Bool.true_and, Bool.and_false, Bool.false_and, Bool.or_true, Bool.true_or, Bool.or_false, Bool.false_or, Bool.not_true, Bool.not_false, Bool.not_not, hc_6]; done))) .nil)
                      ·exact (.cons .refl (.drop (by simp only [hp_cons_apply, hp_nil_apply, reduceIte, Prod.mk.injEq, Nat.reduceEqDiff, and_true, and_false, true_and, false_and]; exact hd _ (Nat.le_refl _)) (.cons .refl (.cons .refl .nil))))
                      ·omega
                   ·try simp (maxSteps := 4000000) only [go_sem, Prod.mk.injEq, reduceIte, Nat.reduceEqDiff, Nat.reduceAdd, Nat.reduceSub, Nat.reduceMul, Nat.reduceDiv, Nat.reducePow, Nat.reduceLT, Nat.reduceLeDiff, Nat.reduceBEq, Nat.reduceBneDiff, Int.reduceToNat, Int.reduceEq, Int.reduceLE, Int.reduceLT, reduceCtorEq]
                    repeat (with_reducible refine And.intro ?_ ?_; next => first | assumption | trivial | omega | decide | (constructor <;> first | assumption | omega) | (simp [Keep.ok, hp_cons_apply, hset_cons]; done))
                    have hcall := s_disk_Disk_Read_ok (n0 := (d, 3)) (hS0 := by simp only [hp_cons_apply, hp_nil_apply, reduceIte, Prod.mk.injEq, Nat.reduceEqDiff, and_true, and_false, true_and, false_and] <;> rfl) (hp [((d, 0), oGdiskDisk v_9.2), ((d, 1), oT (lI .u8) v_10), ((d, 2), oGdiskDisk v_11), ((d, 3), oGdiskDisk v_12)] S) _ 0 (h := hv_14)
                    refine call1_x hcall rfl ?_ ?_
                    ·exact (.cons Sub.refl (.cons Sub.refl .nil))
                    clear hcall
                    rintro _ SS ⟨rfl, hSS⟩ -
                    rw [hSS]
                    clear hSS
                    try simp (maxSteps := 4000000) only [go_sem, Prod.mk.injEq, reduceIte, Nat.reduceEqDiff, Nat.reduceAdd, Nat.reduceSub, Nat.reduceMul, Nat.reduceDiv, Nat.reducePow, Nat.reduceLT, Nat.reduceLeDiff, Nat.reduceBEq, Nat.reduceBneDiff, Int.reduceToNat, Int.reduceEq, Int.reduceLE, Int.reduceLT, reduceCtorEq]
                    repeat (with_reducible refine And.intro ?_ ?_; next => first | assumption | trivial | omega | decide | (constructor <;> first | assumption | omega) | (simp [Keep.ok, hp_cons_apply, hset_cons]; done))
                    refine hk _ _ _ ?_
                    refine xghost (D := []) ?_ ?_ ?_ ?_
                    ·exact (.cons (Sub.of_eq rfl) (.cons (Sub.of_eq rfl) (.cons (Sub.of_eq rfl) (.cons (Sub.of_eq rfl) .nil))))
                    ·exact HpW.refl
                    ·exact (by intro p hp; cases hp)
                    ·omega
                  ·try simp (maxSteps := 4000000) only [go_sem, Prod.mk.injEq, reduceIte, Nat.reduceEqDiff, Nat.reduceAdd, Nat.reduceSub, Nat.reduceMul, Nat.reduceDiv, Nat.reducePow, Nat.reduceLT, Nat.reduceLeDiff, Nat.reduceBEq, Nat.reduceBneDiff, Int.reduceToNat, Int.reduceEq, Int.reduceLE, Int.reduceLT, reduceCtorEq]
                   repeat (with_reducible refine And.intro ?_ ?_; next => first | assumption | trivial | omega | decide | (constructor <;> first | assumption | omega) | (simp [Keep.ok, hp_cons_apply, hset_cons]; done))
                   have hcall := s_disk_Disk_Read_ok (n0 := (d, 2)) (hS0 := by simp only [hp_cons_apply, hp_nil_apply, reduceIte, Prod.mk.injEq, Nat.reduceEqDiff, and_true, and_false, true_and, false_and] <;> rfl) (hp [((d, 0), oGdiskDisk v_9.2), ((d, 1), oT (lI .u8) v_10), ((d, 2), oGdiskDisk v_11), ((d, 3), oGdiskDisk v_12)] S) _ 0 (h := hv_13)
                   refine call1_x hcall rfl ?_ ?_
                   ·exact (.cons Sub.refl (.cons Sub.refl .nil))
                   clear hcall
                   rintro _ SS ⟨rfl, hSS⟩ -
                   rw [hSS]
                   clear hSS
                   try simp (maxSteps := 4000000) only [go_sem, Prod.mk.injEq, reduceIte, Nat.reduceEqDiff, Nat.reduceAdd, Nat.reduceSub, Nat.reduceMul, Nat.reduceDiv, Nat.reducePow, Nat.reduceLT, Nat.reduceLeDiff, Nat.reduceBEq, Nat.reduceBneDiff, Int.reduceToNat, Int.reduceEq, Int.reduceLE, Int.reduceLT, reduceCtorEq]
                   repeat (with_reducible refine And.intro ?_ ?_; next => first | assumption | trivial | omega | decide | (constructor <;> first | assumption | omega) | (simp [Keep.ok, hp_cons_apply, hset_cons]; done))
                   refine hk _ _ _ ?_
                   refine xghost (D := []) ?_ ?_ ?_ ?_
                   ·exact (.cons (Sub.of_eq rfl) (.cons (Sub.of_eq rfl) (.cons (Sub.of_eq rfl) (.cons (Sub.of_eq rfl) .nil))))
                   ·exact HpW.refl
                   ·exact (by intro p hp; cases hp)
                   ·omega
                 ·try simp (maxSteps := 4000000) only [go_sem, Prod.mk.injEq, reduceIte, Nat.reduceEqDiff, Nat.reduceAdd, Nat.reduceSub, Nat.reduceMul, Nat.reduceDiv, Nat.reducePow, Nat.reduceLT, Nat.reduceLeDiff, Nat.reduceBEq, Nat.reduceBneDiff, Int.reduceToNat, Int.reduceEq, Int.reduceLE, Int.reduceLT, reduceCtorEq]
                  repeat (with_reducible refine And.intro ?_ ?_; next => first | assumption | trivial | omega | decide | (constructor <;> first | assumption | omega) | (simp [Keep.ok, hp_cons_apply, hset_cons]; done))
                  refine hk _ _ _ ?_
                  refine xghost (D := []) ?_ ?_ ?_ ?_
                  ·exact (.cons (Sub.of_eq rfl) (.cons (Sub.of_eq rfl) (.cons (Sub.of_eq rfl) (.cons (Sub.of_eq rfl) (.cons (Sub.of_eq rfl) .nil)))))
                  ·exact HpW.refl
                  ·exact (by intro p hp; cases hp)
                  ·omega
                ·try simp (maxSteps := 4000000) only [go_sem, Prod.mk.injEq, reduceIte, Nat.reduceEqDiff, Nat.reduceAdd, Nat.reduceSub, Nat.reduceMul, Nat.reduceDiv, Nat.reducePow, Nat.reduceLT, Nat.reduceLeDiff, Nat.reduceBEq, Nat.reduceBneDiff, Int.reduceToNat, Int.reduceEq, Int.reduceLE, Int.reduceLT, reduceCtorEq]
                 repeat (with_reducible refine And.intro ?_ ?_; next => first | assumption | trivial | omega | decide | (constructor <;> first | assumption | omega) | (simp [Keep.ok, hp_cons_apply, hset_cons]; done))
                 have hcall := s_disk_Disk_Crash_ok (n0 := (d, 0)) (hS0 := by simp only [hp_cons_apply, hp_nil_apply, reduceIte, Prod.mk.injEq, Nat.reduceEqDiff, and_true, and_false, true_and, false_and] <;> rfl) (hp [((d, 0), oGdiskDisk v_9.2), ((d, 1), oT (lI .u8) v_10), ((d, 2), oGdiskDisk v_11)] S) _ ([1099511627776]) (-1) (h := hv_12)
                 refine call1_new hcall rfl rfl ?_ ?_
                 ·exact (.cons Sub.refl (.cons (Sub.young (L := (lI .i64)) (xs := [1099511627776])) (.cons Sub.refl .nil)))
                 clear hcall
                 try simp (maxSteps := 4000000) only [go_sem, Prod.mk.injEq, reduceIte, Nat.reduceEqDiff, Nat.reduceAdd, Nat.reduceSub, Nat.reduceMul, Nat.reduceDiv, Nat.reducePow, Nat.reduceLT, Nat.reduceLeDiff, Nat.reduceBEq, Nat.reduceBneDiff, Int.reduceToNat, Int.reduceEq, Int.reduceLE, Int.reduceLT, reduceCtorEq]
                 repeat (with_reducible refine And.intro ?_ ?_; next => first | assumption | trivial | omega | decide | (constructor <;> first | assumption | omega) | (simp [Keep.ok, hp_cons_apply, hset_cons]; done))
                 refine hk _ _ _ ?_
                 refine xghost (D := []) ?_ ?_ ?_ ?_
                 ·exact (.cons (Sub.of_eq rfl) (.cons (Sub.of_eq rfl) (.cons (Sub.of_eq rfl) (.cons (Sub.of_eq rfl) .nil))))
                 ·exact HpW.refl
                 ·exact (by intro p hp; cases hp)
                 ·omega
               ·try simp (maxSteps := 4000000) only [go_sem, Prod.mk.injEq, reduceIte, Nat.reduceEqDiff, Nat.reduceAdd, Nat.reduceSub, Nat.reduceMul, Nat.reduceDiv, Nat.reducePow, Nat.reduceLT, Nat.reduceLeDiff, Nat.reduceBEq, Nat.reduceBneDiff, Int.reduceToNat, Int.reduceEq, Int.reduceLE, Int.reduceLT, reduceCtorEq]
                repeat (with_reducible refine And.intro ?_ ?_; next => first | assumption | trivial | omega | decide | (constructor <;> first | assumption | omega) | (simp [Keep.ok, hp_cons_apply, hset_cons]; done))
                have hcall := s_disk_Disk_Crash_ok (n0 := (d, 0)) (hS0 := by simp only [hp_cons_apply, hp_nil_apply, reduceIte, Prod.mk.injEq, Nat.reduceEqDiff, and_true, and_false, true_and, false_and] <;> rfl) (hp [((d, 0), oGdiskDisk v_9.2), ((d, 1), oT (lI .u8) v_10)] S) _ [] (-1) (h := hv_11)
                refine call1_new hcall rfl rfl ?_ ?_
                ·exact (.cons Sub.refl (.cons Sub.nil (.cons Sub.refl .nil)))
                clear hcall
                try simp (maxSteps := 4000000) only [go_sem, Prod.mk.injEq, reduceIte, Nat.reduceEqDiff, Nat.reduceAdd, Nat.reduceSub, Nat.reduceMul, Nat.reduceDiv, Nat.reducePow, Nat.reduceLT, Nat.reduceLeDiff, Nat.reduceBEq, Nat.reduceBneDiff, Int.reduceToNat, Int.reduceEq, Int.reduceLE, Int.reduceLT, reduceCtorEq]
                repeat (with_reducible refine And.intro ?_ ?_; next => first | assumption | trivial | omega | decide | (constructor <;> first | assumption | omega) | (simp [Keep.ok, hp_cons_apply, hset_cons]; done))
                refine hk _ _ _ ?_
                refine xghost (D := []) ?_ ?_ ?_ ?_
                ·exact (.cons (Sub.of_eq rfl) (.cons (Sub.of_eq rfl) (.cons (Sub.of_eq rfl) (.cons (Sub.of_eq rfl) .nil))))
                ·exact HpW.refl
                ·exact (by intro p hp; cases hp)
                ·omega
              ·try simp (maxSteps := 4000000) only [go_sem, Prod.mk.injEq, reduceIte, Nat.reduceEqDiff, Nat.reduceAdd, Nat.reduceSub, Nat.reduceMul, Nat.reduceDiv, Nat.reducePow, Nat.reduceLT, Nat.reduceLeDiff, Nat.reduceBEq, Nat.reduceBneDiff, Int.reduceToNat, Int.reduceEq, Int.reduceLE, Int.reduceLT, reduceCtorEq]
               repeat (with_reducible refine And.intro ?_ ?_; next => first | assumption | trivial | omega | decide | (constructor <;> first | assumption | omega) | (simp [Keep.ok, hp_cons_apply, hset_cons]; done))
               have hcall := s_stanchionref00_CopyBytes_T_ok (hp [((d, 0), oGdiskDisk v_9.2)] S) ((t.take (Int.toNat o)).drop (Int.toNat 0)) hv_10
               refine call1_tip hcall rfl ?_ ?_
               ·exact (.cons Sub.refl .nil)
               clear hcall
               try simp (maxSteps := 4000000) only [go_sem, Prod.mk.injEq, reduceIte, Nat.reduceEqDiff, Nat.reduceAdd, Nat.reduceSub, Nat.reduceMul, Nat.reduceDiv, Nat.reducePow, Nat.reduceLT, Nat.reduceLeDiff, Nat.reduceBEq, Nat.reduceBneDiff, Int.reduceToNat, Int.reduceEq, Int.reduceLE, Int.reduceLT, reduceCtorEq]
               repeat (with_reducible refine And.intro ?_ ?_; next => first | assumption | trivial | omega | decide | (constructor <;> first | assumption | omega) | (simp [Keep.ok, hp_cons_apply, hset_cons]; done))
               refine hk _ _ _ ?_
               refine xghost (D := []) ?_ ?_ ?_ ?_
               ·exact (.cons (Sub.of_eq rfl) (.cons (Sub.of_eq rfl) (.cons (Sub.of_eq rfl) .nil)))
               ·exact HpW.refl
               ·exact (by intro p hp; cases hp)
               ·omega
            ·try simp (maxSteps := 4000000) only [go_sem, Prod.mk.injEq, reduceIte, Nat.reduceEqDiff, Nat.reduceAdd, Nat.reduceSub, Nat.reduceMul, Nat.reduceDiv, Nat.reducePow, Nat.reduceLT, Nat.reduceLeDiff, Nat.reduceBEq, Nat.reduceBneDiff, Int.reduceToNat, Int.reduceEq, Int.reduceLE, Int.reduceLT, reduceCtorEq]
             repeat (with_reducible refine And.intro ?_ ?_; next => first | assumption | trivial | omega | decide | (constructor <;> first | assumption | omega) | (simp [Keep.ok, hp_cons_apply, hset_cons]; done))
             refine xo_guard (v_5.1 != 0) rfl (fun hc_7 => ?_) (fun hc_7 => ?_)
             ·try simp (maxSteps := 4000000) only [go_sem, Prod.mk.injEq, reduceIte, Nat.reduceEqDiff, Nat.reduceAdd, Nat.reduceSub, Nat.reduceMul, Nat.reduceDiv, Nat.reducePow, Nat.reduceLT, Nat.reduceLeDiff, Nat.reduceBEq, Nat.reduceBneDiff, Int.reduceToNat, Int.reduceEq, Int.reduceLE, Int.reduceLT, reduceCtorEq, hc_7]
              repeat (with_reducible refine And.intro ?_ ?_; next => first | assumption | trivial | omega | decide | (constructor <;> first | assumption | omega) | (simp [Keep.ok, hp_cons_apply, hset_cons]; done))
              rw [if_pos (by simp only [Bool.and_true, Bool.true_and, Bool.and_false, Bool.false_and, Bool.or_true, Bool.true_or, Bool.or_false, Bool.false_or, Bool.not_true, Bool.not_false, Bool.not_not, hc_7])] at hv_8
              have hcall := s_stanchionref00_CopyBytes_ok (hp [((d, 0), oGdiskDisk v_5.2)] S) A hv_8
              refine call1_x hcall rfl ?_ ?_
              ·exact (.cons Sub.refl .nil)
              clear hcall
              rintro _ SS ⟨rfl, hSS⟩ -
              rw [hSS]
              clear hSS
              try simp (maxSteps := 4000000) only [go_sem, Prod.mk.injEq, reduceIte, Nat.reduceEqDiff, Nat.reduceAdd, Nat.reduceSub, Nat.reduceMul, Nat.reduceDiv, Nat.reducePow, Nat.reduceLT, Nat.reduceLeDiff, Nat.reduceBEq, Nat.reduceBneDiff, Int.reduceToNat, Int.reduceEq, Int.reduceLE, Int.reduceLT, reduceCtorEq, hc_7]
              repeat (with_reducible refine And.intro ?_ ?_; next => first | assumption | trivial | omega | decide | (constructor <;> first | assumption | omega) | (simp [Keep.ok, hp_cons_apply, hset_cons]; done))
              rw [if_pos (by simp only [Bool.and_true, Bool.true_and, Bool.and_false, Bool.false_and, Bool.or_true, Bool.true_or, Bool.or_false, Bool.false_or, Bool.not_true, Bool.not_false, Bool.not_not, hc_7])] at hv_9
              have hcall := s_disk_Disk_Append_ok (n0 := (d, 0)) (hS0 := by simp only [hp_cons_apply, hp_nil_apply, reduceIte, Prod.mk.injEq, Nat.reduceEqDiff, and_true, and_false, true_and, false_and] <;> rfl) (hp [((d, 0), oGdiskDisk v_5.2)] S) _ 0 ([v_8]) (h := hv_9)
              refine call1_x hcall rfl ?_ ?_
              ·exact (.cons Sub.refl (.cons Sub.refl (.cons (Sub.young (L := (lS (lI .u8))) (xs := [v_8])) .nil)))
              clear hcall
              rintro _ SS ⟨rfl, hSS⟩ -
              rw [hSS]
              clear hSS
              try simp (maxSteps := 4000000) only [go_sem, Prod.mk.injEq, reduceIte, Nat.reduceEqDiff, Nat.reduceAdd, Nat.reduceSub, Nat.reduceMul, Nat.reduceDiv, Nat.reducePow, Nat.reduceLT, Nat.reduceLeDiff, Nat.reduceBEq, Nat.reduceBneDiff, Int.reduceToNat, Int.reduceEq, Int.reduceLE, Int.reduceLT, reduceCtorEq, hc_7]
              repeat (with_reducible refine And.intro ?_ ?_; next => first | assumption | trivial | omega | decide | (constructor <;> first | assumption | omega) | (simp [Keep.ok, hp_cons_apply, hset_cons]; done))
              refine hk _ _ _ ?_
              refine xghost (D := []) ?_ ?_ ?_ ?_
              ·exact (.cons (Sub.of_eq rfl) (.cons (Sub.of_eq rfl) (.cons (Sub.of_eq rfl) (.cons (Sub.of_eq rfl) (.cons (Sub.of_eq (by first | rfl | (simp only [sget_cons, reduceIte, Nat.reduceEqDiff, Bool.and_true, Bool.true_and, Bool.and_false, Bool.false_and, Bool.or_true, Bool.true_or, Bool.or_false, Bool.false_or, Bool.not_true, Bool.not_false, Bool.not_not, hc_7]; done))) .nil)))))
              ·exact HpW.refl
              ·exact (by intro p hp; cases hp)
              ·omega
             ·have hve_v_9 : v_9 = _ := (Option.some.inj ((if_neg (by simp only [Bool.and_true, Bool.true_and, Bool.and_false, Bool.false_and, Bool.or_true, Bool.true_or, Bool.or_false, Bool.false_or, Bool.not_true, Bool.not_false, Bool.not_not, hc_7]; decide)).symm.trans hv_9)).symm
              try simp (maxSteps := 4000000) only [go_sem, Prod.mk.injEq, reduceIte, Nat.reduceEqDiff, Nat.reduceAdd, Nat.reduceSub, Nat.reduceMul, Nat.reduceDiv, Nat.reducePow, Nat.reduceLT, Nat.reduceLeDiff, Nat.reduceBEq, Nat.reduceBneDiff, Int.reduceToNat, Int.reduceEq, Int.reduceLE, Int.reduceLT, reduceCtorEq, hc_7]
              repeat (with_reducible refine And.intro ?_ ?_; next => first | assumption | trivial | omega | decide | (constructor <;> first | assumption | omega) | (simp [Keep.ok, hp_cons_apply, hset_cons]; done))
              refine hk _ _ _ ?_
              refine xghost (D := []) ?_ ?_ ?_ ?_
              ·exact (.cons (Sub.of_eq rfl) (.cons (Sub.of_eq rfl) (.cons (Sub.of_eq rfl) (.cons (Sub.of_eq rfl) (.cons (Sub.of_eq (by first | rfl | (simp only [sget_cons, reduceIte, Nat.reduceEqDiff, Bool.and_true, Bool.true_and, Bool.and_false, Bool.false_and, Bool.or_true, Bool.true_or, Bool.or_false, Bool.false_or, Bool.not_true, Bool.not_false, Bool.not_not, hc_7]; done))) .nil)))))
              ·exact (.cons (OSub.of (by first | rfl | (simp only [hve_v_9]; done))) .nil)
              ·exact (by intro p hp; cases hp)
              ·omega
          ·try simp (maxSteps := 4000000) only [go_sem, Prod.mk.injEq, reduceIte, Nat.reduceEqDiff, Nat.reduceAdd, Nat.reduceSub, Nat.reduceMul, Nat.reduceDiv, Nat.reducePow, Nat.reduceLT, Nat.reduceLeDiff, Nat.reduceBEq, Nat.reduceBneDiff, Int.reduceToNat, Int.reduceEq, Int.reduceLE, Int.reduceLT, reduceCtorEq]
           repeat (with_reducible refine And.intro ?_ ?_; next => first | assumption | trivial | omega | decide | (constructor <;> first | assumption | omega) | (simp [Keep.ok, hp_cons_apply, hset_cons]; done))
           refine xo_guard (decide (o < 0)) rfl (fun hc_8 => ?_) (fun hc_8 => ?_)
           ·try simp (maxSteps := 4000000) only [go_sem, Prod.mk.injEq, reduceIte, Nat.reduceEqDiff, Nat.reduceAdd, Nat.reduceSub, Nat.reduceMul, Nat.reduceDiv, Nat.reducePow, Nat.reduceLT, Nat.reduceLeDiff, Nat.reduceBEq, Nat.reduceBneDiff, Int.reduceToNat, Int.reduceEq, Int.reduceLE, Int.reduceLT, reduceCtorEq, hc_8]
            repeat (with_reducible refine And.intro ?_ ?_; next => first | assumption | trivial | omega | decide | (constructor <;> first | assumption | omega) | (simp [Keep.ok, hp_cons_apply, hset_cons]; done))
            refine hk _ _ _ ?_
            refine xghost (D := []) ?_ ?_ ?_ ?_
            ·exact (.cons (Sub.of_eq rfl) (.cons (Sub.of_eq rfl) (.cons (Sub.of_eq rfl) (.cons (Sub.of_eq rfl) (.cons (Sub.of_eq rfl) (.cons (Sub.of_eq (by first | rfl | (simp only [sget_cons, reduceIte, Nat.reduceEqDiff, Bool.and_true, Bool.true_and, Bool.and_false, Bool.false_and, Bool.or_true, Bool.true_or, Bool.or_false, Bool.false_or, Bool.not_true, Bool.not_false, Bool.not_not, hc_8]; done))) .nil))))))
            ·exact HpW.refl
            ·exact (by intro p hp; cases hp)
            ·omega
           ·try simp (maxSteps := 4000000) only [go_sem, Prod.mk.injEq, reduceIte, Nat.reduceEqDiff, Nat.reduceAdd, Nat.reduceSub, Nat.reduceMul, Nat.reduceDiv, Nat.reducePow, Nat.reduceLT, Nat.reduceLeDiff, Nat.reduceBEq, Nat.reduceBneDiff, Int.reduceToNat, Int.reduceEq, Int.reduceLE, Int.reduceLT, reduceCtorEq, hc_8]
            repeat (with_reducible refine And.intro ?_ ?_; next => first | assumption | trivial | omega | decide | (constructor <;> first | assumption | omega) | (simp [Keep.ok, hp_cons_apply, hset_cons]; done))
            refine hk _ _ _ ?_
            refine xghost (D := []) ?_ ?_ ?_ ?_
            ·exact (.cons (Sub.of_eq rfl) (.cons (Sub.of_eq rfl) (.cons (Sub.of_eq rfl) (.cons (Sub.of_eq rfl) (.cons (Sub.of_eq rfl) (.cons (Sub.of_eq (by first | rfl | (simp only [sget_cons, reduceIte, Nat.reduceEqDiff, Bool.and_true, Bool.true_and, Bool.and_false, Bool.false_and, Bool.or_true, Bool.true_or, Bool.or_false, Bool.false_or, Bool.not_true, Bool.not_false, Bool.not_not, hc_8]; done))) .nil))))))
            ·exact HpW.refl
            ·exact (by intro p hp; cases hp)
            ·omega
         ·try simp (maxSteps := 4000000) only [go_sem, Prod.mk.injEq, reduceIte, Nat.reduceEqDiff, Nat.reduceAdd, Nat.reduceSub, Nat.reduceMul, Nat.reduceDiv, Nat.reducePow, Nat.reduceLT, Nat.reduceLeDiff, Nat.reduceBEq, Nat.reduceBneDiff, Int.reduceToNat, Int.reduceEq, Int.reduceLE, Int.reduceLT, reduceCtorEq]
          repeat (with_reducible refine And.intro ?_ ?_; next => first | assumption | trivial | omega | decide | (constructor <;> first | assumption | omega) | (simp [Keep.ok, hp_cons_apply, hset_cons]; done))
          have hcall := s_disk_Disk_Trim_ok (n0 := (d, 0)) (hS0 := by simp only [hp_cons_apply, hp_nil_apply, reduceIte, Prod.mk.injEq, Nat.reduceEqDiff, and_true, and_false, true_and, false_and] <;> rfl) (hp [((d, 0), oGdiskDisk v_4.2)] S) _ 0 o (h := hv_5)
          refine call1_x hcall rfl ?_ ?_
          ·exact (.cons Sub.refl (.cons Sub.refl (.cons Sub.refl .nil)))
          clear hcall
          rintro _ SS ⟨rfl, hSS⟩ -
          rw [hSS]
          clear hSS
          try simp (maxSteps := 4000000) only [go_sem, Prod.mk.injEq, reduceIte, Nat.reduceEqDiff, Nat.reduceAdd, Nat.reduceSub, Nat.reduceMul, Nat.reduceDiv, Nat.reducePow, Nat.reduceLT, Nat.reduceLeDiff, Nat.reduceBEq, Nat.reduceBneDiff, Int.reduceToNat, Int.reduceEq, Int.reduceLE, Int.reduceLT, reduceCtorEq]
          repeat (with_reducible refine And.intro ?_ ?_; next => first | assumption | trivial | omega | decide | (constructor <;> first | assumption | omega) | (simp [Keep.ok, hp_cons_apply, hset_cons]; done))
          refine hk _ _ _ ?_
          refine xghost (D := []) ?_ ?_ ?_ ?_
          ·exact (.cons (Sub.of_eq rfl) (.cons (Sub.of_eq rfl) (.cons (Sub.of_eq rfl) (.cons (Sub.of_eq rfl) (.cons (Sub.of_eq rfl) .nil)))))
          ·exact HpW.refl
          ·exact (by intro p hp; cases hp)
          ·omega
       ·try simp (maxSteps := 4000000) only [go_sem, Prod.mk.injEq, reduceIte, Nat.reduceEqDiff, Nat.reduceAdd, Nat.reduceSub, Nat.reduceMul, Nat.reduceDiv, Nat.reducePow, Nat.reduceLT, Nat.reduceLeDiff, Nat.reduceBEq, Nat.reduceBneDiff, Int.reduceToNat, Int.reduceEq, Int.reduceLE, Int.reduceLT, reduceCtorEq]
        repeat (with_reducible refine And.intro ?_ ?_; next => first | assumption | trivial | omega | decide | (constructor <;> first | assumption | omega) | (simp [Keep.ok, hp_cons_apply, hset_cons]; done))
        have hcall := s_stanchionref00_CopyBytes_ok (hp [((d, 0), oGdiskDisk v_1)] S) t hv_2
        refine call1_x hcall rfl ?_ ?_
        ·exact (.cons Sub.refl .nil)
        clear hcall
        rintro _ SS ⟨rfl, hSS⟩ -
        rw [hSS]
        clear hSS
        try simp (maxSteps := 4000000) only [go_sem, Prod.mk.injEq, reduceIte, Nat.reduceEqDiff, Nat.reduceAdd, Nat.reduceSub, Nat.reduceMul, Nat.reduceDiv, Nat.reducePow, Nat.reduceLT, Nat.reduceLeDiff, Nat.reduceBEq, Nat.reduceBneDiff, Int.reduceToNat, Int.reduceEq, Int.reduceLE, Int.reduceLT, reduceCtorEq]
        repeat (with_reducible refine And.intro ?_ ?_; next => first | assumption | trivial | omega | decide | (constructor <;> first | assumption | omega) | (simp [Keep.ok, hp_cons_apply, hset_cons]; done))
        have hcall := s_disk_Disk_Append_ok (n0 := (d, 0)) (hS0 := by simp only [hp_cons_apply, hp_nil_apply, reduceIte, Prod.mk.injEq, Nat.reduceEqDiff, and_true, and_false, true_and, false_and] <;> rfl) (hp [((d, 0), oGdiskDisk v_1)] S) _ 0 ([v_2]) (h := hv_3)
        refine call1_x hcall rfl ?_ ?_
        ·exact (.cons Sub.refl (.cons Sub.refl (.cons (Sub.young (L := (lS (lI .u8))) (xs := [v_2])) .nil)))
        clear hcall
        rintro _ SS ⟨rfl, hSS⟩ -
        rw [hSS]
        clear hSS
        try simp (maxSteps := 4000000) only [go_sem, Prod.mk.injEq, reduceIte, Nat.reduceEqDiff, Nat.reduceAdd, Nat.reduceSub, Nat.reduceMul, Nat.reduceDiv, Nat.reducePow, Nat.reduceLT, Nat.reduceLeDiff, Nat.reduceBEq, Nat.reduceBneDiff, Int.reduceToNat, Int.reduceEq, Int.reduceLE, Int.reduceLT, reduceCtorEq]
        repeat (with_reducible refine And.intro ?_ ?_; next => first | assumption | trivial | omega | decide | (constructor <;> first | assumption | omega) | (simp [Keep.ok, hp_cons_apply, hset_cons]; done))
        refine xo_guard (v_3.1 != 0) rfl (fun hc_9 => ?_) (fun hc_9 => ?_)
        ·try simp (maxSteps := 4000000) only [go_sem, Prod.mk.injEq, reduceIte, Nat.reduceEqDiff, Nat.reduceAdd, Nat.reduceSub, Nat.reduceMul, Nat.reduceDiv, Nat.reducePow, Nat.reduceLT, Nat.reduceLeDiff, Nat.reduceBEq, Nat.reduceBneDiff, Int.reduceToNat, Int.reduceEq, Int.reduceLE, Int.reduceLT, reduceCtorEq, hc_9]
         repeat (with_reducible refine And.intro ?_ ?_; next => first | assumption | trivial | omega | decide | (constructor <;> first | assumption | omega) | (simp [Keep.ok, hp_cons_apply, hset_cons]; done))
         rw [if_pos (by simp only [Bool.and_true, Bool.true_and, Bool.and_false, Bool.false_and, Bool.or_true, Bool.true_or, Bool.or_false, Bool.false_or, Bool.not_true, Bool.not_false, Bool.not_not, hc_9])] at hv_4
         have hcall := s_disk_Disk_Sync_ok (n0 := (d, 0)) (hS0 := by simp only [hp_cons_apply, hp_nil_apply, reduceIte, Prod.mk.injEq, Nat.reduceEqDiff, and_true, and_false, true_and, false_and] <;> rfl) (hp [((d, 0), oGdiskDisk v_3.2)] S) _ [] (h := hv_4)
         refine call1_x hcall rfl ?_ ?_
         ·exact (.cons Sub.refl (.cons Sub.nil .nil))
         clear hcall
         rintro _ SS ⟨rfl, hSS⟩ -
         rw [hSS]
         clear hSS
         try simp (maxSteps := 4000000) only [go_sem, Prod.mk.injEq, reduceIte, Nat.reduceEqDiff, Nat.reduceAdd, Nat.reduceSub, Nat.reduceMul, Nat.reduceDiv, Nat.reducePow, Nat.reduceLT, Nat.reduceLeDiff, Nat.reduceBEq, Nat.reduceBneDiff, Int.reduceToNat, Int.reduceEq, Int.reduceLE, Int.reduceLT, reduceCtorEq, hc_9]
         repeat (with_reducible refine And.intro ?_ ?_; next => first | assumption | trivial | omega | decide | (constructor <;> first | assumption | omega) | (simp [Keep.ok, hp_cons_apply, hset_cons]; done))
         refine hk _ _ _ ?_
         refine xghost (D := []) ?_ ?_ ?_ ?_
         ·exact (.cons (Sub.of_eq rfl) (.cons (Sub.of_eq rfl) (.cons (Sub.of_eq rfl) (.cons (Sub.of_eq rfl) (.cons (Sub.of_eq (by first | rfl | (simp only [sget_cons, reduceIte, Nat.reduceEqDiff, Bool.and_true, Bool.true_and, Bool.and_false, Bool.false_and, Bool.or_true, Bool.true_or, Bool.or_false, Bool.false_or, Bool.not_true, Bool.not_false, Bool.not_not, hc_9]; done))) .nil)))))
         ·exact HpW.refl
         ·exact (by intro p hp; cases hp)
         ·omega
        ·have hve_v_4 : v_4 = _ := (Option.some.inj ((if_neg (by simp only [Bool.and_true, Bool.true_and, Bool.and_false, Bool.false_and, Bool.or_true, Bool.true_or, Bool.or_false, Bool.false_or, Bool.not_true, Bool.not_false, Bool.not_not, hc_9]; decide)).symm.trans hv_4)).symm
         try simp (maxSteps := 4000000) only [go_sem, Prod.mk.injEq, reduceIte, Nat.reduceEqDiff, Nat.reduceAdd, Nat.reduceSub, Nat.reduceMul, Nat.reduceDiv, Nat.reducePow, Nat.reduceLT, Nat.reduceLeDiff, Nat.reduceBEq, Nat.reduceBneDiff, Int.reduceToNat, Int.reduceEq, Int.reduceLE, Int.reduceLT, reduceCtorEq, hc_9]
         repeat (with_reducible refine And.intro ?_ ?_; next => first | assumption | trivial | omega | decide | (constructor <;> first | assumption | omega) | (simp [Keep.ok, hp_cons_apply, hset_cons]; done))
         refine hk _ _ _ ?_
         refine xghost (D := []) ?_ ?_ ?_ ?_
         ·exact (.cons (Sub.of_eq rfl) (.cons (Sub.of_eq rfl) (.cons (Sub.of_eq rfl) (.cons (Sub.of_eq rfl) (.cons (Sub.of_eq (by first | rfl | (simp only [sget_cons, reduceIte, Nat.reduceEqDiff, Bool.and_true, Bool.true_and, Bool.and_false, Bool.false_and, Bool.or_true, Bool.true_or, Bool.or_false, Bool.false_or, Bool.not_true, Bool.not_false, Bool.not_not, hc_9]; done))) .nil)))))
         ·exact (.cons (OSub.of (by first | rfl | (simp only [hve_v_4]; done))) .nil)
         ·exact (by intro p hp; cases hp)
         ·omega
      ·try simp (maxSteps := 4000000) only [go_sem, Prod.mk.injEq, reduceIte, Nat.reduceEqDiff, Nat.reduceAdd, Nat.reduceSub, Nat.reduceMul, Nat.reduceDiv, Nat.reducePow, Nat.reduceLT, Nat.reduceLeDiff, Nat.reduceBEq, Nat.reduceBneDiff, Int.reduceToNat, Int.reduceEq, Int.reduceLE, Int.reduceLT, reduceCtorEq]
       repeat (with_reducible refine And.intro ?_ ?_; next => first | assumption | trivial | omega | decide | (constructor <;> first | assumption | omega) | (simp [Keep.ok, hp_cons_apply, hset_cons]; done))
       have hcall := s_disk_New_ok (hp [] S) (-1) hv_1
       refine call1_new hcall rfl rfl ?_ ?_
       ·exact (.cons Sub.refl .nil)
       clear hcall
       try simp (maxSteps := 4000000) only [go_sem, Prod.mk.injEq, reduceIte, Nat.reduceEqDiff, Nat.reduceAdd, Nat.reduceSub, Nat.reduceMul, Nat.reduceDiv, Nat.reducePow, Nat.reduceLT, Nat.reduceLeDiff, Nat.reduceBEq, Nat.reduceBneDiff, Int.reduceToNat, Int.reduceEq, Int.reduceLE, Int.reduceLT, reduceCtorEq]
       repeat (with_reducible refine And.intro ?_ ?_; next => first | assumption | trivial | omega | decide | (constructor <;> first | assumption | omega) | (simp [Keep.ok, hp_cons_apply, hset_cons]; done))
       refine hk _ _ _ ?_
       refine xghost (D := []) ?_ ?_ ?_ ?_
       ·exact (.cons (Sub.of_eq rfl) (.cons (Sub.of_eq rfl) (.cons (Sub.of_eq rfl) (.cons (Sub.of_eq rfl) .nil))))
       ·exact HpW.refl
       ·exact (by intro p hp; cases hp)
       ·omega
    ·try simp (maxSteps := 4000000) only [go_sem, Prod.mk.injEq, reduceIte, Nat.reduceEqDiff, Nat.reduceAdd, Nat.reduceSub, Nat.reduceMul, Nat.reduceDiv, Nat.reducePow, Nat.reduceLT, Nat.reduceLeDiff, Nat.reduceBEq, Nat.reduceBneDiff, Int.reduceToNat, Int.reduceEq, Int.reduceLE, Int.reduceLT, reduceCtorEq]
     repeat (with_reducible refine And.intro ?_ ?_; next => first | assumption | trivial | omega | decide | (constructor <;> first | assumption | omega) | (simp [Keep.ok, hp_cons_apply, hset_cons]; done))
     refine hk _ _ _ ?_
     refine xghost (D := []) ?_ ?_ ?_ ?_
     ·exact (.cons (Sub.of_eq rfl) (.cons (Sub.of_eq rfl) (.cons (Sub.of_eq rfl) (.cons (Sub.of_eq rfl) .nil))))
     ·exact HpW.refl
     ·exact (by intro p hp; cases hp)
     ·omega
  ·try simp (maxSteps := 4000000) only [go_sem, Prod.mk.injEq, reduceIte, Nat.reduceEqDiff, Nat.reduceAdd, Nat.reduceSub, Nat.reduceMul, Nat.reduceDiv, Nat.reducePow, Nat.reduceLT, Nat.reduceLeDiff, Nat.reduceBEq, Nat.reduceBneDiff, Int.reduceToNat, Int.reduceEq, Int.reduceLE, Int.reduceLT, reduceCtorEq]
   repeat (with_reducible refine And.intro ?_ ?_; next => first | assumption | trivial | omega | decide | (constructor <;> first | assumption | omega) | (simp [Keep.ok, hp_cons_apply, hset_cons]; done))
   have hcall := s_stanchionlaw04_alive_ok (hp [] S)  hv
   refine call1_x hcall rfl ?_ ?_
   ·exact .nil
   clear hcall
   rintro _ SS ⟨rfl, hSS⟩ -
   rw [hSS]
   clear hSS
   try simp (maxSteps := 4000000) only [go_sem, Prod.mk.injEq, reduceIte, Nat.reduceEqDiff, Nat.reduceAdd, Nat.reduceSub, Nat.reduceMul, Nat.reduceDiv, Nat.reducePow, Nat.reduceLT, Nat.reduceLeDiff, Nat.reduceBEq, Nat.reduceBneDiff, Int.reduceToNat, Int.reduceEq, Int.reduceLE, Int.reduceLT, reduceCtorEq]
   repeat (with_reducible refine And.intro ?_ ?_; next => first | assumption | trivial | omega | decide | (constructor <;> first | assumption | omega) | (simp [Keep.ok, hp_cons_apply, hset_cons]; done))
   refine hk _ _ _ ?_
   refine xghost (D := []) ?_ ?_ ?_ ?_
   ·exact (.cons (Sub.of_eq rfl) (.cons (Sub.of_eq rfl) (.cons (Sub.of_eq rfl) (.cons (Sub.of_eq rfl) .nil))))
   ·exact HpW.refl
   ·exact (by intro p hp; cases hp)
   ·omega
 ·try simp (maxSteps := 4000000) only [go_sem, Prod.mk.injEq, reduceIte, Nat.reduceEqDiff, Nat.reduceAdd, Nat.reduceSub, Nat.reduceMul, Nat.reduceDiv, Nat.reducePow, Nat.reduceLT, Nat.reduceLeDiff, Nat.reduceBEq, Nat.reduceBneDiff, Int.reduceToNat, Int.reduceEq, Int.reduceLE, Int.reduceLT, reduceCtorEq]
  repeat (with_reducible refine And.intro ?_ ?_; next => first | assumption | trivial | omega | decide | (constructor <;> first | assumption | omega) | (simp [Keep.ok, hp_cons_apply, hset_cons]; done))
  refine hk _ _ _ ?_
  refine xghost (D := []) ?_ ?_ ?_ ?_
  ·exact (.cons (Sub.of_eq rfl) (.cons (Sub.of_eq rfl) (.cons (Sub.of_eq rfl) .nil)))
  ·exact HpW.refl
  ·exact (by intro p hp; cases hp)
  ·omega
end
end Go.Proofs.Ythdmpdagkccphaa
