/- Go functions as Lean functions, and that their code does as these say. Printed by a program of this work. -/
import Derived.Test.YthdmpdagkccphaaXL
import Derived.Test.YthdmpdagkccphaaXa
set_option linter.unusedVariables false
set_option linter.unusedSimpArgs false
set_option maxRecDepth 100000
set_option maxHeartbeats 4000000
namespace Go.Proofs.Ythdmpdagkccphaa
open Go Go.Al
noncomputable section
/-! (*stanchion/disk.Disk).Read -/
def s_disk_Disk_Read (dx : GdiskDisk) (n : Int) : Option (List Int × Int) :=
 bd (s_disk_there ([n])) fun (v : Bool) => if (!v) = true then some ([], 41) else if n = 0 then bd (s_slices_Clone_byte_byte dx.areas.x0.data) fun (v_2 : List Int) => some (v_2, 0) else if n = 1 then bd (s_slices_Clone_byte_byte dx.areas.x1.data) fun (v_1 : List Int) => some (v_1, 0) else none
theorem s_disk_Disk_Read_ok (S : AHeap) {n0 : Name} (dx : GdiskDisk) (n : Int) {r : List Int × Int} (hS0 : S n0 = some (oGdiskDisk dx)) (h : s_disk_Disk_Read dx n = some r) :
  AC Try.prog n_disk_Disk_Read [.ptr n0 0, .lit (.int .i64 n)] S fun r' S' => r' = .ret (.tup [eS (lI .u8) r.1, .lit (.int .i64 r.2)]) ∧ S' = S := by
 refine AC_of tok mixed fits_disk_Disk_Read fun d hd => ?_
 unfold c_disk_Disk_Read
 show LW _ _ _ _ [(0, .ptr n0 0), (1, .lit (.int .i64 n))] S 0 _
 refine LW_heap (hp_in hS0) ?_
 have hl_n0 : n0.1 < d := lt_of_hd hd hS0
 have hq_n0 : ∀ k, (n0 = (d, k)) = False := fun k => ne_deep hl_n0
 have hr_n0 : ∀ k, ((d, k) = n0) = False := fun k => ne_deep' hl_n0
 show LW _ _ _ _ [(0, .ptr n0 0), (1, .lit (.int .i64 n))] (hp [(n0, .box [.lit (.int .i64 dx.power), eO (lI .u8) dx.areas.x0.data, .lit (.int .i64 dx.areas.x0.safe), eO (lI .u8) dx.areas.x1.data, .lit (.int .i64 dx.areas.x1.safe)])] S) 0 _
 rw [s_disk_Disk_Read] at h
 refine xseq [(0, .ptr n0 0), (1, .lit (.int .i64 n))] (hp [(n0, .box [.lit (.int .i64 dx.power), eO (lI .u8) dx.areas.x0.data, .lit (.int .i64 dx.areas.x0.safe), eO (lI .u8) dx.areas.x1.data, .lit (.int .i64 dx.areas.x1.safe)])] S) 0 ?_ (fun k kp hk => ?_)
 ·refine LW_seq ?_
  obtain ⟨v, hv, h⟩ := bd_some h
  refine xseq [(0, .ptr n0 0), (1, .lit (.int .i64 n)), (9, .lit (.bool (!v)))] (hp [(n0, .box [.lit (.int .i64 dx.power), eO (lI .u8) dx.areas.x0.data, .lit (.int .i64 dx.areas.x0.safe), eO (lI .u8) dx.areas.x1.data, .lit (.int .i64 dx.areas.x1.safe)])] S) 0 ?_ (fun k kp hk => ?_)
  ·refine xcond (!v) rfl (fun hc => ?_) (fun hc => ?_)
   ·rw [ite_t hc] at h
    refine xseq [(4, eS (lI .u8) []), (5, .lit (.int .i64 41))] (hp [(n0, .box [.lit (.int .i64 dx.power), eO (lI .u8) dx.areas.x0.data, .lit (.int .i64 dx.areas.x0.safe), eO (lI .u8) dx.areas.x1.data, .lit (.int .i64 dx.areas.x1.safe)])] S) 0 ?_ (fun k kp hk => ?_)
    ·refine LW_ret ?_
     obtain rfl := Option.some.inj h
     show FPost _ _ _ _ _ _ _
     exact ⟨_, hp_less (L := [(n0, .box [.lit (.int .i64 dx.power), eO (lI .u8) dx.areas.x0.data, .lit (.int .i64 dx.areas.x0.safe), eO (lI .u8) dx.areas.x1.data, .lit (.int .i64 dx.areas.x1.safe)])]) (D := []) (by intro p hp; cases hp), rfl, hp_out hS0⟩
    ·try simp (maxSteps := 4000000) only [go_sem, Prod.mk.injEq, reduceIte, Nat.reduceEqDiff, Nat.reduceAdd, Nat.reduceSub, Nat.reduceMul, Nat.reduceDiv, Nat.reducePow, Nat.reduceLT, Nat.reduceLeDiff, Nat.reduceBEq, Nat.reduceBneDiff, Int.reduceToNat, Int.reduceEq, Int.reduceLE, Int.reduceLT, reduceCtorEq, oGdiskDisk, hq_n0, hr_n0]
     repeat (with_reducible refine And.intro ?_ ?_; next => first | assumption | trivial | omega | decide | (constructor <;> first | assumption | omega) | (simp [Keep.ok, hp_cons_apply, hset_cons, oGdiskDisk, hq_n0, hr_n0]; done))
     refine hk _ _ _ ?_
     refine xghost (D := []) ?_ ?_ ?_ ?_
     ·exact (.cons Sub.nil (.cons (Sub.of_eq rfl) .nil))
     ·exact HpW.refl
     ·exact (by intro p hp; cases hp)
     ·omega
   ·rw [ite_f hc] at h
    refine LW_skip ?_
    show LW _ _ _ _ _ _ _ _
    by_cases hs_1 : n = 0
    ·subst hs_1
     rw [if_pos rfl] at h
     refine LW_gh (Ghost.openX (L := (lI .u8)) (xs := dx.areas.x0.data) (n := n0) (i := 1) (cs := [.lit (.int .i64 dx.power), eO (lI .u8) dx.areas.x0.data, .lit (.int .i64 dx.areas.x0.safe), eO (lI .u8) dx.areas.x1.data, .lit (.int .i64 dx.areas.x1.safe)]) (A' := [(n0, .box [.lit (.int .i64 dx.power), eB (lI .u8) (d, 0) dx.areas.x0.data, .lit (.int .i64 dx.areas.x0.safe), eO (lI .u8) dx.areas.x1.data, .lit (.int .i64 dx.areas.x1.safe)]), ((d, 0), oT (lI .u8) dx.areas.x0.data)]) (by simp only [hp_cons_apply, hp_nil_apply, reduceIte, Prod.mk.injEq, Nat.reduceEqDiff, and_true, and_false, true_and, false_and, oGdiskDisk, hq_n0, hr_n0] <;> rfl) rfl (by simp only [hset_cons, hset_nil, hrem_cons, hrem_nil, List.set_cons_zero, List.set_cons_succ, reduceIte, Prod.mk.injEq, Nat.reduceEqDiff, and_true, and_false, true_and, false_and, oGdiskDisk, hq_n0, hr_n0])) ?_
     obtain ⟨v_2, hv_2, h⟩ := bd_some h
     refine xseq [(4, eS (lI .u8) v_2), (5, .lit (.int .i64 0))] (hp [(n0, .box [.lit (.int .i64 dx.power), eB (lI .u8) (d, 0) dx.areas.x0.data, .lit (.int .i64 dx.areas.x0.safe), eO (lI .u8) dx.areas.x1.data, .lit (.int .i64 dx.areas.x1.safe)]), ((d, 0), oT (lI .u8) dx.areas.x0.data)] S) 1 ?_ (fun k kp hk => ?_)
     ·refine LW_retX (sl' := [(4, eS (lI .u8) v_2), (5, .lit (.int .i64 0))]) (S' := (hp [(n0, .box [.lit (.int .i64 dx.power), eO (lI .u8) dx.areas.x0.data, .lit (.int .i64 dx.areas.x0.safe), eO (lI .u8) dx.areas.x1.data, .lit (.int .i64 dx.areas.x1.safe)])] S)) (c' := 1) ?_ ?_
      ·refine Ghost.trans (Ghost.closeX (L := (lI .u8)) (xs := dx.areas.x0.data) (n := n0) (m := (d, 0)) (i := 1) (cs := [.lit (.int .i64 dx.power), eB (lI .u8) (d, 0) dx.areas.x0.data, .lit (.int .i64 dx.areas.x0.safe), eO (lI .u8) dx.areas.x1.data, .lit (.int .i64 dx.areas.x1.safe)]) (A' := [(n0, .box [.lit (.int .i64 dx.power), eO (lI .u8) dx.areas.x0.data, .lit (.int .i64 dx.areas.x0.safe), eO (lI .u8) dx.areas.x1.data, .lit (.int .i64 dx.areas.x1.safe)])]) (by simp only [hp_cons_apply, hp_nil_apply, reduceIte, Prod.mk.injEq, Nat.reduceEqDiff, and_true, and_false, true_and, false_and, oGdiskDisk, hq_n0, hr_n0] <;> rfl) rfl (by simp only [hp_cons_apply, hp_nil_apply, reduceIte, Prod.mk.injEq, Nat.reduceEqDiff, and_true, and_false, true_and, false_and, oGdiskDisk, hq_n0, hr_n0] <;> rfl) (hd _ (Nat.le_refl _)) (by simp only [hset_cons, hset_nil, hrem_cons, hrem_nil, List.set_cons_zero, List.set_cons_succ, reduceIte, Prod.mk.injEq, Nat.reduceEqDiff, and_true, and_false, true_and, false_and, oGdiskDisk, hq_n0, hr_n0])) ?_
       refine xghost (D := []) ?_ ?_ ?_ ?_
       ·exact (.cons (Sub.of_eq rfl) (.cons (Sub.of_eq rfl) .nil))
       ·exact HpW.refl
       ·exact (by intro p hp; cases hp)
       ·omega
      ·obtain rfl := Option.some.inj h
       show FPost _ _ _ _ _ _ _
       exact ⟨_, hp_less (L := [(n0, .box [.lit (.int .i64 dx.power), eO (lI .u8) dx.areas.x0.data, .lit (.int .i64 dx.areas.x0.safe), eO (lI .u8) dx.areas.x1.data, .lit (.int .i64 dx.areas.x1.safe)])]) (D := []) (by intro p hp; cases hp), rfl, hp_out hS0⟩
     ·try simp (maxSteps := 4000000) only [go_sem, Prod.mk.injEq, reduceIte, Nat.reduceEqDiff, Nat.reduceAdd, Nat.reduceSub, Nat.reduceMul, Nat.reduceDiv, Nat.reducePow, Nat.reduceLT, Nat.reduceLeDiff, Nat.reduceBEq, Nat.reduceBneDiff, Int.reduceToNat, Int.reduceEq, Int.reduceLE, Int.reduceLT, reduceCtorEq, oGdiskDisk, hq_n0, hr_n0, vptr_0, vptr_1]
      repeat (with_reducible refine And.intro ?_ ?_; next => first | assumption | trivial | omega | decide | (constructor <;> first | assumption | omega) | (simp [Keep.ok, hp_cons_apply, hset_cons, oGdiskDisk, hq_n0, hr_n0, vptr_0, vptr_1]; done))
      have hcall := s_slices_Clone_byte_byte_W_ok (hp [(n0, .box [.lit (.int .i64 dx.power), eB (lI .u8) (d, 0) dx.areas.x0.data, .lit (.int .i64 dx.areas.x0.safe), eO (lI .u8) dx.areas.x1.data, .lit (.int .i64 dx.areas.x1.safe)]), ((d, 0), oT (lI .u8) dx.areas.x0.data)] S) (o := (Own.buf (d, 0) (dx.areas.x0.data.length * ((lI .u8)).sz))) (ho := ⟨dx.areas.x0.data.length * ((lI .u8)).sz, (by simp only [hp_cons_apply, hp_nil_apply, reduceIte, Prod.mk.injEq, Nat.reduceEqDiff, and_true, and_false, true_and, false_and, oGdiskDisk, hq_n0, hr_n0, vptr_0, vptr_1] <;> rfl)⟩) dx.areas.x0.data hv_2
      refine call1_x hcall rfl ?_ ?_
      ·exact (.cons Sub.refl .nil)
      clear hcall
      rintro _ SS ⟨rfl, hSS⟩ -
      rw [hSS]
      clear hSS
      try simp (maxSteps := 4000000) only [go_sem, Prod.mk.injEq, reduceIte, Nat.reduceEqDiff, Nat.reduceAdd, Nat.reduceSub, Nat.reduceMul, Nat.reduceDiv, Nat.reducePow, Nat.reduceLT, Nat.reduceLeDiff, Nat.reduceBEq, Nat.reduceBneDiff, Int.reduceToNat, Int.reduceEq, Int.reduceLE, Int.reduceLT, reduceCtorEq, oGdiskDisk, hq_n0, hr_n0, vptr_0, vptr_1]
      repeat (with_reducible refine And.intro ?_ ?_; next => first | assumption | trivial | omega | decide | (constructor <;> first | assumption | omega) | (simp [Keep.ok, hp_cons_apply, hset_cons, oGdiskDisk, hq_n0, hr_n0, vptr_0, vptr_1]; done))
      refine hk _ _ _ ?_
      refine xghost (D := []) ?_ ?_ ?_ ?_
      ·exact (.cons (Sub.of_eq rfl) (.cons (Sub.of_eq rfl) .nil))
      ·exact HpW.refl
      ·exact (by intro p hp; cases hp)
      ·omega
    ·rw [if_neg hs_1] at h
     by_cases hs : n = 1
     ·subst hs
      rw [if_pos rfl] at h
      refine LW_gh (Ghost.openX (L := (lI .u8)) (xs := dx.areas.x1.data) (n := n0) (i := 3) (cs := [.lit (.int .i64 dx.power), eO (lI .u8) dx.areas.x0.data, .lit (.int .i64 dx.areas.x0.safe), eO (lI .u8) dx.areas.x1.data, .lit (.int .i64 dx.areas.x1.safe)]) (A' := [(n0, .box [.lit (.int .i64 dx.power), eO (lI .u8) dx.areas.x0.data, .lit (.int .i64 dx.areas.x0.safe), eB (lI .u8) (d, 0) dx.areas.x1.data, .lit (.int .i64 dx.areas.x1.safe)]), ((d, 0), oT (lI .u8) dx.areas.x1.data)]) (by simp only [hp_cons_apply, hp_nil_apply, reduceIte, Prod.mk.injEq, Nat.reduceEqDiff, and_true, and_false, true_and, false_and, oGdiskDisk, hq_n0, hr_n0] <;> rfl) rfl (by simp only [hset_cons, hset_nil, hrem_cons, hrem_nil, List.set_cons_zero, List.set_cons_succ, reduceIte, Prod.mk.injEq, Nat.reduceEqDiff, and_true, and_false, true_and, false_and, oGdiskDisk, hq_n0, hr_n0])) ?_
      obtain ⟨v_1, hv_1, h⟩ := bd_some h
      refine xseq [(4, eS (lI .u8) v_1), (5, .lit (.int .i64 0))] (hp [(n0, .box [.lit (.int .i64 dx.power), eO (lI .u8) dx.areas.x0.data, .lit (.int .i64 dx.areas.x0.safe), eB (lI .u8) (d, 0) dx.areas.x1.data, .lit (.int .i64 dx.areas.x1.safe)]), ((d, 0), oT (lI .u8) dx.areas.x1.data)] S) 1 ?_ (fun k kp hk => ?_)
      ·refine LW_retX (sl' := [(4, eS (lI .u8) v_1), (5, .lit (.int .i64 0))]) (S' := (hp [(n0, .box [.lit (.int .i64 dx.power), eO (lI .u8) dx.areas.x0.data, .lit (.int .i64 dx.areas.x0.safe), eO (lI .u8) dx.areas.x1.data, .lit (.int .i64 dx.areas.x1.safe)])] S)) (c' := 1) ?_ ?_
       ·refine Ghost.trans (Ghost.closeX (L := (lI .u8)) (xs := dx.areas.x1.data) (n := n0) (m := (d, 0)) (i := 3) (cs := [.lit (.int .i64 dx.power), eO (lI .u8) dx.areas.x0.data, .lit (.int .i64 dx.areas.x0.safe), eB (lI .u8) (d, 0) dx.areas.x1.data, .lit (.int .i64 dx.areas.x1.safe)]) (A' := [(n0, .box [.lit (.int .i64 dx.power), eO (lI .u8) dx.areas.x0.data, .lit (.int .i64 dx.areas.x0.safe), eO (lI .u8) dx.areas.x1.data, .lit (.int .i64 dx.areas.x1.safe)])]) (by simp only [hp_cons_apply, hp_nil_apply, reduceIte, Prod.mk.injEq, Nat.reduceEqDiff, and_true, and_false, true_and, false_and, oGdiskDisk, hq_n0, hr_n0] <;> rfl) rfl (by simp only [hp_cons_apply, hp_nil_apply, reduceIte, Prod.mk.injEq, Nat.reduceEqDiff, and_true, and_false, true_and, false_and, oGdiskDisk, hq_n0, hr_n0] <;> rfl) (hd _ (Nat.le_refl _)) (by simp only [hset_cons, hset_nil, hrem_cons, hrem_nil, List.set_cons_zero, List.set_cons_succ, reduceIte, Prod.mk.injEq, Nat.reduceEqDiff, and_true, and_false, true_and, false_and, oGdiskDisk, hq_n0, hr_n0])) ?_
        refine xghost (D := []) ?_ ?_ ?_ ?_
        ·exact (.cons (Sub.of_eq rfl) (.cons (Sub.of_eq rfl) .nil))
        ·exact HpW.refl
        ·exact (by intro p hp; cases hp)
        ·omega
       ·obtain rfl := Option.some.inj h
        show FPost _ _ _ _ _ _ _
        exact ⟨_, hp_less (L := [(n0, .box [.lit (.int .i64 dx.power), eO (lI .u8) dx.areas.x0.data, .lit (.int .i64 dx.areas.x0.safe), eO (lI .u8) dx.areas.x1.data, .lit (.int .i64 dx.areas.x1.safe)])]) (D := []) (by intro p hp; cases hp), rfl, hp_out hS0⟩
      ·try simp (maxSteps := 4000000) only [go_sem, Prod.mk.injEq, reduceIte, Nat.reduceEqDiff, Nat.reduceAdd, Nat.reduceSub, Nat.reduceMul, Nat.reduceDiv, Nat.reducePow, Nat.reduceLT, Nat.reduceLeDiff, Nat.reduceBEq, Nat.reduceBneDiff, Int.reduceToNat, Int.reduceEq, Int.reduceLE, Int.reduceLT, reduceCtorEq, oGdiskDisk, hq_n0, hr_n0, vptr_0, vptr_1]
       repeat (with_reducible refine And.intro ?_ ?_; next => first | assumption | trivial | omega | decide | (constructor <;> first | assumption | omega) | (simp [Keep.ok, hp_cons_apply, hset_cons, oGdiskDisk, hq_n0, hr_n0, vptr_0, vptr_1]; done))
       have hcall := s_slices_Clone_byte_byte_W_ok (hp [(n0, .box [.lit (.int .i64 dx.power), eO (lI .u8) dx.areas.x0.data, .lit (.int .i64 dx.areas.x0.safe), eB (lI .u8) (d, 0) dx.areas.x1.data, .lit (.int .i64 dx.areas.x1.safe)]), ((d, 0), oT (lI .u8) dx.areas.x1.data)] S) (o := (Own.buf (d, 0) (dx.areas.x1.data.length * ((lI .u8)).sz))) (ho := ⟨dx.areas.x1.data.length * ((lI .u8)).sz, (by simp only [hp_cons_apply, hp_nil_apply, reduceIte, Prod.mk.injEq, Nat.reduceEqDiff, and_true, and_false, true_and, false_and, oGdiskDisk, hq_n0, hr_n0, vptr_0, vptr_1] <;> rfl)⟩) dx.areas.x1.data hv_1
       refine call1_x hcall rfl ?_ ?_
       ·exact (.cons Sub.refl .nil)
       clear hcall
       rintro _ SS ⟨rfl, hSS⟩ -
       rw [hSS]
       clear hSS
       try simp (maxSteps := 4000000) only [go_sem, Prod.mk.injEq, reduceIte, Nat.reduceEqDiff, Nat.reduceAdd, Nat.reduceSub, Nat.reduceMul, Nat.reduceDiv, Nat.reducePow, Nat.reduceLT, Nat.reduceLeDiff, Nat.reduceBEq, Nat.reduceBneDiff, Int.reduceToNat, Int.reduceEq, Int.reduceLE, Int.reduceLT, reduceCtorEq, oGdiskDisk, hq_n0, hr_n0, vptr_0, vptr_1]
       repeat (with_reducible refine And.intro ?_ ?_; next => first | assumption | trivial | omega | decide | (constructor <;> first | assumption | omega) | (simp [Keep.ok, hp_cons_apply, hset_cons, oGdiskDisk, hq_n0, hr_n0, vptr_0, vptr_1]; done))
       refine hk _ _ _ ?_
       refine xghost (D := []) ?_ ?_ ?_ ?_
       ·exact (.cons (Sub.of_eq rfl) (.cons (Sub.of_eq rfl) .nil))
       ·exact HpW.refl
       ·exact (by intro p hp; cases hp)
       ·omega
     ·rw [if_neg hs] at h
      cases h
  ·try simp (maxSteps := 4000000) only [go_sem, Prod.mk.injEq, reduceIte, Nat.reduceEqDiff, Nat.reduceAdd, Nat.reduceSub, Nat.reduceMul, Nat.reduceDiv, Nat.reducePow, Nat.reduceLT, Nat.reduceLeDiff, Nat.reduceBEq, Nat.reduceBneDiff, Int.reduceToNat, Int.reduceEq, Int.reduceLE, Int.reduceLT, reduceCtorEq, oGdiskDisk, hq_n0, hr_n0]
   repeat (with_reducible refine And.intro ?_ ?_; next => first | assumption | trivial | omega | decide | (constructor <;> first | assumption | omega) | (simp [Keep.ok, hp_cons_apply, hset_cons, oGdiskDisk, hq_n0, hr_n0]; done))
   have hcall := s_disk_there_ok (hp [(n0, .box [.lit (.int .i64 dx.power), eO (lI .u8) dx.areas.x0.data, .lit (.int .i64 dx.areas.x0.safe), eO (lI .u8) dx.areas.x1.data, .lit (.int .i64 dx.areas.x1.safe)])] S) ([n]) hv
   refine call1_x hcall rfl ?_ ?_
   ·exact (.cons (Sub.young (L := (lI .i64)) (xs := [n])) .nil)
   clear hcall
   rintro _ SS ⟨rfl, hSS⟩ -
   rw [hSS]
   clear hSS
   try simp (maxSteps := 4000000) only [go_sem, Prod.mk.injEq, reduceIte, Nat.reduceEqDiff, Nat.reduceAdd, Nat.reduceSub, Nat.reduceMul, Nat.reduceDiv, Nat.reducePow, Nat.reduceLT, Nat.reduceLeDiff, Nat.reduceBEq, Nat.reduceBneDiff, Int.reduceToNat, Int.reduceEq, Int.reduceLE, Int.reduceLT, reduceCtorEq, oGdiskDisk, hq_n0, hr_n0]
   repeat (with_reducible refine And.intro ?_ ?_; next => first | assumption | trivial | omega | decide | (constructor <;> first | assumption | omega) | (simp [Keep.ok, hp_cons_apply, hset_cons, oGdiskDisk, hq_n0, hr_n0]; done))
   refine hk _ _ _ ?_
   refine xghost (D := []) ?_ ?_ ?_ ?_
   ·exact (.cons (Sub.of_eq rfl) (.cons (Sub.of_eq rfl) (.cons (Sub.of_eq rfl) .nil)))
   ·exact HpW.refl
   ·exact (by intro p hp; cases hp)
   ·omega
 ·try simp (maxSteps := 4000000) only [go_sem, Prod.mk.injEq, reduceIte, Nat.reduceEqDiff, Nat.reduceAdd, Nat.reduceSub, Nat.reduceMul, Nat.reduceDiv, Nat.reducePow, Nat.reduceLT, Nat.reduceLeDiff, Nat.reduceBEq, Nat.reduceBneDiff, Int.reduceToNat, Int.reduceEq, Int.reduceLE, Int.reduceLT, reduceCtorEq, oGdiskDisk, hq_n0, hr_n0]
  repeat (with_reducible refine And.intro ?_ ?_; next => first | assumption | trivial | omega | decide | (constructor <;> first | assumption | omega) | (simp [Keep.ok, hp_cons_apply, hset_cons, oGdiskDisk, hq_n0, hr_n0]; done))
  refine hk _ _ _ ?_
  refine xghost (D := []) ?_ ?_ ?_ ?_
  ·exact (.cons (Sub.of_eq rfl) (.cons (Sub.of_eq rfl) .nil))
  ·exact HpW.refl
  ·exact (by intro p hp; cases hp)
  ·omega
/-! (*stanchion/disk.Disk).Sync -/
def s_disk_Disk_Sync_j2 (t22 : Int) (m_1 : Int) (m_2 : Int) : Option ((Int × Int × Int) ⊕ (Int × GdiskDisk)) :=
 some (.inl ((IntKind.i64.wrap (t22 + 1)), m_1, m_2))
def s_disk_Disk_Sync_b1 (v_1 : Int × GdiskDisk) (list_1 : List Int) : (Int × Int × Int) → Option ((Int × Int × Int) ⊕ (Int × GdiskDisk))
 | (t22, m, m_1) => if (decide (t22 < (list_1.length : Int))) = true then gd ((0 ≤ t22 ∧ Int.toNat t22 < list_1.length)) (if (list_1.getD (Int.toNat t22) 0) = 0 then s_disk_Disk_Sync_j2 t22 (v_1.2.areas.x0.data.length : Int) m_1 else if (list_1.getD (Int.toNat t22) 0) = 1 then s_disk_Disk_Sync_j2 t22 m (v_1.2.areas.x1.data.length : Int) else none) else mr (some (0, (GdiskDisk.mk v_1.2.power (Ar2.mk (Gdiskarea.mk v_1.2.areas.x0.data m) (Gdiskarea.mk v_1.2.areas.x1.data m_1)))))
def s_disk_Disk_Sync_j1 (v_1 : Int × GdiskDisk) (list_1 : List Int) : Option (Int × GdiskDisk) :=
 loop (s_disk_Disk_Sync_b1 v_1 list_1) (0, v_1.2.areas.x0.safe, v_1.2.areas.x1.safe)
def s_disk_Disk_Sync (dx : GdiskDisk) (list : List Int) : Option (Int × GdiskDisk) :=
 bd (s_disk_there list) fun (v : Bool) => if (!v) = true then some (41, dx) else bd (s_disk_Disk_draw dx) fun (v_1 : Int × GdiskDisk) => if (v_1.1 != 0) = true then some (v_1.1, v_1.2) else if ((list.length : Int) == 0) = true then s_disk_Disk_Sync_j1 v_1 ([0, 1]) else s_disk_Disk_Sync_j1 v_1 list
theorem s_disk_Disk_Sync_ok (S : AHeap) {n0 : Name} (dx : GdiskDisk) (list : List Int) {r : Int × GdiskDisk} (hS0 : S n0 = some (oGdiskDisk dx)) (h : s_disk_Disk_Sync dx list = some r) :
  AC Try.prog n_disk_Disk_Sync [.ptr n0 0, eS (lI .i64) list] S fun r' S' => r' = .ret (.lit (.int .i64 r.1)) ∧ S' = S.set n0 (oGdiskDisk r.2) := by
 refine AC_of tok mixed fits_disk_Disk_Sync fun d hd => ?_
 unfold c_disk_Disk_Sync
 show LW _ _ _ _ [(0, .ptr n0 0), (1, eS (lI .i64) list)] S 0 _
 refine LW_heap (hp_in hS0) ?_
 have hl_n0 : n0.1 < d := lt_of_hd hd hS0
 have hq_n0 : ∀ k, (n0 = (d, k)) = False := fun k => ne_deep hl_n0
 have hr_n0 : ∀ k, ((d, k) = n0) = False := fun k => ne_deep' hl_n0
 show LW _ _ _ _ [(0, .ptr n0 0), (1, eS (lI .i64) list)] (hp [(n0, .box [.lit (.int .i64 dx.power), eO (lI .u8) dx.areas.x0.data, .lit (.int .i64 dx.areas.x0.safe), eO (lI .u8) dx.areas.x1.data, .lit (.int .i64 dx.areas.x1.safe)])] S) 0 _
 rw [s_disk_Disk_Sync] at h
 refine xseq [(0, .ptr n0 0), (1, eS (lI .i64) list)] (hp [(n0, .box [.lit (.int .i64 dx.power), eO (lI .u8) dx.areas.x0.data, .lit (.int .i64 dx.areas.x0.safe), eO (lI .u8) dx.areas.x1.data, .lit (.int .i64 dx.areas.x1.safe)])] S) 0 ?_ (fun k kp hk => ?_)
 ·refine LW_seq ?_
  obtain ⟨v, hv, h⟩ := bd_some h
  refine xseq [(0, .ptr n0 0), (1, eS (lI .i64) list), (10, .lit (.bool (!v)))] (hp [(n0, .box [.lit (.int .i64 dx.power), eO (lI .u8) dx.areas.x0.data, .lit (.int .i64 dx.areas.x0.safe), eO (lI .u8) dx.areas.x1.data, .lit (.int .i64 dx.areas.x1.safe)])] S) 0 ?_ (fun k kp hk => ?_)
  ·refine xcond (!v) rfl (fun hc => ?_) (fun hc => ?_)
   ·rw [ite_t hc] at h
    refine xseq [(4, .lit (.int .i64 41))] (hp [(n0, .box [.lit (.int .i64 dx.power), eO (lI .u8) dx.areas.x0.data, .lit (.int .i64 dx.areas.x0.safe), eO (lI .u8) dx.areas.x1.data, .lit (.int .i64 dx.areas.x1.safe)])] S) 0 ?_ (fun k kp hk => ?_)
    ·refine LW_ret ?_
     obtain rfl := Option.some.inj h
     show FPost _ _ _ _ _ _ _
     exact ⟨_, hp_less (L := [(n0, .box [.lit (.int .i64 dx.power), eO (lI .u8) dx.areas.x0.data, .lit (.int .i64 dx.areas.x0.safe), eO (lI .u8) dx.areas.x1.data, .lit (.int .i64 dx.areas.x1.safe)])]) (D := []) (by intro p hp; cases hp), rfl, rfl⟩
    ·try simp (maxSteps := 4000000) only [go_sem, Prod.mk.injEq, reduceIte, Nat.reduceEqDiff, Nat.reduceAdd, Nat.reduceSub, Nat.reduceMul, Nat.reduceDiv, Nat.reducePow, Nat.reduceLT, Nat.reduceLeDiff, Nat.reduceBEq, Nat.reduceBneDiff, Int.reduceToNat, Int.reduceEq, Int.reduceLE, Int.reduceLT, reduceCtorEq, oGdiskDisk, hq_n0, hr_n0]
     repeat (with_reducible refine And.intro ?_ ?_; next => first | assumption | trivial | omega | decide | (constructor <;> first | assumption | omega) | (simp [Keep.ok, hp_cons_apply, hset_cons, oGdiskDisk, hq_n0, hr_n0]; done))
     refine hk _ _ _ ?_
     refine xghost (D := []) ?_ ?_ ?_ ?_
     ·exact (.cons (Sub.of_eq rfl) .nil)
     ·exact HpW.refl
     ·exact (by intro p hp; cases hp)
     ·omega
   ·rw [ite_f hc] at h
    refine LW_skip ?_
    show LW _ _ _ _ _ _ _ _
    obtain ⟨v_1, hv_1, h⟩ := bd_some h
    refine xseq [(0, .ptr n0 0), (1, eS (lI .i64) list), (5, .lit (.int .i64 v_1.1))] (hp [(n0, .box [.lit (.int .i64 v_1.2.power), eO (lI .u8) v_1.2.areas.x0.data, .lit (.int .i64 v_1.2.areas.x0.safe), eO (lI .u8) v_1.2.areas.x1.data, .lit (.int .i64 v_1.2.areas.x1.safe)])] S) 0 ?_ (fun k kp hk => ?_)
    ·refine LW_seq ?_
     refine xseq [(0, .ptr n0 0), (1, eS (lI .i64) list), (5, .lit (.int .i64 v_1.1)), (14, .lit (.bool (v_1.1 != 0)))] (hp [(n0, .box [.lit (.int .i64 v_1.2.power), eO (lI .u8) v_1.2.areas.x0.data, .lit (.int .i64 v_1.2.areas.x0.safe), eO (lI .u8) v_1.2.areas.x1.data, .lit (.int .i64 v_1.2.areas.x1.safe)])] S) 0 ?_ (fun k kp hk => ?_)
     ·refine xcond (v_1.1 != 0) rfl (fun hc_1 => ?_) (fun hc_1 => ?_)
      ·rw [ite_t hc_1] at h
       refine xseq [(4, .lit (.int .i64 v_1.1))] (hp [(n0, .box [.lit (.int .i64 v_1.2.power), eO (lI .u8) v_1.2.areas.x0.data, .lit (.int .i64 v_1.2.areas.x0.safe), eO (lI .u8) v_1.2.areas.x1.data, .lit (.int .i64 v_1.2.areas.x1.safe)])] S) 0 ?_ (fun k kp hk => ?_)
       ·refine LW_ret ?_
        obtain rfl := Option.some.inj h
        show FPost _ _ _ _ _ _ _
        exact ⟨_, hp_less (L := [(n0, .box [.lit (.int .i64 v_1.2.power), eO (lI .u8) v_1.2.areas.x0.data, .lit (.int .i64 v_1.2.areas.x0.safe), eO (lI .u8) v_1.2.areas.x1.data, .lit (.int .i64 v_1.2.areas.x1.safe)])]) (D := []) (by intro p hp; cases hp), rfl, rfl⟩
       ·try simp (maxSteps := 4000000) only [go_sem, Prod.mk.injEq, reduceIte, Nat.reduceEqDiff, Nat.reduceAdd, Nat.reduceSub, Nat.reduceMul, Nat.reduceDiv, Nat.reducePow, Nat.reduceLT, Nat.reduceLeDiff, Nat.reduceBEq, Nat.reduceBneDiff, Int.reduceToNat, Int.reduceEq, Int.reduceLE, Int.reduceLT, reduceCtorEq, oGdiskDisk, hq_n0, hr_n0]
        repeat (with_reducible refine And.intro ?_ ?_; next => first | assumption | trivial | omega | decide | (constructor <;> first | assumption | omega) | (simp [Keep.ok, hp_cons_apply, hset_cons, oGdiskDisk, hq_n0, hr_n0]; done))
        refine hk _ _ _ ?_
        refine xghost (D := []) ?_ ?_ ?_ ?_
        ·exact (.cons (Sub.of_eq rfl) .nil)
        ·exact HpW.refl
        ·exact (by intro p hp; cases hp)
        ·omega
      ·rw [ite_f hc_1] at h
       refine LW_skip ?_
       show LW _ _ _ _ _ _ _ _
       refine xjoin (J := List Int) (fun jj => [(0, .ptr n0 0), (1, eS (lI .i64) jj)]) (fun jj => (hp [(n0, .box [.lit (.int .i64 v_1.2.power), eO (lI .u8) v_1.2.areas.x0.data, .lit (.int .i64 v_1.2.areas.x0.safe), eO (lI .u8) v_1.2.areas.x1.data, .lit (.int .i64 v_1.2.areas.x1.safe)])] S)) 0 (fun jj => s_disk_Disk_Sync_j1 v_1 jj = some r) ?_ (fun hj_1 => ?_)
       ·rintro list_1 h
        show LW _ _ _ _ [(0, .ptr n0 0), (1, eS (lI .i64) list_1)] (hp [(n0, .box [.lit (.int .i64 v_1.2.power), eO (lI .u8) v_1.2.areas.x0.data, .lit (.int .i64 v_1.2.areas.x0.safe), eO (lI .u8) v_1.2.areas.x1.data, .lit (.int .i64 v_1.2.areas.x1.safe)])] S) 0 _
        replace h : s_disk_Disk_Sync_j1 v_1 list_1 = some r := h
        rw [s_disk_Disk_Sync_j1] at h
        refine LW_seq ?_
        refine xseq [(0, .ptr n0 0), (20, eS (lI .i64) list_1), (21, .lit (.int .i64 (list_1.length : Int))), (22, .lit (.int .i64 0))] (hp [(n0, .box [.lit (.int .i64 v_1.2.power), eO (lI .u8) v_1.2.areas.x0.data, .lit (.int .i64 v_1.2.areas.x0.safe), eO (lI .u8) v_1.2.areas.x1.data, .lit (.int .i64 v_1.2.areas.x1.safe)])] S) 0 ?_ (fun k kp hk => ?_)
        ·refine LW_block ?_
         refine LW_loopX (c := 0) (σ := Int × Int × Int) (s := (0, v_1.2.areas.x0.safe, v_1.2.areas.x1.safe)) (fun zz => [(0, .ptr n0 0), (20, eS (lI .i64) list_1), (21, .lit (.int .i64 (list_1.length : Int))), (22, .lit (.int .i64 zz.1))]) (fun zz => (hp [(n0, .box [.lit (.int .i64 v_1.2.power), eO (lI .u8) v_1.2.areas.x0.data, .lit (.int .i64 zz.2.1), eO (lI .u8) v_1.2.areas.x1.data, .lit (.int .i64 zz.2.2)])] S)) h ?_ ?_
         ·clear h
          rintro ⟨t22, m, m_1⟩ x1 d1 hd1 hf1 h hx1
          show LW _ _ _ _ [(0, .ptr n0 0), (20, eS (lI .i64) list_1), (21, .lit (.int .i64 (list_1.length : Int))), (22, .lit (.int .i64 t22))] (hp [(n0, .box [.lit (.int .i64 v_1.2.power), eO (lI .u8) v_1.2.areas.x0.data, .lit (.int .i64 m), eO (lI .u8) v_1.2.areas.x1.data, .lit (.int .i64 m_1)])] S) 0 _
          have hn1d : (d = d1) = False := by simp; omega
          have hm1d : (d1 = d) = False := by simp; omega
          have hl1_n0 : n0.1 < d1 := by omega
          have hu1n0 : ∀ k, (n0 = (d1, k)) = False := fun k => ne_deep hl1_n0
          have hw1n0 : ∀ k, ((d1, k) = n0) = False := fun k => ne_deep' hl1_n0
          rw [s_disk_Disk_Sync_b1] at h
          refine xseq [(0, .ptr n0 0), (20, eS (lI .i64) list_1), (21, .lit (.int .i64 (list_1.length : Int))), (22, .lit (.int .i64 t22)), (23, .lit (.bool (decide (t22 < (list_1.length : Int)))))] (hp [(n0, .box [.lit (.int .i64 v_1.2.power), eO (lI .u8) v_1.2.areas.x0.data, .lit (.int .i64 m), eO (lI .u8) v_1.2.areas.x1.data, .lit (.int .i64 m_1)])] S) 0 ?_ (fun k kp hk => ?_)
          ·refine LW_seq ?_
           refine xcond (decide (t22 < (list_1.length : Int))) rfl (fun hc_3 => ?_) (fun hc_3 => ?_)
           ·rw [ite_t hc_3] at h
            refine LW_skip ?_
            show LW _ _ _ _ _ _ _ _
            refine xjoin (J := Int × Int) (fun jj => [(0, .ptr n0 0), (20, eS (lI .i64) list_1), (21, .lit (.int .i64 (list_1.length : Int))), (22, .lit (.int .i64 t22))]) (fun jj => (hp [(n0, .box [.lit (.int .i64 v_1.2.power), eO (lI .u8) v_1.2.areas.x0.data, .lit (.int .i64 jj.1), eO (lI .u8) v_1.2.areas.x1.data, .lit (.int .i64 jj.2)])] S)) 1 (fun jj => s_disk_Disk_Sync_j2 t22 jj.1 jj.2 = some x1) ?_ (fun hj => ?_)
            ·rintro ⟨m_1, m_2⟩ h
             show LW _ _ _ _ [(0, .ptr n0 0), (20, eS (lI .i64) list_1), (21, .lit (.int .i64 (list_1.length : Int))), (22, .lit (.int .i64 t22))] (hp [(n0, .box [.lit (.int .i64 v_1.2.power), eO (lI .u8) v_1.2.areas.x0.data, .lit (.int .i64 m_1), eO (lI .u8) v_1.2.areas.x1.data, .lit (.int .i64 m_2)])] S) 1 _
             replace h : s_disk_Disk_Sync_j2 t22 m_1 m_2 = some x1 := h
             rw [s_disk_Disk_Sync_j2] at h
             refine xreg [(0, .ptr n0 0), (20, eS (lI .i64) list_1), (21, .lit (.int .i64 (list_1.length : Int))), (22, .lit (.int .i64 (IntKind.i64.wrap (t22 + 1))))] (hp [(n0, .box [.lit (.int .i64 v_1.2.power), eO (lI .u8) v_1.2.areas.x0.data, .lit (.int .i64 m_1), eO (lI .u8) v_1.2.areas.x1.data, .lit (.int .i64 m_2)])] S) 1 ?_ (fun k kp hk => ?_)
             ·cases h
              exact ⟨rfl, Less.refl _⟩
             ·try simp (maxSteps := 4000000) only [go_sem, Prod.mk.injEq, reduceIte, Nat.reduceEqDiff, Nat.reduceAdd, Nat.reduceSub, Nat.reduceMul, Nat.reduceDiv, Nat.reducePow, Nat.reduceLT, Nat.reduceLeDiff, Nat.reduceBEq, Nat.reduceBneDiff, Int.reduceToNat, Int.reduceEq, Int.reduceLE, Int.reduceLT, reduceCtorEq, oGdiskDisk, hq_n0, hr_n0, hn1d, hm1d, hu1n0, hw1n0]
              repeat (with_reducible refine And.intro ?_ ?_; next => first | assumption | trivial | omega | decide | (constructor <;> first | assumption | omega) | (simp [Keep.ok, hp_cons_apply, hset_cons, oGdiskDisk, hq_n0, hr_n0, hn1d, hm1d, hu1n0, hw1n0]; done))
              refine hk _ _ _ ?_
              refine xghost (D := []) ?_ ?_ ?_ ?_
              ·exact (.cons (Sub.of_eq rfl) (.cons (Sub.of_eq rfl) (.cons (Sub.of_eq rfl) (.cons (Sub.of_eq rfl) .nil))))
              ·exact HpW.refl
              ·exact (by intro p hp; cases hp)
              ·omega
            ·refine LW_block ?_
             obtain ⟨hg, h⟩ := gd_some h
             refine xseq [(0, .ptr n0 0), (7, .lit (.int .i64 (list_1.getD (Int.toNat t22) 0))), (20, eS (lI .i64) list_1), (21, .lit (.int .i64 (list_1.length : Int))), (22, .lit (.int .i64 t22))] (hp [(n0, .box [.lit (.int .i64 v_1.2.power), eO (lI .u8) v_1.2.areas.x0.data, .lit (.int .i64 m), eO (lI .u8) v_1.2.areas.x1.data, .lit (.int .i64 m_1)])] S) 0 ?_ (fun k kp hk => ?_)
             ·by_cases hs_1 : (list_1.getD (Int.toNat t22) 0) = 0
              ·rw [if_pos hs_1] at h
               refine LW_gh (Ghost.openX (L := (lI .u8)) (xs := v_1.2.areas.x0.data) (n := n0) (i := 1) (cs := [.lit (.int .i64 v_1.2.power), eO (lI .u8) v_1.2.areas.x0.data, .lit (.int .i64 m), eO (lI .u8) v_1.2.areas.x1.data, .lit (.int .i64 m_1)]) (A' := [(n0, .box [.lit (.int .i64 v_1.2.power), eB (lI .u8) (d1, 0) v_1.2.areas.x0.data, .lit (.int .i64 m), eO (lI .u8) v_1.2.areas.x1.data, .lit (.int .i64 m_1)]), ((d1, 0), oT (lI .u8) v_1.2.areas.x0.data)]) (by simp only [hp_cons_apply, hp_nil_apply, reduceIte, Prod.mk.injEq, Nat.reduceEqDiff, and_true, and_false, true_and, false_and, oGdiskDisk, hq_n0, hr_n0, hn1d, hm1d, hu1n0, hw1n0, hs_1] <;> rfl) rfl (by simp only [hset_cons, hset_nil, hrem_cons, hrem_nil, List.set_cons_zero, List.set_cons_succ, reduceIte, Prod.mk.injEq, Nat.reduceEqDiff, and_true, and_false, true_and, false_and, oGdiskDisk, hq_n0, hr_n0, hn1d, hm1d, hu1n0, hw1n0, hs_1])) ?_
               refine xregd [(0, .ptr n0 0), (20, eS (lI .i64) list_1), (21, .lit (.int .i64 (list_1.length : Int))), (22, .lit (.int .i64 t22))] (hp [(n0, .box [.lit (.int .i64 v_1.2.power), eO (lI .u8) v_1.2.areas.x0.data, .lit (.int .i64 (v_1.2.areas.x0.data.length : Int)), eO (lI .u8) v_1.2.areas.x1.data, .lit (.int .i64 m_1)])] S) 1 ?_ (fun k kp hk => ?_)
               ·exact hj ((v_1.2.areas.x0.data.length : Int), m_1) h
               ·try simp (maxSteps := 4000000) only [go_sem, Prod.mk.injEq, reduceIte, Nat.reduceEqDiff, Nat.reduceAdd, Nat.reduceSub, Nat.reduceMul, Nat.reduceDiv, Nat.reducePow, Nat.reduceLT, Nat.reduceLeDiff, Nat.reduceBEq, Nat.reduceBneDiff, Int.reduceToNat, Int.reduceEq, Int.reduceLE, Int.reduceLT, reduceCtorEq, oGdiskDisk, hq_n0, hr_n0, hn1d, hm1d, hu1n0, hw1n0, hs_1, vptr_0, vptr_1]
                repeat (with_reducible refine And.intro ?_ ?_; next => first | assumption | trivial | omega | decide | (constructor <;> first | assumption | omega) | (simp [Keep.ok, hp_cons_apply, hset_cons, oGdiskDisk, hq_n0, hr_n0, hn1d, hm1d, hu1n0, hw1n0, hs_1, vptr_0, vptr_1]; done))
                refine hk _ _ _ ?_
                refine Ghost.trans (Ghost.closeX (L := (lI .u8)) (xs := v_1.2.areas.x0.data) (n := n0) (m := (d1, 0)) (i := 1) (cs := [.lit (.int .i64 v_1.2.power), eB (lI .u8) (d1, 0) v_1.2.areas.x0.data, .lit (.int .i64 (v_1.2.areas.x0.data.length : Int)), eO (lI .u8) v_1.2.areas.x1.data, .lit (.int .i64 m_1)]) (A' := [(n0, .box [.lit (.int .i64 v_1.2.power), eO (lI .u8) v_1.2.areas.x0.data, .lit (.int .i64 (v_1.2.areas.x0.data.length : Int)), eO (lI .u8) v_1.2.areas.x1.data, .lit (.int .i64 m_1)])]) (by simp only [hp_cons_apply, hp_nil_apply, reduceIte, Prod.mk.injEq, Nat.reduceEqDiff, and_true, and_false, true_and, false_and, oGdiskDisk, hq_n0, hr_n0, hn1d, hm1d, hu1n0, hw1n0, hs_1] <;> rfl) rfl (by simp only [hp_cons_apply, hp_nil_apply, reduceIte, Prod.mk.injEq, Nat.reduceEqDiff, and_true, and_false, true_and, false_and, oGdiskDisk, hq_n0, hr_n0, hn1d, hm1d, hu1n0, hw1n0, hs_1] <;> rfl) (hd _ (show d ≤ d1 by omega)) (by simp only [hset_cons, hset_nil, hrem_cons, hrem_nil, List.set_cons_zero, List.set_cons_succ, reduceIte, Prod.mk.injEq, Nat.reduceEqDiff, and_true, and_false, true_and, false_and, oGdiskDisk, hq_n0, hr_n0, hn1d, hm1d, hu1n0, hw1n0, hs_1])) ?_
                refine xghost (D := []) ?_ ?_ ?_ ?_
                ·exact (.cons (Sub.of_eq rfl) (.cons (Sub.of_eq rfl) (.cons (Sub.of_eq rfl) (.cons (Sub.of_eq rfl) .nil))))
                ·exact HpW.refl
                ·exact (by intro p hp; cases hp)
                ·omega
              ·rw [if_neg hs_1] at h
               by_cases hs : (list_1.getD (Int.toNat t22) 0) = 1
               ·rw [if_pos hs] at h
                refine LW_gh (Ghost.openX (L := (lI .u8)) (xs := v_1.2.areas.x1.data) (n := n0) (i := 3) (cs := [.lit (.int .i64 v_1.2.power), eO (lI .u8) v_1.2.areas.x0.data, .lit (.int .i64 m), eO (lI .u8) v_1.2.areas.x1.data, .lit (.int .i64 m_1)]) (A' := [(n0, .box [.lit (.int .i64 v_1.2.power), eO (lI .u8) v_1.2.areas.x0.data, .lit (.int .i64 m), eB (lI .u8) (d1, 0) v_1.2.areas.x1.data, .lit (.int .i64 m_1)]), ((d1, 0), oT (lI .u8) v_1.2.areas.x1.data)]) (by simp only [hp_cons_apply, hp_nil_apply, reduceIte, Prod.mk.injEq, Nat.reduceEqDiff, and_true, and_false, true_and, false_and, oGdiskDisk, hq_n0, hr_n0, hn1d, hm1d, hu1n0, hw1n0, hs] <;> rfl) rfl (by simp only [hset_cons, hset_nil, hrem_cons, hrem_nil, List.set_cons_zero, List.set_cons_succ, reduceIte, Prod.mk.injEq, Nat.reduceEqDiff, and_true, and_false, true_and, false_and, oGdiskDisk, hq_n0, hr_n0, hn1d, hm1d, hu1n0, hw1n0, hs])) ?_
                refine xregd [(0, .ptr n0 0), (20, eS (lI .i64) list_1), (21, .lit (.int .i64 (list_1.length : Int))), (22, .lit (.int .i64 t22))] (hp [(n0, .box [.lit (.int .i64 v_1.2.power), eO (lI .u8) v_1.2.areas.x0.data, .lit (.int .i64 m), eO (lI .u8) v_1.2.areas.x1.data, .lit (.int .i64 (v_1.2.areas.x1.data.length : Int))])] S) 1 ?_ (fun k kp hk => ?_)
                ·exact hj (m, (v_1.2.areas.x1.data.length : Int)) h
                ·try simp (maxSteps := 4000000) only [go_sem, Prod.mk.injEq, reduceIte, Nat.reduceEqDiff, Nat.reduceAdd, Nat.reduceSub, Nat.reduceMul, Nat.reduceDiv, Nat.reducePow, Nat.reduceLT, Nat.reduceLeDiff, Nat.reduceBEq, Nat.reduceBneDiff, Int.reduceToNat, Int.reduceEq, Int.reduceLE, Int.reduceLT, reduceCtorEq, oGdiskDisk, hq_n0, hr_n0, hn1d, hm1d, hu1n0, hw1n0, hs, vptr_0, vptr_1]
                 repeat (with_reducible refine And.intro ?_ ?_; next => first | assumption | trivial | omega | decide | (constructor <;> first | assumption | omega) | (simp [Keep.ok, hp_cons_apply, hset_cons, oGdiskDisk, hq_n0, hr_n0, hn1d, hm1d, hu1n0, hw1n0, hs, vptr_0, vptr_1]; done))
                 refine hk _ _ _ ?_
                 refine Ghost.trans (Ghost.closeX (L := (lI .u8)) (xs := v_1.2.areas.x1.data) (n := n0) (m := (d1, 0)) (i := 3) (cs := [.lit (.int .i64 v_1.2.power), eO (lI .u8) v_1.2.areas.x0.data, .lit (.int .i64 m), eB (lI .u8) (d1, 0) v_1.2.areas.x1.data, .lit (.int .i64 (v_1.2.areas.x1.data.length : Int))]) (A' := [(n0, .box [.lit (.int .i64 v_1.2.power), eO (lI .u8) v_1.2.areas.x0.data, .lit (.int .i64 m), eO (lI .u8) v_1.2.areas.x1.data, .lit (.int .i64 (v_1.2.areas.x1.data.length : Int))])]) (by simp only [hp_cons_apply, hp_nil_apply, reduceIte, Prod.mk.injEq, Nat.reduceEqDiff, and_true, and_false, true_and, false_and, oGdiskDisk, hq_n0, hr_n0, hn1d, hm1d, hu1n0, hw1n0, hs] <;> rfl) rfl (by simp only [hp_cons_apply, hp_nil_apply, reduceIte, Prod.mk.injEq, Nat.reduceEqDiff, and_true, and_false, true_and, false_and, oGdiskDisk, hq_n0, hr_n0, hn1d, hm1d, hu1n0, hw1n0, hs] <;> rfl) (hd _ (show d ≤ d1 by omega)) (by simp only [hset_cons, hset_nil, hrem_cons, hrem_nil, List.set_cons_zero, List.set_cons_succ, reduceIte, Prod.mk.injEq, Nat.reduceEqDiff, and_true, and_false, true_and, false_and, oGdiskDisk, hq_n0, hr_n0, hn1d, hm1d, hu1n0, hw1n0, hs])) ?_
                 refine xghost (D := []) ?_ ?_ ?_ ?_
                 ·exact (.cons (Sub.of_eq rfl) (.cons (Sub.of_eq rfl) (.cons (Sub.of_eq rfl) (.cons (Sub.of_eq rfl) .nil))))
                 ·exact HpW.refl
                 ·exact (by intro p hp; cases hp)
                 ·omega
               ·rw [if_neg hs] at h
                cases h
             ·try simp (maxSteps := 4000000) only [go_sem, Prod.mk.injEq, reduceIte, Nat.reduceEqDiff, Nat.reduceAdd, Nat.reduceSub, Nat.reduceMul, Nat.reduceDiv, Nat.reducePow, Nat.reduceLT, Nat.reduceLeDiff, Nat.reduceBEq, Nat.reduceBneDiff, Int.reduceToNat, Int.reduceEq, Int.reduceLE, Int.reduceLT, reduceCtorEq, oGdiskDisk, hq_n0, hr_n0, hn1d, hm1d, hu1n0, hw1n0]
              repeat (with_reducible refine And.intro ?_ ?_; next => first | assumption | trivial | omega | decide | (constructor <;> first | assumption | omega) | (simp [Keep.ok, hp_cons_apply, hset_cons, oGdiskDisk, hq_n0, hr_n0, hn1d, hm1d, hu1n0, hw1n0]; done))
              refine hk _ _ _ ?_
              refine xghost (D := []) ?_ ?_ ?_ ?_
              ·exact (.cons (Sub.of_eq rfl) (.cons (Sub.of_eq rfl) (.cons (Sub.of_eq rfl) (.cons (Sub.of_eq rfl) (.cons (Sub.of_eq rfl) .nil)))))
              ·exact HpW.refl
              ·exact (by intro p hp; cases hp)
              ·omega
           ·rw [ite_f hc_3] at h
            obtain ⟨hq, hxe⟩ := mr_go h hx1
            clear h hx1
            subst hxe
            have h := hq
            clear hq
            refine LW_exitX (sl' := [(0, .ptr n0 0), (20, eS (lI .i64) list_1), (21, .lit (.int .i64 (list_1.length : Int))), (22, .lit (.int .i64 t22)), (23, .lit (.bool (decide (t22 < (list_1.length : Int)))))]) (S' := (hp [(n0, .box [.lit (.int .i64 v_1.2.power), eO (lI .u8) v_1.2.areas.x0.data, .lit (.int .i64 m), eO (lI .u8) v_1.2.areas.x1.data, .lit (.int .i64 m_1)])] S)) (c' := 0) ?_ ?_
            ·refine xghost (D := []) ?_ ?_ ?_ ?_
             ·exact (.cons (Sub.of_eq rfl) (.cons (Sub.of_eq rfl) (.cons (Sub.of_eq rfl) (.cons (Sub.of_eq rfl) (.cons (Sub.of_eq rfl) .nil)))))
             ·exact HpW.refl
             ·exact (by intro p hp; cases hp)
             ·omega
            ·show LW _ _ _ _ _ _ _ _
             refine xseq [(4, .lit (.int .i64 0))] (hp [(n0, .box [.lit (.int .i64 v_1.2.power), eO (lI .u8) v_1.2.areas.x0.data, .lit (.int .i64 m), eO (lI .u8) v_1.2.areas.x1.data, .lit (.int .i64 m_1)])] S) 0 ?_ (fun k kp hk => ?_)
             ·refine LW_ret ?_
              obtain rfl := Option.some.inj h
              show FPost _ _ _ _ _ _ _
              exact ⟨_, hp_less (L := [(n0, .box [.lit (.int .i64 v_1.2.power), eO (lI .u8) v_1.2.areas.x0.data, .lit (.int .i64 m), eO (lI .u8) v_1.2.areas.x1.data, .lit (.int .i64 m_1)])]) (D := []) (by intro p hp; cases hp), rfl, rfl⟩
             ·try simp (maxSteps := 4000000) only [go_sem, Prod.mk.injEq, reduceIte, Nat.reduceEqDiff, Nat.reduceAdd, Nat.reduceSub, Nat.reduceMul, Nat.reduceDiv, Nat.reducePow, Nat.reduceLT, Nat.reduceLeDiff, Nat.reduceBEq, Nat.reduceBneDiff, Int.reduceToNat, Int.reduceEq, Int.reduceLE, Int.reduceLT, reduceCtorEq, oGdiskDisk, hq_n0, hr_n0, hn1d, hm1d, hu1n0, hw1n0]
              repeat (with_reducible refine And.intro ?_ ?_; next => first | assumption | trivial | omega | decide | (constructor <;> first | assumption | omega) | (simp [Keep.ok, hp_cons_apply, hset_cons, oGdiskDisk, hq_n0, hr_n0, hn1d, hm1d, hu1n0, hw1n0]; done))
              refine hk _ _ _ ?_
              refine xghost (D := []) ?_ ?_ ?_ ?_
              ·exact (.cons (Sub.of_eq rfl) .nil)
              ·exact HpW.refl
              ·exact (by intro p hp; cases hp)
              ·omega
          ·try simp (maxSteps := 4000000) only [go_sem, Prod.mk.injEq, reduceIte, Nat.reduceEqDiff, Nat.reduceAdd, Nat.reduceSub, Nat.reduceMul, Nat.reduceDiv, Nat.reducePow, Nat.reduceLT, Nat.reduceLeDiff, Nat.reduceBEq, Nat.reduceBneDiff, Int.reduceToNat, Int.reduceEq, Int.reduceLE, Int.reduceLT, reduceCtorEq, oGdiskDisk, hq_n0, hr_n0, hn1d, hm1d, hu1n0, hw1n0]
           repeat (with_reducible refine And.intro ?_ ?_; next => first | assumption | trivial | omega | decide | (constructor <;> first | assumption | omega) | (simp [Keep.ok, hp_cons_apply, hset_cons, oGdiskDisk, hq_n0, hr_n0, hn1d, hm1d, hu1n0, hw1n0]; done))
           refine hk _ _ _ ?_
           refine xghost (D := []) ?_ ?_ ?_ ?_
           ·exact (.cons (Sub.of_eq rfl) (.cons (Sub.of_eq rfl) (.cons (Sub.of_eq rfl) (.cons (Sub.of_eq rfl) (.cons (Sub.of_eq rfl) .nil)))))
           ·exact HpW.refl
           ·exact (by intro p hp; cases hp)
           ·omega
         ·refine xghost (D := []) ?_ ?_ ?_ ?_
          ·exact (.cons (Sub.of_eq rfl) (.cons (Sub.of_eq rfl) (.cons (Sub.of_eq rfl) (.cons (Sub.of_eq rfl) .nil))))
          ·exact HpW.refl
          ·exact (by intro p hp; cases hp)
          ·omega
        ·try simp (maxSteps := 4000000) only [go_sem, Prod.mk.injEq, reduceIte, Nat.reduceEqDiff, Nat.reduceAdd, Nat.reduceSub, Nat.reduceMul, Nat.reduceDiv, Nat.reducePow, Nat.reduceLT, Nat.reduceLeDiff, Nat.reduceBEq, Nat.reduceBneDiff, Int.reduceToNat, Int.reduceEq, Int.reduceLE, Int.reduceLT, reduceCtorEq, oGdiskDisk, hq_n0, hr_n0]
         repeat (with_reducible refine And.intro ?_ ?_; next => first | assumption | trivial | omega | decide | (constructor <;> first | assumption | omega) | (simp [Keep.ok, hp_cons_apply, hset_cons, oGdiskDisk, hq_n0, hr_n0]; done))
         refine hk _ _ _ ?_
         refine xghost (D := []) ?_ ?_ ?_ ?_
         ·exact (.cons (Sub.of_eq rfl) (.cons (Sub.of_eq rfl) (.cons (Sub.of_eq rfl) (.cons (Sub.of_eq rfl) .nil))))
         ·exact HpW.refl
         ·exact (by intro p hp; cases hp)
         ·omega
       ·refine xseq [(0, .ptr n0 0), (1, eS (lI .i64) list), (18, .lit (.bool ((list.length : Int) == 0)))] (hp [(n0, .box [.lit (.int .i64 v_1.2.power), eO (lI .u8) v_1.2.areas.x0.data, .lit (.int .i64 v_1.2.areas.x0.safe), eO (lI .u8) v_1.2.areas.x1.data, .lit (.int .i64 v_1.2.areas.x1.safe)])] S) 0 ?_ (fun k kp hk => ?_)
        ·refine xcond ((list.length : Int) == 0) rfl (fun hc_2 => ?_) (fun hc_2 => ?_)
         ·rw [ite_t hc_2] at h
          refine xreg [(0, .ptr n0 0), (1, eS (lI .i64) ([0, 1]))] (hp [(n0, .box [.lit (.int .i64 v_1.2.power), eO (lI .u8) v_1.2.areas.x0.data, .lit (.int .i64 v_1.2.areas.x0.safe), eO (lI .u8) v_1.2.areas.x1.data, .lit (.int .i64 v_1.2.areas.x1.safe)])] S) 0 ?_ (fun k kp hk => ?_)
          ·exact hj_1 ([0, 1]) h
          ·try simp (maxSteps := 4000000) only [go_sem, Prod.mk.injEq, reduceIte, Nat.reduceEqDiff, Nat.reduceAdd, Nat.reduceSub, Nat.reduceMul, Nat.reduceDiv, Nat.reducePow, Nat.reduceLT, Nat.reduceLeDiff, Nat.reduceBEq, Nat.reduceBneDiff, Int.reduceToNat, Int.reduceEq, Int.reduceLE, Int.reduceLT, reduceCtorEq, oGdiskDisk, hq_n0, hr_n0]
           repeat (with_reducible refine And.intro ?_ ?_; next => first | assumption | trivial | omega | decide | (constructor <;> first | assumption | omega) | (simp [Keep.ok, hp_cons_apply, hset_cons, oGdiskDisk, hq_n0, hr_n0]; done))
           refine hk _ _ _ ?_
           refine xghost (D := []) ?_ ?_ ?_ ?_
           ·exact (.cons (Sub.of_eq rfl) (.cons (Sub.young (L := (lI .i64)) (xs := ([0, 1]))) .nil))
           ·exact HpW.refl
           ·exact (by intro p hp; cases hp)
           ·omega
         ·rw [ite_f hc_2] at h
          refine LW_skipX (sl' := [(0, .ptr n0 0), (1, eS (lI .i64) list)]) (S' := (hp [(n0, .box [.lit (.int .i64 v_1.2.power), eO (lI .u8) v_1.2.areas.x0.data, .lit (.int .i64 v_1.2.areas.x0.safe), eO (lI .u8) v_1.2.areas.x1.data, .lit (.int .i64 v_1.2.areas.x1.safe)])] S)) (c' := 0) ?_ ?_
          ·refine xghost (D := []) ?_ ?_ ?_ ?_
           ·exact (.cons (Sub.of_eq rfl) (.cons (Sub.of_eq rfl) .nil))
           ·exact HpW.refl
           ·exact (by intro p hp; cases hp)
           ·omega
          ·exact hj_1 list h
        ·try simp (maxSteps := 4000000) only [go_sem, Prod.mk.injEq, reduceIte, Nat.reduceEqDiff, Nat.reduceAdd, Nat.reduceSub, Nat.reduceMul, Nat.reduceDiv, Nat.reducePow, Nat.reduceLT, Nat.reduceLeDiff, Nat.reduceBEq, Nat.reduceBneDiff, Int.reduceToNat, Int.reduceEq, Int.reduceLE, Int.reduceLT, reduceCtorEq, oGdiskDisk, hq_n0, hr_n0]
         repeat (with_reducible refine And.intro ?_ ?_; next => first | assumption | trivial | omega | decide | (constructor <;> first | assumption | omega) | (simp [Keep.ok, hp_cons_apply, hset_cons, oGdiskDisk, hq_n0, hr_n0]; done))
         refine hk _ _ _ ?_
         refine xghost (D := []) ?_ ?_ ?_ ?_
         ·exact (.cons (Sub.of_eq rfl) (.cons (Sub.of_eq rfl) (.cons (Sub.of_eq rfl) .nil)))
         ·exact HpW.refl
         ·exact (by intro p hp; cases hp)
         ·omega
     ·try simp (maxSteps := 4000000) only [go_sem, Prod.mk.injEq, reduceIte, Nat.reduceEqDiff, Nat.reduceAdd, Nat.reduceSub, Nat.reduceMul, Nat.reduceDiv, Nat.reducePow, Nat.reduceLT, Nat.reduceLeDiff, Nat.reduceBEq, Nat.reduceBneDiff, Int.reduceToNat, Int.reduceEq, Int.reduceLE, Int.reduceLT, reduceCtorEq, oGdiskDisk, hq_n0, hr_n0]
      repeat (with_reducible refine And.intro ?_ ?_; next => first | assumption | trivial | omega | decide | (constructor <;> first | assumption | omega) | (simp [Keep.ok, hp_cons_apply, hset_cons, oGdiskDisk, hq_n0, hr_n0]; done))
      refine hk _ _ _ ?_
      refine xghost (D := []) ?_ ?_ ?_ ?_
      ·exact (.cons (Sub.of_eq rfl) (.cons (Sub.of_eq rfl) (.cons (Sub.of_eq rfl) (.cons (Sub.of_eq rfl) .nil))))
      ·exact HpW.refl
      ·exact (by intro p hp; cases hp)
      ·omega
    ·try simp (maxSteps := 4000000) only [go_sem, Prod.mk.injEq, reduceIte, Nat.reduceEqDiff, Nat.reduceAdd, Nat.reduceSub, Nat.reduceMul, Nat.reduceDiv, Nat.reducePow, Nat.reduceLT, Nat.reduceLeDiff, Nat.reduceBEq, Nat.reduceBneDiff, Int.reduceToNat, Int.reduceEq, Int.reduceLE, Int.reduceLT, reduceCtorEq, oGdiskDisk, hq_n0, hr_n0]
     repeat (with_reducible refine And.intro ?_ ?_; next => first | assumption | trivial | omega | decide | (constructor <;> first | assumption | omega) | (simp [Keep.ok, hp_cons_apply, hset_cons, oGdiskDisk, hq_n0, hr_n0]; done))
     have hcall := s_disk_Disk_draw_ok (n0 := n0) (hS0 := by simp only [hp_cons_apply, hp_nil_apply, reduceIte, Prod.mk.injEq, Nat.reduceEqDiff, and_true, and_false, true_and, false_and, oGdiskDisk, hq_n0, hr_n0] <;> rfl) (hp [(n0, .box [.lit (.int .i64 dx.power), eO (lI .u8) dx.areas.x0.data, .lit (.int .i64 dx.areas.x0.safe), eO (lI .u8) dx.areas.x1.data, .lit (.int .i64 dx.areas.x1.safe)])] S) _ (h := hv_1)
     refine call1_x hcall rfl ?_ ?_
     ·exact (.cons Sub.refl .nil)
     clear hcall
     rintro _ SS ⟨rfl, hSS⟩ -
     rw [hSS]
     clear hSS
     try simp (maxSteps := 4000000) only [go_sem, Prod.mk.injEq, reduceIte, Nat.reduceEqDiff, Nat.reduceAdd, Nat.reduceSub, Nat.reduceMul, Nat.reduceDiv, Nat.reducePow, Nat.reduceLT, Nat.reduceLeDiff, Nat.reduceBEq, Nat.reduceBneDiff, Int.reduceToNat, Int.reduceEq, Int.reduceLE, Int.reduceLT, reduceCtorEq, oGdiskDisk, hq_n0, hr_n0]
     repeat (with_reducible refine And.intro ?_ ?_; next => first | assumption | trivial | omega | decide | (constructor <;> first | assumption | omega) | (simp [Keep.ok, hp_cons_apply, hset_cons, oGdiskDisk, hq_n0, hr_n0]; done))
     refine hk _ _ _ ?_
     refine xghost (D := []) ?_ ?_ ?_ ?_
     ·exact (.cons (Sub.of_eq rfl) (.cons (Sub.of_eq rfl) (.cons (Sub.of_eq rfl) .nil)))
     ·exact HpW.refl
     ·exact (by intro p hp; cases hp)
     ·omega
  ·try simp (maxSteps := 4000000) only [go_sem, Prod.mk.injEq, reduceIte, Nat.reduceEqDiff, Nat.reduceAdd, Nat.reduceSub, Nat.reduceMul, Nat.reduceDiv, Nat.reducePow, Nat.reduceLT, Nat.reduceLeDiff, Nat.reduceBEq, Nat.reduceBneDiff, Int.reduceToNat, Int.reduceEq, Int.reduceLE, Int.reduceLT, reduceCtorEq, oGdiskDisk, hq_n0, hr_n0]
   repeat (with_reducible refine And.intro ?_ ?_; next => first | assumption | trivial | omega | decide | (constructor <;> first | assumption | omega) | (simp [Keep.ok, hp_cons_apply, hset_cons, oGdiskDisk, hq_n0, hr_n0]; done))
   have hcall := s_disk_there_ok (hp [(n0, .box [.lit (.int .i64 dx.power), eO (lI .u8) dx.areas.x0.data, .lit (.int .i64 dx.areas.x0.safe), eO (lI .u8) dx.areas.x1.data, .lit (.int .i64 dx.areas.x1.safe)])] S) list hv
   refine call1_x hcall rfl ?_ ?_
   ·exact (.cons Sub.refl .nil)
   clear hcall
   rintro _ SS ⟨rfl, hSS⟩ -
   rw [hSS]
   clear hSS
   try simp (maxSteps := 4000000) only [go_sem, Prod.mk.injEq, reduceIte, Nat.reduceEqDiff, Nat.reduceAdd, Nat.reduceSub, Nat.reduceMul, Nat.reduceDiv, Nat.reducePow, Nat.reduceLT, Nat.reduceLeDiff, Nat.reduceBEq, Nat.reduceBneDiff, Int.reduceToNat, Int.reduceEq, Int.reduceLE, Int.reduceLT, reduceCtorEq, oGdiskDisk, hq_n0, hr_n0]
   repeat (with_reducible refine And.intro ?_ ?_; next => first | assumption | trivial | omega | decide | (constructor <;> first | assumption | omega) | (simp [Keep.ok, hp_cons_apply, hset_cons, oGdiskDisk, hq_n0, hr_n0]; done))
   refine hk _ _ _ ?_
   refine xghost (D := []) ?_ ?_ ?_ ?_
   ·exact (.cons (Sub.of_eq rfl) (.cons (Sub.of_eq rfl) (.cons (Sub.of_eq rfl) .nil)))
   ·exact HpW.refl
   ·exact (by intro p hp; cases hp)
   ·omega
 ·try simp (maxSteps := 4000000) only [go_sem, Prod.mk.injEq, reduceIte, Nat.reduceEqDiff, Nat.reduceAdd, Nat.reduceSub, Nat.reduceMul, Nat.reduceDiv, Nat.reducePow, Nat.reduceLT, Nat.reduceLeDiff, Nat.reduceBEq, Nat.reduceBneDiff, Int.reduceToNat, Int.reduceEq, Int.reduceLE, Int.reduceLT, reduceCtorEq, oGdiskDisk, hq_n0, hr_n0]
  repeat (with_reducible refine And.intro ?_ ?_; next => first | assumption | trivial | omega | decide | (constructor <;> first | assumption | omega) | (simp [Keep.ok, hp_cons_apply, hset_cons, oGdiskDisk, hq_n0, hr_n0]; done))
  refine hk _ _ _ ?_
  refine xghost (D := []) ?_ ?_ ?_ ?_
  ·exact (.cons (Sub.of_eq rfl) (.cons (Sub.of_eq rfl) .nil))
  ·exact HpW.refl
  ·exact (by intro p hp; cases hp)
  ·omega
/-! stanchion/stanchionlaw04.alive -/
def s_stanchionlaw04_alive  : Option Bool :=
 bd (s_disk_New (-1)) fun (v : GdiskDisk) => bd (s_disk_Disk_Append v 1 ([[97, 98], [99]])) fun (v_1 : Int × GdiskDisk) => bd (if (!(v_1.1 != 0)) = true then s_disk_Disk_Sync v_1.2 [] else some (0, v_1.2)) fun (v_2 : Int × GdiskDisk) => bd (if (!((v_1.1 != 0) || (v_2.1 != 0))) = true then s_disk_Disk_Append v_2.2 1 ([[100, 101]]) else some (0, v_2.2)) fun (v_3 : Int × GdiskDisk) => if (((v_1.1 != 0) || (v_2.1 != 0)) || (v_3.1 != 0)) = true then some false else bd (s_disk_Disk_Crash v_3.2 ([9, 1]) (-1)) fun (v_4 : GdiskDisk) => bd (s_disk_Disk_Read v_4 1) fun (v_5 : List Int × Int) => some ((v_5.2 == 0) && ((strOfNums v_5.1).toList == (⟨#[97, 98, 99, 100]⟩ : ByteArray).toList))
theorem s_stanchionlaw04_alive_ok (S : AHeap)  {r : Bool} (h : s_stanchionlaw04_alive  = some r) :
  AC Try.prog n_stanchionlaw04_alive [] S fun r' S' => r' = .ret (.lit (.bool r)) ∧ S' = S := by
 refine AC_of tok mixed fits_stanchionlaw04_alive fun d hd => ?_
 unfold c_stanchionlaw04_alive
 show LW _ _ _ _ [] (hp [] S) 0 _
 rw [s_stanchionlaw04_alive] at h
 refine xseq [] (hp [] S) 0 ?_ (fun k kp hk => ?_)
 ·obtain ⟨v, hv, h⟩ := bd_some h
  refine xseq [(1, .ptr (d, 0) 0)] (hp [((d, 0), oGdiskDisk v)] S) 1 ?_ (fun k kp hk => ?_)
  ·refine LW_seq ?_
   obtain ⟨v_1, hv_1, h⟩ := bd_some h
   obtain ⟨v_2, hv_2, h⟩ := bd_some h
   obtain ⟨v_3, hv_3, h⟩ := bd_some h
   refine xseq [(1, .ptr (d, 0) 0), (30, .lit (.bool (((v_1.1 != 0) || (v_2.1 != 0)) || (v_3.1 != 0))))] (hp [((d, 0), oGdiskDisk v_3.2)] S) 1 ?_ (fun k kp hk => ?_)
   ·refine xcond (((v_1.1 != 0) || (v_2.1 != 0)) || (v_3.1 != 0)) rfl (fun hc => ?_) (fun hc => ?_)
    ·rw [ite_t hc] at h
     refine xseq [(0, .lit (.bool false))] (hp [((d, 0), oGdiskDisk v_3.2)] S) 1 ?_ (fun k kp hk => ?_)
     ·refine LW_ret ?_
      obtain rfl := Option.some.inj h
      show FPost _ _ _ _ _ _ _
      exact ⟨_, hp_less (L := []) (D := [((d, 0), oGdiskDisk v_3.2)]) (by intro p hp; simp only [List.mem_cons, List.not_mem_nil, or_false] at hp; rcases hp with rfl <;> first | exact hd _ (Nat.le_refl _)), rfl, rfl⟩
     ·try simp (maxSteps := 4000000) only [go_sem, Prod.mk.injEq, reduceIte, Nat.reduceEqDiff, Nat.reduceAdd, Nat.reduceSub, Nat.reduceMul, Nat.reduceDiv, Nat.reducePow, Nat.reduceLT, Nat.reduceLeDiff, Nat.reduceBEq, Nat.reduceBneDiff, Int.reduceToNat, Int.reduceEq, Int.reduceLE, Int.reduceLT, reduceCtorEq]
      repeat (with_reducible refine And.intro ?_ ?_; next => first | assumption | trivial | omega | decide | (constructor <;> first | assumption | omega) | (simp [Keep.ok, hp_cons_apply, hset_cons]; done))
      refine hk _ _ _ ?_
      refine xghost (D := []) ?_ ?_ ?_ ?_
      ·exact (.cons (Sub.of_eq rfl) .nil)
      ·exact HpW.refl
      ·exact (by intro p hp; cases hp)
      ·omega
    ·rw [ite_f hc] at h
     refine LW_skip ?_
     show LW _ _ _ _ _ _ _ _
     obtain ⟨v_4, hv_4, h⟩ := bd_some h
     refine xseq [(2, .ptr (d, 1) 0)] (hp [((d, 0), oGdiskDisk v_3.2), ((d, 1), oGdiskDisk v_4)] S) 2 ?_ (fun k kp hk => ?_)
     ·refine LW_seq ?_
      refine xseq [(2, .ptr (d, 1) 0), (35, .lit (.bool false))] (hp [((d, 0), oGdiskDisk v_3.2), ((d, 1), oGdiskDisk v_4)] S) 2 ?_ (fun k kp hk => ?_)
      ·refine xcond false rfl (fun h0 => by cases h0) (fun _ => ?_)
       refine LW_skip ?_
       show LW _ _ _ _ _ _ _ _
       obtain ⟨v_5, hv_5, h⟩ := bd_some h
       refine xseq [(3, eS (lI .u8) v_5.1), (4, .lit (.int .i64 v_5.2))] (hp [((d, 0), oGdiskDisk v_3.2), ((d, 1), oGdiskDisk v_4)] S) 2 ?_ (fun k kp hk => ?_)
       ·refine xseq [(0, .lit (.bool ((v_5.2 == 0) && ((strOfNums v_5.1).toList == (⟨#[97, 98, 99, 100]⟩ : ByteArray).toList))))] (hp [((d, 0), oGdiskDisk v_3.2), ((d, 1), oGdiskDisk v_4)] S) 2 ?_ (fun k kp hk => ?_)
        ·refine LW_ret ?_
         obtain rfl := Option.some.inj h
         show FPost _ _ _ _ _ _ _
         exact ⟨_, hp_less (L := []) (D := [((d, 0), oGdiskDisk v_3.2), ((d, 1), oGdiskDisk v_4)]) (by intro p hp; simp only [List.mem_cons, List.not_mem_nil, or_false] at hp; rcases hp with rfl | rfl <;> first | exact hd _ (Nat.le_refl _)), rfl, rfl⟩
        ·try simp (maxSteps := 4000000) only [go_sem, Prod.mk.injEq, reduceIte, Nat.reduceEqDiff, Nat.reduceAdd, Nat.reduceSub, Nat.reduceMul, Nat.reduceDiv, Nat.reducePow, Nat.reduceLT, Nat.reduceLeDiff, Nat.reduceBEq, Nat.reduceBneDiff, Int.reduceToNat, Int.reduceEq, Int.reduceLE, Int.reduceLT, reduceCtorEq]
         repeat (with_reducible refine And.intro ?_ ?_; next => first | assumption | trivial | omega | decide | (constructor <;> first | assumption | omega) | (simp [Keep.ok, hp_cons_apply, hset_cons]; done))
         refine xo_guard (v_5.2 == 0) rfl (fun hc_1 => ?_) (fun hc_1 => ?_)
         ·try simp (maxSteps := 4000000) only [go_sem, Prod.mk.injEq, reduceIte, Nat.reduceEqDiff, Nat.reduceAdd, Nat.reduceSub, Nat.reduceMul, Nat.reduceDiv, Nat.reducePow, Nat.reduceLT, Nat.reduceLeDiff, Nat.reduceBEq, Nat.reduceBneDiff, Int.reduceToNat, Int.reduceEq, Int.reduceLE, Int.reduceLT, reduceCtorEq, hc_1]
          repeat (with_reducible refine And.intro ?_ ?_; next => first | assumption | trivial | omega | decide | (constructor <;> first | assumption | omega) | (simp [Keep.ok, hp_cons_apply, hset_cons]; done))
          refine hk _ _ _ ?_
          refine xghost (D := []) ?_ ?_ ?_ ?_
          ·exact (.cons (Sub.of_eq (by first | rfl | (simp only [sget_cons, reduceIte, Nat.reduceEqDiff, Bool.and_true, Bool.true_and, Bool.and_false, Bool.false_and, Bool.or_true, Bool.true_or, Bool.or_false, Bool.false_or, Bool.not_true, Bool.not_false, Bool.not_not, hc_1]; done))) .nil)
          ·exact HpW.refl
          ·exact (by intro p hp; cases hp)
          ·omega
         ·try simp (maxSteps := 4000000) only [go_sem, Prod.mk.injEq, reduceIte, Nat.reduceEqDiff, Nat.reduceAdd, Nat.reduceSub, Nat.reduceMul, Nat.reduceDiv, Nat.reducePow, Nat.reduceLT, Nat.reduceLeDiff, Nat.reduceBEq, Nat.reduceBneDiff, Int.reduceToNat, Int.reduceEq, Int.reduceLE, Int.reduceLT, reduceCtorEq, hc_1]
          repeat (with_reducible refine And.intro ?_ ?_; next => first | assumption | trivial | omega | decide | (constructor <;> first | assumption | omega) | (simp [Keep.ok, hp_cons_apply, hset_cons]; done))
          refine hk _ _ _ ?_
          refine xghost (D := []) ?_ ?_ ?_ ?_
          ·exact (.cons (Sub.of_eq (by first | rfl | (simp only [sget_cons, reduceIte, Nat.reduceEqDiff, Bool.and_true, Bool.true_and, Bool.and_false, Bool.false_and, Bool.or_true, Bool.true_or, Bool.or_false, Bool.false_or, Bool.not_true, Bool.not_false, Bool.not_not, hc_1]; done))) .nil)
          ·exact HpW.refl
          ·exact (by intro p hp; cases hp)
          ·omega
       ·try simp (maxSteps := 4000000) only [go_sem, Prod.mk.injEq, reduceIte, Nat.reduceEqDiff, Nat.reduceAdd, Nat.reduceSub, Nat.reduceMul, Nat.reduceDiv, Nat.reducePow, Nat.reduceLT, Nat.reduceLeDiff, Nat.reduceBEq, Nat.reduceBneDiff, Int.reduceToNat, Int.reduceEq, Int.reduceLE, Int.reduceLT, reduceCtorEq]
        repeat (with_reducible refine And.intro ?_ ?_; next => first | assumption | trivial | omega | decide | (constructor <;> first | assumption | omega) | (simp [Keep.ok, hp_cons_apply, hset_cons]; done))
        have hcall := s_disk_Disk_Read_ok (n0 := (d, 1)) (hS0 := by simp only [hp_cons_apply, hp_nil_apply, reduceIte, Prod.mk.injEq, Nat.reduceEqDiff, and_true, and_false, true_and, false_and] <;> rfl) (hp [((d, 0), oGdiskDisk v_3.2), ((d, 1), oGdiskDisk v_4)] S) _ 1 (h := hv_5)
        refine call1_x hcall rfl ?_ ?_
        ·exact (.cons Sub.refl (.cons Sub.refl .nil))
        clear hcall
        rintro _ SS ⟨rfl, hSS⟩ -
        rw [hSS]
        clear hSS
        try simp (maxSteps := 4000000) only [go_sem, Prod.mk.injEq, reduceIte, Nat.reduceEqDiff, Nat.reduceAdd, Nat.reduceSub, Nat.reduceMul, Nat.reduceDiv, Nat.reducePow, Nat.reduceLT, Nat.reduceLeDiff, Nat.reduceBEq, Nat.reduceBneDiff, Int.reduceToNat, Int.reduceEq, Int.reduceLE, Int.reduceLT, reduceCtorEq]
        repeat (with_reducible refine And.intro ?_ ?_; next => first | assumption | trivial | omega | decide | (constructor <;> first | assumption | omega) | (simp [Keep.ok, hp_cons_apply, hset_cons]; done))
        refine hk _ _ _ ?_
        refine xghost (D := []) ?_ ?_ ?_ ?_
        ·exact (.cons (Sub.of_eq rfl) (.cons (Sub.of_eq rfl) .nil))
        ·exact HpW.refl
        ·exact (by intro p hp; cases hp)
        ·omega
      ·try simp (maxSteps := 4000000) only [go_sem, Prod.mk.injEq, reduceIte, Nat.reduceEqDiff, Nat.reduceAdd, Nat.reduceSub, Nat.reduceMul, Nat.reduceDiv, Nat.reducePow, Nat.reduceLT, Nat.reduceLeDiff, Nat.reduceBEq, Nat.reduceBneDiff, Int.reduceToNat, Int.reduceEq, Int.reduceLE, Int.reduceLT, reduceCtorEq]
       repeat (with_reducible refine And.intro ?_ ?_; next => first | assumption | trivial | omega | decide | (constructor <;> first | assumption | omega) | (simp [Keep.ok, hp_cons_apply, hset_cons]; done))
       refine hk _ _ _ ?_
       refine xghost (D := []) ?_ ?_ ?_ ?_
       ·exact (.cons (Sub.of_eq rfl) (.cons (Sub.of_eq rfl) .nil))
       ·exact HpW.refl
       ·exact (by intro p hp; cases hp)
       ·omega
     ·try simp (maxSteps := 4000000) only [go_sem, Prod.mk.injEq, reduceIte, Nat.reduceEqDiff, Nat.reduceAdd, Nat.reduceSub, Nat.reduceMul, Nat.reduceDiv, Nat.reducePow, Nat.reduceLT, Nat.reduceLeDiff, Nat.reduceBEq, Nat.reduceBneDiff, Int.reduceToNat, Int.reduceEq, Int.reduceLE, Int.reduceLT, reduceCtorEq]
      repeat (with_reducible refine And.intro ?_ ?_; next => first | assumption | trivial | omega | decide | (constructor <;> first | assumption | omega) | (simp [Keep.ok, hp_cons_apply, hset_cons]; done))
      have hcall := s_disk_Disk_Crash_ok (n0 := (d, 0)) (hS0 := by simp only [hp_cons_apply, hp_nil_apply, reduceIte, Prod.mk.injEq, Nat.reduceEqDiff, and_true, and_false, true_and, false_and] <;> rfl) (hp [((d, 0), oGdiskDisk v_3.2)] S) _ ([9, 1]) (-1) (h := hv_4)
      refine call1_new hcall rfl rfl ?_ ?_
      ·exact (.cons Sub.refl (.cons (Sub.young (L := (lI .i64)) (xs := [9, 1])) (.cons Sub.refl .nil)))
      clear hcall
      try simp (maxSteps := 4000000) only [go_sem, Prod.mk.injEq, reduceIte, Nat.reduceEqDiff, Nat.reduceAdd, Nat.reduceSub, Nat.reduceMul, Nat.reduceDiv, Nat.reducePow, Nat.reduceLT, Nat.reduceLeDiff, Nat.reduceBEq, Nat.reduceBneDiff, Int.reduceToNat, Int.reduceEq, Int.reduceLE, Int.reduceLT, reduceCtorEq]
      repeat (with_reducible refine And.intro ?_ ?_; next => first | assumption | trivial | omega | decide | (constructor <;> first | assumption | omega) | (simp [Keep.ok, hp_cons_apply, hset_cons]; done))
      refine hk _ _ _ ?_
      refine xghost (D := []) ?_ ?_ ?_ ?_
      ·exact (.cons (Sub.of_eq rfl) .nil)
      ·exact HpW.refl
      ·exact (by intro p hp; cases hp)
      ·omega
   ·try simp (maxSteps := 4000000) only [go_sem, Prod.mk.injEq, reduceIte, Nat.reduceEqDiff, Nat.reduceAdd, Nat.reduceSub, Nat.reduceMul, Nat.reduceDiv, Nat.reducePow, Nat.reduceLT, Nat.reduceLeDiff, Nat.reduceBEq, Nat.reduceBneDiff, Int.reduceToNat, Int.reduceEq, Int.reduceLE, Int.reduceLT, reduceCtorEq]
    repeat (with_reducible refine And.intro ?_ ?_; next => first | assumption | trivial | omega | decide | (constructor <;> first | assumption | omega) | (simp [Keep.ok, hp_cons_apply, hset_cons]; done))
    have hcall := s_disk_Disk_Append_ok (n0 := (d, 0)) (hS0 := by simp only [hp_cons_apply, hp_nil_apply, reduceIte, Prod.mk.injEq, Nat.reduceEqDiff, and_true, and_false, true_and, false_and] <;> rfl) (hp [((d, 0), oGdiskDisk v)] S) _ 1 ([[97, 98], [99]]) (h := hv_1)
    refine call1_x hcall rfl ?_ ?_
    ·exact (.cons Sub.refl (.cons Sub.refl (.cons (Sub.youngL (L := (lS (lI .u8))) (xs := [[97, 98], [99]]) rfl (.cons (Sub.young (L := (lI .u8)) (xs := [97, 98])) (.cons (Sub.young (L := (lI .u8)) (xs := [99])) .nil))) .nil)))
    clear hcall
    rintro _ SS ⟨rfl, hSS⟩ -
    rw [hSS]
    clear hSS
    try simp (maxSteps := 4000000) only [go_sem, Prod.mk.injEq, reduceIte, Nat.reduceEqDiff, Nat.reduceAdd, Nat.reduceSub, Nat.reduceMul, Nat.reduceDiv, Nat.reducePow, Nat.reduceLT, Nat.reduceLeDiff, Nat.reduceBEq, Nat.reduceBneDiff, Int.reduceToNat, Int.reduceEq, Int.reduceLE, Int.reduceLT, reduceCtorEq]
    repeat (with_reducible refine And.intro ?_ ?_; next => first | assumption | trivial | omega | decide | (constructor <;> first | assumption | omega) | (simp [Keep.ok, hp_cons_apply, hset_cons]; done))
    refine xo_guard (v_1.1 != 0) rfl (fun hc_2 => ?_) (fun hc_2 => ?_)
    ·try simp (maxSteps := 4000000) only [go_sem, Prod.mk.injEq, reduceIte, Nat.reduceEqDiff, Nat.reduceAdd, Nat.reduceSub, Nat.reduceMul, Nat.reduceDiv, Nat.reducePow, Nat.reduceLT, Nat.reduceLeDiff, Nat.reduceBEq, Nat.reduceBneDiff, Int.reduceToNat, Int.reduceEq, Int.reduceLE, Int.reduceLT, reduceCtorEq, hc_2]
     repeat (with_reducible refine And.intro ?_ ?_; next => first | assumption | trivial | omega | decide | (constructor <;> first | assumption | omega) | (simp [Keep.ok, hp_cons_apply, hset_cons]; done))
     rw [if_pos (by simp only [Bool.and_true, Bool.true_and, Bool.and_false, Bool.false_and, Bool.or_true, Bool.true_or, Bool.or_false, Bool.false_or, Bool.not_true, Bool.not_false, Bool.not_not, hc_2])] at hv_2
     have hcall := s_disk_Disk_Sync_ok (n0 := (d, 0)) (hS0 := by simp only [hp_cons_apply, hp_nil_apply, reduceIte, Prod.mk.injEq, Nat.reduceEqDiff, and_true, and_false, true_and, false_and] <;> rfl) (hp [((d, 0), oGdiskDisk v_1.2)] S) _ [] (h := hv_2)
     refine call1_x hcall rfl ?_ ?_
     ·exact (.cons Sub.refl (.cons Sub.nil .nil))
     clear hcall
     rintro _ SS ⟨rfl, hSS⟩ -
     rw [hSS]
     clear hSS
     try simp (maxSteps := 4000000) only [go_sem, Prod.mk.injEq, reduceIte, Nat.reduceEqDiff, Nat.reduceAdd, Nat.reduceSub, Nat.reduceMul, Nat.reduceDiv, Nat.reducePow, Nat.reduceLT, Nat.reduceLeDiff, Nat.reduceBEq, Nat.reduceBneDiff, Int.reduceToNat, Int.reduceEq, Int.reduceLE, Int.reduceLT, reduceCtorEq, hc_2]
     repeat (with_reducible refine And.intro ?_ ?_; next => first | assumption | trivial | omega | decide | (constructor <;> first | assumption | omega) | (simp [Keep.ok, hp_cons_apply, hset_cons]; done))
     refine xo_guard (v_2.1 != 0) rfl (fun hc_3 => ?_) (fun hc_3 => ?_)
     ·try simp (maxSteps := 4000000) only [go_sem, Prod.mk.injEq, reduceIte, Nat.reduceEqDiff, Nat.reduceAdd, Nat.reduceSub, Nat.reduceMul, Nat.reduceDiv, Nat.reducePow, Nat.reduceLT, Nat.reduceLeDiff, Nat.reduceBEq, Nat.reduceBneDiff, Int.reduceToNat, Int.reduceEq, Int.reduceLE, Int.reduceLT, reduceCtorEq, hc_2, hc_3]
      repeat (with_reducible refine And.intro ?_ ?_; next => first | assumption | trivial | omega | decide | (constructor <;> first | assumption | omega) | (simp [Keep.ok, hp_cons_apply, hset_cons]; done))
      rw [if_pos (by simp only [Bool.and_true, Bool.true_and, Bool.and_false, Bool.false_and, Bool.or_true, Bool.true_or, Bool.or_false, Bool.false_or, Bool.not_true, Bool.not_false, Bool.not_not, hc_2, hc_3])] at hv_3
      have hcall := s_disk_Disk_Append_ok (n0 := (d, 0)) (hS0 := by simp only [hp_cons_apply, hp_nil_apply, reduceIte, Prod.mk.injEq, Nat.reduceEqDiff, and_true, and_false, true_and, false_and] <;> rfl) (hp [((d, 0), oGdiskDisk v_2.2)] S) _ 1 ([[100, 101]]) (h := hv_3)
      refine call1_x hcall rfl ?_ ?_
      ·exact (.cons Sub.refl (.cons Sub.refl (.cons (Sub.youngL (L := (lS (lI .u8))) (xs := [[100, 101]]) rfl (.cons (Sub.young (L := (lI .u8)) (xs := [100, 101])) .nil)) .nil)))
      clear hcall
      rintro _ SS ⟨rfl, hSS⟩ -
      rw [hSS]
      clear hSS
      try simp (maxSteps := 4000000) only [go_sem, Prod.mk.injEq, reduceIte, Nat.reduceEqDiff, Nat.reduceAdd, Nat.reduceSub, Nat.reduceMul, Nat.reduceDiv, Nat.reducePow, Nat.reduceLT, Nat.reduceLeDiff, Nat.reduceBEq, Nat.reduceBneDiff, Int.reduceToNat, Int.reduceEq, Int.reduceLE, Int.reduceLT, reduceCtorEq, hc_2, hc_3]
      repeat (with_reducible refine And.intro ?_ ?_; next => first | assumption | trivial | omega | decide | (constructor <;> first | assumption | omega) | (simp [Keep.ok, hp_cons_apply, hset_cons]; done))
      refine hk _ _ _ ?_
      refine xghost (D := []) ?_ ?_ ?_ ?_
      ·exact (.cons (Sub.of_eq rfl) (.cons (Sub.of_eq (by first | rfl | (simp only [sget_cons, reduceIte, Nat.reduceEqDiff, Bool.and_true, Bool.true_and, Bool.and_false, Bool.false_and, Bool.or_true, Bool.true_or, Bool.or_false, Bool.false_or, Bool.not_true, Bool.not_false, Bool.not_not, hc_2, hc_3]; done))) .nil))
      ·exact HpW.refl
      ·exact (by intro p hp; cases hp)
      ·omega
     ·have hve_v_3 : v_3 = _ := (Option.some.inj ((if_neg (by simp only [Bool.and_true, Bool.true_and, Bool.and_false, Bool.false_and, Bool.or_true, Bool.true_or, Bool.or_false, Bool.false_or, Bool.not_true, Bool.not_false, Bool.not_not, hc_2, hc_3]; decide)).symm.trans hv_3)).symm
      try simp (maxSteps := 4000000) only [go_sem, Prod.mk.injEq, reduceIte, Nat.reduceEqDiff, Nat.reduceAdd, Nat.reduceSub, Nat.reduceMul, Nat.reduceDiv, Nat.reducePow, Nat.reduceLT, Nat.reduceLeDiff, Nat.reduceBEq, Nat.reduceBneDiff, Int.reduceToNat, Int.reduceEq, Int.reduceLE, Int.reduceLT, reduceCtorEq, hc_2, hc_3]
      repeat (with_reducible refine And.intro ?_ ?_; next => first | assumption | trivial | omega | decide | (constructor <;> first | assumption | omega) | (simp [Keep.ok, hp_cons_apply, hset_cons]; done))
      refine hk _ _ _ ?_
      refine xghost (D := []) ?_ ?_ ?_ ?_
      ·exact (.cons (Sub.of_eq rfl) (.cons (Sub.of_eq (by first | rfl | (simp only [sget_cons, reduceIte, Nat.reduceEqDiff, Bool.and_true, Bool.true_and, Bool.and_false, Bool.false_and, Bool.or_true, Bool.true_or, Bool.or_false, Bool.false_or, Bool.not_true, Bool.not_false, Bool.not_not, hc_2, hc_3]; done))) .nil))
      ·exact (.cons (OSub.of (by first | rfl | (simp only [hve_v_3]; done))) .nil)
      ·exact (by intro p hp; cases hp)
      ·omega
    ·have hve_v_2 : v_2 = _ := (Option.some.inj ((if_neg (by simp only [Bool.and_true, Bool.true_and, Bool.and_false, Bool.false_and, Bool.or_true, Bool.true_or, Bool.or_false, Bool.false_or, Bool.not_true, Bool.not_false, Bool.not_not, hc_2]; decide)).symm.trans hv_2)).symm
     have hve_v_3 : v_3 = _ := (Option.some.inj ((if_neg (by simp only [Bool.and_true, Bool.true_and, Bool.and_false, Bool.false_and, Bool.or_true, Bool.true_or, Bool.or_false, Bool.false_or, Bool.not_true, Bool.not_false, Bool.not_not, hc_2]; decide)).symm.trans hv_3)).symm
     try simp (maxSteps := 4000000) only [go_sem, Prod.mk.injEq, reduceIte, Nat.reduceEqDiff, Nat.reduceAdd, Nat.reduceSub, Nat.reduceMul, Nat.reduceDiv, Nat.reducePow, Nat.reduceLT, Nat.reduceLeDiff, Nat.reduceBEq, Nat.reduceBneDiff, Int.reduceToNat, Int.reduceEq, Int.reduceLE, Int.reduceLT, reduceCtorEq, hc_2]
     repeat (with_reducible refine And.intro ?_ ?_; next => first | assumption | trivial | omega | decide | (constructor <;> first | assumption | omega) | (simp [Keep.ok, hp_cons_apply, hset_cons]; done))
     refine hk _ _ _ ?_
     refine xghost (D := []) ?_ ?_ ?_ ?_
     ·exact (.cons (Sub.of_eq rfl) (.cons (Sub.of_eq (by first | rfl | (simp only [sget_cons, reduceIte, Nat.reduceEqDiff, Bool.and_true, Bool.true_and, Bool.and_false, Bool.false_and, Bool.or_true, Bool.true_or, Bool.or_false, Bool.false_or, Bool.not_true, Bool.not_false, Bool.not_not, hc_2]; done))) .nil))
     ·exact (.cons (OSub.of (by first | rfl | (simp only [hve_v_2, hve_v_3]; done))) .nil)
     ·exact (by intro p hp; cases hp)
     ·omega
  ·try simp (maxSteps := 4000000) only [go_sem, Prod.mk.injEq, reduceIte, Nat.reduceEqDiff, Nat.reduceAdd, Nat.reduceSub, Nat.reduceMul, Nat.reduceDiv, Nat.reducePow, Nat.reduceLT, Nat.reduceLeDiff, Nat.reduceBEq, Nat.reduceBneDiff, Int.reduceToNat, Int.reduceEq, Int.reduceLE, Int.reduceLT, reduceCtorEq]
   repeat (with_reducible refine And.intro ?_ ?_; next => first | assumption | trivial | omega | decide | (constructor <;> first | assumption | omega) | (simp [Keep.ok, hp_cons_apply, hset_cons]; done))
   have hcall := s_disk_New_ok (hp [] S) (-1) hv
   refine call1_new hcall rfl rfl ?_ ?_
   ·exact (.cons Sub.refl .nil)
   clear hcall
   try simp (maxSteps := 4000000) only [go_sem, Prod.mk.injEq, reduceIte, Nat.reduceEqDiff, Nat.reduceAdd, Nat.reduceSub, Nat.reduceMul, Nat.reduceDiv, Nat.reducePow, Nat.reduceLT, Nat.reduceLeDiff, Nat.reduceBEq, Nat.reduceBneDiff, Int.reduceToNat, Int.reduceEq, Int.reduceLE, Int.reduceLT, reduceCtorEq]
   repeat (with_reducible refine And.intro ?_ ?_; next => first | assumption | trivial | omega | decide | (constructor <;> first | assumption | omega) | (simp [Keep.ok, hp_cons_apply, hset_cons]; done))
   refine hk _ _ _ ?_
   refine xghost (D := []) ?_ ?_ ?_ ?_
   ·exact (.cons (Sub.of_eq rfl) .nil)
   ·exact HpW.refl
   ·exact (by intro p hp; cases hp)
   ·omega
 ·try simp (maxSteps := 4000000) only [go_sem, Prod.mk.injEq, reduceIte, Nat.reduceEqDiff, Nat.reduceAdd, Nat.reduceSub, Nat.reduceMul, Nat.reduceDiv, Nat.reducePow, Nat.reduceLT, Nat.reduceLeDiff, Nat.reduceBEq, Nat.reduceBneDiff, Int.reduceToNat, Int.reduceEq, Int.reduceLE, Int.reduceLT, reduceCtorEq]
  repeat (with_reducible refine And.intro ?_ ?_; next => first | assumption | trivial | omega | decide | (constructor <;> first | assumption | omega) | (simp [Keep.ok, hp_cons_apply, hset_cons]; done))
  refine hk _ _ _ ?_
  refine xghost (D := []) ?_ ?_ ?_ ?_
  ·exact .nil
  ·exact HpW.refl
  ·exact (by intro p hp; cases hp)
  ·omega
/-! stanchion/stanchionlaw04.cut -/
def s_stanchionlaw04_cut (script : List Glaw04Op) : Option (List Glaw04Op) :=
 if (decide (60 < (script.length : Int))) = true then gd ((0 ≤ 0 ∧ 0 ≤ 60 ∧ Int.toNat 60 ≤ script.length)) (some ((script.take (Int.toNat 60)).drop (Int.toNat 0))) else some script
theorem s_stanchionlaw04_cut_ok (S : AHeap) (script : List Glaw04Op) {r : List Glaw04Op} (h : s_stanchionlaw04_cut script = some r) :
  AC Try.prog n_stanchionlaw04_cut [eS yGlaw04Op script] S fun r' S' => r' = .ret (eS yGlaw04Op r) ∧ S' = S := by
 refine AC_of tok mixed fits_stanchionlaw04_cut fun d hd => ?_
 unfold c_stanchionlaw04_cut
 show LW _ _ _ _ [(0, eS yGlaw04Op script)] (hp [] S) 0 _
 rw [s_stanchionlaw04_cut] at h
 refine xseq [(0, eS yGlaw04Op script)] (hp [] S) 0 ?_ (fun k kp hk => ?_)
 ·refine LW_seq ?_
  refine xseq [(0, eS yGlaw04Op script), (5, .lit (.bool (decide (60 < (script.length : Int)))))] (hp [] S) 0 ?_ (fun k kp hk => ?_)
  ·refine xcond (decide (60 < (script.length : Int))) rfl (fun hc => ?_) (fun hc => ?_)
   ·rw [ite_t hc] at h
    obtain ⟨hg, h⟩ := gd_some h
    refine xseq [(2, eS yGlaw04Op ((script.take (Int.toNat 60)).drop (Int.toNat 0)))] (hp [] S) 0 ?_ (fun k kp hk => ?_)
    ·refine LW_ret ?_
     obtain rfl := Option.some.inj h
     show FPost _ _ _ _ _ _ _
     exact ⟨_, hp_less (L := []) (D := []) (by intro p hp; cases hp), rfl, rfl⟩
    ·try simp (maxSteps := 4000000) only [go_sem, Prod.mk.injEq, reduceIte, Nat.reduceEqDiff, Nat.reduceAdd, Nat.reduceSub, Nat.reduceMul, Nat.reduceDiv, Nat.reducePow, Nat.reduceLT, Nat.reduceLeDiff, Nat.reduceBEq, Nat.reduceBneDiff, Int.reduceToNat, Int.reduceEq, Int.reduceLE, Int.reduceLT, reduceCtorEq]
     repeat (with_reducible refine And.intro ?_ ?_; next => first | assumption | trivial | omega | decide | (constructor <;> first | assumption | omega) | (simp [Keep.ok, hp_cons_apply, hset_cons]; done))
     refine hk _ _ _ ?_
     refine xghost (D := []) ?_ ?_ ?_ ?_
     ·exact (.cons (Sub.of_eq rfl) .nil)
     ·exact HpW.refl
     ·exact (by intro p hp; cases hp)
     ·omega
   ·rw [ite_f hc] at h
    refine LW_skip ?_
    show LW _ _ _ _ _ _ _ _
    refine xseq [(2, eS yGlaw04Op script)] (hp [] S) 0 ?_ (fun k kp hk => ?_)
    ·refine LW_ret ?_
     obtain rfl := Option.some.inj h
     show FPost _ _ _ _ _ _ _
     exact ⟨_, hp_less (L := []) (D := []) (by intro p hp; cases hp), rfl, rfl⟩
    ·try simp (maxSteps := 4000000) only [go_sem, Prod.mk.injEq, reduceIte, Nat.reduceEqDiff, Nat.reduceAdd, Nat.reduceSub, Nat.reduceMul, Nat.reduceDiv, Nat.reducePow, Nat.reduceLT, Nat.reduceLeDiff, Nat.reduceBEq, Nat.reduceBneDiff, Int.reduceToNat, Int.reduceEq, Int.reduceLE, Int.reduceLT, reduceCtorEq]
     repeat (with_reducible refine And.intro ?_ ?_; next => first | assumption | trivial | omega | decide | (constructor <;> first | assumption | omega) | (simp [Keep.ok, hp_cons_apply, hset_cons]; done))
     refine hk _ _ _ ?_
     refine xghost (D := []) ?_ ?_ ?_ ?_
     ·exact (.cons (Sub.of_eq rfl) .nil)
     ·exact HpW.refl
     ·exact (by intro p hp; cases hp)
     ·omega
  ·try simp (maxSteps := 4000000) only [go_sem, Prod.mk.injEq, reduceIte, Nat.reduceEqDiff, Nat.reduceAdd, Nat.reduceSub, Nat.reduceMul, Nat.reduceDiv, Nat.reducePow, Nat.reduceLT, Nat.reduceLeDiff, Nat.reduceBEq, Nat.reduceBneDiff, Int.reduceToNat, Int.reduceEq, Int.reduceLE, Int.reduceLT, reduceCtorEq]
   repeat (with_reducible refine And.intro ?_ ?_; next => first | assumption | trivial | omega | decide | (constructor <;> first | assumption | omega) | (simp [Keep.ok, hp_cons_apply, hset_cons]; done))
   refine hk _ _ _ ?_
   refine xghost (D := []) ?_ ?_ ?_ ?_
   ·exact (.cons (Sub.of_eq rfl) (.cons (Sub.of_eq rfl) .nil))
   ·exact HpW.refl
   ·exact (by intro p hp; cases hp)
   ·omega
 ·try simp (maxSteps := 4000000) only [go_sem, Prod.mk.injEq, reduceIte, Nat.reduceEqDiff, Nat.reduceAdd, Nat.reduceSub, Nat.reduceMul, Nat.reduceDiv, Nat.reducePow, Nat.reduceLT, Nat.reduceLeDiff, Nat.reduceBEq, Nat.reduceBneDiff, Int.reduceToNat, Int.reduceEq, Int.reduceLE, Int.reduceLT, reduceCtorEq]
  repeat (with_reducible refine And.intro ?_ ?_; next => first | assumption | trivial | omega | decide | (constructor <;> first | assumption | omega) | (simp [Keep.ok, hp_cons_apply, hset_cons]; done))
  refine hk _ _ _ ?_
  refine xghost (D := []) ?_ ?_ ?_ ?_
  ·exact (.cons (Sub.of_eq rfl) .nil)
  ·exact HpW.refl
  ·exact (by intro p hp; cases hp)
  ·omega
/-! stanchion/stanchionlaw04.great -/
def s_stanchionlaw04_great_b2 (script : List Glaw04Op) (i : Int) : (Int × Int) → Option ((Int × Int) ⊕ ((Int × Int) ⊕ Bool))
 | (n_1, j) => gd ((0 ≤ i ∧ Int.toNat i < script.length)) (if ((decide (j < (((script.getD (Int.toNat i) yGlaw04Op.dflt).Parts).length : Int))) && (decide (n_1 ≤ 100000))) = true then gd ((0 ≤ i ∧ Int.toNat i < script.length)) (gd ((0 ≤ j ∧ Int.toNat j < ((script.getD (Int.toNat i) yGlaw04Op.dflt).Parts).length)) (some (.inl ((IntKind.i64.wrap (n_1 + (IntKind.i64.wrap (1 + ((((script.getD (Int.toNat i) yGlaw04Op.dflt).Parts).getD (Int.toNat j) []).length : Int))))), (IntKind.i64.wrap (j + 1)))))) else mr (gd ((0 ≤ i ∧ Int.toNat i < script.length)) (some (.inl ((IntKind.i64.wrap (n_1 + (((script.getD (Int.toNat i) yGlaw04Op.dflt).Areas).length : Int))), (IntKind.i64.wrap (i + 1)))))))
def s_stanchionlaw04_great_b1 (script : List Glaw04Op) : (Int × Int) → Option ((Int × Int) ⊕ Bool)
 | (n, i) => if ((decide (i < (script.length : Int))) && (decide (n ≤ 100000))) = true then loop (s_stanchionlaw04_great_b2 script i) (n, 0) else mr (some (decide (5000 < n)))
def s_stanchionlaw04_great (script : List Glaw04Op) : Option Bool :=
 loop (s_stanchionlaw04_great_b1 script) (0, 0)
theorem s_stanchionlaw04_great_ok (S : AHeap) (script : List Glaw04Op) {r : Bool} (h : s_stanchionlaw04_great script = some r) :
  AC Try.prog n_stanchionlaw04_great [eS yGlaw04Op script] S fun r' S' => r' = .ret (.lit (.bool r)) ∧ S' = S := by
 refine AC_of tok mixed fits_stanchionlaw04_great fun d hd => ?_
 unfold c_stanchionlaw04_great
 show LW _ _ _ _ [(0, eS yGlaw04Op script)] (hp [] S) 0 _
 rw [s_stanchionlaw04_great] at h
 refine xseq [(0, eS yGlaw04Op script)] (hp [] S) 0 ?_ (fun k kp hk => ?_)
 ·refine xseq [(0, eS yGlaw04Op script), (3, .lit (.int .i64 0))] (hp [] S) 0 ?_ (fun k kp hk => ?_)
  ·refine LW_seq ?_
   refine xseq [(0, eS yGlaw04Op script), (3, .lit (.int .i64 0)), (4, .lit (.int .i64 0))] (hp [] S) 0 ?_ (fun k kp hk => ?_)
   ·refine LW_block ?_
    refine LW_loopX (c := 0) (σ := Int × Int) (s := (0, 0)) (fun zz => [(0, eS yGlaw04Op script), (3, .lit (.int .i64 zz.1)), (4, .lit (.int .i64 zz.2))]) (fun zz => (hp [] S)) h ?_ ?_
    ·clear h
     rintro ⟨n, i⟩ x1 d1 hd1 hf1 h hx1
     show LW _ _ _ _ [(0, eS yGlaw04Op script), (3, .lit (.int .i64 n)), (4, .lit (.int .i64 i))] (hp [] S) 0 _
     have hn1d : (d = d1) = False := by simp; omega
     have hm1d : (d1 = d) = False := by simp; omega
     rw [s_stanchionlaw04_great_b1] at h
     refine LW_seq ?_
     refine xseq [(0, eS yGlaw04Op script), (3, .lit (.int .i64 n)), (4, .lit (.int .i64 i)), (13, .lit (.bool ((decide (i < (script.length : Int))) && (decide (n ≤ 100000)))))] (hp [] S) 0 ?_ (fun k kp hk => ?_)
     ·refine xcond ((decide (i < (script.length : Int))) && (decide (n ≤ 100000))) rfl (fun hc => ?_) (fun hc => ?_)
      ·rw [ite_t hc] at h
       refine LW_skip ?_
       show LW _ _ _ _ _ _ _ _
       refine LW_seq ?_
       refine LW_block ?_
       refine LW_seq ?_
       refine xseq [(0, eS yGlaw04Op script), (3, .lit (.int .i64 n)), (4, .lit (.int .i64 i)), (5, .lit (.int .i64 0))] (hp [] S) 0 ?_ (fun k kp hk => ?_)
       ·refine LW_block ?_
        refine LW_loopX (c := 0) (σ := Int × Int) (s := (n, 0)) (fun zz => [(0, eS yGlaw04Op script), (3, .lit (.int .i64 zz.1)), (4, .lit (.int .i64 i)), (5, .lit (.int .i64 zz.2))]) (fun zz => (hp [] S)) h ?_ ?_
        ·clear h
         rintro ⟨n_1, j⟩ x2 d2 hd2 hf2 h hx2
         show LW _ _ _ _ [(0, eS yGlaw04Op script), (3, .lit (.int .i64 n_1)), (4, .lit (.int .i64 i)), (5, .lit (.int .i64 j))] (hp [] S) 0 _
         have hn2d : (d = d2) = False := by simp; omega
         have hm2d : (d2 = d) = False := by simp; omega
         have hn2d1 : (d1 = d2) = False := by simp; omega
         have hm2d1 : (d2 = d1) = False := by simp; omega
         rw [s_stanchionlaw04_great_b2] at h
         refine LW_seq ?_
         obtain ⟨hg, h⟩ := gd_some h
         refine xseq [(0, eS yGlaw04Op script), (3, .lit (.int .i64 n_1)), (4, .lit (.int .i64 i)), (5, .lit (.int .i64 j)), (27, .lit (.bool ((decide (j < (((script.getD (Int.toNat i) yGlaw04Op.dflt).Parts).length : Int))) && (decide (n_1 ≤ 100000)))))] (hp [] S) 0 ?_ (fun k kp hk => ?_)
         ·refine xcond ((decide (j < (((script.getD (Int.toNat i) yGlaw04Op.dflt).Parts).length : Int))) && (decide (n_1 ≤ 100000))) rfl (fun hc_1 => ?_) (fun hc_1 => ?_)
          ·rw [ite_t hc_1] at h
           refine LW_skip ?_
           show LW _ _ _ _ _ _ _ _
           refine LW_seq ?_
           refine LW_block ?_
           obtain ⟨hg_1, h⟩ := gd_some h
           obtain ⟨hg_2, h⟩ := gd_some h
           refine xreg [(0, eS yGlaw04Op script), (3, .lit (.int .i64 (IntKind.i64.wrap (n_1 + (IntKind.i64.wrap (1 + ((((script.getD (Int.toNat i) yGlaw04Op.dflt).Parts).getD (Int.toNat j) []).length : Int))))))), (4, .lit (.int .i64 i)), (5, .lit (.int .i64 j))] (hp [] S) 0 ?_ (fun k kp hk => ?_)
           ·show LW _ _ _ _ _ _ _ _
            refine xreg [(0, eS yGlaw04Op script), (3, .lit (.int .i64 (IntKind.i64.wrap (n_1 + (IntKind.i64.wrap (1 + ((((script.getD (Int.toNat i) yGlaw04Op.dflt).Parts).getD (Int.toNat j) []).length : Int))))))), (4, .lit (.int .i64 i)), (5, .lit (.int .i64 (IntKind.i64.wrap (j + 1))))] (hp [] S) 0 ?_ (fun k kp hk => ?_)
            ·cases h
             exact ⟨rfl, Less.refl _⟩
            ·try simp (maxSteps := 4000000) only [go_sem, Prod.mk.injEq, reduceIte, Nat.reduceEqDiff, Nat.reduceAdd, Nat.reduceSub, Nat.reduceMul, Nat.reduceDiv, Nat.reducePow, Nat.reduceLT, Nat.reduceLeDiff, Nat.reduceBEq, Nat.reduceBneDiff, Int.reduceToNat, Int.reduceEq, Int.reduceLE, Int.reduceLT, reduceCtorEq, hn1d, hm1d, hn2d, hm2d, hn2d1, hm2d1]
             repeat (with_reducible refine And.intro ?_ ?_; next => first | assumption | trivial | omega | decide | (constructor <;> first | assumption | omega) | (simp [Keep.ok, hp_cons_apply, hset_cons, hn1d, hm1d, hn2d, hm2d, hn2d1, hm2d1]; done))
             refine hk _ _ _ ?_
             refine xghost (D := []) ?_ ?_ ?_ ?_
             ·exact (.cons (Sub.of_eq rfl) (.cons (Sub.of_eq rfl) (.cons (Sub.of_eq rfl) (.cons (Sub.of_eq rfl) .nil))))
             ·exact HpW.refl
             ·exact (by intro p hp; cases hp)
             ·omega
           ·try simp (maxSteps := 4000000) only [go_sem, Prod.mk.injEq, reduceIte, Nat.reduceEqDiff, Nat.reduceAdd, Nat.reduceSub, Nat.reduceMul, Nat.reduceDiv, Nat.reducePow, Nat.reduceLT, Nat.reduceLeDiff, Nat.reduceBEq, Nat.reduceBneDiff, Int.reduceToNat, Int.reduceEq, Int.reduceLE, Int.reduceLT, reduceCtorEq, hn1d, hm1d, hn2d, hm2d, hn2d1, hm2d1]
            repeat (with_reducible refine And.intro ?_ ?_; next => first | assumption | trivial | omega | decide | (constructor <;> first | assumption | omega) | (simp [Keep.ok, hp_cons_apply, hset_cons, hn1d, hm1d, hn2d, hm2d, hn2d1, hm2d1]; done))
            refine hk _ _ _ ?_
            refine xghost (D := []) ?_ ?_ ?_ ?_
            ·exact (.cons (Sub.of_eq rfl) (.cons (Sub.of_eq rfl) (.cons (Sub.of_eq rfl) (.cons (Sub.of_eq rfl) .nil))))
            ·exact HpW.refl
            ·exact (by intro p hp; cases hp)
            ·omega
          ·rw [ite_f hc_1] at h
           obtain ⟨hq, hxe⟩ := mr_go h hx2
           clear h hx2
           subst hxe
           have h := hq
           clear hq
           refine LW_exitX (sl' := [(0, eS yGlaw04Op script), (3, .lit (.int .i64 n_1)), (4, .lit (.int .i64 i)), (5, .lit (.int .i64 j)), (27, .lit (.bool ((decide (j < (((script.getD (Int.toNat i) yGlaw04Op.dflt).Parts).length : Int))) && (decide (n_1 ≤ 100000)))))]) (S' := (hp [] S)) (c' := 0) ?_ ?_
           ·refine xghost (D := []) ?_ ?_ ?_ ?_
            ·exact (.cons (Sub.of_eq rfl) (.cons (Sub.of_eq rfl) (.cons (Sub.of_eq rfl) (.cons (Sub.of_eq rfl) (.cons (Sub.of_eq rfl) .nil)))))
            ·exact HpW.refl
            ·exact (by intro p hp; cases hp)
            ·omega
           ·show LW _ _ _ _ _ _ _ _
            obtain ⟨hg_3, h⟩ := gd_some h
            refine xreg [(0, eS yGlaw04Op script), (3, .lit (.int .i64 (IntKind.i64.wrap (n_1 + (((script.getD (Int.toNat i) yGlaw04Op.dflt).Areas).length : Int))))), (4, .lit (.int .i64 i))] (hp [] S) 0 ?_ (fun k kp hk => ?_)
            ·show LW _ _ _ _ _ _ _ _
             refine xreg [(0, eS yGlaw04Op script), (3, .lit (.int .i64 (IntKind.i64.wrap (n_1 + (((script.getD (Int.toNat i) yGlaw04Op.dflt).Areas).length : Int))))), (4, .lit (.int .i64 (IntKind.i64.wrap (i + 1))))] (hp [] S) 0 ?_ (fun k kp hk => ?_)
             ·cases h
              exact ⟨rfl, Less.refl _⟩
             ·try simp (maxSteps := 4000000) only [go_sem, Prod.mk.injEq, reduceIte, Nat.reduceEqDiff, Nat.reduceAdd, Nat.reduceSub, Nat.reduceMul, Nat.reduceDiv, Nat.reducePow, Nat.reduceLT, Nat.reduceLeDiff, Nat.reduceBEq, Nat.reduceBneDiff, Int.reduceToNat, Int.reduceEq, Int.reduceLE, Int.reduceLT, reduceCtorEq, hn1d, hm1d, hn2d, hm2d, hn2d1, hm2d1]
              repeat (with_reducible refine And.intro ?_ ?_; next => first | assumption | trivial | omega | decide | (constructor <;> first | assumption | omega) | (simp [Keep.ok, hp_cons_apply, hset_cons, hn1d, hm1d, hn2d, hm2d, hn2d1, hm2d1]; done))
              refine hk _ _ _ ?_
              refine xghost (D := []) ?_ ?_ ?_ ?_
              ·exact (.cons (Sub.of_eq rfl) (.cons (Sub.of_eq rfl) (.cons (Sub.of_eq rfl) .nil)))
              ·exact HpW.refl
              ·exact (by intro p hp; cases hp)
              ·omega
            ·try simp (maxSteps := 4000000) only [go_sem, Prod.mk.injEq, reduceIte, Nat.reduceEqDiff, Nat.reduceAdd, Nat.reduceSub, Nat.reduceMul, Nat.reduceDiv, Nat.reducePow, Nat.reduceLT, Nat.reduceLeDiff, Nat.reduceBEq, Nat.reduceBneDiff, Int.reduceToNat, Int.reduceEq, Int.reduceLE, Int.reduceLT, reduceCtorEq, hn1d, hm1d, hn2d, hm2d, hn2d1, hm2d1]
             repeat (with_reducible refine And.intro ?_ ?_; next => first | assumption | trivial | omega | decide | (constructor <;> first | assumption | omega) | (simp [Keep.ok, hp_cons_apply, hset_cons, hn1d, hm1d, hn2d, hm2d, hn2d1, hm2d1]; done))
             refine hk _ _ _ ?_
             refine xghost (D := []) ?_ ?_ ?_ ?_
             ·exact (.cons (Sub.of_eq rfl) (.cons (Sub.of_eq rfl) (.cons (Sub.of_eq rfl) .nil)))
             ·exact HpW.refl
             ·exact (by intro p hp; cases hp)
             ·omega
         ·try simp (maxSteps := 4000000) only [go_sem, Prod.mk.injEq, reduceIte, Nat.reduceEqDiff, Nat.reduceAdd, Nat.reduceSub, Nat.reduceMul, Nat.reduceDiv, Nat.reducePow, Nat.reduceLT, Nat.reduceLeDiff, Nat.reduceBEq, Nat.reduceBneDiff, Int.reduceToNat, Int.reduceEq, Int.reduceLE, Int.reduceLT, reduceCtorEq, hn1d, hm1d, hn2d, hm2d, hn2d1, hm2d1]
          repeat (with_reducible refine And.intro ?_ ?_; next => first | assumption | trivial | omega | decide | (constructor <;> first | assumption | omega) | (simp [Keep.ok, hp_cons_apply, hset_cons, hn1d, hm1d, hn2d, hm2d, hn2d1, hm2d1]; done))
          refine xo_guard (decide (j < (((script.getD (Int.toNat i) yGlaw04Op.dflt).Parts).length : Int))) rfl (fun hc_2 => ?_) (fun hc_2 => ?_)
          ·try simp (maxSteps := 4000000) only [go_sem, Prod.mk.injEq, reduceIte, Nat.reduceEqDiff, Nat.reduceAdd, Nat.reduceSub, Nat.reduceMul, Nat.reduceDiv, Nat.reducePow, Nat.reduceLT, Nat.reduceLeDiff, Nat.reduceBEq, Nat.reduceBneDiff, Int.reduceToNat, Int.reduceEq, Int.reduceLE, Int.reduceLT, reduceCtorEq, hn1d, hm1d, hn2d, hm2d, hn2d1, hm2d1, hc_2]
           repeat (with_reducible refine And.intro ?_ ?_; next => first | assumption | trivial | omega | decide | (constructor <;> first | assumption | omega) | (simp [Keep.ok, hp_cons_apply, hset_cons, hn1d, hm1d, hn2d, hm2d, hn2d1, hm2d1]; done))
           refine hk _ _ _ ?_
           refine xghost (D := []) ?_ ?_ ?_ ?_
           ·exact (.cons (Sub.of_eq rfl) (.cons (Sub.of_eq rfl) (.cons (Sub.of_eq rfl) (.cons (Sub.of_eq rfl) (.cons (Sub.of_eq (by first | rfl | (simp only [sget_cons, reduceIte, Nat.reduceEqDiff, Bool.and_true, Bool.true_and, Bool.and_false, Bool.false_and, Bool.or_true, Bool.true_or, Bool.or_false, Bool.false_or, Bool.not_true, Bool.not_false, Bool.not_not, hc_2]; done))) .nil)))))
           ·exact HpW.refl
           ·exact (by intro p hp; cases hp)
           ·omega
          ·try simp (maxSteps := 4000000) only [go_sem, Prod.mk.injEq, reduceIte, Nat.reduceEqDiff, Nat.reduceAdd, Nat.reduceSub, Nat.reduceMul, Nat.reduceDiv, Nat.reducePow, Nat.reduceLT, Nat.reduceLeDiff, Nat.reduceBEq, Nat.reduceBneDiff, Int.reduceToNat, Int.reduceEq, Int.reduceLE, Int.reduceLT, reduceCtorEq, hn1d, hm1d, hn2d, hm2d, hn2d1, hm2d1, hc_2]
           repeat (with_reducible refine And.intro ?_ ?_; next => first | assumption | trivial | omega | decide | (constructor <;> first | assumption | omega) | (simp [Keep.ok, hp_cons_apply, hset_cons, hn1d, hm1d, hn2d, hm2d, hn2d1, hm2d1]; done))
           refine hk _ _ _ ?_
           refine xghost (D := []) ?_ ?_ ?_ ?_
           ·exact (.cons (Sub.of_eq rfl) (.cons (Sub.of_eq rfl) (.cons (Sub.of_eq rfl) (.cons (Sub.of_eq rfl) (.cons (Sub.of_eq (by first | rfl | (simp only [sget_cons, reduceIte, Nat.reduceEqDiff, Bool.and_true, Bool.true_and, Bool.and_false, Bool.false_and, Bool.or_true, Bool.true_or, Bool.or_false, Bool.false_or, Bool.not_true, Bool.not_false, Bool.not_not, hc_2]; done))) .nil)))))
           ·exact HpW.refl
           ·exact (by intro p hp; cases hp)
           ·omega
        ·refine xghost (D := []) ?_ ?_ ?_ ?_
         ·exact (.cons (Sub.of_eq rfl) (.cons (Sub.of_eq rfl) (.cons (Sub.of_eq rfl) (.cons (Sub.of_eq rfl) .nil))))
         ·exact HpW.refl
         ·exact (by intro p hp; cases hp)
         ·omega
       ·try simp (maxSteps := 4000000) only [go_sem, Prod.mk.injEq, reduceIte, Nat.reduceEqDiff, Nat.reduceAdd, Nat.reduceSub, Nat.reduceMul, Nat.reduceDiv, Nat.reducePow, Nat.reduceLT, Nat.reduceLeDiff, Nat.reduceBEq, Nat.reduceBneDiff, Int.reduceToNat, Int.reduceEq, Int.reduceLE, Int.reduceLT, reduceCtorEq, hn1d, hm1d]
        repeat (with_reducible refine And.intro ?_ ?_; next => first | assumption | trivial | omega | decide | (constructor <;> first | assumption | omega) | (simp [Keep.ok, hp_cons_apply, hset_cons, hn1d, hm1d]; done))
        refine hk _ _ _ ?_
        refine xghost (D := []) ?_ ?_ ?_ ?_
        ·exact (.cons (Sub.of_eq rfl) (.cons (Sub.of_eq rfl) (.cons (Sub.of_eq rfl) (.cons (Sub.of_eq rfl) .nil))))
        ·exact HpW.refl
        ·exact (by intro p hp; cases hp)
        ·omega
      ·rw [ite_f hc] at h
       obtain ⟨hq, hxe⟩ := mr_go h hx1
       clear h hx1
       subst hxe
       have h := hq
       clear hq
       refine LW_exitX (sl' := [(0, eS yGlaw04Op script), (3, .lit (.int .i64 n)), (4, .lit (.int .i64 i)), (13, .lit (.bool ((decide (i < (script.length : Int))) && (decide (n ≤ 100000)))))]) (S' := (hp [] S)) (c' := 0) ?_ ?_
       ·refine xghost (D := []) ?_ ?_ ?_ ?_
        ·exact (.cons (Sub.of_eq rfl) (.cons (Sub.of_eq rfl) (.cons (Sub.of_eq rfl) (.cons (Sub.of_eq rfl) .nil))))
        ·exact HpW.refl
        ·exact (by intro p hp; cases hp)
        ·omega
       ·show LW _ _ _ _ _ _ _ _
        refine xseq [(2, .lit (.bool (decide (5000 < n))))] (hp [] S) 0 ?_ (fun k kp hk => ?_)
        ·refine LW_ret ?_
         obtain rfl := Option.some.inj h
         show FPost _ _ _ _ _ _ _
         exact ⟨_, hp_less (L := []) (D := []) (by intro p hp; cases hp), rfl, rfl⟩
        ·try simp (maxSteps := 4000000) only [go_sem, Prod.mk.injEq, reduceIte, Nat.reduceEqDiff, Nat.reduceAdd, Nat.reduceSub, Nat.reduceMul, Nat.reduceDiv, Nat.reducePow, Nat.reduceLT, Nat.reduceLeDiff, Nat.reduceBEq, Nat.reduceBneDiff, Int.reduceToNat, Int.reduceEq, Int.reduceLE, Int.reduceLT, reduceCtorEq, hn1d, hm1d]
         repeat (with_reducible refine And.intro ?_ ?_; next => first | assumption | trivial | omega | decide | (constructor <;> first | assumption | omega) | (simp [Keep.ok, hp_cons_apply, hset_cons, hn1d, hm1d]; done))
         refine hk _ _ _ ?_
         refine xghost (D := []) ?_ ?_ ?_ ?_
         ·exact (.cons (Sub.of_eq rfl) .nil)
         ·exact HpW.refl
         ·exact (by intro p hp; cases hp)
         ·omega
     ·try simp (maxSteps := 4000000) only [go_sem, Prod.mk.injEq, reduceIte, Nat.reduceEqDiff, Nat.reduceAdd, Nat.reduceSub, Nat.reduceMul, Nat.reduceDiv, Nat.reducePow, Nat.reduceLT, Nat.reduceLeDiff, Nat.reduceBEq, Nat.reduceBneDiff, Int.reduceToNat, Int.reduceEq, Int.reduceLE, Int.reduceLT, reduceCtorEq, hn1d, hm1d]
      repeat (with_reducible refine And.intro ?_ ?_; next => first | assumption | trivial | omega | decide | (constructor <;> first | assumption | omega) | (simp [Keep.ok, hp_cons_apply, hset_cons, hn1d, hm1d]; done))
      refine xo_guard (decide (i < (script.length : Int))) rfl (fun hc_3 => ?_) (fun hc_3 => ?_)
      ·try simp (maxSteps := 4000000) only [go_sem, Prod.mk.injEq, reduceIte, Nat.reduceEqDiff, Nat.reduceAdd, Nat.reduceSub, Nat.reduceMul, Nat.reduceDiv, Nat.reducePow, Nat.reduceLT, Nat.reduceLeDiff, Nat.reduceBEq, Nat.reduceBneDiff, Int.reduceToNat, Int.reduceEq, Int.reduceLE, Int.reduceLT, reduceCtorEq, hn1d, hm1d, hc_3]
       repeat (with_reducible refine And.intro ?_ ?_; next => first | assumption | trivial | omega | decide | (constructor <;> first | assumption | omega) | (simp [Keep.ok, hp_cons_apply, hset_cons, hn1d, hm1d]; done))
       refine hk _ _ _ ?_
       refine xghost (D := []) ?_ ?_ ?_ ?_
       ·exact (.cons (Sub.of_eq rfl) (.cons (Sub.of_eq rfl) (.cons (Sub.of_eq rfl) (.cons (Sub.of_eq (by first | rfl | (simp only [sget_cons, reduceIte, Nat.reduceEqDiff, Bool.and_true, Bool.true_and, Bool.and_false, Bool.false_and, Bool.or_true, Bool.true_or, Bool.or_false, Bool.false_or, Bool.not_true, Bool.not_false, Bool.not_not, hc_3]; done))) .nil))))
       ·exact HpW.refl
       ·exact (by intro p hp; cases hp)
       ·omega
      ·try simp (maxSteps := 4000000) only [go_sem, Prod.mk.injEq, reduceIte, Nat.reduceEqDiff, Nat.reduceAdd, Nat.reduceSub, Nat.reduceMul, Nat.reduceDiv, Nat.reducePow, Nat.reduceLT, Nat.reduceLeDiff, Nat.reduceBEq, Nat.reduceBneDiff, Int.reduceToNat, Int.reduceEq, Int.reduceLE, Int.reduceLT, reduceCtorEq, hn1d, hm1d, hc_3]
       repeat (with_reducible refine And.intro ?_ ?_; next => first | assumption | trivial | omega | decide | (constructor <;> first | assumption | omega) | (simp [Keep.ok, hp_cons_apply, hset_cons, hn1d, hm1d]; done))
       refine hk _ _ _ ?_
       refine xghost (D := []) ?_ ?_ ?_ ?_
       ·exact (.cons (Sub.of_eq rfl) (.cons (Sub.of_eq rfl) (.cons (Sub.of_eq rfl) (.cons (Sub.of_eq (by first | rfl | (simp only [sget_cons, reduceIte, Nat.reduceEqDiff, Bool.and_true, Bool.true_and, Bool.and_false, Bool.false_and, Bool.or_true, Bool.true_or, Bool.or_false, Bool.false_or, Bool.not_true, Bool.not_false, Bool.not_not, hc_3]; done))) .nil))))
       ·exact HpW.refl
       ·exact (by intro p hp; cases hp)
       ·omega
    ·refine xghost (D := []) ?_ ?_ ?_ ?_
     ·exact (.cons (Sub.of_eq rfl) (.cons (Sub.of_eq rfl) (.cons (Sub.of_eq rfl) .nil)))
     ·exact HpW.refl
     ·exact (by intro p hp; cases hp)
     ·omega
   ·try simp (maxSteps := 4000000) only [go_sem, Prod.mk.injEq, reduceIte, Nat.reduceEqDiff, Nat.reduceAdd, Nat.reduceSub, Nat.reduceMul, Nat.reduceDiv, Nat.reducePow, Nat.reduceLT, Nat.reduceLeDiff, Nat.reduceBEq, Nat.reduceBneDiff, Int.reduceToNat, Int.reduceEq, Int.reduceLE, Int.reduceLT, reduceCtorEq]
    repeat (with_reducible refine And.intro ?_ ?_; next => first | assumption | trivial | omega | decide | (constructor <;> first | assumption | omega) | (simp [Keep.ok, hp_cons_apply, hset_cons]; done))
    refine hk _ _ _ ?_
    refine xghost (D := []) ?_ ?_ ?_ ?_
    ·exact (.cons (Sub.of_eq rfl) (.cons (Sub.of_eq rfl) (.cons (Sub.of_eq rfl) .nil)))
    ·exact HpW.refl
    ·exact (by intro p hp; cases hp)
    ·omega
  ·try simp (maxSteps := 4000000) only [go_sem, Prod.mk.injEq, reduceIte, Nat.reduceEqDiff, Nat.reduceAdd, Nat.reduceSub, Nat.reduceMul, Nat.reduceDiv, Nat.reducePow, Nat.reduceLT, Nat.reduceLeDiff, Nat.reduceBEq, Nat.reduceBneDiff, Int.reduceToNat, Int.reduceEq, Int.reduceLE, Int.reduceLT, reduceCtorEq]
   repeat (with_reducible refine And.intro ?_ ?_; next => first | assumption | trivial | omega | decide | (constructor <;> first | assumption | omega) | (simp [Keep.ok, hp_cons_apply, hset_cons]; done))
   refine hk _ _ _ ?_
   refine xghost (D := []) ?_ ?_ ?_ ?_
   ·exact (.cons (Sub.of_eq rfl) (.cons (Sub.of_eq rfl) .nil))
   ·exact HpW.refl
   ·exact (by intro p hp; cases hp)
   ·omega
 ·try simp (maxSteps := 4000000) only [go_sem, Prod.mk.injEq, reduceIte, Nat.reduceEqDiff, Nat.reduceAdd, Nat.reduceSub, Nat.reduceMul, Nat.reduceDiv, Nat.reducePow, Nat.reduceLT, Nat.reduceLeDiff, Nat.reduceBEq, Nat.reduceBneDiff, Int.reduceToNat, Int.reduceEq, Int.reduceLE, Int.reduceLT, reduceCtorEq]
  repeat (with_reducible refine And.intro ?_ ?_; next => first | assumption | trivial | omega | decide | (constructor <;> first | assumption | omega) | (simp [Keep.ok, hp_cons_apply, hset_cons]; done))
  refine hk _ _ _ ?_
  refine xghost (D := []) ?_ ?_ ?_ ?_
  ·exact (.cons (Sub.of_eq rfl) .nil)
  ·exact HpW.refl
  ·exact (by intro p hp; cases hp)
  ·omega
/-! stanchion/stanchionref00.CopyInts -/
def s_stanchionref00_CopyInts (s : List Int) : Option (List Int) :=
 gd (((0 + s.length) * 8 ≤ 140737488355328 ∧ 0 + s.length < 9223372036854775808)) (some s)
theorem s_stanchionref00_CopyInts_ok (S : AHeap) (s : List Int) {r : List Int} (h : s_stanchionref00_CopyInts s = some r) :
  AC Try.prog n_stanchionref00_CopyInts [eS (lI .i64) s] S fun r' S' => r' = .ret (eS (lI .i64) r) ∧ S' = S := by
 refine AC_of tok mixed fits_stanchionref00_CopyInts fun d hd => ?_
 unfold c_stanchionref00_CopyInts
 show LW _ _ _ _ [(0, eS (lI .i64) s)] (hp [] S) 0 _
 rw [s_stanchionref00_CopyInts] at h
 refine xseq [(0, eS (lI .i64) s)] (hp [] S) 0 ?_ (fun k kp hk => ?_)
 ·refine xseq [(0, eS (lI .i64) s), (3, eT (lI .i64) (d, 0) [])] (hp [((d, 0), oT (lI .i64) [])] S) 1 ?_ (fun k kp hk => ?_)
  ·obtain ⟨hg, h⟩ := gd_some h
   refine xseq [(3, eT (lI .i64) (d, 0) s)] (hp [((d, 0), oT (lI .i64) s)] S) 1 ?_ (fun k kp hk => ?_)
   ·refine xseq [(2, eS (lI .i64) s)] (hp [((d, 0), oT (lI .i64) s)] S) 1 ?_ (fun k kp hk => ?_)
    ·refine LW_ret ?_
     obtain rfl := Option.some.inj h
     show FPost _ _ _ _ _ _ _
     exact ⟨_, hp_less (L := []) (D := [((d, 0), oT (lI .i64) s)]) (by intro p hp; simp only [List.mem_cons, List.not_mem_nil, or_false] at hp; rcases hp with rfl <;> first | exact hd _ (Nat.le_refl _)), rfl, rfl⟩
    ·try simp (maxSteps := 4000000) only [go_sem, Prod.mk.injEq, reduceIte, Nat.reduceEqDiff, Nat.reduceAdd, Nat.reduceSub, Nat.reduceMul, Nat.reduceDiv, Nat.reducePow, Nat.reduceLT, Nat.reduceLeDiff, Nat.reduceBEq, Nat.reduceBneDiff, Int.reduceToNat, Int.reduceEq, Int.reduceLE, Int.reduceLT, reduceCtorEq]
     repeat (with_reducible refine And.intro ?_ ?_; next => first | assumption | trivial | omega | decide | (constructor <;> first | assumption | omega) | (simp [Keep.ok, hp_cons_apply, hset_cons]; done))
     refine hk _ _ _ ?_
     refine xghost (D := []) ?_ ?_ ?_ ?_
     ·exact (.cons Sub.tip .nil)
     ·exact HpW.refl
     ·exact (by intro p hp; cases hp)
     ·omega
   ·try simp (maxSteps := 4000000) only [go_sem, Prod.mk.injEq, reduceIte, Nat.reduceEqDiff, Nat.reduceAdd, Nat.reduceSub, Nat.reduceMul, Nat.reduceDiv, Nat.reducePow, Nat.reduceLT, Nat.reduceLeDiff, Nat.reduceBEq, Nat.reduceBneDiff, Int.reduceToNat, Int.reduceEq, Int.reduceLE, Int.reduceLT, reduceCtorEq]
    repeat (with_reducible refine And.intro ?_ ?_; next => first | assumption | trivial | omega | decide | (constructor <;> first | assumption | omega) | (simp [Keep.ok, hp_cons_apply, hset_cons]; done))
    refine append1_eT (L := (lI .i64)) (n := (d, 0)) (xs := []) (ys := s) T30 T30 T3 ?_ rfl ?_ asrc_eS ?_ rfl ?_ ?_
    ·first | exact .inl rfl | exact .inr rfl
    ·try simp (maxSteps := 4000000) only [go_sem, Prod.mk.injEq, reduceIte, Nat.reduceEqDiff, Nat.reduceAdd, Nat.reduceSub, Nat.reduceMul, Nat.reduceDiv, Nat.reducePow, Nat.reduceLT, Nat.reduceLeDiff, Nat.reduceBEq, Nat.reduceBneDiff, Int.reduceToNat, Int.reduceEq, Int.reduceLE, Int.reduceLT, reduceCtorEq]
    ·exact ⟨trivial, rfl⟩
    ·dsimp only [List.length]; omega
    try simp (maxSteps := 4000000) only [go_sem, Prod.mk.injEq, reduceIte, Nat.reduceEqDiff, Nat.reduceAdd, Nat.reduceSub, Nat.reduceMul, Nat.reduceDiv, Nat.reducePow, Nat.reduceLT, Nat.reduceLeDiff, Nat.reduceBEq, Nat.reduceBneDiff, Int.reduceToNat, Int.reduceEq, Int.reduceLE, Int.reduceLT, reduceCtorEq]
    repeat (with_reducible refine And.intro ?_ ?_; next => first | assumption | trivial | omega | decide | (constructor <;> first | assumption | omega) | (simp [Keep.ok, hp_cons_apply, hset_cons]; done))
    refine hk _ _ _ ?_
    refine xghost (D := []) ?_ ?_ ?_ ?_
    ·exact (.cons (Sub.of_eq rfl) .nil)
    ·exact HpW.refl
    ·exact (by intro p hp; cases hp)
    ·omega
  ·try simp (maxSteps := 4000000) only [go_sem, Prod.mk.injEq, reduceIte, Nat.reduceEqDiff, Nat.reduceAdd, Nat.reduceSub, Nat.reduceMul, Nat.reduceDiv, Nat.reducePow, Nat.reduceLT, Nat.reduceLeDiff, Nat.reduceBEq, Nat.reduceBneDiff, Int.reduceToNat, Int.reduceEq, Int.reduceLE, Int.reduceLT, reduceCtorEq]
   repeat (with_reducible refine And.intro ?_ ?_; next => first | assumption | trivial | omega | decide | (constructor <;> first | assumption | omega) | (simp [Keep.ok, hp_cons_apply, hset_cons]; done))
   refine hk _ _ _ ?_
   refine Ghost.trans (xname (lI .i64) 3 Sub.refl) ?_
   try simp (maxSteps := 4000000) only [go_sem, Prod.mk.injEq, reduceIte, Nat.reduceEqDiff, Nat.reduceAdd, Nat.reduceSub, Nat.reduceMul, Nat.reduceDiv, Nat.reducePow, Nat.reduceLT, Nat.reduceLeDiff, Nat.reduceBEq, Nat.reduceBneDiff, Int.reduceToNat, Int.reduceEq, Int.reduceLE, Int.reduceLT, reduceCtorEq]
   refine xghost (D := []) ?_ ?_ ?_ ?_
   ·exact (.cons (Sub.of_eq rfl) (.cons (Sub.of_eq rfl) .nil))
   ·exact HpW.refl
   ·exact (by intro p hp; cases hp)
   ·omega
 ·try simp (maxSteps := 4000000) only [go_sem, Prod.mk.injEq, reduceIte, Nat.reduceEqDiff, Nat.reduceAdd, Nat.reduceSub, Nat.reduceMul, Nat.reduceDiv, Nat.reducePow, Nat.reduceLT, Nat.reduceLeDiff, Nat.reduceBEq, Nat.reduceBneDiff, Int.reduceToNat, Int.reduceEq, Int.reduceLE, Int.reduceLT, reduceCtorEq]
  repeat (with_reducible refine And.intro ?_ ?_; next => first | assumption | trivial | omega | decide | (constructor <;> first | assumption | omega) | (simp [Keep.ok, hp_cons_apply, hset_cons]; done))
  refine hk _ _ _ ?_
  refine xghost (D := []) ?_ ?_ ?_ ?_
  ·exact (.cons (Sub.of_eq rfl) .nil)
  ·exact HpW.refl
  ·exact (by intro p hp; cases hp)
  ·omega
/-! stanchion/stanchionref00.CopyBytes -/
def s_stanchionref00_CopyBytes (b : List Int) : Option (List Int) :=
 gd (((0 + b.length) * 1 ≤ 140737488355328 ∧ 0 + b.length < 9223372036854775808)) (some b)
theorem s_stanchionref00_CopyBytes_ok (S : AHeap) (b : List Int) {r : List Int} (h : s_stanchionref00_CopyBytes b = some r) :
  AC Try.prog n_stanchionref00_CopyBytes [eS (lI .u8) b] S fun r' S' => r' = .ret (eS (lI .u8) r) ∧ S' = S := by
 refine AC_of tok mixed fits_stanchionref00_CopyBytes fun d hd => ?_
 unfold c_stanchionref00_CopyBytes
 show LW _ _ _ _ [(0, eS (lI .u8) b)] (hp [] S) 0 _
 rw [s_stanchionref00_CopyBytes] at h
 refine xseq [(0, eS (lI .u8) b)] (hp [] S) 0 ?_ (fun k kp hk => ?_)
 ·refine xseq [(0, eS (lI .u8) b), (3, eT (lI .u8) (d, 0) [])] (hp [((d, 0), oT (lI .u8) [])] S) 1 ?_ (fun k kp hk => ?_)
  ·obtain ⟨hg, h⟩ := gd_some h
   refine xseq [(3, eT (lI .u8) (d, 0) b)] (hp [((d, 0), oT (lI .u8) b)] S) 1 ?_ (fun k kp hk => ?_)
   ·refine xseq [(2, eS (lI .u8) b)] (hp [((d, 0), oT (lI .u8) b)] S) 1 ?_ (fun k kp hk => ?_)
    ·refine LW_ret ?_
     obtain rfl := Option.some.inj h
     show FPost _ _ _ _ _ _ _
     exact ⟨_, hp_less (L := []) (D := [((d, 0), oT (lI .u8) b)]) (by intro p hp; simp only [List.mem_cons, List.not_mem_nil, or_false] at hp; rcases hp with rfl <;> first | exact hd _ (Nat.le_refl _)), rfl, rfl⟩
    ·try simp (maxSteps := 4000000) only [go_sem, Prod.mk.injEq, reduceIte, Nat.reduceEqDiff, Nat.reduceAdd, Nat.reduceSub, Nat.reduceMul, Nat.reduceDiv, Nat.reducePow, Nat.reduceLT, Nat.reduceLeDiff, Nat.reduceBEq, Nat.reduceBneDiff, Int.reduceToNat, Int.reduceEq, Int.reduceLE, Int.reduceLT, reduceCtorEq]
     repeat (with_reducible refine And.intro ?_ ?_; next => first | assumption | trivial | omega | decide | (constructor <;> first | assumption | omega) | (simp [Keep.ok, hp_cons_apply, hset_cons]; done))
     refine hk _ _ _ ?_
     refine xghost (D := []) ?_ ?_ ?_ ?_
     ·exact (.cons Sub.tip .nil)
     ·exact HpW.refl
     ·exact (by intro p hp; cases hp)
     ·omega
   ·try simp (maxSteps := 4000000) only [go_sem, Prod.mk.injEq, reduceIte, Nat.reduceEqDiff, Nat.reduceAdd, Nat.reduceSub, Nat.reduceMul, Nat.reduceDiv, Nat.reducePow, Nat.reduceLT, Nat.reduceLeDiff, Nat.reduceBEq, Nat.reduceBneDiff, Int.reduceToNat, Int.reduceEq, Int.reduceLE, Int.reduceLT, reduceCtorEq]
    repeat (with_reducible refine And.intro ?_ ?_; next => first | assumption | trivial | omega | decide | (constructor <;> first | assumption | omega) | (simp [Keep.ok, hp_cons_apply, hset_cons]; done))
    refine append1_eT (L := (lI .u8)) (n := (d, 0)) (xs := []) (ys := b) T22 T22 T5 ?_ rfl ?_ asrc_eS ?_ rfl ?_ ?_
    ·first | exact .inl rfl | exact .inr rfl
    ·try simp (maxSteps := 4000000) only [go_sem, Prod.mk.injEq, reduceIte, Nat.reduceEqDiff, Nat.reduceAdd, Nat.reduceSub, Nat.reduceMul, Nat.reduceDiv, Nat.reducePow, Nat.reduceLT, Nat.reduceLeDiff, Nat.reduceBEq, Nat.reduceBneDiff, Int.reduceToNat, Int.reduceEq, Int.reduceLE, Int.reduceLT, reduceCtorEq]
    ·exact ⟨trivial, rfl⟩
    ·dsimp only [List.length]; omega
    try simp (maxSteps := 4000000) only [go_sem, Prod.mk.injEq, reduceIte, Nat.reduceEqDiff, Nat.reduceAdd, Nat.reduceSub, Nat.reduceMul, Nat.reduceDiv, Nat.reducePow, Nat.reduceLT, Nat.reduceLeDiff, Nat.reduceBEq, Nat.reduceBneDiff, Int.reduceToNat, Int.reduceEq, Int.reduceLE, Int.reduceLT, reduceCtorEq]
    repeat (with_reducible refine And.intro ?_ ?_; next => first | assumption | trivial | omega | decide | (constructor <;> first | assumption | omega) | (simp [Keep.ok, hp_cons_apply, hset_cons]; done))
    refine hk _ _ _ ?_
    refine xghost (D := []) ?_ ?_ ?_ ?_
    ·exact (.cons (Sub.of_eq rfl) .nil)
    ·exact HpW.refl
    ·exact (by intro p hp; cases hp)
    ·omega
  ·try simp (maxSteps := 4000000) only [go_sem, Prod.mk.injEq, reduceIte, Nat.reduceEqDiff, Nat.reduceAdd, Nat.reduceSub, Nat.reduceMul, Nat.reduceDiv, Nat.reducePow, Nat.reduceLT, Nat.reduceLeDiff, Nat.reduceBEq, Nat.reduceBneDiff, Int.reduceToNat, Int.reduceEq, Int.reduceLE, Int.reduceLT, reduceCtorEq]
   repeat (with_reducible refine And.intro ?_ ?_; next => first | assumption | trivial | omega | decide | (constructor <;> first | assumption | omega) | (simp [Keep.ok, hp_cons_apply, hset_cons]; done))
   refine hk _ _ _ ?_
   refine Ghost.trans (xname (lI .u8) 3 Sub.refl) ?_
   try simp (maxSteps := 4000000) only [go_sem, Prod.mk.injEq, reduceIte, Nat.reduceEqDiff, Nat.reduceAdd, Nat.reduceSub, Nat.reduceMul, Nat.reduceDiv, Nat.reducePow, Nat.reduceLT, Nat.reduceLeDiff, Nat.reduceBEq, Nat.reduceBneDiff, Int.reduceToNat, Int.reduceEq, Int.reduceLE, Int.reduceLT, reduceCtorEq]
   refine xghost (D := []) ?_ ?_ ?_ ?_
   ·exact (.cons (Sub.of_eq rfl) (.cons (Sub.of_eq rfl) .nil))
   ·exact HpW.refl
   ·exact (by intro p hp; cases hp)
   ·omega
 ·try simp (maxSteps := 4000000) only [go_sem, Prod.mk.injEq, reduceIte, Nat.reduceEqDiff, Nat.reduceAdd, Nat.reduceSub, Nat.reduceMul, Nat.reduceDiv, Nat.reducePow, Nat.reduceLT, Nat.reduceLeDiff, Nat.reduceBEq, Nat.reduceBneDiff, Int.reduceToNat, Int.reduceEq, Int.reduceLE, Int.reduceLT, reduceCtorEq]
  repeat (with_reducible refine And.intro ?_ ?_; next => first | assumption | trivial | omega | decide | (constructor <;> first | assumption | omega) | (simp [Keep.ok, hp_cons_apply, hset_cons]; done))
  refine hk _ _ _ ?_
  refine xghost (D := []) ?_ ?_ ?_ ?_
  ·exact (.cons (Sub.of_eq rfl) .nil)
  ·exact HpW.refl
  ·exact (by intro p hp; cases hp)
  ·omega
/-! (stanchion/stanchionref04.Disk).Crash -/
def s_stanchionref04_Disk_Crash_j1 (t8_2 : Int) (m_1 : List Int) (m_2 : List Int) (m_3 : Int) (m_4 : Int) : Option ((Int × List Int × List Int × Int × Int) ⊕ Gref04Disk) :=
 some (.inl ((IntKind.i64.wrap (t8_2 + 1)), m_1, m_2, m_3, m_4))
def s_stanchionref04_Disk_Crash_j3 (t : Gref04Disk) (m : List Int) (m_1 : List Int) (m_2 : Int) (m_3 : Int) (t8_1 : Int) (t9_1 : Int) : Option ((Int × List Int × List Int × Int × Int) ⊕ Gref04Disk) :=
 if t8_1 = 0 then gd ((0 ≤ 0 ∧ 0 ≤ (IntKind.i64.wrap (t.Safe.x0 + t9_1)) ∧ Int.toNat (IntKind.i64.wrap (t.Safe.x0 + t9_1)) ≤ t.Data.x0.length)) (bd (s_stanchionref00_CopyBytes ((t.Data.x0.take (Int.toNat (IntKind.i64.wrap (t.Safe.x0 + t9_1)))).drop (Int.toNat 0))) fun (v_1 : List Int) => s_stanchionref04_Disk_Crash_j1  0 v_1 m_1 (v_1.length : Int) m_3) else if t8_1 = 1 then gd ((0 ≤ 0 ∧ 0 ≤ (IntKind.i64.wrap (t.Safe.x1 + t9_1)) ∧ Int.toNat (IntKind.i64.wrap (t.Safe.x1 + t9_1)) ≤ t.Data.x1.length)) (bd (s_stanchionref00_CopyBytes ((t.Data.x1.take (Int.toNat (IntKind.i64.wrap (t.Safe.x1 + t9_1)))).drop (Int.toNat 0))) fun (v : List Int) => s_stanchionref04_Disk_Crash_j1  1 m v m_2 (v.length : Int)) else none
def s_stanchionref04_Disk_Crash_j2 (t : Gref04Disk) (t8 : Int) (m : List Int) (m_1 : List Int) (m_2 : Int) (m_3 : Int) (t9 : Int) : Option ((Int × List Int × List Int × Int × Int) ⊕ Gref04Disk) :=
 if t8 = 0 then if (decide ((IntKind.i64.wrap ((t.Data.x0.length : Int) - t.Safe.x0)) < t9)) = true then s_stanchionref04_Disk_Crash_j3 t m m_1 m_2 m_3 0 (IntKind.i64.wrap ((t.Data.x0.length : Int) - t.Safe.x0)) else s_stanchionref04_Disk_Crash_j3 t m m_1 m_2 m_3 0 t9 else if t8 = 1 then if (decide ((IntKind.i64.wrap ((t.Data.x1.length : Int) - t.Safe.x1)) < t9)) = true then s_stanchionref04_Disk_Crash_j3 t m m_1 m_2 m_3 1 (IntKind.i64.wrap ((t.Data.x1.length : Int) - t.Safe.x1)) else s_stanchionref04_Disk_Crash_j3 t m m_1 m_2 m_3 1 t9 else none
def s_stanchionref04_Disk_Crash_b1 (t : Gref04Disk) (o : List Int) (A : Int) : (Int × List Int × List Int × Int × Int) → Option ((Int × List Int × List Int × Int × Int) ⊕ Gref04Disk)
 | (t8, m, m_1, m_2, m_3) => if (decide (t8 < 2)) = true then gd ((decide (t8 < (o.length : Int))) = true → (0 ≤ t8 ∧ Int.toNat t8 < o.length)) (if ((decide (t8 < (o.length : Int))) && (decide (0 < (o.getD (Int.toNat t8) 0)))) = true then gd ((0 ≤ t8 ∧ Int.toNat t8 < o.length)) (s_stanchionref04_Disk_Crash_j2 t t8 m m_1 m_2 m_3 (o.getD (Int.toNat t8) 0)) else s_stanchionref04_Disk_Crash_j2 t t8 m m_1 m_2 m_3 0) else mr (some (Gref04Disk.mk A (Ar2.mk m m_1) (Ar2.mk m_2 m_3)))
def s_stanchionref04_Disk_Crash (t : Gref04Disk) (o : List Int) (A : Int) : Option Gref04Disk :=
 loop (s_stanchionref04_Disk_Crash_b1 t o A) (0, [], [], 0, 0)
theorem s_stanchionref04_Disk_Crash_ok (S : AHeap) (t : Gref04Disk) (o : List Int) (A : Int) {r : Gref04Disk} (h : s_stanchionref04_Disk_Crash t o A = some r) :
  AC Try.prog n_stanchionref04_Disk_Crash [.agg [.lit (.int .i64 t.Power), eS (lI .u8) t.Data.x0, eS (lI .u8) t.Data.x1, .lit (.int .i64 t.Safe.x0), .lit (.int .i64 t.Safe.x1)], eS (lI .i64) o, .lit (.int .i64 A)] S fun r' S' => r' = .ret (.agg [.lit (.int .i64 r.Power), eS (lI .u8) r.Data.x0, eS (lI .u8) r.Data.x1, .lit (.int .i64 r.Safe.x0), .lit (.int .i64 r.Safe.x1)]) ∧ S' = S := by
 refine AC_of tok mixed fits_stanchionref04_Disk_Crash fun d hd => ?_
 unfold c_stanchionref04_Disk_Crash
 show LW _ _ _ _ [(0, .agg [.lit (.int .i64 t.Power), eS (lI .u8) t.Data.x0, eS (lI .u8) t.Data.x1, .lit (.int .i64 t.Safe.x0), .lit (.int .i64 t.Safe.x1)]), (1, eS (lI .i64) o), (2, .lit (.int .i64 A))] (hp [] S) 0 _
 rw [s_stanchionref04_Disk_Crash] at h
 refine xseq [(1, eS (lI .i64) o), (2, .lit (.int .i64 A)), (3, .ptr (d, 0) 0), (6, .ptr (d, 1) 0)] (hp [((d, 0), .box [.lit (.int .i64 t.Power), eS (lI .u8) t.Data.x0, eS (lI .u8) t.Data.x1, .lit (.int .i64 t.Safe.x0), .lit (.int .i64 t.Safe.x1)]), ((d, 1), .box [.lit (.int .i64 0), .lit (.slice none 0 0), .lit (.slice none 0 0), .lit (.int .i64 0), .lit (.int .i64 0)])] S) 2 ?_ (fun k kp hk => ?_)
 ·refine xseq [(1, eS (lI .i64) o), (3, .ptr (d, 0) 0), (6, .ptr (d, 1) 0), (7, .ptr (d, 2) 0)] (hp [((d, 0), .box [.lit (.int .i64 t.Power), eS (lI .u8) t.Data.x0, eS (lI .u8) t.Data.x1, .lit (.int .i64 t.Safe.x0), .lit (.int .i64 t.Safe.x1)]), ((d, 1), .box [.lit (.int .i64 0), .lit (.slice none 0 0), .lit (.slice none 0 0), .lit (.int .i64 0), .lit (.int .i64 0)]), ((d, 2), .box [.lit (.int .i64 A), .lit (.slice none 0 0), .lit (.slice none 0 0), .lit (.int .i64 0), .lit (.int .i64 0)])] S) 3 ?_ (fun k kp hk => ?_)
  ·refine LW_seq ?_
   refine xseq [(1, eS (lI .i64) o), (3, .ptr (d, 0) 0), (6, .ptr (d, 1) 0), (7, .ptr (d, 2) 0), (8, .lit (.int .i64 0))] (hp [((d, 0), .box [.lit (.int .i64 t.Power), eS (lI .u8) t.Data.x0, eS (lI .u8) t.Data.x1, .lit (.int .i64 t.Safe.x0), .lit (.int .i64 t.Safe.x1)]), ((d, 1), .box [.lit (.int .i64 0), .lit (.slice none 0 0), .lit (.slice none 0 0), .lit (.int .i64 0), .lit (.int .i64 0)]), ((d, 2), .box [.lit (.int .i64 A), .lit (.slice none 0 0), .lit (.slice none 0 0), .lit (.int .i64 0), .lit (.int .i64 0)])] S) 3 ?_ (fun k kp hk => ?_)
   ·refine LW_block ?_
    refine LW_loopX (c := 3) (σ := Int × List Int × List Int × Int × Int) (s := (0, [], [], 0, 0)) (fun zz => [(1, eS (lI .i64) o), (3, .ptr (d, 0) 0), (6, .ptr (d, 1) 0), (7, .ptr (d, 2) 0), (8, .lit (.int .i64 zz.1))]) (fun zz => (hp [((d, 0), .box [.lit (.int .i64 t.Power), eS (lI .u8) t.Data.x0, eS (lI .u8) t.Data.x1, .lit (.int .i64 t.Safe.x0), .lit (.int .i64 t.Safe.x1)]), ((d, 1), .box [.lit (.int .i64 0), eS (lI .u8) [], eS (lI .u8) [], .lit (.int .i64 0), .lit (.int .i64 0)]), ((d, 2), .box [.lit (.int .i64 A), eS (lI .u8) zz.2.1, eS (lI .u8) zz.2.2.1, .lit (.int .i64 zz.2.2.2.1), .lit (.int .i64 zz.2.2.2.2)])] S)) h ?_ ?_
    ·clear h
     rintro ⟨t8, m, m_1, m_2, m_3⟩ x1 d1 hd1 hf1 h hx1
     show LW _ _ _ _ [(1, eS (lI .i64) o), (3, .ptr (d, 0) 0), (6, .ptr (d, 1) 0), (7, .ptr (d, 2) 0), (8, .lit (.int .i64 t8))] (hp [((d, 0), .box [.lit (.int .i64 t.Power), eS (lI .u8) t.Data.x0, eS (lI .u8) t.Data.x1, .lit (.int .i64 t.Safe.x0), .lit (.int .i64 t.Safe.x1)]), ((d, 1), .box [.lit (.int .i64 0), eS (lI .u8) [], eS (lI .u8) [], .lit (.int .i64 0), .lit (.int .i64 0)]), ((d, 2), .box [.lit (.int .i64 A), eS (lI .u8) m, eS (lI .u8) m_1, .lit (.int .i64 m_2), .lit (.int .i64 m_3)])] S) 0 _
     have hn1d : (d = d1) = False := by simp; omega
     have hm1d : (d1 = d) = False := by simp; omega
     rw [s_stanchionref04_Disk_Crash_b1] at h
     refine LW_seq ?_
     refine xseq [(1, eS (lI .i64) o), (3, .ptr (d, 0) 0), (6, .ptr (d, 1) 0), (7, .ptr (d, 2) 0), (8, .lit (.int .i64 t8)), (13, .lit (.bool (decide (t8 < 2))))] (hp [((d, 0), .box [.lit (.int .i64 t.Power), eS (lI .u8) t.Data.x0, eS (lI .u8) t.Data.x1, .lit (.int .i64 t.Safe.x0), .lit (.int .i64 t.Safe.x1)]), ((d, 1), .box [.lit (.int .i64 0), eS (lI .u8) [], eS (lI .u8) [], .lit (.int .i64 0), .lit (.int .i64 0)]), ((d, 2), .box [.lit (.int .i64 A), eS (lI .u8) m, eS (lI .u8) m_1, .lit (.int .i64 m_2), .lit (.int .i64 m_3)])] S) 0 ?_ (fun k kp hk => ?_)
     ·refine xcond (decide (t8 < 2)) rfl (fun hc => ?_) (fun hc => ?_)
      ·rw [ite_t hc] at h
       refine LW_skip ?_
       show LW _ _ _ _ _ _ _ _
       refine xjoin (J := Int × List Int × List Int × Int × Int) (fun jj => [(1, eS (lI .i64) o), (3, .ptr (d, 0) 0), (6, .ptr (d, 1) 0), (7, .ptr (d, 2) 0), (8, .lit (.int .i64 jj.1))]) (fun jj => (hp [((d, 0), .box [.lit (.int .i64 t.Power), eS (lI .u8) t.Data.x0, eS (lI .u8) t.Data.x1, .lit (.int .i64 t.Safe.x0), .lit (.int .i64 t.Safe.x1)]), ((d, 1), .box [.lit (.int .i64 0), eS (lI .u8) [], eS (lI .u8) [], .lit (.int .i64 0), .lit (.int .i64 0)]), ((d, 2), .box [.lit (.int .i64 A), eS (lI .u8) jj.2.1, eS (lI .u8) jj.2.2.1, .lit (.int .i64 jj.2.2.2.1), .lit (.int .i64 jj.2.2.2.2)])] S)) 0 (fun jj => s_stanchionref04_Disk_Crash_j1  jj.1 jj.2.1 jj.2.2.1 jj.2.2.2.1 jj.2.2.2.2 = some x1) ?_ (fun hj_2 => ?_)
       ·rintro ⟨t8_2, m_1, m_2, m_3, m_4⟩ h
        show LW _ _ _ _ [(1, eS (lI .i64) o), (3, .ptr (d, 0) 0), (6, .ptr (d, 1) 0), (7, .ptr (d, 2) 0), (8, .lit (.int .i64 t8_2))] (hp [((d, 0), .box [.lit (.int .i64 t.Power), eS (lI .u8) t.Data.x0, eS (lI .u8) t.Data.x1, .lit (.int .i64 t.Safe.x0), .lit (.int .i64 t.Safe.x1)]), ((d, 1), .box [.lit (.int .i64 0), eS (lI .u8) [], eS (lI .u8) [], .lit (.int .i64 0), .lit (.int .i64 0)]), ((d, 2), .box [.lit (.int .i64 A), eS (lI .u8) m_1, eS (lI .u8) m_2, .lit (.int .i64 m_3), .lit (.int .i64 m_4)])] S) 0 _
        replace h : s_stanchionref04_Disk_Crash_j1  t8_2 m_1 m_2 m_3 m_4 = some x1 := h
        rw [s_stanchionref04_Disk_Crash_j1] at h
        refine xreg [(1, eS (lI .i64) o), (3, .ptr (d, 0) 0), (6, .ptr (d, 1) 0), (7, .ptr (d, 2) 0), (8, .lit (.int .i64 (IntKind.i64.wrap (t8_2 + 1))))] (hp [((d, 0), .box [.lit (.int .i64 t.Power), eS (lI .u8) t.Data.x0, eS (lI .u8) t.Data.x1, .lit (.int .i64 t.Safe.x0), .lit (.int .i64 t.Safe.x1)]), ((d, 1), .box [.lit (.int .i64 0), eS (lI .u8) [], eS (lI .u8) [], .lit (.int .i64 0), .lit (.int .i64 0)]), ((d, 2), .box [.lit (.int .i64 A), eS (lI .u8) m_1, eS (lI .u8) m_2, .lit (.int .i64 m_3), .lit (.int .i64 m_4)])] S) 0 ?_ (fun k kp hk => ?_)
        ·cases h
         exact ⟨rfl, Less.refl _⟩
        ·try simp (maxSteps := 4000000) only [go_sem, Prod.mk.injEq, reduceIte, Nat.reduceEqDiff, Nat.reduceAdd, Nat.reduceSub, Nat.reduceMul, Nat.reduceDiv, Nat.reducePow, Nat.reduceLT, Nat.reduceLeDiff, Nat.reduceBEq, Nat.reduceBneDiff, Int.reduceToNat, Int.reduceEq, Int.reduceLE, Int.reduceLT, reduceCtorEq, hn1d, hm1d]
         repeat (with_reducible refine And.intro ?_ ?_; next => first | assumption | trivial | omega | decide | (constructor <;> first | assumption | omega) | (simp [Keep.ok, hp_cons_apply, hset_cons, hn1d, hm1d]; done))
         refine hk _ _ _ ?_
         refine xghost (D := []) ?_ ?_ ?_ ?_
         ·exact (.cons (Sub.of_eq rfl) (.cons (Sub.of_eq rfl) (.cons (Sub.of_eq rfl) (.cons (Sub.of_eq rfl) (.cons (Sub.of_eq rfl) .nil)))))
         ·exact HpW.refl
         ·exact (by intro p hp; cases hp)
         ·omega
       ·refine LW_block ?_
        refine xseq [(1, eS (lI .i64) o), (3, .ptr (d, 0) 0), (6, .ptr (d, 1) 0), (7, .ptr (d, 2) 0), (8, .lit (.int .i64 t8)), (9, .lit (.int .i64 0))] (hp [((d, 0), .box [.lit (.int .i64 t.Power), eS (lI .u8) t.Data.x0, eS (lI .u8) t.Data.x1, .lit (.int .i64 t.Safe.x0), .lit (.int .i64 t.Safe.x1)]), ((d, 1), .box [.lit (.int .i64 0), eS (lI .u8) [], eS (lI .u8) [], .lit (.int .i64 0), .lit (.int .i64 0)]), ((d, 2), .box [.lit (.int .i64 A), eS (lI .u8) m, eS (lI .u8) m_1, .lit (.int .i64 m_2), .lit (.int .i64 m_3)])] S) 0 ?_ (fun k kp hk => ?_)
        ·refine xjoin (J := Int) (fun jj => [(1, eS (lI .i64) o), (3, .ptr (d, 0) 0), (6, .ptr (d, 1) 0), (7, .ptr (d, 2) 0), (8, .lit (.int .i64 t8)), (9, .lit (.int .i64 jj))]) (fun jj => (hp [((d, 0), .box [.lit (.int .i64 t.Power), eS (lI .u8) t.Data.x0, eS (lI .u8) t.Data.x1, .lit (.int .i64 t.Safe.x0), .lit (.int .i64 t.Safe.x1)]), ((d, 1), .box [.lit (.int .i64 0), eS (lI .u8) [], eS (lI .u8) [], .lit (.int .i64 0), .lit (.int .i64 0)]), ((d, 2), .box [.lit (.int .i64 A), eS (lI .u8) m, eS (lI .u8) m_1, .lit (.int .i64 m_2), .lit (.int .i64 m_3)])] S)) 0 (fun jj => s_stanchionref04_Disk_Crash_j2 t t8 m m_1 m_2 m_3 jj = some x1) ?_ (fun hj_1 => ?_)
         ·rintro t9 h
          show LW _ _ _ _ [(1, eS (lI .i64) o), (3, .ptr (d, 0) 0), (6, .ptr (d, 1) 0), (7, .ptr (d, 2) 0), (8, .lit (.int .i64 t8)), (9, .lit (.int .i64 t9))] (hp [((d, 0), .box [.lit (.int .i64 t.Power), eS (lI .u8) t.Data.x0, eS (lI .u8) t.Data.x1, .lit (.int .i64 t.Safe.x0), .lit (.int .i64 t.Safe.x1)]), ((d, 1), .box [.lit (.int .i64 0), eS (lI .u8) [], eS (lI .u8) [], .lit (.int .i64 0), .lit (.int .i64 0)]), ((d, 2), .box [.lit (.int .i64 A), eS (lI .u8) m, eS (lI .u8) m_1, .lit (.int .i64 m_2), .lit (.int .i64 m_3)])] S) 0 _
          replace h : s_stanchionref04_Disk_Crash_j2 t t8 m m_1 m_2 m_3 t9 = some x1 := h
          rw [s_stanchionref04_Disk_Crash_j2] at h
          refine xjoin (J := Int × Int) (fun jj => [(1, eS (lI .i64) o), (3, .ptr (d, 0) 0), (6, .ptr (d, 1) 0), (7, .ptr (d, 2) 0), (8, .lit (.int .i64 jj.1)), (9, .lit (.int .i64 jj.2))]) (fun jj => (hp [((d, 0), .box [.lit (.int .i64 t.Power), eS (lI .u8) t.Data.x0, eS (lI .u8) t.Data.x1, .lit (.int .i64 t.Safe.x0), .lit (.int .i64 t.Safe.x1)]), ((d, 1), .box [.lit (.int .i64 0), eS (lI .u8) [], eS (lI .u8) [], .lit (.int .i64 0), .lit (.int .i64 0)]), ((d, 2), .box [.lit (.int .i64 A), eS (lI .u8) m, eS (lI .u8) m_1, .lit (.int .i64 m_2), .lit (.int .i64 m_3)])] S)) 0 (fun jj => s_stanchionref04_Disk_Crash_j3 t m m_1 m_2 m_3 jj.1 jj.2 = some x1) ?_ (fun hj => ?_)
          ·rintro ⟨t8_1, t9_1⟩ h
           show LW _ _ _ _ [(1, eS (lI .i64) o), (3, .ptr (d, 0) 0), (6, .ptr (d, 1) 0), (7, .ptr (d, 2) 0), (8, .lit (.int .i64 t8_1)), (9, .lit (.int .i64 t9_1))] (hp [((d, 0), .box [.lit (.int .i64 t.Power), eS (lI .u8) t.Data.x0, eS (lI .u8) t.Data.x1, .lit (.int .i64 t.Safe.x0), .lit (.int .i64 t.Safe.x1)]), ((d, 1), .box [.lit (.int .i64 0), eS (lI .u8) [], eS (lI .u8) [], .lit (.int .i64 0), .lit (.int .i64 0)]), ((d, 2), .box [.lit (.int .i64 A), eS (lI .u8) m, eS (lI .u8) m_1, .lit (.int .i64 m_2), .lit (.int .i64 m_3)])] S) 0 _
           replace h : s_stanchionref04_Disk_Crash_j3 t m m_1 m_2 m_3 t8_1 t9_1 = some x1 := h
           rw [s_stanchionref04_Disk_Crash_j3] at h
           by_cases hs_3 : t8_1 = 0
           ·subst hs_3
            rw [if_pos rfl] at h
            obtain ⟨hg_3, h⟩ := gd_some h
            obtain ⟨v_1, hv_1, h⟩ := bd_some h
            refine xseqd [(1, eS (lI .i64) o), (3, .ptr (d, 0) 0), (6, .ptr (d, 1) 0), (7, .ptr (d, 2) 0), (8, .lit (.int .i64 0))] (hp [((d, 0), .box [.lit (.int .i64 t.Power), eS (lI .u8) t.Data.x0, eS (lI .u8) t.Data.x1, .lit (.int .i64 t.Safe.x0), .lit (.int .i64 t.Safe.x1)]), ((d, 1), .box [.lit (.int .i64 0), eS (lI .u8) [], eS (lI .u8) [], .lit (.int .i64 0), .lit (.int .i64 0)]), ((d, 2), .box [.lit (.int .i64 A), eS (lI .u8) v_1, eS (lI .u8) m_1, .lit (.int .i64 m_2), .lit (.int .i64 m_3)])] S) 0 ?_ (fun k kp hk => ?_)
            ·refine xreg [(1, eS (lI .i64) o), (3, .ptr (d, 0) 0), (6, .ptr (d, 1) 0), (7, .ptr (d, 2) 0), (8, .lit (.int .i64 0))] (hp [((d, 0), .box [.lit (.int .i64 t.Power), eS (lI .u8) t.Data.x0, eS (lI .u8) t.Data.x1, .lit (.int .i64 t.Safe.x0), .lit (.int .i64 t.Safe.x1)]), ((d, 1), .box [.lit (.int .i64 0), eS (lI .u8) [], eS (lI .u8) [], .lit (.int .i64 0), .lit (.int .i64 0)]), ((d, 2), .box [.lit (.int .i64 A), eS (lI .u8) v_1, eS (lI .u8) m_1, .lit (.int .i64 (v_1.length : Int)), .lit (.int .i64 m_3)])] S) 0 ?_ (fun k kp hk => ?_)
             ·exact hj_2 (0, v_1, m_1, (v_1.length : Int), m_3) h
             ·try simp (maxSteps := 4000000) only [go_sem, Prod.mk.injEq, reduceIte, Nat.reduceEqDiff, Nat.reduceAdd, Nat.reduceSub, Nat.reduceMul, Nat.reduceDiv, Nat.reducePow, Nat.reduceLT, Nat.reduceLeDiff, Nat.reduceBEq, Nat.reduceBneDiff, Int.reduceToNat, Int.reduceEq, Int.reduceLE, Int.reduceLT, reduceCtorEq, hn1d, hm1d, vptr_0, vptr_1]
              repeat (with_reducible refine And.intro ?_ ?_; next => first | assumption | trivial | omega | decide | (constructor <;> first | assumption | omega) | (simp [Keep.ok, hp_cons_apply, hset_cons, hn1d, hm1d, vptr_0, vptr_1]; done))
              refine hk _ _ _ ?_
              refine xghost (D := []) ?_ ?_ ?_ ?_
              ·exact (.cons (Sub.of_eq rfl) (.cons (Sub.of_eq rfl) (.cons (Sub.of_eq rfl) (.cons (Sub.of_eq rfl) (.cons (Sub.of_eq rfl) .nil)))))
              ·exact HpW.refl
              ·exact (by intro p hp; cases hp)
              ·omega
            ·try simp (maxSteps := 4000000) only [go_sem, Prod.mk.injEq, reduceIte, Nat.reduceEqDiff, Nat.reduceAdd, Nat.reduceSub, Nat.reduceMul, Nat.reduceDiv, Nat.reducePow, Nat.reduceLT, Nat.reduceLeDiff, Nat.reduceBEq, Nat.reduceBneDiff, Int.reduceToNat, Int.reduceEq, Int.reduceLE, Int.reduceLT, reduceCtorEq, hn1d, hm1d, vptr_0, vptr_1]
             repeat (with_reducible refine And.intro ?_ ?_; next => first | assumption | trivial | omega | decide | (constructor <;> first | assumption | omega) | (simp [Keep.ok, hp_cons_apply, hset_cons, hn1d, hm1d, vptr_0, vptr_1]; done))
             have hcall := s_stanchionref00_CopyBytes_ok (hp [((d, 0), .box [.lit (.int .i64 t.Power), eS (lI .u8) t.Data.x0, eS (lI .u8) t.Data.x1, .lit (.int .i64 t.Safe.x0), .lit (.int .i64 t.Safe.x1)]), ((d, 1), .box [.lit (.int .i64 0), eS (lI .u8) [], eS (lI .u8) [], .lit (.int .i64 0), .lit (.int .i64 0)]), ((d, 2), .box [.lit (.int .i64 A), eS (lI .u8) m, eS (lI .u8) m_1, .lit (.int .i64 m_2), .lit (.int .i64 m_3)])] S) ((t.Data.x0.take (Int.toNat (IntKind.i64.wrap (t.Safe.x0 + t9_1)))).drop (Int.toNat 0)) hv_1
             refine call1_x hcall rfl ?_ ?_
             ·exact (.cons Sub.refl .nil)
             clear hcall
             rintro _ SS ⟨rfl, hSS⟩ -
             rw [hSS]
             clear hSS
             try simp (maxSteps := 4000000) only [go_sem, Prod.mk.injEq, reduceIte, Nat.reduceEqDiff, Nat.reduceAdd, Nat.reduceSub, Nat.reduceMul, Nat.reduceDiv, Nat.reducePow, Nat.reduceLT, Nat.reduceLeDiff, Nat.reduceBEq, Nat.reduceBneDiff, Int.reduceToNat, Int.reduceEq, Int.reduceLE, Int.reduceLT, reduceCtorEq, hn1d, hm1d, vptr_0, vptr_1]
             repeat (with_reducible refine And.intro ?_ ?_; next => first | assumption | trivial | omega | decide | (constructor <;> first | assumption | omega) | (simp [Keep.ok, hp_cons_apply, hset_cons, hn1d, hm1d, vptr_0, vptr_1]; done))
             try simp (maxSteps := 4000000) only [go_sem, Prod.mk.injEq, reduceIte, Nat.reduceEqDiff, Nat.reduceAdd, Nat.reduceSub, Nat.reduceMul, Nat.reduceDiv, Nat.reducePow, Nat.reduceLT, Nat.reduceLeDiff, Nat.reduceBEq, Nat.reduceBneDiff, Int.reduceToNat, Int.reduceEq, Int.reduceLE, Int.reduceLT, reduceCtorEq, hn1d, hm1d, vptr_0, vptr_1]
             repeat (with_reducible refine And.intro ?_ ?_; next => first | assumption | trivial | omega | decide | (constructor <;> first | assumption | omega) | (simp [Keep.ok, hp_cons_apply, hset_cons, hn1d, hm1d, vptr_0, vptr_1]; done))
             refine hk _ _ _ ?_
             refine xghost (D := []) ?_ ?_ ?_ ?_
             ·exact (.cons (Sub.of_eq rfl) (.cons (Sub.of_eq rfl) (.cons (Sub.of_eq rfl) (.cons (Sub.of_eq rfl) (.cons (Sub.of_eq rfl) .nil)))))
             ·exact HpW.refl
             ·exact (by intro p hp; cases hp)
             ·omega
           ·rw [if_neg hs_3] at h
            by_cases hs_2 : t8_1 = 1
            ·subst hs_2
             rw [if_pos rfl] at h
             obtain ⟨hg_2, h⟩ := gd_some h
             obtain ⟨v, hv, h⟩ := bd_some h
             refine xseqd [(1, eS (lI .i64) o), (3, .ptr (d, 0) 0), (6, .ptr (d, 1) 0), (7, .ptr (d, 2) 0), (8, .lit (.int .i64 1))] (hp [((d, 0), .box [.lit (.int .i64 t.Power), eS (lI .u8) t.Data.x0, eS (lI .u8) t.Data.x1, .lit (.int .i64 t.Safe.x0), .lit (.int .i64 t.Safe.x1)]), ((d, 1), .box [.lit (.int .i64 0), eS (lI .u8) [], eS (lI .u8) [], .lit (.int .i64 0), .lit (.int .i64 0)]), ((d, 2), .box [.lit (.int .i64 A), eS (lI .u8) m, eS (lI .u8) v, .lit (.int .i64 m_2), .lit (.int .i64 m_3)])] S) 0 ?_ (fun k kp hk => ?_)
             ·refine xreg [(1, eS (lI .i64) o), (3, .ptr (d, 0) 0), (6, .ptr (d, 1) 0), (7, .ptr (d, 2) 0), (8, .lit (.int .i64 1))] (hp [((d, 0), .box [.lit (.int .i64 t.Power), eS (lI .u8) t.Data.x0, eS (lI .u8) t.Data.x1, .lit (.int .i64 t.Safe.x0), .lit (.int .i64 t.Safe.x1)]), ((d, 1), .box [.lit (.int .i64 0), eS (lI .u8) [], eS (lI .u8) [], .lit (.int .i64 0), .lit (.int .i64 0)]), ((d, 2), .box [.lit (.int .i64 A), eS (lI .u8) m, eS (lI .u8) v, .lit (.int .i64 m_2), .lit (.int .i64 (v.length : Int))])] S) 0 ?_ (fun k kp hk => ?_)
              ·exact hj_2 (1, m, v, m_2, (v.length : Int)) h
              ·try simp (maxSteps := 4000000) only [go_sem, Prod.mk.injEq, reduceIte, Nat.reduceEqDiff, Nat.reduceAdd, Nat.reduceSub, Nat.reduceMul, Nat.reduceDiv, Nat.reducePow, Nat.reduceLT, Nat.reduceLeDiff, Nat.reduceBEq, Nat.reduceBneDiff, Int.reduceToNat, Int.reduceEq, Int.reduceLE, Int.reduceLT, reduceCtorEq, hn1d, hm1d, vptr_0, vptr_1]
               repeat (with_reducible refine And.intro ?_ ?_; next => first | assumption | trivial | omega | decide | (constructor <;> first | assumption | omega) | (simp [Keep.ok, hp_cons_apply, hset_cons, hn1d, hm1d, vptr_0, vptr_1]; done))
               refine hk _ _ _ ?_
               refine xghost (D := []) ?_ ?_ ?_ ?_
               ·exact (.cons (Sub.of_eq rfl) (.cons (Sub.of_eq rfl) (.cons (Sub.of_eq rfl) (.cons (Sub.of_eq rfl) (.cons (Sub.of_eq rfl) .nil)))))
               ·exact HpW.refl
               ·exact (by intro p hp; cases hp)
               ·omega
             ·try simp (maxSteps := 4000000) only [go_sem, Prod.mk.injEq, reduceIte, Nat.reduceEqDiff, Nat.reduceAdd, Nat.reduceSub, Nat.reduceMul, Nat.reduceDiv, Nat.reducePow, Nat.reduceLT, Nat.reduceLeDiff, Nat.reduceBEq, Nat.reduceBneDiff, Int.reduceToNat, Int.reduceEq, Int.reduceLE, Int.reduceLT, reduceCtorEq, hn1d, hm1d, vptr_0, vptr_1]
              repeat (with_reducible refine And.intro ?_ ?_; next => first | assumption | trivial | omega | decide | (constructor <;> first | assumption | omega) | (simp [Keep.ok, hp_cons_apply, hset_cons, hn1d, hm1d, vptr_0, vptr_1]; done))
              have hcall := s_stanchionref00_CopyBytes_ok (hp [((d, 0), .box [.lit (.int .i64 t.Power), eS (lI .u8) t.Data.x0, eS (lI .u8) t.Data.x1, .lit (.int .i64 t.Safe.x0), .lit (.int .i64 t.Safe.x1)]), ((d, 1), .box [.lit (.int .i64 0), eS (lI .u8) [], eS (lI .u8) [], .lit (.int .i64 0), .lit (.int .i64 0)]), ((d, 2), .box [.lit (.int .i64 A), eS (lI .u8) m, eS (lI .u8) m_1, .lit (.int .i64 m_2), .lit (.int .i64 m_3)])] S) ((t.Data.x1.take (Int.toNat (IntKind.i64.wrap (t.Safe.x1 + t9_1)))).drop (Int.toNat 0)) hv
              refine call1_x hcall rfl ?_ ?_
              ·exact (.cons Sub.refl .nil)
              clear hcall
              rintro _ SS ⟨rfl, hSS⟩ -
              rw [hSS]
              clear hSS
              try simp (maxSteps := 4000000) only [go_sem, Prod.mk.injEq, reduceIte, Nat.reduceEqDiff, Nat.reduceAdd, Nat.reduceSub, Nat.reduceMul, Nat.reduceDiv, Nat.reducePow, Nat.reduceLT, Nat.reduceLeDiff, Nat.reduceBEq, Nat.reduceBneDiff, Int.reduceToNat, Int.reduceEq, Int.reduceLE, Int.reduceLT, reduceCtorEq, hn1d, hm1d, vptr_0, vptr_1]
              repeat (with_reducible refine And.intro ?_ ?_; next => first | assumption | trivial | omega | decide | (constructor <;> first | assumption | omega) | (simp [Keep.ok, hp_cons_apply, hset_cons, hn1d, hm1d, vptr_0, vptr_1]; done))
              try simp (maxSteps := 4000000) only [go_sem, Prod.mk.injEq, reduceIte, Nat.reduceEqDiff, Nat.reduceAdd, Nat.reduceSub, Nat.reduceMul, Nat.reduceDiv, Nat.reducePow, Nat.reduceLT, Nat.reduceLeDiff, Nat.reduceBEq, Nat.reduceBneDiff, Int.reduceToNat, Int.reduceEq, Int.reduceLE, Int.reduceLT, reduceCtorEq, hn1d, hm1d, vptr_0, vptr_1]
              repeat (with_reducible refine And.intro ?_ ?_; next => first | assumption | trivial | omega | decide | (constructor <;> first | assumption | omega) | (simp [Keep.ok, hp_cons_apply, hset_cons, hn1d, hm1d, vptr_0, vptr_1]; done))
              refine hk _ _ _ ?_
              refine xghost (D := []) ?_ ?_ ?_ ?_
              ·exact (.cons (Sub.of_eq rfl) (.cons (Sub.of_eq rfl) (.cons (Sub.of_eq rfl) (.cons (Sub.of_eq rfl) (.cons (Sub.of_eq rfl) .nil)))))
              ·exact HpW.refl
              ·exact (by intro p hp; cases hp)
              ·omega
            ·rw [if_neg hs_2] at h
             cases h
          ·by_cases hs_1 : t8 = 0
           ·subst hs_1
            rw [if_pos rfl] at h
            refine xseqd [(1, eS (lI .i64) o), (3, .ptr (d, 0) 0), (6, .ptr (d, 1) 0), (7, .ptr (d, 2) 0), (8, .lit (.int .i64 0)), (9, .lit (.int .i64 t9)), (42, .lit (.bool (decide ((IntKind.i64.wrap ((t.Data.x0.length : Int) - t.Safe.x0)) < t9))))] (hp [((d, 0), .box [.lit (.int .i64 t.Power), eS (lI .u8) t.Data.x0, eS (lI .u8) t.Data.x1, .lit (.int .i64 t.Safe.x0), .lit (.int .i64 t.Safe.x1)]), ((d, 1), .box [.lit (.int .i64 0), eS (lI .u8) [], eS (lI .u8) [], .lit (.int .i64 0), .lit (.int .i64 0)]), ((d, 2), .box [.lit (.int .i64 A), eS (lI .u8) m, eS (lI .u8) m_1, .lit (.int .i64 m_2), .lit (.int .i64 m_3)])] S) 0 ?_ (fun k kp hk => ?_)
            ·refine xcond (decide ((IntKind.i64.wrap ((t.Data.x0.length : Int) - t.Safe.x0)) < t9)) rfl (fun hc_4 => ?_) (fun hc_4 => ?_)
             ·rw [ite_t hc_4] at h
              refine xregd [(1, eS (lI .i64) o), (3, .ptr (d, 0) 0), (6, .ptr (d, 1) 0), (7, .ptr (d, 2) 0), (8, .lit (.int .i64 0)), (9, .lit (.int .i64 (IntKind.i64.wrap ((t.Data.x0.length : Int) - t.Safe.x0))))] (hp [((d, 0), .box [.lit (.int .i64 t.Power), eS (lI .u8) t.Data.x0, eS (lI .u8) t.Data.x1, .lit (.int .i64 t.Safe.x0), .lit (.int .i64 t.Safe.x1)]), ((d, 1), .box [.lit (.int .i64 0), eS (lI .u8) [], eS (lI .u8) [], .lit (.int .i64 0), .lit (.int .i64 0)]), ((d, 2), .box [.lit (.int .i64 A), eS (lI .u8) m, eS (lI .u8) m_1, .lit (.int .i64 m_2), .lit (.int .i64 m_3)])] S) 0 ?_ (fun k kp hk => ?_)
              ·exact hj (0, (IntKind.i64.wrap ((t.Data.x0.length : Int) - t.Safe.x0))) h
              ·try simp (maxSteps := 4000000) only [go_sem, Prod.mk.injEq, reduceIte, Nat.reduceEqDiff, Nat.reduceAdd, Nat.reduceSub, Nat.reduceMul, Nat.reduceDiv, Nat.reducePow, Nat.reduceLT, Nat.reduceLeDiff, Nat.reduceBEq, Nat.reduceBneDiff, Int.reduceToNat, Int.reduceEq, Int.reduceLE, Int.reduceLT, reduceCtorEq, hn1d, hm1d, vptr_0, vptr_1]
               repeat (with_reducible refine And.intro ?_ ?_; next => first | assumption | trivial | omega | decide | (constructor <;> first | assumption | omega) | (simp [Keep.ok, hp_cons_apply, hset_cons, hn1d, hm1d, vptr_0, vptr_1]; done))
               refine hk _ _ _ ?_
               refine xghost (D := []) ?_ ?_ ?_ ?_
               ·exact (.cons (Sub.of_eq rfl) (.cons (Sub.of_eq rfl) (.cons (Sub.of_eq rfl) (.cons (Sub.of_eq rfl) (.cons (Sub.of_eq rfl) (.cons (Sub.of_eq rfl) .nil))))))
               ·exact HpW.refl
               ·exact (by intro p hp; cases hp)
               ·omega
             ·rw [ite_f hc_4] at h
              refine LW_skipX (sl' := [(1, eS (lI .i64) o), (3, .ptr (d, 0) 0), (6, .ptr (d, 1) 0), (7, .ptr (d, 2) 0), (8, .lit (.int .i64 0)), (9, .lit (.int .i64 t9))]) (S' := (hp [((d, 0), .box [.lit (.int .i64 t.Power), eS (lI .u8) t.Data.x0, eS (lI .u8) t.Data.x1, .lit (.int .i64 t.Safe.x0), .lit (.int .i64 t.Safe.x1)]), ((d, 1), .box [.lit (.int .i64 0), eS (lI .u8) [], eS (lI .u8) [], .lit (.int .i64 0), .lit (.int .i64 0)]), ((d, 2), .box [.lit (.int .i64 A), eS (lI .u8) m, eS (lI .u8) m_1, .lit (.int .i64 m_2), .lit (.int .i64 m_3)])] S)) (c' := 0) ?_ ?_
              ·refine xghost (D := []) ?_ ?_ ?_ ?_
               ·exact (.cons (Sub.of_eq rfl) (.cons (Sub.of_eq rfl) (.cons (Sub.of_eq rfl) (.cons (Sub.of_eq rfl) (.cons (Sub.of_eq rfl) (.cons (Sub.of_eq rfl) .nil))))))
               ·exact HpW.refl
               ·exact (by intro p hp; cases hp)
               ·omega
              ·exact hj (0, t9) h
            ·try simp (maxSteps := 4000000) only [go_sem, Prod.mk.injEq, reduceIte, Nat.reduceEqDiff, Nat.reduceAdd, Nat.reduceSub, Nat.reduceMul, Nat.reduceDiv, Nat.reducePow, Nat.reduceLT, Nat.reduceLeDiff, Nat.reduceBEq, Nat.reduceBneDiff, Int.reduceToNat, Int.reduceEq, Int.reduceLE, Int.reduceLT, reduceCtorEq, hn1d, hm1d, vptr_0, vptr_1]
             repeat (with_reducible refine And.intro ?_ ?_; next => first | assumption | trivial | omega | decide | (constructor <;> first | assumption | omega) | (simp [Keep.ok, hp_cons_apply, hset_cons, hn1d, hm1d, vptr_0, vptr_1]; done))
             refine hk _ _ _ ?_
             refine xghost (D := []) ?_ ?_ ?_ ?_
             ·exact (.cons (Sub.of_eq rfl) (.cons (Sub.of_eq rfl) (.cons (Sub.of_eq rfl) (.cons (Sub.of_eq rfl) (.cons (Sub.of_eq rfl) (.cons (Sub.of_eq rfl) (.cons (Sub.of_eq rfl) .nil)))))))
             ·exact HpW.refl
             ·exact (by intro p hp; cases hp)
             ·omega
           ·rw [if_neg hs_1] at h
            by_cases hs : t8 = 1
            ·subst hs
             rw [if_pos rfl] at h
             refine xseqd [(1, eS (lI .i64) o), (3, .ptr (d, 0) 0), (6, .ptr (d, 1) 0), (7, .ptr (d, 2) 0), (8, .lit (.int .i64 1)), (9, .lit (.int .i64 t9)), (42, .lit (.bool (decide ((IntKind.i64.wrap ((t.Data.x1.length : Int) - t.Safe.x1)) < t9))))] (hp [((d, 0), .box [.lit (.int .i64 t.Power), eS (lI .u8) t.Data.x0, eS (lI .u8) t.Data.x1, .lit (.int .i64 t.Safe.x0), .lit (.int .i64 t.Safe.x1)]), ((d, 1), .box [.lit (.int .i64 0), eS (lI .u8) [], eS (lI .u8) [], .lit (.int .i64 0), .lit (.int .i64 0)]), ((d, 2), .box [.lit (.int .i64 A), eS (lI .u8) m, eS (lI .u8) m_1, .lit (.int .i64 m_2), .lit (.int .i64 m_3)])] S) 0 ?_ (fun k kp hk => ?_)
             ·refine xcond (decide ((IntKind.i64.wrap ((t.Data.x1.length : Int) - t.Safe.x1)) < t9)) rfl (fun hc_3 => ?_) (fun hc_3 => ?_)
              ·rw [ite_t hc_3] at h
               refine xregd [(1, eS (lI .i64) o), (3, .ptr (d, 0) 0), (6, .ptr (d, 1) 0), (7, .ptr (d, 2) 0), (8, .lit (.int .i64 1)), (9, .lit (.int .i64 (IntKind.i64.wrap ((t.Data.x1.length : Int) - t.Safe.x1))))] (hp [((d, 0), .box [.lit (.int .i64 t.Power), eS (lI .u8) t.Data.x0, eS (lI .u8) t.Data.x1, .lit (.int .i64 t.Safe.x0), .lit (.int .i64 t.Safe.x1)]), ((d, 1), .box [.lit (.int .i64 0), eS (lI .u8) [], eS (lI .u8) [], .lit (.int .i64 0), .lit (.int .i64 0)]), ((d, 2), .box [.lit (.int .i64 A), eS (lI .u8) m, eS (lI .u8) m_1, .lit (.int .i64 m_2), .lit (.int .i64 m_3)])] S) 0 ?_ (fun k kp hk => ?_)
               ·exact hj (1, (IntKind.i64.wrap ((t.Data.x1.length : Int) - t.Safe.x1))) h
               ·try simp (maxSteps := 4000000) only [go_sem, Prod.mk.injEq, reduceIte, Nat.reduceEqDiff, Nat.reduceAdd, Nat.reduceSub, Nat.reduceMul, Nat.reduceDiv, Nat.reducePow, Nat.reduceLT, Nat.reduceLeDiff, Nat.reduceBEq, Nat.reduceBneDiff, Int.reduceToNat, Int.reduceEq, Int.reduceLE, Int.reduceLT, reduceCtorEq, hn1d, hm1d, vptr_0, vptr_1]
                repeat (with_reducible refine And.intro ?_ ?_; next => first | assumption | trivial | omega | decide | (constructor <;> first | assumption | omega) | (simp [Keep.ok, hp_cons_apply, hset_cons, hn1d, hm1d, vptr_0, vptr_1]; done))
                refine hk _ _ _ ?_
                refine xghost (D := []) ?_ ?_ ?_ ?_
                ·exact (.cons (Sub.of_eq rfl) (.cons (Sub.of_eq rfl) (.cons (Sub.of_eq rfl) (.cons (Sub.of_eq rfl) (.cons (Sub.of_eq rfl) (.cons (Sub.of_eq rfl) .nil))))))
                ·exact HpW.refl
                ·exact (by intro p hp; cases hp)
                ·omega
              ·rw [ite_f hc_3] at h
               refine LW_skipX (sl' := [(1, eS (lI .i64) o), (3, .ptr (d, 0) 0), (6, .ptr (d, 1) 0), (7, .ptr (d, 2) 0), (8, .lit (.int .i64 1)), (9, .lit (.int .i64 t9))]) (S' := (hp [((d, 0), .box [.lit (.int .i64 t.Power), eS (lI .u8) t.Data.x0, eS (lI .u8) t.Data.x1, .lit (.int .i64 t.Safe.x0), .lit (.int .i64 t.Safe.x1)]), ((d, 1), .box [.lit (.int .i64 0), eS (lI .u8) [], eS (lI .u8) [], .lit (.int .i64 0), .lit (.int .i64 0)]), ((d, 2), .box [.lit (.int .i64 A), eS (lI .u8) m, eS (lI .u8) m_1, .lit (.int .i64 m_2), .lit (.int .i64 m_3)])] S)) (c' := 0) ?_ ?_
               ·refine xghost (D := []) ?_ ?_ ?_ ?_
                ·exact (.cons (Sub.of_eq rfl) (.cons (Sub.of_eq rfl) (.cons (Sub.of_eq rfl) (.cons (Sub.of_eq rfl) (.cons (Sub.of_eq rfl) (.cons (Sub.of_eq rfl) .nil))))))
                ·exact HpW.refl
                ·exact (by intro p hp; cases hp)
                ·omega
               ·exact hj (1, t9) h
             ·try simp (maxSteps := 4000000) only [go_sem, Prod.mk.injEq, reduceIte, Nat.reduceEqDiff, Nat.reduceAdd, Nat.reduceSub, Nat.reduceMul, Nat.reduceDiv, Nat.reducePow, Nat.reduceLT, Nat.reduceLeDiff, Nat.reduceBEq, Nat.reduceBneDiff, Int.reduceToNat, Int.reduceEq, Int.reduceLE, Int.reduceLT, reduceCtorEq, hn1d, hm1d, vptr_0, vptr_1]
              repeat (with_reducible refine And.intro ?_ ?_; next => first | assumption | trivial | omega | decide | (constructor <;> first | assumption | omega) | (simp [Keep.ok, hp_cons_apply, hset_cons, hn1d, hm1d, vptr_0, vptr_1]; done))
              refine hk _ _ _ ?_
              refine xghost (D := []) ?_ ?_ ?_ ?_
              ·exact (.cons (Sub.of_eq rfl) (.cons (Sub.of_eq rfl) (.cons (Sub.of_eq rfl) (.cons (Sub.of_eq rfl) (.cons (Sub.of_eq rfl) (.cons (Sub.of_eq rfl) (.cons (Sub.of_eq rfl) .nil)))))))
              ·exact HpW.refl
              ·exact (by intro p hp; cases hp)
              ·omega
            ·rw [if_neg hs] at h
             cases h
         ·obtain ⟨hg, h⟩ := gd_some h
          refine xseq [(1, eS (lI .i64) o), (3, .ptr (d, 0) 0), (6, .ptr (d, 1) 0), (7, .ptr (d, 2) 0), (8, .lit (.int .i64 t8)), (9, .lit (.int .i64 0)), (26, .lit (.bool ((decide (t8 < (o.length : Int))) && (decide (0 < (o.getD (Int.toNat t8) 0))))))] (hp [((d, 0), .box [.lit (.int .i64 t.Power), eS (lI .u8) t.Data.x0, eS (lI .u8) t.Data.x1, .lit (.int .i64 t.Safe.x0), .lit (.int .i64 t.Safe.x1)]), ((d, 1), .box [.lit (.int .i64 0), eS (lI .u8) [], eS (lI .u8) [], .lit (.int .i64 0), .lit (.int .i64 0)]), ((d, 2), .box [.lit (.int .i64 A), eS (lI .u8) m, eS (lI .u8) m_1, .lit (.int .i64 m_2), .lit (.int .i64 m_3)])] S) 0 ?_ (fun k kp hk => ?_)
          ·refine xcond ((decide (t8 < (o.length : Int))) && (decide (0 < (o.getD (Int.toNat t8) 0)))) rfl (fun hc_1 => ?_) (fun hc_1 => ?_)
           ·rw [ite_t hc_1] at h
            obtain ⟨hg_1, h⟩ := gd_some h
            refine xreg [(1, eS (lI .i64) o), (3, .ptr (d, 0) 0), (6, .ptr (d, 1) 0), (7, .ptr (d, 2) 0), (8, .lit (.int .i64 t8)), (9, .lit (.int .i64 (o.getD (Int.toNat t8) 0)))] (hp [((d, 0), .box [.lit (.int .i64 t.Power), eS (lI .u8) t.Data.x0, eS (lI .u8) t.Data.x1, .lit (.int .i64 t.Safe.x0), .lit (.int .i64 t.Safe.x1)]), ((d, 1), .box [.lit (.int .i64 0), eS (lI .u8) [], eS (lI .u8) [], .lit (.int .i64 0), .lit (.int .i64 0)]), ((d, 2), .box [.lit (.int .i64 A), eS (lI .u8) m, eS (lI .u8) m_1, .lit (.int .i64 m_2), .lit (.int .i64 m_3)])] S) 0 ?_ (fun k kp hk => ?_)
            ·exact hj_1 (o.getD (Int.toNat t8) 0) h
            ·try simp (maxSteps := 4000000) only [go_sem, Prod.mk.injEq, reduceIte, Nat.reduceEqDiff, Nat.reduceAdd, Nat.reduceSub, Nat.reduceMul, Nat.reduceDiv, Nat.reducePow, Nat.reduceLT, Nat.reduceLeDiff, Nat.reduceBEq, Nat.reduceBneDiff, Int.reduceToNat, Int.reduceEq, Int.reduceLE, Int.reduceLT, reduceCtorEq, hn1d, hm1d]
             repeat (with_reducible refine And.intro ?_ ?_; next => first | assumption | trivial | omega | decide | (constructor <;> first | assumption | omega) | (simp [Keep.ok, hp_cons_apply, hset_cons, hn1d, hm1d]; done))
             refine hk _ _ _ ?_
             refine xghost (D := []) ?_ ?_ ?_ ?_
             ·exact (.cons (Sub.of_eq rfl) (.cons (Sub.of_eq rfl) (.cons (Sub.of_eq rfl) (.cons (Sub.of_eq rfl) (.cons (Sub.of_eq rfl) (.cons (Sub.of_eq rfl) .nil))))))
             ·exact HpW.refl
             ·exact (by intro p hp; cases hp)
             ·omega
           ·rw [ite_f hc_1] at h
            refine LW_skipX (sl' := [(1, eS (lI .i64) o), (3, .ptr (d, 0) 0), (6, .ptr (d, 1) 0), (7, .ptr (d, 2) 0), (8, .lit (.int .i64 t8)), (9, .lit (.int .i64 0))]) (S' := (hp [((d, 0), .box [.lit (.int .i64 t.Power), eS (lI .u8) t.Data.x0, eS (lI .u8) t.Data.x1, .lit (.int .i64 t.Safe.x0), .lit (.int .i64 t.Safe.x1)]), ((d, 1), .box [.lit (.int .i64 0), eS (lI .u8) [], eS (lI .u8) [], .lit (.int .i64 0), .lit (.int .i64 0)]), ((d, 2), .box [.lit (.int .i64 A), eS (lI .u8) m, eS (lI .u8) m_1, .lit (.int .i64 m_2), .lit (.int .i64 m_3)])] S)) (c' := 0) ?_ ?_
            ·refine xghost (D := []) ?_ ?_ ?_ ?_
             ·exact (.cons (Sub.of_eq rfl) (.cons (Sub.of_eq rfl) (.cons (Sub.of_eq rfl) (.cons (Sub.of_eq rfl) (.cons (Sub.of_eq rfl) (.cons (Sub.of_eq rfl) .nil))))))
             ·exact HpW.refl
             ·exact (by intro p hp; cases hp)
             ·omega
            ·exact hj_1 0 h
          ·try simp (maxSteps := 4000000) only [go_sem, Prod.mk.injEq, reduceIte, Nat.reduceEqDiff, Nat.reduceAdd, Nat.reduceSub, Nat.reduceMul, Nat.reduceDiv, Nat.reducePow, Nat.reduceLT, Nat.reduceLeDiff, Nat.reduceBEq, Nat.reduceBneDiff, Int.reduceToNat, Int.reduceEq, Int.reduceLE, Int.reduceLT, reduceCtorEq, hn1d, hm1d]
           repeat (with_reducible refine And.intro ?_ ?_; next => first | assumption | trivial | omega | decide | (constructor <;> first | assumption | omega) | (simp [Keep.ok, hp_cons_apply, hset_cons, hn1d, hm1d]; done))
           refine xo_guard (decide (t8 < (o.length : Int))) rfl (fun hc_2 => ?_) (fun hc_2 => ?_)
           ·have hg := hg (by simp only [Bool.and_true, Bool.true_and, Bool.and_false, Bool.false_and, Bool.or_true, Bool.true_or, Bool.or_false, Bool.false_or, Bool.not_true, Bool.not_false, Bool.not_not, hc_2])
            try simp (maxSteps := 4000000) only [go_sem, Prod.mk.injEq, reduceIte, Nat.reduceEqDiff, Nat.reduceAdd, Nat.reduceSub, Nat.reduceMul, Nat.reduceDiv, Nat.reducePow, Nat.reduceLT, Nat.reduceLeDiff, Nat.reduceBEq, Nat.reduceBneDiff, Int.reduceToNat, Int.reduceEq, Int.reduceLE, Int.reduceLT, reduceCtorEq, hn1d, hm1d, hc_2]
            repeat (with_reducible refine And.intro ?_ ?_; next => first | assumption | trivial | omega | decide | (constructor <;> first | assumption | omega) | (simp [Keep.ok, hp_cons_apply, hset_cons, hn1d, hm1d]; done))
            refine hk _ _ _ ?_
            refine xghost (D := []) ?_ ?_ ?_ ?_
            ·exact (.cons (Sub.of_eq rfl) (.cons (Sub.of_eq rfl) (.cons (Sub.of_eq rfl) (.cons (Sub.of_eq rfl) (.cons (Sub.of_eq rfl) (.cons (Sub.of_eq rfl) (.cons (Sub.of_eq (by first | rfl | (simp only [sget_cons, reduceIte, Nat.reduceEqDiff, Bool.and_true, Bool.true_and, Bool.and_false, Bool.false_and, Bool.or_true, Bool.true_or, Bool.or_false, Bool.false_or, Bool.not_true, Bool.not_false, Bool.not_not, hc_2]; done))) .nil)))))))
            ·exact HpW.refl
            ·exact (by intro p hp; cases hp)
            ·omega
           ·try simp (maxSteps := 4000000) only [go_sem, Prod.mk.injEq, reduceIte, Nat.reduceEqDiff, Nat.reduceAdd, Nat.reduceSub, Nat.reduceMul, Nat.reduceDiv, Nat.reducePow, Nat.reduceLT, Nat.reduceLeDiff, Nat.reduceBEq, Nat.reduceBneDiff, Int.reduceToNat, Int.reduceEq, Int.reduceLE, Int.reduceLT, reduceCtorEq, hn1d, hm1d, hc_2]
            repeat (with_reducible refine And.intro ?_ ?_; next => first | assumption | trivial | omega | decide | (constructor <;> first | assumption | omega) | (simp [Keep.ok, hp_cons_apply, hset_cons, hn1d, hm1d]; done))
            refine hk _ _ _ ?_
            refine xghost (D := []) ?_ ?_ ?_ ?_
            ·exact (.cons (Sub.of_eq rfl) (.cons (Sub.of_eq rfl) (.cons (Sub.of_eq rfl) (.cons (Sub.of_eq rfl) (.cons (Sub.of_eq rfl) (.cons (Sub.of_eq rfl) (.cons (Sub.of_eq (by first | rfl | (simp only [sget_cons, reduceIte, Nat.reduceEqDiff, Bool.and_true, Bool.true_and, Bool.and_false, Bool.false_and, Bool.or_true, Bool.true_or, Bool.or_false, Bool.false_or, Bool.not_true, Bool.not_false, Bool.not_not, hc_2]; done))) .nil)))))))
            ·exact HpW.refl
            ·exact (by intro p hp; cases hp)
            ·omega
        ·try simp (maxSteps := 4000000) only [go_sem, Prod.mk.injEq, reduceIte, Nat.reduceEqDiff, Nat.reduceAdd, Nat.reduceSub, Nat.reduceMul, Nat.reduceDiv, Nat.reducePow, Nat.reduceLT, Nat.reduceLeDiff, Nat.reduceBEq, Nat.reduceBneDiff, Int.reduceToNat, Int.reduceEq, Int.reduceLE, Int.reduceLT, reduceCtorEq, hn1d, hm1d]
         repeat (with_reducible refine And.intro ?_ ?_; next => first | assumption | trivial | omega | decide | (constructor <;> first | assumption | omega) | (simp [Keep.ok, hp_cons_apply, hset_cons, hn1d, hm1d]; done))
         refine hk _ _ _ ?_
         refine xghost (D := []) ?_ ?_ ?_ ?_
         ·exact (.cons (Sub.of_eq rfl) (.cons (Sub.of_eq rfl) (.cons (Sub.of_eq rfl) (.cons (Sub.of_eq rfl) (.cons (Sub.of_eq rfl) (.cons (Sub.of_eq rfl) .nil))))))
         ·exact HpW.refl
         ·exact (by intro p hp; cases hp)
         ·omega
      ·rw [ite_f hc] at h
       obtain ⟨hq, hxe⟩ := mr_go h hx1
       clear h hx1
       subst hxe
       have h := hq
       clear hq
       refine LW_exitX (sl' := [(1, eS (lI .i64) o), (3, .ptr (d, 0) 0), (6, .ptr (d, 1) 0), (7, .ptr (d, 2) 0), (8, .lit (.int .i64 t8)), (13, .lit (.bool (decide (t8 < 2))))]) (S' := (hp [((d, 0), .box [.lit (.int .i64 t.Power), eS (lI .u8) t.Data.x0, eS (lI .u8) t.Data.x1, .lit (.int .i64 t.Safe.x0), .lit (.int .i64 t.Safe.x1)]), ((d, 1), .box [.lit (.int .i64 0), eS (lI .u8) [], eS (lI .u8) [], .lit (.int .i64 0), .lit (.int .i64 0)]), ((d, 2), .box [.lit (.int .i64 A), eS (lI .u8) m, eS (lI .u8) m_1, .lit (.int .i64 m_2), .lit (.int .i64 m_3)])] S)) (c' := 0) ?_ ?_
       ·refine xghost (D := []) ?_ ?_ ?_ ?_
        ·exact (.cons (Sub.of_eq rfl) (.cons (Sub.of_eq rfl) (.cons (Sub.of_eq rfl) (.cons (Sub.of_eq rfl) (.cons (Sub.of_eq rfl) (.cons (Sub.of_eq rfl) .nil))))))
        ·exact HpW.refl
        ·exact (by intro p hp; cases hp)
        ·omega
       ·show LW _ _ _ _ _ _ _ _
        refine xseq [(6, .ptr (d, 1) 0)] (hp [((d, 0), .box [.lit (.int .i64 t.Power), eS (lI .u8) t.Data.x0, eS (lI .u8) t.Data.x1, .lit (.int .i64 t.Safe.x0), .lit (.int .i64 t.Safe.x1)]), ((d, 1), .box [.lit (.int .i64 A), eS (lI .u8) m, eS (lI .u8) m_1, .lit (.int .i64 m_2), .lit (.int .i64 m_3)]), ((d, 2), .box [.lit (.int .i64 A), eS (lI .u8) m, eS (lI .u8) m_1, .lit (.int .i64 m_2), .lit (.int .i64 m_3)])] S) 3 ?_ (fun k kp hk => ?_)
        ·refine LW_ret ?_
         obtain rfl := Option.some.inj h
         show FPost _ _ _ _ _ _ _
         simp only [FPost, ares, one1, go_sem, Prod.mk.injEq, reduceIte, Nat.reduceEqDiff, Nat.reduceAdd, Nat.reduceSub, Nat.reduceMul, Nat.reduceDiv, Nat.reducePow, Nat.reduceLT, Nat.reduceLeDiff, Nat.reduceBEq, Nat.reduceBneDiff, Int.reduceToNat, Int.reduceEq, Int.reduceLE, Int.reduceLT, reduceCtorEq, hn1d, hm1d]
         repeat (with_reducible refine And.intro ?_ ?_; next => first | assumption | trivial | omega | decide | (constructor <;> first | assumption | omega) | (simp [Keep.ok, hp_cons_apply, hset_cons, hn1d, hm1d]; done))
         first | exact ⟨_, hp_less (L := []) (D := [((d, 0), .box [.lit (.int .i64 t.Power), eS (lI .u8) t.Data.x0, eS (lI .u8) t.Data.x1, .lit (.int .i64 t.Safe.x0), .lit (.int .i64 t.Safe.x1)]), ((d, 1), .box [.lit (.int .i64 A), eS (lI .u8) m, eS (lI .u8) m_1, .lit (.int .i64 m_2), .lit (.int .i64 m_3)]), ((d, 2), .box [.lit (.int .i64 A), eS (lI .u8) m, eS (lI .u8) m_1, .lit (.int .i64 m_2), .lit (.int .i64 m_3)])]) (by intro p hp; simp only [List.mem_cons, List.not_mem_nil, or_false] at hp; rcases hp with rfl | rfl | rfl <;> first | exact hd _ (Nat.le_refl _)), rfl, rfl⟩ | exact ⟨_, hp_less (L := []) (D := [((d, 0), .box [.lit (.int .i64 t.Power), eS (lI .u8) t.Data.x0, eS (lI .u8) t.Data.x1, .lit (.int .i64 t.Safe.x0), .lit (.int .i64 t.Safe.x1)]), ((d, 1), .box [.lit (.int .i64 A), eS (lI .u8) m, eS (lI .u8) m_1, .lit (.int .i64 m_2), .lit (.int .i64 m_3)]), ((d, 2), .box [.lit (.int .i64 A), eS (lI .u8) m, eS (lI .u8) m_1, .lit (.int .i64 m_2), .lit (.int .i64 m_3)])]) (by intro p hp; simp only [List.mem_cons, List.not_mem_nil, or_false] at hp; rcases hp with rfl | rfl | rfl <;> first | exact hd _ (Nat.le_refl _)), rfl⟩
        ·try simp (maxSteps := 4000000) only [go_sem, Prod.mk.injEq, reduceIte, Nat.reduceEqDiff, Nat.reduceAdd, Nat.reduceSub, Nat.reduceMul, Nat.reduceDiv, Nat.reducePow, Nat.reduceLT, Nat.reduceLeDiff, Nat.reduceBEq, Nat.reduceBneDiff, Int.reduceToNat, Int.reduceEq, Int.reduceLE, Int.reduceLT, reduceCtorEq, hn1d, hm1d]
         repeat (with_reducible refine And.intro ?_ ?_; next => first | assumption | trivial | omega | decide | (constructor <;> first | assumption | omega) | (simp [Keep.ok, hp_cons_apply, hset_cons, hn1d, hm1d]; done))
         refine hk _ _ _ ?_
         refine xghost (D := []) ?_ ?_ ?_ ?_
         ·exact (.cons (Sub.of_eq rfl) .nil)
         ·exact HpW.refl
         ·exact (by intro p hp; cases hp)
         ·omega
     ·try simp (maxSteps := 4000000) only [go_sem, Prod.mk.injEq, reduceIte, Nat.reduceEqDiff, Nat.reduceAdd, Nat.reduceSub, Nat.reduceMul, Nat.reduceDiv, Nat.reducePow, Nat.reduceLT, Nat.reduceLeDiff, Nat.reduceBEq, Nat.reduceBneDiff, Int.reduceToNat, Int.reduceEq, Int.reduceLE, Int.reduceLT, reduceCtorEq, hn1d, hm1d]
      repeat (with_reducible refine And.intro ?_ ?_; next => first | assumption | trivial | omega | decide | (constructor <;> first | assumption | omega) | (simp [Keep.ok, hp_cons_apply, hset_cons, hn1d, hm1d]; done))
      refine hk _ _ _ ?_
      refine xghost (D := []) ?_ ?_ ?_ ?_
      ·exact (.cons (Sub.of_eq rfl) (.cons (Sub.of_eq rfl) (.cons (Sub.of_eq rfl) (.cons (Sub.of_eq rfl) (.cons (Sub.of_eq rfl) (.cons (Sub.of_eq rfl) .nil))))))
      ·exact HpW.refl
      ·exact (by intro p hp; cases hp)
      ·omega
    ·refine xghost (D := []) ?_ ?_ ?_ ?_
     ·exact (.cons (Sub.of_eq rfl) (.cons (Sub.of_eq rfl) (.cons (Sub.of_eq rfl) (.cons (Sub.of_eq rfl) (.cons (Sub.of_eq rfl) .nil)))))
     ·exact (.cons .refl (.cons (.box (.cons Sub.refl (.cons Sub.nil (.cons Sub.nil (.cons Sub.refl (.cons Sub.refl .nil))))) ⟨.inl rfl, ⟨.inl rfl, ⟨.inl rfl, ⟨.inl rfl, ⟨.inl rfl, trivial⟩⟩⟩⟩⟩) (.cons (.box (.cons Sub.refl (.cons Sub.nil (.cons Sub.nil (.cons Sub.refl (.cons Sub.refl .nil))))) ⟨.inl rfl, ⟨.inl rfl, ⟨.inl rfl, ⟨.inl rfl, ⟨.inl rfl, trivial⟩⟩⟩⟩⟩) .nil)))
     ·exact (by intro p hp; cases hp)
     ·omega
   ·try simp (maxSteps := 4000000) only [go_sem, Prod.mk.injEq, reduceIte, Nat.reduceEqDiff, Nat.reduceAdd, Nat.reduceSub, Nat.reduceMul, Nat.reduceDiv, Nat.reducePow, Nat.reduceLT, Nat.reduceLeDiff, Nat.reduceBEq, Nat.reduceBneDiff, Int.reduceToNat, Int.reduceEq, Int.reduceLE, Int.reduceLT, reduceCtorEq]
    repeat (with_reducible refine And.intro ?_ ?_; next => first | assumption | trivial | omega | decide | (constructor <;> first | assumption | omega) | (simp [Keep.ok, hp_cons_apply, hset_cons]; done))
    refine hk _ _ _ ?_
    refine xghost (D := []) ?_ ?_ ?_ ?_
    ·exact (.cons (Sub.of_eq rfl) (.cons (Sub.of_eq rfl) (.cons (Sub.of_eq rfl) (.cons (Sub.of_eq rfl) (.cons (Sub.of_eq rfl) .nil)))))
    ·exact HpW.refl
    ·exact (by intro p hp; cases hp)
    ·omega
  ·try simp (maxSteps := 4000000) only [go_sem, Prod.mk.injEq, reduceIte, Nat.reduceEqDiff, Nat.reduceAdd, Nat.reduceSub, Nat.reduceMul, Nat.reduceDiv, Nat.reducePow, Nat.reduceLT, Nat.reduceLeDiff, Nat.reduceBEq, Nat.reduceBneDiff, Int.reduceToNat, Int.reduceEq, Int.reduceLE, Int.reduceLT, reduceCtorEq]
   repeat (with_reducible refine And.intro ?_ ?_; next => first | assumption | trivial | omega | decide | (constructor <;> first | assumption | omega) | (simp [Keep.ok, hp_cons_apply, hset_cons]; done))
   refine hk _ _ _ ?_
   refine xghost (D := []) ?_ ?_ ?_ ?_
   ·exact (.cons (Sub.of_eq rfl) (.cons (Sub.of_eq rfl) (.cons (Sub.of_eq rfl) (.cons (Sub.of_eq rfl) .nil))))
   ·exact HpW.refl
   ·exact (by intro p hp; cases hp)
   ·omega
 ·try simp (maxSteps := 4000000) only [go_sem, Prod.mk.injEq, reduceIte, Nat.reduceEqDiff, Nat.reduceAdd, Nat.reduceSub, Nat.reduceMul, Nat.reduceDiv, Nat.reducePow, Nat.reduceLT, Nat.reduceLeDiff, Nat.reduceBEq, Nat.reduceBneDiff, Int.reduceToNat, Int.reduceEq, Int.reduceLE, Int.reduceLT, reduceCtorEq]
  repeat (with_reducible refine And.intro ?_ ?_; next => first | assumption | trivial | omega | decide | (constructor <;> first | assumption | omega) | (simp [Keep.ok, hp_cons_apply, hset_cons]; done))
  refine hk _ _ _ ?_
  refine xghost (D := []) ?_ ?_ ?_ ?_
  ·exact (.cons (Sub.of_eq rfl) (.cons (Sub.of_eq rfl) (.cons (Sub.of_eq rfl) (.cons (Sub.of_eq rfl) .nil))))
  ·exact HpW.refl
  ·exact (by intro p hp; cases hp)
  ·omega
/-! stanchion/stanchionref04.area -/
def s_stanchionref04_area (n : Int) : Option Bool :=
 some ((n == 0) || (n == 1))
theorem s_stanchionref04_area_ok (S : AHeap) (n : Int) {r : Bool} (h : s_stanchionref04_area n = some r) :
  AC Try.prog n_stanchionref04_area [.lit (.int .i64 n)] S fun r' S' => r' = .ret (.lit (.bool r)) ∧ S' = S := by
 refine AC_of tok mixed fits_stanchionref04_area fun d hd => ?_
 unfold c_stanchionref04_area
 show LW _ _ _ _ [(0, .lit (.int .i64 n))] (hp [] S) 0 _
 rw [s_stanchionref04_area] at h
 refine xseq [(0, .lit (.int .i64 n))] (hp [] S) 0 ?_ (fun k kp hk => ?_)
 ·refine xseq [(2, .lit (.bool ((n == 0) || (n == 1))))] (hp [] S) 0 ?_ (fun k kp hk => ?_)
  ·refine LW_ret ?_
   obtain rfl := Option.some.inj h
   show FPost _ _ _ _ _ _ _
   exact ⟨_, hp_less (L := []) (D := []) (by intro p hp; cases hp), rfl, rfl⟩
  ·try simp (maxSteps := 4000000) only [go_sem, Prod.mk.injEq, reduceIte, Nat.reduceEqDiff, Nat.reduceAdd, Nat.reduceSub, Nat.reduceMul, Nat.reduceDiv, Nat.reducePow, Nat.reduceLT, Nat.reduceLeDiff, Nat.reduceBEq, Nat.reduceBneDiff, Int.reduceToNat, Int.reduceEq, Int.reduceLE, Int.reduceLT, reduceCtorEq]
   repeat (with_reducible refine And.intro ?_ ?_; next => first | assumption | trivial | omega | decide | (constructor <;> first | assumption | omega) | (simp [Keep.ok, hp_cons_apply, hset_cons]; done))
   refine xo_guard (n == 0) rfl (fun hc => ?_) (fun hc => ?_)
   ·try simp (maxSteps := 4000000) only [go_sem, Prod.mk.injEq, reduceIte, Nat.reduceEqDiff, Nat.reduceAdd, Nat.reduceSub, Nat.reduceMul, Nat.reduceDiv, Nat.reducePow, Nat.reduceLT, Nat.reduceLeDiff, Nat.reduceBEq, Nat.reduceBneDiff, Int.reduceToNat, Int.reduceEq, Int.reduceLE, Int.reduceLT, reduceCtorEq, hc]
    repeat (with_reducible refine And.intro ?_ ?_; next => first | assumption | trivial | omega | decide | (constructor <;> first | assumption | omega) | (simp [Keep.ok, hp_cons_apply, hset_cons]; done))
    refine hk _ _ _ ?_
    refine xghost (D := []) ?_ ?_ ?_ ?_
    ·exact (.cons (Sub.of_eq (by first | rfl | (simp only [sget_cons, reduceIte, Nat.reduceEqDiff, Bool.and_true, Bool.true_and, Bool.and_false, Bool.false_and, Bool.or_true, Bool.true_or, Bool.or_false, Bool.false_or, Bool.not_true, Bool.not_false, Bool.not_not, hc]; done))) .nil)
    ·exact HpW.refl
    ·exact (by intro p hp; cases hp)
    ·omega
   ·try simp (maxSteps := 4000000) only [go_sem, Prod.mk.injEq, reduceIte, Nat.reduceEqDiff, Nat.reduceAdd, Nat.reduceSub, Nat.reduceMul, Nat.reduceDiv, Nat.reducePow, Nat.reduceLT, Nat.reduceLeDiff, Nat.reduceBEq, Nat.reduceBneDiff, Int.reduceToNat, Int.reduceEq, Int.reduceLE, Int.reduceLT, reduceCtorEq, hc]
    repeat (with_reducible refine And.intro ?_ ?_; next => first | assumption | trivial | omega | decide | (constructor <;> first | assumption | omega) | (simp [Keep.ok, hp_cons_apply, hset_cons]; done))
    refine hk _ _ _ ?_
    refine xghost (D := []) ?_ ?_ ?_ ?_
    ·exact (.cons (Sub.of_eq (by first | rfl | (simp only [sget_cons, reduceIte, Nat.reduceEqDiff, Bool.and_true, Bool.true_and, Bool.and_false, Bool.false_and, Bool.or_true, Bool.true_or, Bool.or_false, Bool.false_or, Bool.not_true, Bool.not_false, Bool.not_not, hc]; done))) .nil)
    ·exact HpW.refl
    ·exact (by intro p hp; cases hp)
    ·omega
 ·try simp (maxSteps := 4000000) only [go_sem, Prod.mk.injEq, reduceIte, Nat.reduceEqDiff, Nat.reduceAdd, Nat.reduceSub, Nat.reduceMul, Nat.reduceDiv, Nat.reducePow, Nat.reduceLT, Nat.reduceLeDiff, Nat.reduceBEq, Nat.reduceBneDiff, Int.reduceToNat, Int.reduceEq, Int.reduceLE, Int.reduceLT, reduceCtorEq]
  repeat (with_reducible refine And.intro ?_ ?_; next => first | assumption | trivial | omega | decide | (constructor <;> first | assumption | omega) | (simp [Keep.ok, hp_cons_apply, hset_cons]; done))
  refine hk _ _ _ ?_
  refine xghost (D := []) ?_ ?_ ?_ ?_
  ·exact (.cons (Sub.of_eq rfl) .nil)
  ·exact HpW.refl
  ·exact (by intro p hp; cases hp)
  ·omega
/-! (stanchion/stanchionref04.Disk).draw -/
def s_stanchionref04_Disk_draw_j1 (dx : Gref04Disk) (m : Int) : Option (Gref04Disk × Int) :=
 some ((Gref04Disk.mk m dx.Data dx.Safe), 0)
def s_stanchionref04_Disk_draw (dx : Gref04Disk) : Option (Gref04Disk × Int) :=
 if (dx.Power == 0) = true then some (dx, 40) else if (decide (0 < dx.Power)) = true then s_stanchionref04_Disk_draw_j1 dx (IntKind.i64.wrap (dx.Power - 1)) else s_stanchionref04_Disk_draw_j1 dx dx.Power
theorem s_stanchionref04_Disk_draw_ok (S : AHeap) (dx : Gref04Disk) {r : Gref04Disk × Int} (h : s_stanchionref04_Disk_draw dx = some r) :
  AC Try.prog n_stanchionref04_Disk_draw [.agg [.lit (.int .i64 dx.Power), eS (lI .u8) dx.Data.x0, eS (lI .u8) dx.Data.x1, .lit (.int .i64 dx.Safe.x0), .lit (.int .i64 dx.Safe.x1)]] S fun r' S' => r' = .ret (.tup [.agg [.lit (.int .i64 r.1.Power), eS (lI .u8) r.1.Data.x0, eS (lI .u8) r.1.Data.x1, .lit (.int .i64 r.1.Safe.x0), .lit (.int .i64 r.1.Safe.x1)], .lit (.int .i64 r.2)]) ∧ S' = S := by
 refine AC_of tok mixed fits_stanchionref04_Disk_draw fun d hd => ?_
 unfold c_stanchionref04_Disk_draw
 show LW _ _ _ _ [(0, .agg [.lit (.int .i64 dx.Power), eS (lI .u8) dx.Data.x0, eS (lI .u8) dx.Data.x1, .lit (.int .i64 dx.Safe.x0), .lit (.int .i64 dx.Safe.x1)])] (hp [] S) 0 _
 rw [s_stanchionref04_Disk_draw] at h
 refine xseq [(1, .ptr (d, 0) 0), (2, .ptr (d, 1) 0)] (hp [((d, 0), .box [.lit (.int .i64 dx.Power), eS (lI .u8) dx.Data.x0, eS (lI .u8) dx.Data.x1, .lit (.int .i64 dx.Safe.x0), .lit (.int .i64 dx.Safe.x1)]), ((d, 1), .box [.lit (.int .i64 0), .lit (.slice none 0 0), .lit (.slice none 0 0), .lit (.int .i64 0), .lit (.int .i64 0)])] S) 2 ?_ (fun k kp hk => ?_)
 ·refine LW_seq ?_
  refine xseq [(1, .ptr (d, 0) 0), (2, .ptr (d, 1) 0), (6, .lit (.bool (dx.Power == 0)))] (hp [((d, 0), .box [.lit (.int .i64 dx.Power), eS (lI .u8) dx.Data.x0, eS (lI .u8) dx.Data.x1, .lit (.int .i64 dx.Safe.x0), .lit (.int .i64 dx.Safe.x1)]), ((d, 1), .box [.lit (.int .i64 0), .lit (.slice none 0 0), .lit (.slice none 0 0), .lit (.int .i64 0), .lit (.int .i64 0)])] S) 2 ?_ (fun k kp hk => ?_)
  ·refine xcond (dx.Power == 0) rfl (fun hc => ?_) (fun hc => ?_)
   ·rw [ite_t hc] at h
    refine xseq [(2, .ptr (d, 1) 0), (3, .lit (.int .i64 40))] (hp [((d, 0), .box [.lit (.int .i64 dx.Power), eS (lI .u8) dx.Data.x0, eS (lI .u8) dx.Data.x1, .lit (.int .i64 dx.Safe.x0), .lit (.int .i64 dx.Safe.x1)]), ((d, 1), .box [.lit (.int .i64 dx.Power), eS (lI .u8) dx.Data.x0, eS (lI .u8) dx.Data.x1, .lit (.int .i64 dx.Safe.x0), .lit (.int .i64 dx.Safe.x1)])] S) 2 ?_ (fun k kp hk => ?_)
    ·refine LW_ret ?_
     obtain rfl := Option.some.inj h
     show FPost _ _ _ _ _ _ _
     simp only [FPost, ares, one1, go_sem, Prod.mk.injEq, reduceIte, Nat.reduceEqDiff, Nat.reduceAdd, Nat.reduceSub, Nat.reduceMul, Nat.reduceDiv, Nat.reducePow, Nat.reduceLT, Nat.reduceLeDiff, Nat.reduceBEq, Nat.reduceBneDiff, Int.reduceToNat, Int.reduceEq, Int.reduceLE, Int.reduceLT, reduceCtorEq]
     repeat (with_reducible refine And.intro ?_ ?_; next => first | assumption | trivial | omega | decide | (constructor <;> first | assumption | omega) | (simp [Keep.ok, hp_cons_apply, hset_cons]; done))
     first | exact ⟨_, hp_less (L := []) (D := [((d, 0), .box [.lit (.int .i64 dx.Power), eS (lI .u8) dx.Data.x0, eS (lI .u8) dx.Data.x1, .lit (.int .i64 dx.Safe.x0), .lit (.int .i64 dx.Safe.x1)]), ((d, 1), .box [.lit (.int .i64 dx.Power), eS (lI .u8) dx.Data.x0, eS (lI .u8) dx.Data.x1, .lit (.int .i64 dx.Safe.x0), .lit (.int .i64 dx.Safe.x1)])]) (by intro p hp; simp only [List.mem_cons, List.not_mem_nil, or_false] at hp; rcases hp with rfl | rfl <;> first | exact hd _ (Nat.le_refl _)), rfl, rfl⟩ | exact ⟨_, hp_less (L := []) (D := [((d, 0), .box [.lit (.int .i64 dx.Power), eS (lI .u8) dx.Data.x0, eS (lI .u8) dx.Data.x1, .lit (.int .i64 dx.Safe.x0), .lit (.int .i64 dx.Safe.x1)]), ((d, 1), .box [.lit (.int .i64 dx.Power), eS (lI .u8) dx.Data.x0, eS (lI .u8) dx.Data.x1, .lit (.int .i64 dx.Safe.x0), .lit (.int .i64 dx.Safe.x1)])]) (by intro p hp; simp only [List.mem_cons, List.not_mem_nil, or_false] at hp; rcases hp with rfl | rfl <;> first | exact hd _ (Nat.le_refl _)), rfl⟩
    ·try simp (maxSteps := 4000000) only [go_sem, Prod.mk.injEq, reduceIte, Nat.reduceEqDiff, Nat.reduceAdd, Nat.reduceSub, Nat.reduceMul, Nat.reduceDiv, Nat.reducePow, Nat.reduceLT, Nat.reduceLeDiff, Nat.reduceBEq, Nat.reduceBneDiff, Int.reduceToNat, Int.reduceEq, Int.reduceLE, Int.reduceLT, reduceCtorEq]
     repeat (with_reducible refine And.intro ?_ ?_; next => first | assumption | trivial | omega | decide | (constructor <;> first | assumption | omega) | (simp [Keep.ok, hp_cons_apply, hset_cons]; done))
     refine hk _ _ _ ?_
     refine xghost (D := []) ?_ ?_ ?_ ?_
     ·exact (.cons (Sub.of_eq rfl) (.cons (Sub.of_eq rfl) .nil))
     ·exact HpW.refl
     ·exact (by intro p hp; cases hp)
     ·omega
   ·rw [ite_f hc] at h
    refine LW_skip ?_
    show LW _ _ _ _ _ _ _ _
    refine xjoin (J := Int) (fun jj => [(1, .ptr (d, 0) 0), (2, .ptr (d, 1) 0)]) (fun jj => (hp [((d, 0), .box [.lit (.int .i64 jj), eS (lI .u8) dx.Data.x0, eS (lI .u8) dx.Data.x1, .lit (.int .i64 dx.Safe.x0), .lit (.int .i64 dx.Safe.x1)]), ((d, 1), .box [.lit (.int .i64 0), .lit (.slice none 0 0), .lit (.slice none 0 0), .lit (.int .i64 0), .lit (.int .i64 0)])] S)) 2 (fun jj => s_stanchionref04_Disk_draw_j1 dx jj = some r) ?_ (fun hj => ?_)
    ·rintro m h
     show LW _ _ _ _ [(1, .ptr (d, 0) 0), (2, .ptr (d, 1) 0)] (hp [((d, 0), .box [.lit (.int .i64 m), eS (lI .u8) dx.Data.x0, eS (lI .u8) dx.Data.x1, .lit (.int .i64 dx.Safe.x0), .lit (.int .i64 dx.Safe.x1)]), ((d, 1), .box [.lit (.int .i64 0), .lit (.slice none 0 0), .lit (.slice none 0 0), .lit (.int .i64 0), .lit (.int .i64 0)])] S) 2 _
     replace h : s_stanchionref04_Disk_draw_j1 dx m = some r := h
     rw [s_stanchionref04_Disk_draw_j1] at h
     refine xseq [(2, .ptr (d, 1) 0), (3, .lit (.int .i64 0))] (hp [((d, 0), .box [.lit (.int .i64 m), eS (lI .u8) dx.Data.x0, eS (lI .u8) dx.Data.x1, .lit (.int .i64 dx.Safe.x0), .lit (.int .i64 dx.Safe.x1)]), ((d, 1), .box [.lit (.int .i64 m), eS (lI .u8) dx.Data.x0, eS (lI .u8) dx.Data.x1, .lit (.int .i64 dx.Safe.x0), .lit (.int .i64 dx.Safe.x1)])] S) 2 ?_ (fun k kp hk => ?_)
     ·refine LW_ret ?_
      obtain rfl := Option.some.inj h
      show FPost _ _ _ _ _ _ _
      simp only [FPost, ares, one1, go_sem, Prod.mk.injEq, reduceIte, Nat.reduceEqDiff, Nat.reduceAdd, Nat.reduceSub, Nat.reduceMul, Nat.reduceDiv, Nat.reducePow, Nat.reduceLT, Nat.reduceLeDiff, Nat.reduceBEq, Nat.reduceBneDiff, Int.reduceToNat, Int.reduceEq, Int.reduceLE, Int.reduceLT, reduceCtorEq]
      repeat (with_reducible refine And.intro ?_ ?_; next => first | assumption | trivial | omega | decide | (constructor <;> first | assumption | omega) | (simp [Keep.ok, hp_cons_apply, hset_cons]; done))
      first | exact ⟨_, hp_less (L := []) (D := [((d, 0), .box [.lit (.int .i64 m), eS (lI .u8) dx.Data.x0, eS (lI .u8) dx.Data.x1, .lit (.int .i64 dx.Safe.x0), .lit (.int .i64 dx.Safe.x1)]), ((d, 1), .box [.lit (.int .i64 m), eS (lI .u8) dx.Data.x0, eS (lI .u8) dx.Data.x1, .lit (.int .i64 dx.Safe.x0), .lit (.int .i64 dx.Safe.x1)])]) (by intro p hp; simp only [List.mem_cons, List.not_mem_nil, or_false] at hp; rcases hp with rfl | rfl <;> first | exact hd _ (Nat.le_refl _)), rfl, rfl⟩ | exact ⟨_, hp_less (L := []) (D := [((d, 0), .box [.lit (.int .i64 m), eS (lI .u8) dx.Data.x0, eS (lI .u8) dx.Data.x1, .lit (.int .i64 dx.Safe.x0), .lit (.int .i64 dx.Safe.x1)]), ((d, 1), .box [.lit (.int .i64 m), eS (lI .u8) dx.Data.x0, eS (lI .u8) dx.Data.x1, .lit (.int .i64 dx.Safe.x0), .lit (.int .i64 dx.Safe.x1)])]) (by intro p hp; simp only [List.mem_cons, List.not_mem_nil, or_false] at hp; rcases hp with rfl | rfl <;> first | exact hd _ (Nat.le_refl _)), rfl⟩
     ·try simp (maxSteps := 4000000) only [go_sem, Prod.mk.injEq, reduceIte, Nat.reduceEqDiff, Nat.reduceAdd, Nat.reduceSub, Nat.reduceMul, Nat.reduceDiv, Nat.reducePow, Nat.reduceLT, Nat.reduceLeDiff, Nat.reduceBEq, Nat.reduceBneDiff, Int.reduceToNat, Int.reduceEq, Int.reduceLE, Int.reduceLT, reduceCtorEq]
      repeat (with_reducible refine And.intro ?_ ?_; next => first | assumption | trivial | omega | decide | (constructor <;> first | assumption | omega) | (simp [Keep.ok, hp_cons_apply, hset_cons]; done))
      refine hk _ _ _ ?_
      refine xghost (D := []) ?_ ?_ ?_ ?_
      ·exact (.cons (Sub.of_eq rfl) (.cons (Sub.of_eq rfl) .nil))
      ·exact HpW.refl
      ·exact (by intro p hp; cases hp)
      ·omega
    ·refine xseq [(1, .ptr (d, 0) 0), (2, .ptr (d, 1) 0), (10, .lit (.bool (decide (0 < dx.Power))))] (hp [((d, 0), .box [.lit (.int .i64 dx.Power), eS (lI .u8) dx.Data.x0, eS (lI .u8) dx.Data.x1, .lit (.int .i64 dx.Safe.x0), .lit (.int .i64 dx.Safe.x1)]), ((d, 1), .box [.lit (.int .i64 0), .lit (.slice none 0 0), .lit (.slice none 0 0), .lit (.int .i64 0), .lit (.int .i64 0)])] S) 2 ?_ (fun k kp hk => ?_)
     ·refine xcond (decide (0 < dx.Power)) rfl (fun hc_1 => ?_) (fun hc_1 => ?_)
      ·rw [ite_t hc_1] at h
       refine xreg [(1, .ptr (d, 0) 0), (2, .ptr (d, 1) 0)] (hp [((d, 0), .box [.lit (.int .i64 (IntKind.i64.wrap (dx.Power - 1))), eS (lI .u8) dx.Data.x0, eS (lI .u8) dx.Data.x1, .lit (.int .i64 dx.Safe.x0), .lit (.int .i64 dx.Safe.x1)]), ((d, 1), .box [.lit (.int .i64 0), .lit (.slice none 0 0), .lit (.slice none 0 0), .lit (.int .i64 0), .lit (.int .i64 0)])] S) 2 ?_ (fun k kp hk => ?_)
       ·exact hj (IntKind.i64.wrap (dx.Power - 1)) h
       ·try simp (maxSteps := 4000000) only [go_sem, Prod.mk.injEq, reduceIte, Nat.reduceEqDiff, Nat.reduceAdd, Nat.reduceSub, Nat.reduceMul, Nat.reduceDiv, Nat.reducePow, Nat.reduceLT, Nat.reduceLeDiff, Nat.reduceBEq, Nat.reduceBneDiff, Int.reduceToNat, Int.reduceEq, Int.reduceLE, Int.reduceLT, reduceCtorEq]
        repeat (with_reducible refine And.intro ?_ ?_; next => first | assumption | trivial | omega | decide | (constructor <;> first | assumption | omega) | (simp [Keep.ok, hp_cons_apply, hset_cons]; done))
        refine hk _ _ _ ?_
        refine xghost (D := []) ?_ ?_ ?_ ?_
        ·exact (.cons (Sub.of_eq rfl) (.cons (Sub.of_eq rfl) .nil))
        ·exact HpW.refl
        ·exact (by intro p hp; cases hp)
        ·omega
      ·rw [ite_f hc_1] at h
       refine LW_skipX (sl' := [(1, .ptr (d, 0) 0), (2, .ptr (d, 1) 0)]) (S' := (hp [((d, 0), .box [.lit (.int .i64 dx.Power), eS (lI .u8) dx.Data.x0, eS (lI .u8) dx.Data.x1, .lit (.int .i64 dx.Safe.x0), .lit (.int .i64 dx.Safe.x1)]), ((d, 1), .box [.lit (.int .i64 0), .lit (.slice none 0 0), .lit (.slice none 0 0), .lit (.int .i64 0), .lit (.int .i64 0)])] S)) (c' := 2) ?_ ?_
       ·refine xghost (D := []) ?_ ?_ ?_ ?_
        ·exact (.cons (Sub.of_eq rfl) (.cons (Sub.of_eq rfl) .nil))
        ·exact HpW.refl
        ·exact (by intro p hp; cases hp)
        ·omega
       ·exact hj dx.Power h
     ·try simp (maxSteps := 4000000) only [go_sem, Prod.mk.injEq, reduceIte, Nat.reduceEqDiff, Nat.reduceAdd, Nat.reduceSub, Nat.reduceMul, Nat.reduceDiv, Nat.reducePow, Nat.reduceLT, Nat.reduceLeDiff, Nat.reduceBEq, Nat.reduceBneDiff, Int.reduceToNat, Int.reduceEq, Int.reduceLE, Int.reduceLT, reduceCtorEq]
      repeat (with_reducible refine And.intro ?_ ?_; next => first | assumption | trivial | omega | decide | (constructor <;> first | assumption | omega) | (simp [Keep.ok, hp_cons_apply, hset_cons]; done))
      refine hk _ _ _ ?_
      refine xghost (D := []) ?_ ?_ ?_ ?_
      ·exact (.cons (Sub.of_eq rfl) (.cons (Sub.of_eq rfl) (.cons (Sub.of_eq rfl) .nil)))
      ·exact HpW.refl
      ·exact (by intro p hp; cases hp)
      ·omega
  ·try simp (maxSteps := 4000000) only [go_sem, Prod.mk.injEq, reduceIte, Nat.reduceEqDiff, Nat.reduceAdd, Nat.reduceSub, Nat.reduceMul, Nat.reduceDiv, Nat.reducePow, Nat.reduceLT, Nat.reduceLeDiff, Nat.reduceBEq, Nat.reduceBneDiff, Int.reduceToNat, Int.reduceEq, Int.reduceLE, Int.reduceLT, reduceCtorEq]
   repeat (with_reducible refine And.intro ?_ ?_; next => first | assumption | trivial | omega | decide | (constructor <;> first | assumption | omega) | (simp [Keep.ok, hp_cons_apply, hset_cons]; done))
   refine hk _ _ _ ?_
   refine xghost (D := []) ?_ ?_ ?_ ?_
   ·exact (.cons (Sub.of_eq rfl) (.cons (Sub.of_eq rfl) (.cons (Sub.of_eq rfl) .nil)))
   ·exact HpW.refl
   ·exact (by intro p hp; cases hp)
   ·omega
 ·try simp (maxSteps := 4000000) only [go_sem, Prod.mk.injEq, reduceIte, Nat.reduceEqDiff, Nat.reduceAdd, Nat.reduceSub, Nat.reduceMul, Nat.reduceDiv, Nat.reducePow, Nat.reduceLT, Nat.reduceLeDiff, Nat.reduceBEq, Nat.reduceBneDiff, Int.reduceToNat, Int.reduceEq, Int.reduceLE, Int.reduceLT, reduceCtorEq]
  repeat (with_reducible refine And.intro ?_ ?_; next => first | assumption | trivial | omega | decide | (constructor <;> first | assumption | omega) | (simp [Keep.ok, hp_cons_apply, hset_cons]; done))
  refine hk _ _ _ ?_
  refine xghost (D := []) ?_ ?_ ?_ ?_
  ·exact (.cons (Sub.of_eq rfl) (.cons (Sub.of_eq rfl) .nil))
  ·exact HpW.refl
  ·exact (by intro p hp; cases hp)
  ·omega
/-! stanchion/stanchionref00.CopyBytes -/
def s_stanchionref00_CopyBytes_T (b : List Int) : Option (List Int) :=
 gd (((0 + b.length) * 1 ≤ 140737488355328 ∧ 0 + b.length < 9223372036854775808)) (some b)
theorem s_stanchionref00_CopyBytes_T_ok (S : AHeap) (b : List Int) {r : List Int} (h : s_stanchionref00_CopyBytes_T b = some r) :
  AC Try.prog n_stanchionref00_CopyBytes [eS (lI .u8) b] S fun r' S' => ∃ m : Name, S m = none ∧ r' = .ret (eT (lI .u8) m r) ∧ S' = S.set m (oT (lI .u8) r) := by
 refine AC_of tok mixed fits_stanchionref00_CopyBytes fun d hd => ?_
 unfold c_stanchionref00_CopyBytes
 show LW _ _ _ _ [(0, eS (lI .u8) b)] (hp [] S) 0 _
 rw [s_stanchionref00_CopyBytes_T] at h
 refine xseq [(0, eS (lI .u8) b)] (hp [] S) 0 ?_ (fun k kp hk => ?_)
 ·refine xseq [(0, eS (lI .u8) b), (3, eT (lI .u8) (d, 0) [])] (hp [((d, 0), oT (lI .u8) [])] S) 1 ?_ (fun k kp hk => ?_)
  ·obtain ⟨hg, h⟩ := gd_some h
   refine xseq [(3, eT (lI .u8) (d, 0) b)] (hp [((d, 0), oT (lI .u8) b)] S) 1 ?_ (fun k kp hk => ?_)
   ·refine xseq [(2, eT (lI .u8) (d, 0) b)] (hp [((d, 0), oT (lI .u8) b)] S) 1 ?_ (fun k kp hk => ?_)
    ·refine LW_ret ?_
     obtain rfl := Option.some.inj h
     show FPost _ _ _ _ _ _ _
     exact ⟨_, hp_less (L := [((d, 0), oT (lI .u8) b)]) (D := []) (by intro p hp; cases hp), (d, 0), hd _ (Nat.le_refl _), rfl, rfl⟩
    ·try simp (maxSteps := 4000000) only [go_sem, Prod.mk.injEq, reduceIte, Nat.reduceEqDiff, Nat.reduceAdd, Nat.reduceSub, Nat.reduceMul, Nat.reduceDiv, Nat.reducePow, Nat.reduceLT, Nat.reduceLeDiff, Nat.reduceBEq, Nat.reduceBneDiff, Int.reduceToNat, Int.reduceEq, Int.reduceLE, Int.reduceLT, reduceCtorEq]
     repeat (with_reducible refine And.intro ?_ ?_; next => first | assumption | trivial | omega | decide | (constructor <;> first | assumption | omega) | (simp [Keep.ok, hp_cons_apply, hset_cons]; done))
     refine hk _ _ _ ?_
     refine xghost (D := []) ?_ ?_ ?_ ?_
     ·exact (.cons (Sub.of_eq rfl) .nil)
     ·exact HpW.refl
     ·exact (by intro p hp; cases hp)
     ·omega
   ·try simp (maxSteps := 4000000) only [go_sem, Prod.mk.injEq, reduceIte, Nat.reduceEqDiff, Nat.reduceAdd, Nat.reduceSub, Nat.reduceMul, Nat.reduceDiv, Nat.reducePow, Nat.reduceLT, Nat.reduceLeDiff, Nat.reduceBEq, Nat.reduceBneDiff, Int.reduceToNat, Int.reduceEq, Int.reduceLE, Int.reduceLT, reduceCtorEq]
    repeat (with_reducible refine And.intro ?_ ?_; next => first | assumption | trivial | omega | decide | (constructor <;> first | assumption | omega) | (simp [Keep.ok, hp_cons_apply, hset_cons]; done))
    refine append1_eT (L := (lI .u8)) (n := (d, 0)) (xs := []) (ys := b) T22 T22 T5 ?_ rfl ?_ asrc_eS ?_ rfl ?_ ?_
    ·first | exact .inl rfl | exact .inr rfl
    ·try simp (maxSteps := 4000000) only [go_sem, Prod.mk.injEq, reduceIte, Nat.reduceEqDiff, Nat.reduceAdd, Nat.reduceSub, Nat.reduceMul, Nat.reduceDiv, Nat.reducePow, Nat.reduceLT, Nat.reduceLeDiff, Nat.reduceBEq, Nat.reduceBneDiff, Int.reduceToNat, Int.reduceEq, Int.reduceLE, Int.reduceLT, reduceCtorEq]
    ·exact ⟨trivial, rfl⟩
    ·dsimp only [List.length]; omega
    try simp (maxSteps := 4000000) only [go_sem, Prod.mk.injEq, reduceIte, Nat.reduceEqDiff, Nat.reduceAdd, Nat.reduceSub, Nat.reduceMul, Nat.reduceDiv, Nat.reducePow, Nat.reduceLT, Nat.reduceLeDiff, Nat.reduceBEq, Nat.reduceBneDiff, Int.reduceToNat, Int.reduceEq, Int.reduceLE, Int.reduceLT, reduceCtorEq]
    repeat (with_reducible refine And.intro ?_ ?_; next => first | assumption | trivial | omega | decide | (constructor <;> first | assumption | omega) | (simp [Keep.ok, hp_cons_apply, hset_cons]; done))
    refine hk _ _ _ ?_
    refine xghost (D := []) ?_ ?_ ?_ ?_
    ·exact (.cons (Sub.of_eq rfl) .nil)
    ·exact HpW.refl
    ·exact (by intro p hp; cases hp)
    ·omega
  ·try simp (maxSteps := 4000000) only [go_sem, Prod.mk.injEq, reduceIte, Nat.reduceEqDiff, Nat.reduceAdd, Nat.reduceSub, Nat.reduceMul, Nat.reduceDiv, Nat.reducePow, Nat.reduceLT, Nat.reduceLeDiff, Nat.reduceBEq, Nat.reduceBneDiff, Int.reduceToNat, Int.reduceEq, Int.reduceLE, Int.reduceLT, reduceCtorEq]
   repeat (with_reducible refine And.intro ?_ ?_; next => first | assumption | trivial | omega | decide | (constructor <;> first | assumption | omega) | (simp [Keep.ok, hp_cons_apply, hset_cons]; done))
   refine hk _ _ _ ?_
   refine Ghost.trans (xname (lI .u8) 3 Sub.refl) ?_
   try simp (maxSteps := 4000000) only [go_sem, Prod.mk.injEq, reduceIte, Nat.reduceEqDiff, Nat.reduceAdd, Nat.reduceSub, Nat.reduceMul, Nat.reduceDiv, Nat.reducePow, Nat.reduceLT, Nat.reduceLeDiff, Nat.reduceBEq, Nat.reduceBneDiff, Int.reduceToNat, Int.reduceEq, Int.reduceLE, Int.reduceLT, reduceCtorEq]
   refine xghost (D := []) ?_ ?_ ?_ ?_
   ·exact (.cons (Sub.of_eq rfl) (.cons (Sub.of_eq rfl) .nil))
   ·exact HpW.refl
   ·exact (by intro p hp; cases hp)
   ·omega
 ·try simp (maxSteps := 4000000) only [go_sem, Prod.mk.injEq, reduceIte, Nat.reduceEqDiff, Nat.reduceAdd, Nat.reduceSub, Nat.reduceMul, Nat.reduceDiv, Nat.reducePow, Nat.reduceLT, Nat.reduceLeDiff, Nat.reduceBEq, Nat.reduceBneDiff, Int.reduceToNat, Int.reduceEq, Int.reduceLE, Int.reduceLT, reduceCtorEq]
  repeat (with_reducible refine And.intro ?_ ?_; next => first | assumption | trivial | omega | decide | (constructor <;> first | assumption | omega) | (simp [Keep.ok, hp_cons_apply, hset_cons]; done))
  refine hk _ _ _ ?_
  refine xghost (D := []) ?_ ?_ ?_ ?_
  ·exact (.cons (Sub.of_eq rfl) .nil)
  ·exact HpW.refl
  ·exact (by intro p hp; cases hp)
  ·omega
/-! (stanchion/stanchionref04.Disk).Append -/
def s_stanchionref04_Disk_Append_b1 (parts : List (List Int)) (v_1 : Gref04Disk × Int) : (List Int × Int) → Option ((List Int × Int) ⊕ (Gref04Disk × Int))
 | (b, i) => if (decide (i < (parts.length : Int))) = true then gd ((0 ≤ i ∧ Int.toNat i < parts.length)) (gd (((b.length + (parts.getD (Int.toNat i) []).length) * 1 ≤ 140737488355328 ∧ b.length + (parts.getD (Int.toNat i) []).length < 9223372036854775808)) (some (.inl ((b ++ (parts.getD (Int.toNat i) [])), (IntKind.i64.wrap (i + 1)))))) else mr (some ((Gref04Disk.mk v_1.1.Power (Ar2.mk v_1.1.Data.x0 b) v_1.1.Safe), 0))
def s_stanchionref04_Disk_Append_b2 (parts : List (List Int)) (v_1 : Gref04Disk × Int) : (List Int × Int) → Option ((List Int × Int) ⊕ (Gref04Disk × Int))
 | (b_1, i_1) => if (decide (i_1 < (parts.length : Int))) = true then gd ((0 ≤ i_1 ∧ Int.toNat i_1 < parts.length)) (gd (((b_1.length + (parts.getD (Int.toNat i_1) []).length) * 1 ≤ 140737488355328 ∧ b_1.length + (parts.getD (Int.toNat i_1) []).length < 9223372036854775808)) (some (.inl ((b_1 ++ (parts.getD (Int.toNat i_1) [])), (IntKind.i64.wrap (i_1 + 1)))))) else mr (some ((Gref04Disk.mk v_1.1.Power (Ar2.mk b_1 v_1.1.Data.x1) v_1.1.Safe), 0))
def s_stanchionref04_Disk_Append (dx : Gref04Disk) (a : Int) (parts : List (List Int)) : Option (Gref04Disk × Int) :=
 bd (s_stanchionref04_area a) fun (v : Bool) => if (!v) = true then some (dx, 41) else bd (s_stanchionref04_Disk_draw dx) fun (v_1 : Gref04Disk × Int) => if (v_1.2 != 0) = true then some (v_1.1, v_1.2) else if a = 0 then bd (s_stanchionref00_CopyBytes_T v_1.1.Data.x0) fun (v_3 : List Int) => loop (s_stanchionref04_Disk_Append_b2 parts v_1) (v_3, 0) else if a = 1 then bd (s_stanchionref00_CopyBytes_T v_1.1.Data.x1) fun (v_2 : List Int) => loop (s_stanchionref04_Disk_Append_b1 parts v_1) (v_2, 0) else none
theorem s_stanchionref04_Disk_Append_ok (S : AHeap) (dx : Gref04Disk) (a : Int) (parts : List (List Int)) {r : Gref04Disk × Int} (h : s_stanchionref04_Disk_Append dx a parts = some r) :
  AC Try.prog n_stanchionref04_Disk_Append [.agg [.lit (.int .i64 dx.Power), eS (lI .u8) dx.Data.x0, eS (lI .u8) dx.Data.x1, .lit (.int .i64 dx.Safe.x0), .lit (.int .i64 dx.Safe.x1)], .lit (.int .i64 a), eS (lS (lI .u8)) parts] S fun r' S' => r' = .ret (.tup [.agg [.lit (.int .i64 r.1.Power), eS (lI .u8) r.1.Data.x0, eS (lI .u8) r.1.Data.x1, .lit (.int .i64 r.1.Safe.x0), .lit (.int .i64 r.1.Safe.x1)], .lit (.int .i64 r.2)]) ∧ S' = S := by
 refine AC_of tok mixed fits_stanchionref04_Disk_Append fun d hd => ?_
 unfold c_stanchionref04_Disk_Append
 show LW _ _ _ _ [(0, .agg [.lit (.int .i64 dx.Power), eS (lI .u8) dx.Data.x0, eS (lI .u8) dx.Data.x1, .lit (.int .i64 dx.Safe.x0), .lit (.int .i64 dx.Safe.x1)]), (1, .lit (.int .i64 a)), (2, eS (lS (lI .u8)) parts)] (hp [] S) 0 _
 rw [s_stanchionref04_Disk_Append] at h
 refine xseq [(1, .lit (.int .i64 a)), (2, eS (lS (lI .u8)) parts), (3, .ptr (d, 0) 0), (6, .ptr (d, 1) 0)] (hp [((d, 0), .box [.lit (.int .i64 dx.Power), eS (lI .u8) dx.Data.x0, eS (lI .u8) dx.Data.x1, .lit (.int .i64 dx.Safe.x0), .lit (.int .i64 dx.Safe.x1)]), ((d, 1), .box [.lit (.int .i64 0), .lit (.slice none 0 0), .lit (.slice none 0 0), .lit (.int .i64 0), .lit (.int .i64 0)])] S) 2 ?_ (fun k kp hk => ?_)
 ·refine LW_seq ?_
  obtain ⟨v, hv, h⟩ := bd_some h
  refine xseq [(1, .lit (.int .i64 a)), (2, eS (lS (lI .u8)) parts), (3, .ptr (d, 0) 0), (6, .ptr (d, 1) 0), (13, .lit (.bool (!v)))] (hp [((d, 0), .box [.lit (.int .i64 dx.Power), eS (lI .u8) dx.Data.x0, eS (lI .u8) dx.Data.x1, .lit (.int .i64 dx.Safe.x0), .lit (.int .i64 dx.Safe.x1)]), ((d, 1), .box [.lit (.int .i64 0), .lit (.slice none 0 0), .lit (.slice none 0 0), .lit (.int .i64 0), .lit (.int .i64 0)])] S) 2 ?_ (fun k kp hk => ?_)
  ·refine xcond (!v) rfl (fun hc => ?_) (fun hc => ?_)
   ·rw [ite_t hc] at h
    refine xseq [(6, .ptr (d, 1) 0), (7, .lit (.int .i64 41))] (hp [((d, 0), .box [.lit (.int .i64 dx.Power), eS (lI .u8) dx.Data.x0, eS (lI .u8) dx.Data.x1, .lit (.int .i64 dx.Safe.x0), .lit (.int .i64 dx.Safe.x1)]), ((d, 1), .box [.lit (.int .i64 dx.Power), eS (lI .u8) dx.Data.x0, eS (lI .u8) dx.Data.x1, .lit (.int .i64 dx.Safe.x0), .lit (.int .i64 dx.Safe.x1)])] S) 2 ?_ (fun k kp hk => ?_)
    ·refine LW_ret ?_
     obtain rfl := Option.some.inj h
     show FPost _ _ _ _ _ _ _
     simp only [FPost, ares, one1, go_sem, Prod.mk.injEq, reduceIte, Nat.reduceEqDiff, Nat.reduceAdd, Nat.reduceSub, Nat.reduceMul, Nat.reduceDiv, Nat.reducePow, Nat.reduceLT, Nat.reduceLeDiff, Nat.reduceBEq, Nat.reduceBneDiff, Int.reduceToNat, Int.reduceEq, Int.reduceLE, Int.reduceLT, reduceCtorEq]
     repeat (with_reducible refine And.intro ?_ ?_; next => first | assumption | trivial | omega | decide | (constructor <;> first | assumption | omega) | (simp [Keep.ok, hp_cons_apply, hset_cons]; done))
     first | exact ⟨_, hp_less (L := []) (D := [((d, 0), .box [.lit (.int .i64 dx.Power), eS (lI .u8) dx.Data.x0, eS (lI .u8) dx.Data.x1, .lit (.int .i64 dx.Safe.x0), .lit (.int .i64 dx.Safe.x1)]), ((d, 1), .box [.lit (.int .i64 dx.Power), eS (lI .u8) dx.Data.x0, eS (lI .u8) dx.Data.x1, .lit (.int .i64 dx.Safe.x0), .lit (.int .i64 dx.Safe.x1)])]) (by intro p hp; simp only [List.mem_cons, List.not_mem_nil, or_false] at hp; rcases hp with rfl | rfl <;> first | exact hd _ (Nat.le_refl _)), rfl, rfl⟩ | exact ⟨_, hp_less (L := []) (D := [((d, 0), .box [.lit (.int .i64 dx.Power), eS (lI .u8) dx.Data.x0, eS (lI .u8) dx.Data.x1, .lit (.int .i64 dx.Safe.x0), .lit (.int .i64 dx.Safe.x1)]), ((d, 1), .box [.lit (.int .i64 dx.Power), eS (lI .u8) dx.Data.x0, eS (lI .u8) dx.Data.x1, .lit (.int .i64 dx.Safe.x0), .lit (.int .i64 dx.Safe.x1)])]) (by intro p hp; simp only [List.mem_cons, List.not_mem_nil, or_false] at hp; rcases hp with rfl | rfl <;> first | exact hd _ (Nat.le_refl _)), rfl⟩
    ·try simp (maxSteps := 4000000) only [go_sem, Prod.mk.injEq, reduceIte, Nat.reduceEqDiff, Nat.reduceAdd, Nat.reduceSub, Nat.reduceMul, Nat.reduceDiv, Nat.reducePow, Nat.reduceLT, Nat.reduceLeDiff, Nat.reduceBEq, Nat.reduceBneDiff, Int.reduceToNat, Int.reduceEq, Int.reduceLE, Int.reduceLT, reduceCtorEq]
     repeat (with_reducible refine And.intro ?_ ?_; next => first | assumption | trivial | omega | decide | (constructor <;> first | assumption | omega) | (simp [Keep.ok, hp_cons_apply, hset_cons]; done))
     refine hk _ _ _ ?_
     refine xghost (D := []) ?_ ?_ ?_ ?_
     ·exact (.cons (Sub.of_eq rfl) (.cons (Sub.of_eq rfl) .nil))
     ·exact HpW.refl
     ·exact (by intro p hp; cases hp)
     ·omega
   ·rw [ite_f hc] at h
    refine LW_skip ?_
    show LW _ _ _ _ _ _ _ _
    obtain ⟨v_1, hv_1, h⟩ := bd_some h
    refine xseq [(1, .lit (.int .i64 a)), (2, eS (lS (lI .u8)) parts), (3, .ptr (d, 0) 0), (6, .ptr (d, 1) 0), (8, .lit (.int .i64 v_1.2))] (hp [((d, 0), .box [.lit (.int .i64 v_1.1.Power), eS (lI .u8) v_1.1.Data.x0, eS (lI .u8) v_1.1.Data.x1, .lit (.int .i64 v_1.1.Safe.x0), .lit (.int .i64 v_1.1.Safe.x1)]), ((d, 1), .box [.lit (.int .i64 0), .lit (.slice none 0 0), .lit (.slice none 0 0), .lit (.int .i64 0), .lit (.int .i64 0)])] S) 2 ?_ (fun k kp hk => ?_)
    ·refine LW_seq ?_
     refine xseq [(1, .lit (.int .i64 a)), (2, eS (lS (lI .u8)) parts), (3, .ptr (d, 0) 0), (6, .ptr (d, 1) 0), (8, .lit (.int .i64 v_1.2)), (21, .lit (.bool (v_1.2 != 0)))] (hp [((d, 0), .box [.lit (.int .i64 v_1.1.Power), eS (lI .u8) v_1.1.Data.x0, eS (lI .u8) v_1.1.Data.x1, .lit (.int .i64 v_1.1.Safe.x0), .lit (.int .i64 v_1.1.Safe.x1)]), ((d, 1), .box [.lit (.int .i64 0), .lit (.slice none 0 0), .lit (.slice none 0 0), .lit (.int .i64 0), .lit (.int .i64 0)])] S) 2 ?_ (fun k kp hk => ?_)
     ·refine xcond (v_1.2 != 0) rfl (fun hc_1 => ?_) (fun hc_1 => ?_)
      ·rw [ite_t hc_1] at h
       refine xseq [(6, .ptr (d, 1) 0), (7, .lit (.int .i64 v_1.2))] (hp [((d, 0), .box [.lit (.int .i64 v_1.1.Power), eS (lI .u8) v_1.1.Data.x0, eS (lI .u8) v_1.1.Data.x1, .lit (.int .i64 v_1.1.Safe.x0), .lit (.int .i64 v_1.1.Safe.x1)]), ((d, 1), .box [.lit (.int .i64 v_1.1.Power), eS (lI .u8) v_1.1.Data.x0, eS (lI .u8) v_1.1.Data.x1, .lit (.int .i64 v_1.1.Safe.x0), .lit (.int .i64 v_1.1.Safe.x1)])] S) 2 ?_ (fun k kp hk => ?_)
       ·refine LW_ret ?_
        obtain rfl := Option.some.inj h
        show FPost _ _ _ _ _ _ _
        simp only [FPost, ares, one1, go_sem, Prod.mk.injEq, reduceIte, Nat.reduceEqDiff, Nat.reduceAdd, Nat.reduceSub, Nat.reduceMul, Nat.reduceDiv, Nat.reducePow, Nat.reduceLT, Nat.reduceLeDiff, Nat.reduceBEq, Nat.reduceBneDiff, Int.reduceToNat, Int.reduceEq, Int.reduceLE, Int.reduceLT, reduceCtorEq]
        repeat (with_reducible refine And.intro ?_ ?_; next => first | assumption | trivial | omega | decide | (constructor <;> first | assumption | omega) | (simp [Keep.ok, hp_cons_apply, hset_cons]; done))
        first | exact ⟨_, hp_less (L := []) (D := [((d, 0), .box [.lit (.int .i64 v_1.1.Power), eS (lI .u8) v_1.1.Data.x0, eS (lI .u8) v_1.1.Data.x1, .lit (.int .i64 v_1.1.Safe.x0), .lit (.int .i64 v_1.1.Safe.x1)]), ((d, 1), .box [.lit (.int .i64 v_1.1.Power), eS (lI .u8) v_1.1.Data.x0, eS (lI .u8) v_1.1.Data.x1, .lit (.int .i64 v_1.1.Safe.x0), .lit (.int .i64 v_1.1.Safe.x1)])]) (by intro p hp; simp only [List.mem_cons, List.not_mem_nil, or_false] at hp; rcases hp with rfl | rfl <;> first | exact hd _ (Nat.le_refl _)), rfl, rfl⟩ | exact ⟨_, hp_less (L := []) (D := [((d, 0), .box [.lit (.int .i64 v_1.1.Power), eS (lI .u8) v_1.1.Data.x0, eS (lI .u8) v_1.1.Data.x1, .lit (.int .i64 v_1.1.Safe.x0), .lit (.int .i64 v_1.1.Safe.x1)]), ((d, 1), .box [.lit (.int .i64 v_1.1.Power), eS (lI .u8) v_1.1.Data.x0, eS (lI .u8) v_1.1.Data.x1, .lit (.int .i64 v_1.1.Safe.x0), .lit (.int .i64 v_1.1.Safe.x1)])]) (by intro p hp; simp only [List.mem_cons, List.not_mem_nil, or_false] at hp; rcases hp with rfl | rfl <;> first | exact hd _ (Nat.le_refl _)), rfl⟩
       ·try simp (maxSteps := 4000000) only [go_sem, Prod.mk.injEq, reduceIte, Nat.reduceEqDiff, Nat.reduceAdd, Nat.reduceSub, Nat.reduceMul, Nat.reduceDiv, Nat.reducePow, Nat.reduceLT, Nat.reduceLeDiff, Nat.reduceBEq, Nat.reduceBneDiff, Int.reduceToNat, Int.reduceEq, Int.reduceLE, Int.reduceLT, reduceCtorEq]
        repeat (with_reducible refine And.intro ?_ ?_; next => first | assumption | trivial | omega | decide | (constructor <;> first | assumption | omega) | (simp [Keep.ok, hp_cons_apply, hset_cons]; done))
        refine hk _ _ _ ?_
        refine xghost (D := []) ?_ ?_ ?_ ?_
        ·exact (.cons (Sub.of_eq rfl) (.cons (Sub.of_eq rfl) .nil))
        ·exact HpW.refl
        ·exact (by intro p hp; cases hp)
        ·omega
      ·rw [ite_f hc_1] at h
       refine LW_skip ?_
       show LW _ _ _ _ _ _ _ _
       by_cases hs_1 : a = 0
       ·subst hs_1
        rw [if_pos rfl] at h
        obtain ⟨v_3, hv_3, h⟩ := bd_some h
        refine xseq [(1, .lit (.int .i64 0)), (2, eS (lS (lI .u8)) parts), (3, .ptr (d, 0) 0), (6, .ptr (d, 1) 0), (9, eT (lI .u8) (d, 2) v_3)] (hp [((d, 0), .box [.lit (.int .i64 v_1.1.Power), eS (lI .u8) v_1.1.Data.x0, eS (lI .u8) v_1.1.Data.x1, .lit (.int .i64 v_1.1.Safe.x0), .lit (.int .i64 v_1.1.Safe.x1)]), ((d, 1), .box [.lit (.int .i64 0), .lit (.slice none 0 0), .lit (.slice none 0 0), .lit (.int .i64 0), .lit (.int .i64 0)]), ((d, 2), oT (lI .u8) v_3)] S) 3 ?_ (fun k kp hk => ?_)
        ·refine LW_seq ?_
         refine xseq [(1, .lit (.int .i64 0)), (2, eS (lS (lI .u8)) parts), (3, .ptr (d, 0) 0), (6, .ptr (d, 1) 0), (9, eT (lI .u8) (d, 2) v_3), (10, .lit (.int .i64 0))] (hp [((d, 0), .box [.lit (.int .i64 v_1.1.Power), eS (lI .u8) v_1.1.Data.x0, eS (lI .u8) v_1.1.Data.x1, .lit (.int .i64 v_1.1.Safe.x0), .lit (.int .i64 v_1.1.Safe.x1)]), ((d, 1), .box [.lit (.int .i64 0), .lit (.slice none 0 0), .lit (.slice none 0 0), .lit (.int .i64 0), .lit (.int .i64 0)]), ((d, 2), oT (lI .u8) v_3)] S) 3 ?_ (fun k kp hk => ?_)
         ·refine LW_block ?_
          refine LW_loopX (c := 3) (σ := List Int × Int) (s := (v_3, 0)) (fun zz => [(1, .lit (.int .i64 0)), (2, eS (lS (lI .u8)) parts), (3, .ptr (d, 0) 0), (6, .ptr (d, 1) 0), (9, eT (lI .u8) (d, 2) zz.1), (10, .lit (.int .i64 zz.2))]) (fun zz => (hp [((d, 0), .box [.lit (.int .i64 v_1.1.Power), eS (lI .u8) v_1.1.Data.x0, eS (lI .u8) v_1.1.Data.x1, .lit (.int .i64 v_1.1.Safe.x0), .lit (.int .i64 v_1.1.Safe.x1)]), ((d, 1), .box [.lit (.int .i64 0), eS (lI .u8) [], eS (lI .u8) [], .lit (.int .i64 0), .lit (.int .i64 0)]), ((d, 2), oT (lI .u8) zz.1)] S)) h ?_ ?_
          ·clear h
           rintro ⟨b_1, i_1⟩ x1 d1 hd1 hf1 h hx1
           show LW _ _ _ _ [(1, .lit (.int .i64 0)), (2, eS (lS (lI .u8)) parts), (3, .ptr (d, 0) 0), (6, .ptr (d, 1) 0), (9, eT (lI .u8) (d, 2) b_1), (10, .lit (.int .i64 i_1))] (hp [((d, 0), .box [.lit (.int .i64 v_1.1.Power), eS (lI .u8) v_1.1.Data.x0, eS (lI .u8) v_1.1.Data.x1, .lit (.int .i64 v_1.1.Safe.x0), .lit (.int .i64 v_1.1.Safe.x1)]), ((d, 1), .box [.lit (.int .i64 0), eS (lI .u8) [], eS (lI .u8) [], .lit (.int .i64 0), .lit (.int .i64 0)]), ((d, 2), oT (lI .u8) b_1)] S) 0 _
           have hn1d : (d = d1) = False := by simp; omega
           have hm1d : (d1 = d) = False := by simp; omega
           rw [s_stanchionref04_Disk_Append_b2] at h
           refine LW_seq ?_
           refine xseq [(1, .lit (.int .i64 0)), (2, eS (lS (lI .u8)) parts), (3, .ptr (d, 0) 0), (6, .ptr (d, 1) 0), (9, eT (lI .u8) (d, 2) b_1), (10, .lit (.int .i64 i_1)), (32, .lit (.bool (decide (i_1 < (parts.length : Int)))))] (hp [((d, 0), .box [.lit (.int .i64 v_1.1.Power), eS (lI .u8) v_1.1.Data.x0, eS (lI .u8) v_1.1.Data.x1, .lit (.int .i64 v_1.1.Safe.x0), .lit (.int .i64 v_1.1.Safe.x1)]), ((d, 1), .box [.lit (.int .i64 0), eS (lI .u8) [], eS (lI .u8) [], .lit (.int .i64 0), .lit (.int .i64 0)]), ((d, 2), oT (lI .u8) b_1)] S) 0 ?_ (fun k kp hk => ?_)
           ·refine xcond (decide (i_1 < (parts.length : Int))) rfl (fun hc_3 => ?_) (fun hc_3 => ?_)
            ·rw [ite_t hc_3] at h
             refine LW_skip ?_
             show LW _ _ _ _ _ _ _ _
             refine LW_seq ?_
             refine LW_block ?_
             obtain ⟨hg_2, h⟩ := gd_some h
             obtain ⟨hg_3, h⟩ := gd_some h
             refine xreg [(1, .lit (.int .i64 0)), (2, eS (lS (lI .u8)) parts), (3, .ptr (d, 0) 0), (6, .ptr (d, 1) 0), (9, eT (lI .u8) (d, 2) (b_1 ++ (parts.getD (Int.toNat i_1) []))), (10, .lit (.int .i64 i_1))] (hp [((d, 0), .box [.lit (.int .i64 v_1.1.Power), eS (lI .u8) v_1.1.Data.x0, eS (lI .u8) v_1.1.Data.x1, .lit (.int .i64 v_1.1.Safe.x0), .lit (.int .i64 v_1.1.Safe.x1)]), ((d, 1), .box [.lit (.int .i64 0), eS (lI .u8) [], eS (lI .u8) [], .lit (.int .i64 0), .lit (.int .i64 0)]), ((d, 2), oT (lI .u8) (b_1 ++ (parts.getD (Int.toNat i_1) [])))] S) 0 ?_ (fun k kp hk => ?_)
             ·show LW _ _ _ _ _ _ _ _
              refine xreg [(1, .lit (.int .i64 0)), (2, eS (lS (lI .u8)) parts), (3, .ptr (d, 0) 0), (6, .ptr (d, 1) 0), (9, eT (lI .u8) (d, 2) (b_1 ++ (parts.getD (Int.toNat i_1) []))), (10, .lit (.int .i64 (IntKind.i64.wrap (i_1 + 1))))] (hp [((d, 0), .box [.lit (.int .i64 v_1.1.Power), eS (lI .u8) v_1.1.Data.x0, eS (lI .u8) v_1.1.Data.x1, .lit (.int .i64 v_1.1.Safe.x0), .lit (.int .i64 v_1.1.Safe.x1)]), ((d, 1), .box [.lit (.int .i64 0), eS (lI .u8) [], eS (lI .u8) [], .lit (.int .i64 0), .lit (.int .i64 0)]), ((d, 2), oT (lI .u8) (b_1 ++ (parts.getD (Int.toNat i_1) [])))] S) 0 ?_ (fun k kp hk => ?_)
              ·cases h
               exact ⟨rfl, Less.refl _⟩
              ·try simp (maxSteps := 4000000) only [go_sem, Prod.mk.injEq, reduceIte, Nat.reduceEqDiff, Nat.reduceAdd, Nat.reduceSub, Nat.reduceMul, Nat.reduceDiv, Nat.reducePow, Nat.reduceLT, Nat.reduceLeDiff, Nat.reduceBEq, Nat.reduceBneDiff, Int.reduceToNat, Int.reduceEq, Int.reduceLE, Int.reduceLT, reduceCtorEq, hn1d, hm1d]
               repeat (with_reducible refine And.intro ?_ ?_; next => first | assumption | trivial | omega | decide | (constructor <;> first | assumption | omega) | (simp [Keep.ok, hp_cons_apply, hset_cons, hn1d, hm1d]; done))
               refine hk _ _ _ ?_
               refine xghost (D := []) ?_ ?_ ?_ ?_
               ·exact (.cons (Sub.of_eq rfl) (.cons (Sub.of_eq rfl) (.cons (Sub.of_eq rfl) (.cons (Sub.of_eq rfl) (.cons (Sub.of_eq rfl) (.cons (Sub.of_eq rfl) .nil))))))
               ·exact HpW.refl
               ·exact (by intro p hp; cases hp)
               ·omega
             ·try simp (maxSteps := 4000000) only [go_sem, Prod.mk.injEq, reduceIte, Nat.reduceEqDiff, Nat.reduceAdd, Nat.reduceSub, Nat.reduceMul, Nat.reduceDiv, Nat.reducePow, Nat.reduceLT, Nat.reduceLeDiff, Nat.reduceBEq, Nat.reduceBneDiff, Int.reduceToNat, Int.reduceEq, Int.reduceLE, Int.reduceLT, reduceCtorEq, hn1d, hm1d]
              repeat (with_reducible refine And.intro ?_ ?_; next => first | assumption | trivial | omega | decide | (constructor <;> first | assumption | omega) | (simp [Keep.ok, hp_cons_apply, hset_cons, hn1d, hm1d]; done))
              refine append1_eT (L := (lI .u8)) (n := (d, 2)) (xs := b_1) (ys := (parts.getD (Int.toNat i_1) [])) T22 T22 T5 ?_ rfl ?_ asrc_eS ?_ rfl ?_ ?_
              ·first | exact .inl rfl | exact .inr rfl
              ·try simp (maxSteps := 4000000) only [go_sem, Prod.mk.injEq, reduceIte, Nat.reduceEqDiff, Nat.reduceAdd, Nat.reduceSub, Nat.reduceMul, Nat.reduceDiv, Nat.reducePow, Nat.reduceLT, Nat.reduceLeDiff, Nat.reduceBEq, Nat.reduceBneDiff, Int.reduceToNat, Int.reduceEq, Int.reduceLE, Int.reduceLT, reduceCtorEq, hn1d, hm1d]
              ·exact ⟨trivial, rfl⟩
              ·dsimp only [List.length]; omega
              try simp (maxSteps := 4000000) only [go_sem, Prod.mk.injEq, reduceIte, Nat.reduceEqDiff, Nat.reduceAdd, Nat.reduceSub, Nat.reduceMul, Nat.reduceDiv, Nat.reducePow, Nat.reduceLT, Nat.reduceLeDiff, Nat.reduceBEq, Nat.reduceBneDiff, Int.reduceToNat, Int.reduceEq, Int.reduceLE, Int.reduceLT, reduceCtorEq, hn1d, hm1d]
              repeat (with_reducible refine And.intro ?_ ?_; next => first | assumption | trivial | omega | decide | (constructor <;> first | assumption | omega) | (simp [Keep.ok, hp_cons_apply, hset_cons, hn1d, hm1d]; done))
              refine hk _ _ _ ?_
              refine xghost (D := []) ?_ ?_ ?_ ?_
              ·exact (.cons (Sub.of_eq rfl) (.cons (Sub.of_eq rfl) (.cons (Sub.of_eq rfl) (.cons (Sub.of_eq rfl) (.cons (Sub.of_eq rfl) (.cons (Sub.of_eq rfl) .nil))))))
              ·exact HpW.refl
              ·exact (by intro p hp; cases hp)
              ·omega
            ·rw [ite_f hc_3] at h
             obtain ⟨hq, hxe⟩ := mr_go h hx1
             clear h hx1
             subst hxe
             have h := hq
             clear hq
             refine LW_exitX (sl' := [(1, .lit (.int .i64 0)), (2, eS (lS (lI .u8)) parts), (3, .ptr (d, 0) 0), (6, .ptr (d, 1) 0), (9, eT (lI .u8) (d, 2) b_1), (10, .lit (.int .i64 i_1)), (32, .lit (.bool (decide (i_1 < (parts.length : Int)))))]) (S' := (hp [((d, 0), .box [.lit (.int .i64 v_1.1.Power), eS (lI .u8) v_1.1.Data.x0, eS (lI .u8) v_1.1.Data.x1, .lit (.int .i64 v_1.1.Safe.x0), .lit (.int .i64 v_1.1.Safe.x1)]), ((d, 1), .box [.lit (.int .i64 0), eS (lI .u8) [], eS (lI .u8) [], .lit (.int .i64 0), .lit (.int .i64 0)]), ((d, 2), oT (lI .u8) b_1)] S)) (c' := 0) ?_ ?_
             ·refine xghost (D := []) ?_ ?_ ?_ ?_
              ·exact (.cons (Sub.of_eq rfl) (.cons (Sub.of_eq rfl) (.cons (Sub.of_eq rfl) (.cons (Sub.of_eq rfl) (.cons (Sub.of_eq rfl) (.cons (Sub.of_eq rfl) (.cons (Sub.of_eq rfl) .nil)))))))
              ·exact HpW.refl
              ·exact (by intro p hp; cases hp)
              ·omega
             ·show LW _ _ _ _ _ _ _ _
              refine xseq [(3, .ptr (d, 0) 0), (6, .ptr (d, 1) 0)] (hp [((d, 0), .box [.lit (.int .i64 v_1.1.Power), eT (lI .u8) (d, 2) b_1, eS (lI .u8) v_1.1.Data.x1, .lit (.int .i64 v_1.1.Safe.x0), .lit (.int .i64 v_1.1.Safe.x1)]), ((d, 1), .box [.lit (.int .i64 0), eS (lI .u8) [], eS (lI .u8) [], .lit (.int .i64 0), .lit (.int .i64 0)]), ((d, 2), oT (lI .u8) b_1)] S) 3 ?_ (fun k kp hk => ?_)
              ·refine xseq [(6, .ptr (d, 1) 0), (7, .lit (.int .i64 0))] (hp [((d, 0), .box [.lit (.int .i64 v_1.1.Power), eT (lI .u8) (d, 2) b_1, eS (lI .u8) v_1.1.Data.x1, .lit (.int .i64 v_1.1.Safe.x0), .lit (.int .i64 v_1.1.Safe.x1)]), ((d, 1), .box [.lit (.int .i64 v_1.1.Power), eT (lI .u8) (d, 2) b_1, eS (lI .u8) v_1.1.Data.x1, .lit (.int .i64 v_1.1.Safe.x0), .lit (.int .i64 v_1.1.Safe.x1)]), ((d, 2), oT (lI .u8) b_1)] S) 3 ?_ (fun k kp hk => ?_)
               ·refine LW_retX (sl' := [(6, .ptr (d, 1) 0), (7, .lit (.int .i64 0))]) (S' := (hp [((d, 0), .box [.lit (.int .i64 v_1.1.Power), eT (lI .u8) (d, 2) b_1, eS (lI .u8) v_1.1.Data.x1, .lit (.int .i64 v_1.1.Safe.x0), .lit (.int .i64 v_1.1.Safe.x1)]), ((d, 1), .box [.lit (.int .i64 v_1.1.Power), eS (lI .u8) b_1, eS (lI .u8) v_1.1.Data.x1, .lit (.int .i64 v_1.1.Safe.x0), .lit (.int .i64 v_1.1.Safe.x1)]), ((d, 2), oT (lI .u8) b_1)] S)) (c' := 3) ?_ ?_
                ·refine xghost (D := []) ?_ ?_ ?_ ?_
                 ·exact (.cons (Sub.of_eq rfl) (.cons (Sub.of_eq rfl) .nil))
                 ·exact (.cons .refl (.cons (.box (.cons Sub.refl (.cons Sub.tip (.cons Sub.refl (.cons Sub.refl (.cons Sub.refl .nil))))) ⟨.inl rfl, ⟨.inl rfl, ⟨.inl rfl, ⟨.inl rfl, ⟨.inl rfl, trivial⟩⟩⟩⟩⟩) (.cons .refl .nil)))
                 ·exact (by intro p hp; cases hp)
                 ·omega
                ·obtain rfl := Option.some.inj h
                 show FPost _ _ _ _ _ _ _
                 simp only [FPost, ares, one1, go_sem, Prod.mk.injEq, reduceIte, Nat.reduceEqDiff, Nat.reduceAdd, Nat.reduceSub, Nat.reduceMul, Nat.reduceDiv, Nat.reducePow, Nat.reduceLT, Nat.reduceLeDiff, Nat.reduceBEq, Nat.reduceBneDiff, Int.reduceToNat, Int.reduceEq, Int.reduceLE, Int.reduceLT, reduceCtorEq, hn1d, hm1d]
                 repeat (with_reducible refine And.intro ?_ ?_; next => first | assumption | trivial | omega | decide | (constructor <;> first | assumption | omega) | (simp [Keep.ok, hp_cons_apply, hset_cons, hn1d, hm1d]; done))
                 first | exact ⟨_, hp_less (L := []) (D := [((d, 0), .box [.lit (.int .i64 v_1.1.Power), eT (lI .u8) (d, 2) b_1, eS (lI .u8) v_1.1.Data.x1, .lit (.int .i64 v_1.1.Safe.x0), .lit (.int .i64 v_1.1.Safe.x1)]), ((d, 1), .box [.lit (.int .i64 v_1.1.Power), eS (lI .u8) b_1, eS (lI .u8) v_1.1.Data.x1, .lit (.int .i64 v_1.1.Safe.x0), .lit (.int .i64 v_1.1.Safe.x1)]), ((d, 2), oT (lI .u8) b_1)]) (by intro p hp; simp only [List.mem_cons, List.not_mem_nil, or_false] at hp; rcases hp with rfl | rfl | rfl <;> first | exact hd _ (Nat.le_refl _)), rfl, rfl⟩ | exact ⟨_, hp_less (L := []) (D := [((d, 0), .box [.lit (.int .i64 v_1.1.Power), eT (lI .u8) (d, 2) b_1, eS (lI .u8) v_1.1.Data.x1, .lit (.int .i64 v_1.1.Safe.x0), .lit (.int .i64 v_1.1.Safe.x1)]), ((d, 1), .box [.lit (.int .i64 v_1.1.Power), eS (lI .u8) b_1, eS (lI .u8) v_1.1.Data.x1, .lit (.int .i64 v_1.1.Safe.x0), .lit (.int .i64 v_1.1.Safe.x1)]), ((d, 2), oT (lI .u8) b_1)]) (by intro p hp; simp only [List.mem_cons, List.not_mem_nil, or_false] at hp; rcases hp with rfl | rfl | rfl <;> first | exact hd _ (Nat.le_refl _)), rfl⟩
               ·try simp (maxSteps := 4000000) only [go_sem, Prod.mk.injEq, reduceIte, Nat.reduceEqDiff, Nat.reduceAdd, Nat.reduceSub, Nat.reduceMul, Nat.reduceDiv, Nat.reducePow, Nat.reduceLT, Nat.reduceLeDiff, Nat.reduceBEq, Nat.reduceBneDiff, Int.reduceToNat, Int.reduceEq, Int.reduceLE, Int.reduceLT, reduceCtorEq, hn1d, hm1d]
                repeat (with_reducible refine And.intro ?_ ?_; next => first | assumption | trivial | omega | decide | (constructor <;> first | assumption | omega) | (simp [Keep.ok, hp_cons_apply, hset_cons, hn1d, hm1d]; done))
                refine hk _ _ _ ?_
                refine xghost (D := []) ?_ ?_ ?_ ?_
                ·exact (.cons (Sub.of_eq rfl) (.cons (Sub.of_eq rfl) .nil))
                ·exact HpW.refl
                ·exact (by intro p hp; cases hp)
                ·omega
              ·try simp (maxSteps := 4000000) only [go_sem, Prod.mk.injEq, reduceIte, Nat.reduceEqDiff, Nat.reduceAdd, Nat.reduceSub, Nat.reduceMul, Nat.reduceDiv, Nat.reducePow, Nat.reduceLT, Nat.reduceLeDiff, Nat.reduceBEq, Nat.reduceBneDiff, Int.reduceToNat, Int.reduceEq, Int.reduceLE, Int.reduceLT, reduceCtorEq, hn1d, hm1d, vptr_0, vptr_1]
               repeat (with_reducible refine And.intro ?_ ?_; next => first | assumption | trivial | omega | decide | (constructor <;> first | assumption | omega) | (simp [Keep.ok, hp_cons_apply, hset_cons, hn1d, hm1d, vptr_0, vptr_1]; done))
               refine hk _ _ _ ?_
               refine xghost (D := []) ?_ ?_ ?_ ?_
               ·exact (.cons (Sub.of_eq rfl) (.cons (Sub.of_eq rfl) .nil))
               ·exact HpW.refl
               ·exact (by intro p hp; cases hp)
               ·omega
           ·try simp (maxSteps := 4000000) only [go_sem, Prod.mk.injEq, reduceIte, Nat.reduceEqDiff, Nat.reduceAdd, Nat.reduceSub, Nat.reduceMul, Nat.reduceDiv, Nat.reducePow, Nat.reduceLT, Nat.reduceLeDiff, Nat.reduceBEq, Nat.reduceBneDiff, Int.reduceToNat, Int.reduceEq, Int.reduceLE, Int.reduceLT, reduceCtorEq, hn1d, hm1d]
            repeat (with_reducible refine And.intro ?_ ?_; next => first | assumption | trivial | omega | decide | (constructor <;> first | assumption | omega) | (simp [Keep.ok, hp_cons_apply, hset_cons, hn1d, hm1d]; done))
            refine hk _ _ _ ?_
            refine xghost (D := []) ?_ ?_ ?_ ?_
            ·exact (.cons (Sub.of_eq rfl) (.cons (Sub.of_eq rfl) (.cons (Sub.of_eq rfl) (.cons (Sub.of_eq rfl) (.cons (Sub.of_eq rfl) (.cons (Sub.of_eq rfl) (.cons (Sub.of_eq rfl) .nil)))))))
            ·exact HpW.refl
            ·exact (by intro p hp; cases hp)
            ·omega
          ·refine xghost (D := []) ?_ ?_ ?_ ?_
           ·exact (.cons (Sub.of_eq rfl) (.cons (Sub.of_eq rfl) (.cons (Sub.of_eq rfl) (.cons (Sub.of_eq rfl) (.cons (Sub.of_eq rfl) (.cons (Sub.of_eq rfl) .nil))))))
           ·exact (.cons .refl (.cons (.box (.cons Sub.refl (.cons Sub.nil (.cons Sub.nil (.cons Sub.refl (.cons Sub.refl .nil))))) ⟨.inl rfl, ⟨.inl rfl, ⟨.inl rfl, ⟨.inl rfl, ⟨.inl rfl, trivial⟩⟩⟩⟩⟩) (.cons .refl .nil)))
           ·exact (by intro p hp; cases hp)
           ·omega
         ·try simp (maxSteps := 4000000) only [go_sem, Prod.mk.injEq, reduceIte, Nat.reduceEqDiff, Nat.reduceAdd, Nat.reduceSub, Nat.reduceMul, Nat.reduceDiv, Nat.reducePow, Nat.reduceLT, Nat.reduceLeDiff, Nat.reduceBEq, Nat.reduceBneDiff, Int.reduceToNat, Int.reduceEq, Int.reduceLE, Int.reduceLT, reduceCtorEq]
          repeat (with_reducible refine And.intro ?_ ?_; next => first | assumption | trivial | omega | decide | (constructor <;> first | assumption | omega) | (simp [Keep.ok, hp_cons_apply, hset_cons]; done))
          refine hk _ _ _ ?_
          refine xghost (D := []) ?_ ?_ ?_ ?_
          ·exact (.cons (Sub.of_eq rfl) (.cons (Sub.of_eq rfl) (.cons (Sub.of_eq rfl) (.cons (Sub.of_eq rfl) (.cons (Sub.of_eq rfl) (.cons (Sub.of_eq rfl) .nil))))))
          ·exact HpW.refl
          ·exact (by intro p hp; cases hp)
          ·omega
        ·try simp (maxSteps := 4000000) only [go_sem, Prod.mk.injEq, reduceIte, Nat.reduceEqDiff, Nat.reduceAdd, Nat.reduceSub, Nat.reduceMul, Nat.reduceDiv, Nat.reducePow, Nat.reduceLT, Nat.reduceLeDiff, Nat.reduceBEq, Nat.reduceBneDiff, Int.reduceToNat, Int.reduceEq, Int.reduceLE, Int.reduceLT, reduceCtorEq, vptr_0, vptr_1]
         repeat (with_reducible refine And.intro ?_ ?_; next => first | assumption | trivial | omega | decide | (constructor <;> first | assumption | omega) | (simp [Keep.ok, hp_cons_apply, hset_cons, vptr_0, vptr_1]; done))
         have hcall := s_stanchionref00_CopyBytes_T_ok (hp [((d, 0), .box [.lit (.int .i64 v_1.1.Power), eS (lI .u8) v_1.1.Data.x0, eS (lI .u8) v_1.1.Data.x1, .lit (.int .i64 v_1.1.Safe.x0), .lit (.int .i64 v_1.1.Safe.x1)]), ((d, 1), .box [.lit (.int .i64 0), .lit (.slice none 0 0), .lit (.slice none 0 0), .lit (.int .i64 0), .lit (.int .i64 0)])] S) v_1.1.Data.x0 hv_3
         refine call1_tip hcall rfl ?_ ?_
         ·exact (.cons Sub.refl .nil)
         clear hcall
         try simp (maxSteps := 4000000) only [go_sem, Prod.mk.injEq, reduceIte, Nat.reduceEqDiff, Nat.reduceAdd, Nat.reduceSub, Nat.reduceMul, Nat.reduceDiv, Nat.reducePow, Nat.reduceLT, Nat.reduceLeDiff, Nat.reduceBEq, Nat.reduceBneDiff, Int.reduceToNat, Int.reduceEq, Int.reduceLE, Int.reduceLT, reduceCtorEq, vptr_0, vptr_1]
         repeat (with_reducible refine And.intro ?_ ?_; next => first | assumption | trivial | omega | decide | (constructor <;> first | assumption | omega) | (simp [Keep.ok, hp_cons_apply, hset_cons, vptr_0, vptr_1]; done))
         refine hk _ _ _ ?_
         refine xghost (D := []) ?_ ?_ ?_ ?_
         ·exact (.cons (Sub.of_eq rfl) (.cons (Sub.of_eq rfl) (.cons (Sub.of_eq rfl) (.cons (Sub.of_eq rfl) (.cons (Sub.of_eq rfl) .nil)))))
         ·exact HpW.refl
         ·exact (by intro p hp; cases hp)
         ·omega
       ·rw [if_neg hs_1] at h
        by_cases hs : a = 1
        ·subst hs
         rw [if_pos rfl] at h
         obtain ⟨v_2, hv_2, h⟩ := bd_some h
         refine xseq [(1, .lit (.int .i64 1)), (2, eS (lS (lI .u8)) parts), (3, .ptr (d, 0) 0), (6, .ptr (d, 1) 0), (9, eT (lI .u8) (d, 2) v_2)] (hp [((d, 0), .box [.lit (.int .i64 v_1.1.Power), eS (lI .u8) v_1.1.Data.x0, eS (lI .u8) v_1.1.Data.x1, .lit (.int .i64 v_1.1.Safe.x0), .lit (.int .i64 v_1.1.Safe.x1)]), ((d, 1), .box [.lit (.int .i64 0), .lit (.slice none 0 0), .lit (.slice none 0 0), .lit (.int .i64 0), .lit (.int .i64 0)]), ((d, 2), oT (lI .u8) v_2)] S) 3 ?_ (fun k kp hk => ?_)
         ·refine LW_seq ?_
          refine xseq [(1, .lit (.int .i64 1)), (2, eS (lS (lI .u8)) parts), (3, .ptr (d, 0) 0), (6, .ptr (d, 1) 0), (9, eT (lI .u8) (d, 2) v_2), (10, .lit (.int .i64 0))] (hp [((d, 0), .box [.lit (.int .i64 v_1.1.Power), eS (lI .u8) v_1.1.Data.x0, eS (lI .u8) v_1.1.Data.x1, .lit (.int .i64 v_1.1.Safe.x0), .lit (.int .i64 v_1.1.Safe.x1)]), ((d, 1), .box [.lit (.int .i64 0), .lit (.slice none 0 0), .lit (.slice none 0 0), .lit (.int .i64 0), .lit (.int .i64 0)]), ((d, 2), oT (lI .u8) v_2)] S) 3 ?_ (fun k kp hk => ?_)
          ·refine LW_block ?_
           refine LW_loopX (c := 3) (σ := List Int × Int) (s := (v_2, 0)) (fun zz => [(1, .lit (.int .i64 1)), (2, eS (lS (lI .u8)) parts), (3, .ptr (d, 0) 0), (6, .ptr (d, 1) 0), (9, eT (lI .u8) (d, 2) zz.1), (10, .lit (.int .i64 zz.2))]) (fun zz => (hp [((d, 0), .box [.lit (.int .i64 v_1.1.Power), eS (lI .u8) v_1.1.Data.x0, eS (lI .u8) v_1.1.Data.x1, .lit (.int .i64 v_1.1.Safe.x0), .lit (.int .i64 v_1.1.Safe.x1)]), ((d, 1), .box [.lit (.int .i64 0), eS (lI .u8) [], eS (lI .u8) [], .lit (.int .i64 0), .lit (.int .i64 0)]), ((d, 2), oT (lI .u8) zz.1)] S)) h ?_ ?_
           ·clear h
            rintro ⟨b, i⟩ x1 d1 hd1 hf1 h hx1
            show LW _ _ _ _ [(1, .lit (.int .i64 1)), (2, eS (lS (lI .u8)) parts), (3, .ptr (d, 0) 0), (6, .ptr (d, 1) 0), (9, eT (lI .u8) (d, 2) b), (10, .lit (.int .i64 i))] (hp [((d, 0), .box [.lit (.int .i64 v_1.1.Power), eS (lI .u8) v_1.1.Data.x0, eS (lI .u8) v_1.1.Data.x1, .lit (.int .i64 v_1.1.Safe.x0), .lit (.int .i64 v_1.1.Safe.x1)]), ((d, 1), .box [.lit (.int .i64 0), eS (lI .u8) [], eS (lI .u8) [], .lit (.int .i64 0), .lit (.int .i64 0)]), ((d, 2), oT (lI .u8) b)] S) 0 _
            have hn1d : (d = d1) = False := by simp; omega
            have hm1d : (d1 = d) = False := by simp; omega
            rw [s_stanchionref04_Disk_Append_b1] at h
            refine LW_seq ?_
            refine xseq [(1, .lit (.int .i64 1)), (2, eS (lS (lI .u8)) parts), (3, .ptr (d, 0) 0), (6, .ptr (d, 1) 0), (9, eT (lI .u8) (d, 2) b), (10, .lit (.int .i64 i)), (32, .lit (.bool (decide (i < (parts.length : Int)))))] (hp [((d, 0), .box [.lit (.int .i64 v_1.1.Power), eS (lI .u8) v_1.1.Data.x0, eS (lI .u8) v_1.1.Data.x1, .lit (.int .i64 v_1.1.Safe.x0), .lit (.int .i64 v_1.1.Safe.x1)]), ((d, 1), .box [.lit (.int .i64 0), eS (lI .u8) [], eS (lI .u8) [], .lit (.int .i64 0), .lit (.int .i64 0)]), ((d, 2), oT (lI .u8) b)] S) 0 ?_ (fun k kp hk => ?_)
            ·refine xcond (decide (i < (parts.length : Int))) rfl (fun hc_2 => ?_) (fun hc_2 => ?_)
             ·rw [ite_t hc_2] at h
              refine LW_skip ?_
              show LW _ _ _ _ _ _ _ _
              refine LW_seq ?_
              refine LW_block ?_
              obtain ⟨hg, h⟩ := gd_some h
              obtain ⟨hg_1, h⟩ := gd_some h
              refine xreg [(1, .lit (.int .i64 1)), (2, eS (lS (lI .u8)) parts), (3, .ptr (d, 0) 0), (6, .ptr (d, 1) 0), (9, eT (lI .u8) (d, 2) (b ++ (parts.getD (Int.toNat i) []))), (10, .lit (.int .i64 i))] (hp [((d, 0), .box [.lit (.int .i64 v_1.1.Power), eS (lI .u8) v_1.1.Data.x0, eS (lI .u8) v_1.1.Data.x1, .lit (.int .i64 v_1.1.Safe.x0), .lit (.int .i64 v_1.1.Safe.x1)]), ((d, 1), .box [.lit (.int .i64 0), eS (lI .u8) [], eS (lI .u8) [], .lit (.int .i64 0), .lit (.int .i64 0)]), ((d, 2), oT (lI .u8) (b ++ (parts.getD (Int.toNat i) [])))] S) 0 ?_ (fun k kp hk => ?_)
              ·show LW _ _ _ _ _ _ _ _
               refine xreg [(1, .lit (.int .i64 1)), (2, eS (lS (lI .u8)) parts), (3, .ptr (d, 0) 0), (6, .ptr (d, 1) 0), (9, eT (lI .u8) (d, 2) (b ++ (parts.getD (Int.toNat i) []))), (10, .lit (.int .i64 (IntKind.i64.wrap (i + 1))))] (hp [((d, 0), .box [.lit (.int .i64 v_1.1.Power), eS (lI .u8) v_1.1.Data.x0, eS (lI .u8) v_1.1.Data.x1, .lit (.int .i64 v_1.1.Safe.x0), .lit (.int .i64 v_1.1.Safe.x1)]), ((d, 1), .box [.lit (.int .i64 0), eS (lI .u8) [], eS (lI .u8) [], .lit (.int .i64 0), .lit (.int .i64 0)]), ((d, 2), oT (lI .u8) (b ++ (parts.getD (Int.toNat i) [])))] S) 0 ?_ (fun k kp hk => ?_)
               ·cases h
                exact ⟨rfl, Less.refl _⟩
               ·try simp (maxSteps := 4000000) only [go_sem, Prod.mk.injEq, reduceIte, Nat.reduceEqDiff, Nat.reduceAdd, Nat.reduceSub, Nat.reduceMul, Nat.reduceDiv, Nat.reducePow, Nat.reduceLT, Nat.reduceLeDiff, Nat.reduceBEq, Nat.reduceBneDiff, Int.reduceToNat, Int.reduceEq, Int.reduceLE, Int.reduceLT, reduceCtorEq, hn1d, hm1d]
                repeat (with_reducible refine And.intro ?_ ?_; next => first | assumption | trivial | omega | decide | (constructor <;> first | assumption | omega) | (simp [Keep.ok, hp_cons_apply, hset_cons, hn1d, hm1d]; done))
                refine hk _ _ _ ?_
                refine xghost (D := []) ?_ ?_ ?_ ?_
                ·exact (.cons (Sub.of_eq rfl) (.cons (Sub.of_eq rfl) (.cons (Sub.of_eq rfl) (.cons (Sub.of_eq rfl) (.cons (Sub.of_eq rfl) (.cons (Sub.of_eq rfl) .nil))))))
                ·exact HpW.refl
                ·exact (by intro p hp; cases hp)
                ·omega
              ·try simp (maxSteps := 4000000) only [go_sem, Prod.mk.injEq, reduceIte, Nat.reduceEqDiff, Nat.reduceAdd, Nat.reduceSub, Nat.reduceMul, Nat.reduceDiv, Nat.reducePow, Nat.reduceLT, Nat.reduceLeDiff, Nat.reduceBEq, Nat.reduceBneDiff, Int.reduceToNat, Int.reduceEq, Int.reduceLE, Int.reduceLT, reduceCtorEq, hn1d, hm1d]
               repeat (with_reducible refine And.intro ?_ ?_; next => first | assumption | trivial | omega | decide | (constructor <;> first | assumption | omega) | (simp [Keep.ok, hp_cons_apply, hset_cons, hn1d, hm1d]; done))
               refine append1_eT (L := (lI .u8)) (n := (d, 2)) (xs := b) (ys := (parts.getD (Int.toNat i) [])) T22 T22 T5 ?_ rfl ?_ asrc_eS ?_ rfl ?_ ?_
               ·first | exact .inl rfl | exact .inr rfl
               ·try simp (maxSteps := 4000000) only [go_sem, Prod.mk.injEq, reduceIte, Nat.reduceEqDiff, Nat.reduceAdd, Nat.reduceSub, Nat.reduceMul, Nat.reduceDiv, Nat.reducePow, Nat.reduceLT, Nat.reduceLeDiff, Nat.reduceBEq, Nat.reduceBneDiff, Int.reduceToNat, Int.reduceEq, Int.reduceLE, Int.reduceLT, reduceCtorEq, hn1d, hm1d]
               ·exact ⟨trivial, rfl⟩
               ·dsimp only [List.length]; omega
               try simp (maxSteps := 4000000) only [go_sem, Prod.mk.injEq, reduceIte, Nat.reduceEqDiff, Nat.reduceAdd, Nat.reduceSub, Nat.reduceMul, Nat.reduceDiv, Nat.reducePow, Nat.reduceLT, Nat.reduceLeDiff, Nat.reduceBEq, Nat.reduceBneDiff, Int.reduceToNat, Int.reduceEq, Int.reduceLE, Int.reduceLT, reduceCtorEq, hn1d, hm1d]
               repeat (with_reducible refine And.intro ?_ ?_; next => first | assumption | trivial | omega | decide | (constructor <;> first | assumption | omega) | (simp [Keep.ok, hp_cons_apply, hset_cons, hn1d, hm1d]; done))
               refine hk _ _ _ ?_
               refine xghost (D := []) ?_ ?_ ?_ ?_
               ·exact (.cons (Sub.of_eq rfl) (.cons (Sub.of_eq rfl) (.cons (Sub.of_eq rfl) (.cons (Sub.of_eq rfl) (.cons (Sub.of_eq rfl) (.cons (Sub.of_eq rfl) .nil))))))
               ·exact HpW.refl
               ·exact (by intro p hp; cases hp)
               ·omega
             ·rw [ite_f hc_2] at h
              obtain ⟨hq, hxe⟩ := mr_go h hx1
              clear h hx1
              subst hxe
              have h := hq
              clear hq
              refine LW_exitX (sl' := [(1, .lit (.int .i64 1)), (2, eS (lS (lI .u8)) parts), (3, .ptr (d, 0) 0), (6, .ptr (d, 1) 0), (9, eT (lI .u8) (d, 2) b), (10, .lit (.int .i64 i)), (32, .lit (.bool (decide (i < (parts.length : Int)))))]) (S' := (hp [((d, 0), .box [.lit (.int .i64 v_1.1.Power), eS (lI .u8) v_1.1.Data.x0, eS (lI .u8) v_1.1.Data.x1, .lit (.int .i64 v_1.1.Safe.x0), .lit (.int .i64 v_1.1.Safe.x1)]), ((d, 1), .box [.lit (.int .i64 0), eS (lI .u8) [], eS (lI .u8) [], .lit (.int .i64 0), .lit (.int .i64 0)]), ((d, 2), oT (lI .u8) b)] S)) (c' := 0) ?_ ?_
              ·refine xghost (D := []) ?_ ?_ ?_ ?_
               ·exact (.cons (Sub.of_eq rfl) (.cons (Sub.of_eq rfl) (.cons (Sub.of_eq rfl) (.cons (Sub.of_eq rfl) (.cons (Sub.of_eq rfl) (.cons (Sub.of_eq rfl) (.cons (Sub.of_eq rfl) .nil)))))))
               ·exact HpW.refl
               ·exact (by intro p hp; cases hp)
               ·omega
              ·show LW _ _ _ _ _ _ _ _
               refine xseq [(3, .ptr (d, 0) 0), (6, .ptr (d, 1) 0)] (hp [((d, 0), .box [.lit (.int .i64 v_1.1.Power), eS (lI .u8) v_1.1.Data.x0, eT (lI .u8) (d, 2) b, .lit (.int .i64 v_1.1.Safe.x0), .lit (.int .i64 v_1.1.Safe.x1)]), ((d, 1), .box [.lit (.int .i64 0), eS (lI .u8) [], eS (lI .u8) [], .lit (.int .i64 0), .lit (.int .i64 0)]), ((d, 2), oT (lI .u8) b)] S) 3 ?_ (fun k kp hk => ?_)
               ·refine xseq [(6, .ptr (d, 1) 0), (7, .lit (.int .i64 0))] (hp [((d, 0), .box [.lit (.int .i64 v_1.1.Power), eS (lI .u8) v_1.1.Data.x0, eT (lI .u8) (d, 2) b, .lit (.int .i64 v_1.1.Safe.x0), .lit (.int .i64 v_1.1.Safe.x1)]), ((d, 1), .box [.lit (.int .i64 v_1.1.Power), eS (lI .u8) v_1.1.Data.x0, eT (lI .u8) (d, 2) b, .lit (.int .i64 v_1.1.Safe.x0), .lit (.int .i64 v_1.1.Safe.x1)]), ((d, 2), oT (lI .u8) b)] S) 3 ?_ (fun k kp hk => ?_)
                ·refine LW_retX (sl' := [(6, .ptr (d, 1) 0), (7, .lit (.int .i64 0))]) (S' := (hp [((d, 0), .box [.lit (.int .i64 v_1.1.Power), eS (lI .u8) v_1.1.Data.x0, eT (lI .u8) (d, 2) b, .lit (.int .i64 v_1.1.Safe.x0), .lit (.int .i64 v_1.1.Safe.x1)]), ((d, 1), .box [.lit (.int .i64 v_1.1.Power), eS (lI .u8) v_1.1.Data.x0, eS (lI .u8) b, .lit (.int .i64 v_1.1.Safe.x0), .lit (.int .i64 v_1.1.Safe.x1)]), ((d, 2), oT (lI .u8) b)] S)) (c' := 3) ?_ ?_
                 ·refine xghost (D := []) ?_ ?_ ?_ ?_
                  ·exact (.cons (Sub.of_eq rfl) (.cons (Sub.of_eq rfl) .nil))
                  ·exact (.cons .refl (.cons (.box (.cons Sub.refl (.cons Sub.refl (.cons Sub.tip (.cons Sub.refl (.cons Sub.refl .nil))))) ⟨.inl rfl, ⟨.inl rfl, ⟨.inl rfl, ⟨.inl rfl, ⟨.inl rfl, trivial⟩⟩⟩⟩⟩) (.cons .refl .nil)))
                  ·exact (by intro p hp; cases hp)
                  ·omega
                 ·obtain rfl := Option.some.inj h
                  show FPost _ _ _ _ _ _ _
                  simp only [FPost, ares, one1, go_sem, Prod.mk.injEq, reduceIte, Nat.reduceEqDiff, Nat.reduceAdd, Nat.reduceSub, Nat.reduceMul, Nat.reduceDiv, Nat.reducePow, Nat.reduceLT, Nat.reduceLeDiff, Nat.reduceBEq, Nat.reduceBneDiff, Int.reduceToNat, Int.reduceEq, Int.reduceLE, Int.reduceLT, reduceCtorEq, hn1d, hm1d]
                  repeat (with_reducible refine And.intro ?_ ?_; next => first | assumption | trivial | omega | decide | (constructor <;> first | assumption | omega) | (simp [Keep.ok, hp_cons_apply, hset_cons, hn1d, hm1d]; done))
                  first | exact ⟨_, hp_less (L := []) (D := [((d, 0), .box [.lit (.int .i64 v_1.1.Power), eS (lI .u8) v_1.1.Data.x0, eT (lI .u8) (d, 2) b, .lit (.int .i64 v_1.1.Safe.x0), .lit (.int .i64 v_1.1.Safe.x1)]), ((d, 1), .box [.lit (.int .i64 v_1.1.Power), eS (lI .u8) v_1.1.Data.x0, eS (lI .u8) b, .lit (.int .i64 v_1.1.Safe.x0), .lit (.int .i64 v_1.1.Safe.x1)]), ((d, 2), oT (lI .u8) b)]) (by intro p hp; simp only [List.mem_cons, List.not_mem_nil, or_false] at hp; rcases hp with rfl | rfl | rfl <;> first | exact hd _ (Nat.le_refl _)), rfl, rfl⟩ | exact ⟨_, hp_less (L := []) (D := [((d, 0), .box [.lit (.int .i64 v_1.1.Power), eS (lI .u8) v_1.1.Data.x0, eT (lI .u8) (d, 2) b, .lit (.int .i64 v_1.1.Safe.x0), .lit (.int .i64 v_1.1.Safe.x1)]), ((d, 1), .box [.lit (.int .i64 v_1.1.Power), eS (lI .u8) v_1.1.Data.x0, eS (lI .u8) b, .lit (.int .i64 v_1.1.Safe.x0), .lit (.int .i64 v_1.1.Safe.x1)]), ((d, 2), oT (lI .u8) b)]) (by intro p hp; simp only [List.mem_cons, List.not_mem_nil, or_false] at hp; rcases hp with rfl | rfl | rfl <;> first | exact hd _ (Nat.le_refl _)), rfl⟩
                ·try simp (maxSteps := 4000000) only [go_sem, Prod.mk.injEq, reduceIte, Nat.reduceEqDiff, Nat.reduceAdd, Nat.reduceSub, Nat.reduceMul, Nat.reduceDiv, Nat.reducePow, Nat.reduceLT, Nat.reduceLeDiff, Nat.reduceBEq, Nat.reduceBneDiff, Int.reduceToNat, Int.reduceEq, Int.reduceLE, Int.reduceLT, reduceCtorEq, hn1d, hm1d]
                 repeat (with_reducible refine And.intro ?_ ?_; next => first | assumption | trivial | omega | decide | (constructor <;> first | assumption | omega) | (simp [Keep.ok, hp_cons_apply, hset_cons, hn1d, hm1d]; done))
                 refine hk _ _ _ ?_
                 refine xghost (D := []) ?_ ?_ ?_ ?_
                 ·exact (.cons (Sub.of_eq rfl) (.cons (Sub.of_eq rfl) .nil))
                 ·exact HpW.refl
                 ·exact (by intro p hp; cases hp)
                 ·omega
               ·try simp (maxSteps := 4000000) only [go_sem, Prod.mk.injEq, reduceIte, Nat.reduceEqDiff, Nat.reduceAdd, Nat.reduceSub, Nat.reduceMul, Nat.reduceDiv, Nat.reducePow, Nat.reduceLT, Nat.reduceLeDiff, Nat.reduceBEq, Nat.reduceBneDiff, Int.reduceToNat, Int.reduceEq, Int.reduceLE, Int.reduceLT, reduceCtorEq, hn1d, hm1d, vptr_0, vptr_1]
                repeat (with_reducible refine And.intro ?_ ?_; next => first | assumption | trivial | omega | decide | (constructor <;> first | assumption | omega) | (simp [Keep.ok, hp_cons_apply, hset_cons, hn1d, hm1d, vptr_0, vptr_1]; done))
                refine hk _ _ _ ?_
                refine xghost (D := []) ?_ ?_ ?_ ?_
                ·exact (.cons (Sub.of_eq rfl) (.cons (Sub.of_eq rfl) .nil))
                ·exact HpW.refl
                ·exact (by intro p hp; cases hp)
                ·omega
            ·try simp (maxSteps := 4000000) only [go_sem, Prod.mk.injEq, reduceIte, Nat.reduceEqDiff, Nat.reduceAdd, Nat.reduceSub, Nat.reduceMul, Nat.reduceDiv, Nat.reducePow, Nat.reduceLT, Nat.reduceLeDiff, Nat.reduceBEq, Nat.reduceBneDiff, Int.reduceToNat, Int.reduceEq, Int.reduceLE, Int.reduceLT, reduceCtorEq, hn1d, hm1d]
             repeat (with_reducible refine And.intro ?_ ?_; next => first | assumption | trivial | omega | decide | (constructor <;> first | assumption | omega) | (simp [Keep.ok, hp_cons_apply, hset_cons, hn1d, hm1d]; done))
             refine hk _ _ _ ?_
             refine xghost (D := []) ?_ ?_ ?_ ?_
             ·exact (.cons (Sub.of_eq rfl) (.cons (Sub.of_eq rfl) (.cons (Sub.of_eq rfl) (.cons (Sub.of_eq rfl) (.cons (Sub.of_eq rfl) (.cons (Sub.of_eq rfl) (.cons (Sub.of_eq rfl) .nil)))))))
             ·exact HpW.refl
             ·exact (by intro p hp; cases hp)
             ·omega
           ·refine xghost (D := []) ?_ ?_ ?_ ?_
            ·exact (.cons (Sub.of_eq rfl) (.cons (Sub.of_eq rfl) (.cons (Sub.of_eq rfl) (.cons (Sub.of_eq rfl) (.cons (Sub.of_eq rfl) (.cons (Sub.of_eq rfl) .nil))))))
            ·exact (.cons .refl (.cons (.box (.cons Sub.refl (.cons Sub.nil (.cons Sub.nil (.cons Sub.refl (.cons Sub.refl .nil))))) ⟨.inl rfl, ⟨.inl rfl, ⟨.inl rfl, ⟨.inl rfl, ⟨.inl rfl, trivial⟩⟩⟩⟩⟩) (.cons .refl .nil)))
            ·exact (by intro p hp; cases hp)
            ·omega
          ·try simp (maxSteps := 4000000) only [go_sem, Prod.mk.injEq, reduceIte, Nat.reduceEqDiff, Nat.reduceAdd, Nat.reduceSub, Nat.reduceMul, Nat.reduceDiv, Nat.reducePow, Nat.reduceLT, Nat.reduceLeDiff, Nat.reduceBEq, Nat.reduceBneDiff, Int.reduceToNat, Int.reduceEq, Int.reduceLE, Int.reduceLT, reduceCtorEq]
           repeat (with_reducible refine And.intro ?_ ?_; next => first | assumption | trivial | omega | decide | (constructor <;> first | assumption | omega) | (simp [Keep.ok, hp_cons_apply, hset_cons]; done))
           refine hk _ _ _ ?_
           refine xghost (D := []) ?_ ?_ ?_ ?_
           ·exact (.cons (Sub.of_eq rfl) (.cons (Sub.of_eq rfl) (.cons (Sub.of_eq rfl) (.cons (Sub.of_eq rfl) (.cons (Sub.of_eq rfl) (.cons (Sub.of_eq rfl) .nil))))))
           ·exact HpW.refl
           ·exact (by intro p hp; cases hp)
           ·omega
         ·try simp (maxSteps := 4000000) only [go_sem, Prod.mk.injEq, reduceIte, Nat.reduceEqDiff, Nat.reduceAdd, Nat.reduceSub, Nat.reduceMul, Nat.reduceDiv, Nat.reducePow, Nat.reduceLT, Nat.reduceLeDiff, Nat.reduceBEq, Nat.reduceBneDiff, Int.reduceToNat, Int.reduceEq, Int.reduceLE, Int.reduceLT, reduceCtorEq, vptr_0, vptr_1]
          repeat (with_reducible refine And.intro ?_ ?_; next => first | assumption | trivial | omega | decide | (constructor <;> first | assumption | omega) | (simp [Keep.ok, hp_cons_apply, hset_cons, vptr_0, vptr_1]; done))
          have hcall := s_stanchionref00_CopyBytes_T_ok (hp [((d, 0), .box [.lit (.int .i64 v_1.1.Power), eS (lI .u8) v_1.1.Data.x0, eS (lI .u8) v_1.1.Data.x1, .lit (.int .i64 v_1.1.Safe.x0), .lit (.int .i64 v_1.1.Safe.x1)]), ((d, 1), .box [.lit (.int .i64 0), .lit (.slice none 0 0), .lit (.slice none 0 0), .lit (.int .i64 0), .lit (.int .i64 0)])] S) v_1.1.Data.x1 hv_2
          refine call1_tip hcall rfl ?_ ?_
          ·exact (.cons Sub.refl .nil)
          clear hcall
          try simp (maxSteps := 4000000) only [go_sem, Prod.mk.injEq, reduceIte, Nat.reduceEqDiff, Nat.reduceAdd, Nat.reduceSub, Nat.reduceMul, Nat.reduceDiv, Nat.reducePow, Nat.reduceLT, Nat.reduceLeDiff, Nat.reduceBEq, Nat.reduceBneDiff, Int.reduceToNat, Int.reduceEq, Int.reduceLE, Int.reduceLT, reduceCtorEq, vptr_0, vptr_1]
          repeat (with_reducible refine And.intro ?_ ?_; next => first | assumption | trivial | omega | decide | (constructor <;> first | assumption | omega) | (simp [Keep.ok, hp_cons_apply, hset_cons, vptr_0, vptr_1]; done))
          refine hk _ _ _ ?_
          refine xghost (D := []) ?_ ?_ ?_ ?_
          ·exact (.cons (Sub.of_eq rfl) (.cons (Sub.of_eq rfl) (.cons (Sub.of_eq rfl) (.cons (Sub.of_eq rfl) (.cons (Sub.of_eq rfl) .nil)))))
          ·exact HpW.refl
          ·exact (by intro p hp; cases hp)
          ·omega
        ·rw [if_neg hs] at h
         cases h
     ·try simp (maxSteps := 4000000) only [go_sem, Prod.mk.injEq, reduceIte, Nat.reduceEqDiff, Nat.reduceAdd, Nat.reduceSub, Nat.reduceMul, Nat.reduceDiv, Nat.reducePow, Nat.reduceLT, Nat.reduceLeDiff, Nat.reduceBEq, Nat.reduceBneDiff, Int.reduceToNat, Int.reduceEq, Int.reduceLE, Int.reduceLT, reduceCtorEq]
      repeat (with_reducible refine And.intro ?_ ?_; next => first | assumption | trivial | omega | decide | (constructor <;> first | assumption | omega) | (simp [Keep.ok, hp_cons_apply, hset_cons]; done))
      refine hk _ _ _ ?_
      refine xghost (D := []) ?_ ?_ ?_ ?_
      ·exact (.cons (Sub.of_eq rfl) (.cons (Sub.of_eq rfl) (.cons (Sub.of_eq rfl) (.cons (Sub.of_eq rfl) (.cons (Sub.of_eq rfl) (.cons (Sub.of_eq rfl) .nil))))))
      ·exact HpW.refl
      ·exact (by intro p hp; cases hp)
      ·omega
    ·try simp (maxSteps := 4000000) only [go_sem, Prod.mk.injEq, reduceIte, Nat.reduceEqDiff, Nat.reduceAdd, Nat.reduceSub, Nat.reduceMul, Nat.reduceDiv, Nat.reducePow, Nat.reduceLT, Nat.reduceLeDiff, Nat.reduceBEq, Nat.reduceBneDiff, Int.reduceToNat, Int.reduceEq, Int.reduceLE, Int.reduceLT, reduceCtorEq]
     repeat (with_reducible refine And.intro ?_ ?_; next => first | assumption | trivial | omega | decide | (constructor <;> first | assumption | omega) | (simp [Keep.ok, hp_cons_apply, hset_cons]; done))
     have hcall := s_stanchionref04_Disk_draw_ok (hp [((d, 0), .box [.lit (.int .i64 dx.Power), eS (lI .u8) dx.Data.x0, eS (lI .u8) dx.Data.x1, .lit (.int .i64 dx.Safe.x0), .lit (.int .i64 dx.Safe.x1)]), ((d, 1), .box [.lit (.int .i64 0), .lit (.slice none 0 0), .lit (.slice none 0 0), .lit (.int .i64 0), .lit (.int .i64 0)])] S) dx hv_1
     refine call1_x hcall rfl ?_ ?_
     ·exact (.cons Sub.refl .nil)
     clear hcall
     rintro _ SS ⟨rfl, hSS⟩ -
     rw [hSS]
     clear hSS
     try simp (maxSteps := 4000000) only [go_sem, Prod.mk.injEq, reduceIte, Nat.reduceEqDiff, Nat.reduceAdd, Nat.reduceSub, Nat.reduceMul, Nat.reduceDiv, Nat.reducePow, Nat.reduceLT, Nat.reduceLeDiff, Nat.reduceBEq, Nat.reduceBneDiff, Int.reduceToNat, Int.reduceEq, Int.reduceLE, Int.reduceLT, reduceCtorEq]
     repeat (with_reducible refine And.intro ?_ ?_; next => first | assumption | trivial | omega | decide | (constructor <;> first | assumption | omega) | (simp [Keep.ok, hp_cons_apply, hset_cons]; done))
     refine hk _ _ _ ?_
     refine xghost (D := []) ?_ ?_ ?_ ?_
     ·exact (.cons (Sub.of_eq rfl) (.cons (Sub.of_eq rfl) (.cons (Sub.of_eq rfl) (.cons (Sub.of_eq rfl) (.cons (Sub.of_eq rfl) .nil)))))
     ·exact HpW.refl
     ·exact (by intro p hp; cases hp)
     ·omega
  ·try simp (maxSteps := 4000000) only [go_sem, Prod.mk.injEq, reduceIte, Nat.reduceEqDiff, Nat.reduceAdd, Nat.reduceSub, Nat.reduceMul, Nat.reduceDiv, Nat.reducePow, Nat.reduceLT, Nat.reduceLeDiff, Nat.reduceBEq, Nat.reduceBneDiff, Int.reduceToNat, Int.reduceEq, Int.reduceLE, Int.reduceLT, reduceCtorEq]
   repeat (with_reducible refine And.intro ?_ ?_; next => first | assumption | trivial | omega | decide | (constructor <;> first | assumption | omega) | (simp [Keep.ok, hp_cons_apply, hset_cons]; done))
   have hcall := s_stanchionref04_area_ok (hp [((d, 0), .box [.lit (.int .i64 dx.Power), eS (lI .u8) dx.Data.x0, eS (lI .u8) dx.Data.x1, .lit (.int .i64 dx.Safe.x0), .lit (.int .i64 dx.Safe.x1)]), ((d, 1), .box [.lit (.int .i64 0), .lit (.slice none 0 0), .lit (.slice none 0 0), .lit (.int .i64 0), .lit (.int .i64 0)])] S) a hv
   refine call1_x hcall rfl ?_ ?_
   ·exact (.cons Sub.refl .nil)
   clear hcall
   rintro _ SS ⟨rfl, hSS⟩ -
   rw [hSS]
   clear hSS
   try simp (maxSteps := 4000000) only [go_sem, Prod.mk.injEq, reduceIte, Nat.reduceEqDiff, Nat.reduceAdd, Nat.reduceSub, Nat.reduceMul, Nat.reduceDiv, Nat.reducePow, Nat.reduceLT, Nat.reduceLeDiff, Nat.reduceBEq, Nat.reduceBneDiff, Int.reduceToNat, Int.reduceEq, Int.reduceLE, Int.reduceLT, reduceCtorEq]
   repeat (with_reducible refine And.intro ?_ ?_; next => first | assumption | trivial | omega | decide | (constructor <;> first | assumption | omega) | (simp [Keep.ok, hp_cons_apply, hset_cons]; done))
   refine hk _ _ _ ?_
   refine xghost (D := []) ?_ ?_ ?_ ?_
   ·exact (.cons (Sub.of_eq rfl) (.cons (Sub.of_eq rfl) (.cons (Sub.of_eq rfl) (.cons (Sub.of_eq rfl) (.cons (Sub.of_eq rfl) .nil)))))
   ·exact HpW.refl
   ·exact (by intro p hp; cases hp)
   ·omega
 ·try simp (maxSteps := 4000000) only [go_sem, Prod.mk.injEq, reduceIte, Nat.reduceEqDiff, Nat.reduceAdd, Nat.reduceSub, Nat.reduceMul, Nat.reduceDiv, Nat.reducePow, Nat.reduceLT, Nat.reduceLeDiff, Nat.reduceBEq, Nat.reduceBneDiff, Int.reduceToNat, Int.reduceEq, Int.reduceLE, Int.reduceLT, reduceCtorEq]
  repeat (with_reducible refine And.intro ?_ ?_; next => first | assumption | trivial | omega | decide | (constructor <;> first | assumption | omega) | (simp [Keep.ok, hp_cons_apply, hset_cons]; done))
  refine hk _ _ _ ?_
  refine xghost (D := []) ?_ ?_ ?_ ?_
  ·exact (.cons (Sub.of_eq rfl) (.cons (Sub.of_eq rfl) (.cons (Sub.of_eq rfl) (.cons (Sub.of_eq rfl) .nil))))
  ·exact HpW.refl
  ·exact (by intro p hp; cases hp)
  ·omega
end
end Go.Proofs.Ythdmpdagkccphaa
