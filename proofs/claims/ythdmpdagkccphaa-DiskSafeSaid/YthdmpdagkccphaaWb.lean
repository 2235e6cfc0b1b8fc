/- Go functions as Lean functions, and that their code does as these say. Printed by a program of this work. -/
import Derived.Test.YthdmpdagkccphaaWL
import Derived.Test.YthdmpdagkccphaaWa
set_option linter.unusedVariables false
set_option linter.unusedSimpArgs false
set_option maxRecDepth 100000
set_option maxHeartbeats 4000000
namespace Go.Proofs.Ythdmpdagkccphaa
open Go Go.Al
noncomputable section
/-! (*stanchion/disk.Disk).Read -/
def s_disk_Disk_Read (dx : GdiskDisk) (n : Int) : Option (List Int × Int) :=
 bd (s_disk_there ([n])) fun (v : Bool) => if (!v) = true then some ([], 41) else if n = 0 then bd (s_slices_Clone_byte_byte dx.areas.x0.data) fun (v_2 : List Int) => some (v_2, 0) else if n = 1 then bd (s_slices_Clone_byte_byte dx.areas.x1.data) fun (v_1 : List Int) => some (v_1, 0) else none
theorem s_disk_Disk_Read_ok (S : AHeap) {n0 : Name} (dx : GdiskDisk) (n : Int) {r : List Int × Int} (hS0 : S n0 = some (oGdiskDisk dx)) (h : s_disk_Disk_Read dx n = some r) :
  AC Try.prog n_disk_Disk_Read [.ptr n0 0, .lit (.int .i64 n)] S fun r' S' => r' = .ret (.tup [eS (lI .u8) r.1, .lit (.int .i64 r.2)]) ∧ S' = S := by
 refine AC_of tok mixed fits_disk_Disk_Read fun d hd => ?_
 unfold c_disk_Disk_Read
 show LW _ _ _ _ [(0, .ptr n0 0), (1, .lit (.int .i64 n))] S 0 _
 refine LW_heap (hp_in hS0) ?_
 have hl_n0 : n0.1 < d := lt_of_hd hd hS0
 have hq_n0 : ∀ k, (n0 = (d, k)) = False := fun k => ne_deep hl_n0
 have hr_n0 : ∀ k, ((d, k) = n0) = False := fun k => ne_deep' hl_n0
 show LW _ _ _ _ [(0, .ptr n0 0), (1, .lit (.int .i64 n))] (hp [(n0, .box [.lit (.int .i64 dx.power), eO (lI .u8) dx.areas.x0.data, .lit (.int .i64 dx.areas.x0.safe), eO (lI .u8) dx.areas.x1.data, .lit (.int .i64 dx.areas.x1.safe)])] S) 0 _
 rw [s_disk_Disk_Read] at h
 refine xseq [(0, .ptr n0 0), (1, .lit (.int .i64 n))] (hp [(n0, .box [.lit (.int .i64 dx.power), eO (lI .u8) dx.areas.x0.data, .lit (.int .i64 dx.areas.x0.safe), eO (lI .u8) dx.areas.x1.data, .lit (.int .i64 dx.areas.x1.safe)])] S) 0 ?_ (fun k kp hk => ?_)
 ·refine LW_seq ?_
  obtain ⟨v, hv, h⟩ := bd_some h
  refine xseq [(0, .ptr n0 0), (1, .lit (.int .i64 n)), (9, .lit (.bool (!v)))] (hp [(n0, .box [.lit (.int .i64 dx.power), eO (lI .u8) dx.areas.x0.data, .lit (.int .i64 dx.areas.x0.safe), eO (lI .u8) dx.areas.x1.data, .lit (.int .i64 dx.areas.x1.safe)])] S) 0 ?_ (fun k kp hk => ?_)
  ·refine xcond (!v) rfl (fun hc => ?_) (fun hc => ?_)
   ·rw [ite_t hc] at h
    refine xseq [(4, eS (lI .u8) []), (5, .lit (.int .i64 41))] (hp [(n0, .box [.lit (.int .i64 dx.power), eO (lI .u8) dx.areas.x0.data, .lit (.int .i64 dx.areas.x0.safe), eO (lI .u8) dx.areas.x1.data, .lit (.int .i64 dx.areas.x1.safe)])] S) 0 ?_ (fun k kp hk => ?_)
    ·refine LW_ret ?_
     obtain rfl := Option.some.inj h
     show FPost _ _ _ _ _ _ _
     exact ⟨_, hp_less (L := [(n0, .box [.lit (.int .i64 dx.power), eO (lI .u8) dx.areas.x0.data, .lit (.int .i64 dx.areas.x0.safe), eO (lI .u8) dx.areas.x1.data, .lit (.int .i64 dx.areas.x1.safe)])]) (D := []) (by intro p hp; cases hp), rfl, hp_out hS0⟩
    ·try simp (maxSteps := 4000000) only [go_sem, Prod.mk.injEq, reduceIte, Nat.reduceEqDiff, Nat.reduceAdd, Nat.reduceSub, Nat.reduceMul, Nat.reduceDiv, Nat.reducePow, Nat.reduceLT, Nat.reduceLeDiff, Nat.reduceBEq, Nat.reduceBneDiff, Int.reduceToNat, Int.reduceEq, Int.reduceLE, Int.reduceLT, reduceCtorEq, oGdiskDisk, hq_n0, hr_n0]
     repeat (with_reducible refine And.intro ?_ ?_; next => first | assumption | trivial | omega | decide | (constructor <;> first | assumption | omega) | (simp [Keep.ok, hp_cons_apply, hset_cons, oGdiskDisk, hq_n0, hr_n0]; done))
     refine hk _ _ _ ?_
     refine xghost (D := []) ?_ ?_ ?_ ?_
     ·exact (.cons Sub.nil (.cons (Sub.of_eq rfl) .nil))
     ·exact HpW.refl
     ·exact (by intro p hp; cases hp)
     ·omega
   ·rw [ite_f hc] at h
    refine LW_skip ?_
    show LW _ _ _ _ _ _ _ _
    by_cases hs_1 : n = 0
    ·subst hs_1
     rw [if_pos rfl] at h
     refine LW_gh (Ghost.openX (L := (lI .u8)) (xs := dx.areas.x0.data) (n := n0) (i := 1) (cs := [.lit (.int .i64 dx.power), eO (lI .u8) dx.areas.x0.data, .lit (.int .i64 dx.areas.x0.safe), eO (lI .u8) dx.areas.x1.data, .lit (.int .i64 dx.areas.x1.safe)]) (A' := [(n0, .box [.lit (.int .i64 dx.power), eB (lI .u8) (d, 0) dx.areas.x0.data, .lit (.int .i64 dx.areas.x0.safe), eO (lI .u8) dx.areas.x1.data, .lit (.int .i64 dx.areas.x1.safe)]), ((d, 0), oT (lI .u8) dx.areas.x0.data)]) (by simp only [hp_cons_apply, hp_nil_apply, reduceIte, Prod.mk.injEq, Nat.reduceEqDiff, and_true, and_false, true_and, false_and, oGdiskDisk, hq_n0, hr_n0] <;> rfl) rfl (by simp only [hset_cons, hset_nil, hrem_cons, hrem_nil, List.set_cons_zero, List.set_cons_succ, reduceIte, Prod.mk.injEq, Nat.reduceEqDiff, and_true, and_false, true_and, false_and, oGdiskDisk, hq_n0, hr_n0])) ?_
     obtain ⟨v_2, hv_2, h⟩ := bd_some h
     refine xseq [(4, eS (lI .u8) v_2), (5, .lit (.int .i64 0))] (hp [(n0, .box [.lit (.int .i64 dx.power), eB (lI .u8) (d, 0) dx.areas.x0.data, .lit (.int .i64 dx.areas.x0.safe), eO (lI .u8) dx.areas.x1.data, .lit (.int .i64 dx.areas.x1.safe)]), ((d, 0), oT (lI .u8) dx.areas.x0.data)] S) 1 ?_ (fun k kp hk => ?_)
     ·refine LW_retX (sl' := [(4, eS (lI .u8) v_2), (5, .lit (.int .i64 0))]) (S' := (hp [(n0, .box [.lit (.int .i64 dx.power), eO (lI .u8) dx.areas.x0.data, .lit (.int .i64 dx.areas.x0.safe), eO (lI .u8) dx.areas.x1.data, .lit (.int .i64 dx.areas.x1.safe)])] S)) (c' := 1) ?_ ?_
      ·refine Ghost.trans (Ghost.closeX (L := (lI .u8)) (xs := dx.areas.x0.data) (n := n0) (m := (d, 0)) (i := 1) (cs := [.lit (.int .i64 dx.power), eB (lI .u8) (d, 0) dx.areas.x0.data, .lit (.int .i64 dx.areas.x0.safe), eO (lI .u8) dx.areas.x1.data, .lit (.int .i64 dx.areas.x1.safe)]) (A' := [(n0, .box [.lit (.int .i64 dx.power), eO (lI .u8) dx.areas.x0.data, .lit (.int .i64 dx.areas.x0.safe), eO (lI .u8) dx.areas.x1.data, .lit (.int .i64 dx.areas.x1.safe)])]) (by simp only [hp_cons_apply, hp_nil_apply, reduceIte, Prod.mk.injEq, Nat.reduceEqDiff, and_true, and_false, true_and, false_and, oGdiskDisk, hq_n0, hr_n0] <;> rfl) rfl (by simp only [hp_cons_apply, hp_nil_apply, reduceIte, Prod.mk.injEq, Nat.reduceEqDiff, and_true, and_false, true_and, false_and, oGdiskDisk, hq_n0, hr_n0] <;> rfl) (hd _ (Nat.le_refl _)) (by simp only [hset_cons, hset_nil, hrem_cons, hrem_nil, List.set_cons_zero, List.set_cons_succ, reduceIte, Prod.mk.injEq, Nat.reduceEqDiff, and_true, and_false, true_and, false_and, oGdiskDisk, hq_n0, hr_n0])) ?_
       refine xghost (D := []) ?_ ?_ ?_ ?_
       ·exact (.cons (Sub.of_eq rfl) (.cons (Sub.of_eq rfl) .nil))
       ·exact HpW.refl
       ·exact (by intro p hp; cases hp)
       ·omega
      ·obtain rfl := Option.some.inj h
       show FPost _ _ _ _ _ _ _
       exact ⟨_, hp_less (L := [(n0, .box [.lit (.int .i64 dx.power), eO (lI .u8) dx.areas.x0.data, .lit (.int .i64 dx.areas.x0.safe), eO (lI .u8) dx.areas.x1.data, .lit (.int .i64 dx.areas.x1.safe)])]) (D := []) (by intro p hp; cases hp), rfl, hp_out hS0⟩
     ·try simp (maxSteps := 4000000) only [go_sem, Prod.mk.injEq, reduceIte, Nat.reduceEqDiff, Nat.reduceAdd, Nat.reduceSub, Nat.reduceMul, Nat.reduceDiv, Nat.reducePow, Nat.reduceLT, Nat.reduceLeDiff, Nat.reduceBEq, Nat.reduceBneDiff, Int.reduceToNat, Int.reduceEq, Int.reduceLE, Int.reduceLT, reduceCtorEq, oGdiskDisk, hq_n0, hr_n0, vptr_0, vptr_1]
      repeat (with_reducible refine And.intro ?_ ?_; next => first | assumption | trivial | omega | decide | (constructor <;> first | assumption | omega) | (simp [Keep.ok, hp_cons_apply, hset_cons, oGdiskDisk, hq_n0, hr_n0, vptr_0, vptr_1]; done))
      have hcall := s_slices_Clone_byte_byte_W_ok (hp [(n0, .box [.lit (.int .i64 dx.power), eB (lI .u8) (d, 0) dx.areas.x0.data, .lit (.int .i64 dx.areas.x0.safe), eO (lI .u8) dx.areas.x1.data, .lit (.int .i64 dx.areas.x1.safe)]), ((d, 0), oT (lI .u8) dx.areas.x0.data)] S) (o := (Own.buf (d, 0) (dx.areas.x0.data.length * ((lI .u8)).sz))) (ho := ⟨dx.areas.x0.data.length * ((lI .u8)).sz, (by simp only [hp_cons_apply, hp_nil_apply, reduceIte, Prod.mk.injEq, Nat.reduceEqDiff, and_true, and_false, true_and, false_and, oGdiskDisk, hq_n0, hr_n0, vptr_0, vptr_1] <;> rfl)⟩) dx.areas.x0.data hv_2
      refine call1_x hcall rfl ?_ ?_
      ·exact (.cons Sub.refl .nil)
      clear hcall
      rintro _ SS ⟨rfl, hSS⟩ -
      rw [hSS]
      clear hSS
      try simp (maxSteps := 4000000) only [go_sem, Prod.mk.injEq, reduceIte, Nat.reduceEqDiff, Nat.reduceAdd, Nat.reduceSub, Nat.reduceMul, Nat.reduceDiv, Nat.reducePow, Nat.reduceLT, Nat.reduceLeDiff, Nat.reduceBEq, Nat.reduceBneDiff, Int.reduceToNat, Int.reduceEq, Int.reduceLE, Int.reduceLT, reduceCtorEq, oGdiskDisk, hq_n0, hr_n0, vptr_0, vptr_1]
      repeat (with_reducible refine And.intro ?_ ?_; next => first | assumption | trivial | omega | decide | (constructor <;> first | assumption | omega) | (simp [Keep.ok, hp_cons_apply, hset_cons, oGdiskDisk, hq_n0, hr_n0, vptr_0, vptr_1]; done))
      refine hk _ _ _ ?_
      refine xghost (D := []) ?_ ?_ ?_ ?_
      ·exact (.cons (Sub.of_eq rfl) (.cons (Sub.of_eq rfl) .nil))
      ·exact HpW.refl
      ·exact (by intro p hp; cases hp)
      ·omega
    ·rw [if_neg hs_1] at h
     by_cases hs : n = 1
     ·subst hs
      rw [if_pos rfl] at h
      refine LW_gh (Ghost.openX (L := (lI .u8)) (xs := dx.areas.x1.data) (n := n0) (i := 3) (cs := [.lit (.int .i64 dx.power), eO (lI .u8) dx.areas.x0.data, .lit (.int .i64 dx.areas.x0.safe), eO (lI .u8) dx.areas.x1.data, .lit (.int .i64 dx.areas.x1.safe)]) (A' := [(n0, .box [.lit (.int .i64 dx.power), eO (lI .u8) dx.areas.x0.data, .lit (.int .i64 dx.areas.x0.safe), eB (lI .u8) (d, 0) dx.areas.x1.data, .lit (.int .i64 dx.areas.x1.safe)]), ((d, 0), oT (lI .u8) dx.areas.x1.data)]) (by simp only [hp_cons_apply, hp_nil_apply, reduceIte, Prod.mk.injEq, Nat.reduceEqDiff, and_true, and_false, true_and, false_and, oGdiskDisk, hq_n0, hr_n0] <;> rfl) rfl (by simp only [hset_cons, hset_nil, hrem_cons, hrem_nil, List.set_cons_zero, List.set_cons_succ, reduceIte, Prod.mk.injEq, Nat.reduceEqDiff, and_true, and_false, true_and, false_and, oGdiskDisk, hq_n0, hr_n0])) ?_
      obtain ⟨v_1, hv_1, h⟩ := bd_some h
      refine xseq [(4, eS (lI .u8) v_1), (5, .lit (.int .i64 0))] (hp [(n0, .box [.lit (.int .i64 dx.power), eO (lI .u8) dx.areas.x0.data, .lit (.int .i64 dx.areas.x0.safe), eB (lI .u8) (d, 0) dx.areas.x1.data, .lit (.int .i64 dx.areas.x1.safe)]), ((d, 0), oT (lI .u8) dx.areas.x1.data)] S) 1 ?_ (fun k kp hk => ?_)
      ·refine LW_retX (sl' := [(4, eS (lI .u8) v_1), (5, .lit (.int .i64 0))]) (S' := (hp [(n0, .box [.lit (.int .i64 dx.power), eO (lI .u8) dx.areas.x0.data, .lit (.int .i64 dx.areas.x0.safe), eO (lI .u8) dx.areas.x1.data, .lit (.int .i64 dx.areas.x1.safe)])] S)) (c' := 1) ?_ ?_
       ·refine Ghost.trans (Ghost.closeX (L := (lI .u8)) (xs := dx.areas.x1.data) (n := n0) (m := (d, 0)) (i := 3) (cs := [.lit (.int .i64 dx.power), eO (lI .u8) dx.areas.x0.data, .lit (.int .i64 dx.areas.x0.safe), eB (lI .u8) (d, 0) dx.areas.x1.data, .lit (.int .i64 dx.areas.x1.safe)]) (A' := [(n0, .box [.lit (.int .i64 dx.power), eO (lI .u8) dx.areas.x0.data, .lit (.int .i64 dx.areas.x0.safe), eO (lI .u8) dx.areas.x1.data, .lit (.int .i64 dx.areas.x1.safe)])]) (by simp only [hp_cons_apply, hp_nil_apply, reduceIte, Prod.mk.injEq, Nat.reduceEqDiff, and_true, and_false, true_and, false_and, oGdiskDisk, hq_n0, hr_n0] <;> rfl) rfl (by simp only [hp_cons_apply, hp_nil_apply, reduceIte, Prod.mk.injEq, Nat.reduceEqDiff, and_true, and_false, true_and, false_and, oGdiskDisk, hq_n0, hr_n0] <;> rfl) (hd _ (Nat.le_refl _)) (by simp only [hset_cons, hset_nil, hrem_cons, hrem_nil, List.set_cons_zero, List.set_cons_succ, reduceIte, Prod.mk.injEq, Nat.reduceEqDiff, and_true, and_false, true_and, false_and, oGdiskDisk, hq_n0, hr_n0])) ?_
        refine xghost (D := []) ?_ ?_ ?_ ?_
        ·exact (.cons (Sub.of_eq rfl) (.cons (Sub.of_eq rfl) .nil))
        ·exact HpW.refl
        ·exact (by intro p hp; cases hp)
        ·omega
       ·obtain rfl := Option.some.inj h
        show FPost _ _ _ _ _ _ _
        exact ⟨_, hp_less (L := [(n0, .box [.lit (.int .i64 dx.power), eO (lI .u8) dx.areas.x0.data, .lit (.int .i64 dx.areas.x0.safe), eO (lI .u8) dx.areas.x1.data, .lit (.int .i64 dx.areas.x1.safe)])]) (D := []) (by intro p hp; cases hp), rfl, hp_out hS0⟩
      ·try simp (maxSteps := 4000000) only [go_sem, Prod.mk.injEq, reduceIte, Nat.reduceEqDiff, Nat.reduceAdd, Nat.reduceSub, Nat.reduceMul, Nat.reduceDiv, Nat.reducePow, Nat.reduceLT, Nat.reduceLeDiff, Nat.reduceBEq, Nat.reduceBneDiff, Int.reduceToNat, Int.reduceEq, Int.reduceLE, Int.reduceLT, reduceCtorEq, oGdiskDisk, hq_n0, hr_n0, vptr_0, vptr_1]
       repeat (with_reducible refine And.intro ?_ ?_; next => first | assumption | trivial | omega | decide | (constructor <;> first | assumption | omega) | (simp [Keep.ok, hp_cons_apply, hset_cons, oGdiskDisk, hq_n0, hr_n0, vptr_0, vptr_1]; done))
       have hcall := s_slices_Clone_byte_byte_W_ok (hp [(n0, .box [.lit (.int .i64 dx.power), eO (lI .u8) dx.areas.x0.data, .lit (.int .i64 dx.areas.x0.safe), eB (lI .u8) (d, 0) dx.areas.x1.data, .lit (.int .i64 dx.areas.x1.safe)]), ((d, 0), oT (lI .u8) dx.areas.x1.data)] S) (o := (Own.buf (d, 0) (dx.areas.x1.data.length * ((lI .u8)).sz))) (ho := ⟨dx.areas.x1.data.length * ((lI .u8)).sz, (by simp only [hp_cons_apply, hp_nil_apply, reduceIte, Prod.mk.injEq, Nat.reduceEqDiff, and_true, and_false, true_and, false_and, oGdiskDisk, hq_n0, hr_n0, vptr_0, vptr_1] <;> rfl)⟩) dx.areas.x1.data hv_1
       refine call1_x hcall rfl ?_ ?_
       ·exact (.cons Sub.refl .nil)
       clear hcall
       rintro _ SS ⟨rfl, hSS⟩ -
       rw [hSS]
       clear hSS
       try simp (maxSteps := 4000000) only [go_sem, Prod.mk.injEq, reduceIte, Nat.reduceEqDiff, Nat.reduceAdd, Nat.reduceSub, Nat.reduceMul, Nat.reduceDiv, Nat.reducePow, Nat.reduceLT, Nat.reduceLeDiff, Nat.reduceBEq, Nat.reduceBneDiff, Int.reduceToNat, Int.reduceEq, Int.reduceLE, Int.reduceLT, reduceCtorEq, oGdiskDisk, hq_n0, hr_n0, vptr_0, vptr_1]
       repeat (with_reducible refine And.intro ?_ ?_; next => first | assumption | trivial | omega | decide | (constructor <;> first | assumption | omega) | (simp [Keep.ok, hp_cons_apply, hset_cons, oGdiskDisk, hq_n0, hr_n0, vptr_0, vptr_1]; done))
       refine hk _ _ _ ?_
       refine xghost (D := []) ?_ ?_ ?_ ?_
       ·exact (.cons (Sub.of_eq rfl) (.cons (Sub.of_eq rfl) .nil))
       ·exact HpW.refl
       ·exact (by intro p hp; cases hp)
       ·omega
     ·rw [if_neg hs] at h
      cases h
  ·try simp (maxSteps := 4000000) only [go_sem, Prod.mk.injEq, reduceIte, Nat.reduceEqDiff, Nat.reduceAdd, Nat.reduceSub, Nat.reduceMul, Nat.reduceDiv, Nat.reducePow, Nat.reduceLT, Nat.reduceLeDiff, Nat.reduceBEq, Nat.reduceBneDiff, Int.reduceToNat, Int.reduceEq, Int.reduceLE, Int.reduceLT, reduceCtorEq, oGdiskDisk, hq_n0, hr_n0]
   repeat (with_reducible refine And.intro ?_ ?_; next => first | assumption | trivial | omega | decide | (constructor <;> first | assumption | omega) | (simp [Keep.ok, hp_cons_apply, hset_cons, oGdiskDisk, hq_n0, hr_n0]; done))
   have hcall := s_disk_there_ok (hp [(n0, .box [.lit (.int .i64 dx.power), eO (lI .u8) dx.areas.x0.data, .lit (.int .i64 dx.areas.x0.safe), eO (lI .u8) dx.areas.x1.data, .lit (.int .i64 dx.areas.x1.safe)])] S) ([n]) hv
   refine call1_x hcall rfl ?_ ?_
   ·exact (.cons (Sub.young (L := (lI .i64)) (xs := [n])) .nil)
   clear hcall
   rintro _ SS ⟨rfl, hSS⟩ -
   rw [hSS]
   clear hSS
   try simp (maxSteps := 4000000) only [go_sem, Prod.mk.injEq, reduceIte, Nat.reduceEqDiff, Nat.reduceAdd, Nat.reduceSub, Nat.reduceMul, Nat.reduceDiv, Nat.reducePow, Nat.reduceLT, Nat.reduceLeDiff, Nat.reduceBEq, Nat.reduceBneDiff, Int.reduceToNat, Int.reduceEq, Int.reduceLE, Int.reduceLT, reduceCtorEq, oGdiskDisk, hq_n0, hr_n0]
   repeat (with_reducible refine And.intro ?_ ?_; next => first | assumption | trivial | omega | decide | (constructor <;> first | assumption | omega) | (simp [Keep.ok, hp_cons_apply, hset_cons, oGdiskDisk, hq_n0, hr_n0]; done))
   refine hk _ _ _ ?_
   refine xghost (D := []) ?_ ?_ ?_ ?_
   ·exact (.cons (Sub.of_eq rfl) (.cons (Sub.of_eq rfl) (.cons (Sub.of_eq rfl) .nil)))
   ·exact HpW.refl
   ·exact (by intro p hp; cases hp)
   ·omega
 ·try simp (maxSteps := 4000000) only [go_sem, Prod.mk.injEq, reduceIte, Nat.reduceEqDiff, Nat.reduceAdd, Nat.reduceSub, Nat.reduceMul, Nat.reduceDiv, Nat.reducePow, Nat.reduceLT, Nat.reduceLeDiff, Nat.reduceBEq, Nat.reduceBneDiff, Int.reduceToNat, Int.reduceEq, Int.reduceLE, Int.reduceLT, reduceCtorEq, oGdiskDisk, hq_n0, hr_n0]
  repeat (with_reducible refine And.intro ?_ ?_; next => first | assumption | trivial | omega | decide | (constructor <;> first | assumption | omega) | (simp [Keep.ok, hp_cons_apply, hset_cons, oGdiskDisk, hq_n0, hr_n0]; done))
  refine hk _ _ _ ?_
  refine xghost (D := []) ?_ ?_ ?_ ?_
  ·exact (.cons (Sub.of_eq rfl) (.cons (Sub.of_eq rfl) .nil))
  ·exact HpW.refl
  ·exact (by intro p hp; cases hp)
  ·omega
/-! (*stanchion/disk.Disk).Sync -/
def s_disk_Disk_Sync_j2 (t22 : Int) (m_1 : Int) (m_2 : Int) : Option ((Int × Int × Int) ⊕ (Int × GdiskDisk)) :=
 some (.inl ((IntKind.i64.wrap (t22 + 1)), m_1, m_2))
def s_disk_Disk_Sync_b1 (v_1 : Int × GdiskDisk) (list_1 : List Int) : (Int × Int × Int) → Option ((Int × Int × Int) ⊕ (Int × GdiskDisk))
 | (t22, m, m_1) => if (decide (t22 < (list_1.length : Int))) = true then gd ((0 ≤ t22 ∧ Int.toNat t22 < list_1.length)) (if (list_1.getD (Int.toNat t22) 0) = 0 then s_disk_Disk_Sync_j2 t22 (v_1.2.areas.x0.data.length : Int) m_1 else if (list_1.getD (Int.toNat t22) 0) = 1 then s_disk_Disk_Sync_j2 t22 m (v_1.2.areas.x1.data.length : Int) else none) else mr (some (0, (GdiskDisk.mk v_1.2.power (Ar2.mk (Gdiskarea.mk v_1.2.areas.x0.data m) (Gdiskarea.mk v_1.2.areas.x1.data m_1)))))
def s_disk_Disk_Sync_j1 (v_1 : Int × GdiskDisk) (list_1 : List Int) : Option (Int × GdiskDisk) :=
 loop (s_disk_Disk_Sync_b1 v_1 list_1) (0, v_1.2.areas.x0.safe, v_1.2.areas.x1.safe)
def s_disk_Disk_Sync (dx : GdiskDisk) (list : List Int) : Option (Int × GdiskDisk) :=
 bd (s_disk_there list) fun (v : Bool) => if (!v) = true then some (41, dx) else bd (s_disk_Disk_draw dx) fun (v_1 : Int × GdiskDisk) => if (v_1.1 != 0) = true then some (v_1.1, v_1.2) else if ((list.length : Int) == 0) = true then s_disk_Disk_Sync_j1 v_1 ([0, 1]) else s_disk_Disk_Sync_j1 v_1 list
theorem s_disk_Disk_Sync_ok (S : AHeap) {n0 : Name} (dx : GdiskDisk) (list : List Int) {r : Int × GdiskDisk} (hS0 : S n0 = some (oGdiskDisk dx)) (h : s_disk_Disk_Sync dx list = some r) :
  AC Try.prog n_disk_Disk_Sync [.ptr n0 0, eS (lI .i64) list] S fun r' S' => r' = .ret (.lit (.int .i64 r.1)) ∧ S' = S.set n0 (oGdiskDisk r.2) := by
 refine AC_of tok mixed fits_disk_Disk_Sync fun d hd => ?_
 unfold c_disk_Disk_Sync
 show LW _ _ _ _ [(0, .ptr n0 0), (1, eS (lI .i64) list)] S 0 _
 refine LW_heap (hp_in hS0) ?_
 have hl_n0 : n0.1 < d := lt_of_hd hd hS0
 have hq_n0 : ∀ k, (n0 = (d, k)) = False := fun k => ne_deep hl_n0
 have hr_n0 : ∀ k, ((d, k) = n0) = False := fun k => ne_deep' hl_n0
 show LW _ _ _ _ [(0, .ptr n0 0), (1, eS (lI .i64) list)] (hp [(n0, .box [.lit (.int .i64 dx.power), eO (lI .u8) dx.areas.x0.data, .lit (.int .i64 dx.areas.x0.safe), eO (lI .u8) dx.areas.x1.data, .lit (.int .i64 dx.areas.x1.safe)])] S) 0 _
 rw [s_disk_Disk_Sync] at h
 refine xseq [(0, .ptr n0 0), (1, eS (lI .i64) list)] (hp [(n0, .box [.lit (.int .i64 dx.power), eO (lI .u8) dx.areas.x0.data, .lit (.int .i64 dx.areas.x0.safe), eO (lI .u8) dx.areas.x1.data, .lit (.int .i64 dx.areas.x1.safe)])] S) 0 ?_ (fun k kp hk => ?_)
 ·refine LW_seq ?_
  obtain ⟨v, hv, h⟩ := bd_some h
  refine xseq [(0, .ptr n0 0), (1, eS (lI .i64) list), (10, .lit (.bool (!v)))] (hp [(n0, .box [.lit (.int .i64 dx.power), eO (lI .u8) dx.areas.x0.data, .lit (.int .i64 dx.areas.x0.safe), eO (lI .u8) dx.areas.x1.data, .lit (.int .i64 dx.areas.x1.safe)])] S) 0 ?_ (fun k kp hk => ?_)
  ·refine xcond (!v) rfl (fun hc => ?_) (fun hc => ?_)
   ·rw [ite_t hc] at h
    refine xseq [(4, .lit (.int .i64 41))] (hp [(n0, .box [.lit (.int .i64 dx.power), eO (lI .u8) dx.areas.x0.data, .lit (.int .i64 dx.areas.x0.safe), eO (lI .u8) dx.areas.x1.data, .lit (.int .i64 dx.areas.x1.safe)])] S) 0 ?_ (fun k kp hk => ?_)
    ·refine LW_ret ?_
     obtain rfl := Option.some.inj h
     show FPost _ _ _ _ _ _ _
     exact ⟨_, hp_less (L := [(n0, .box [.lit (.int .i64 dx.power), eO (lI .u8) dx.areas.x0.data, .lit (.int .i64 dx.areas.x0.safe), eO (lI .u8) dx.areas.x1.data, .lit (.int .i64 dx.areas.x1.safe)])]) (D := []) (by intro p hp; cases hp), rfl, rfl⟩
    ·try simp (maxSteps := 4000000) only [go_sem, Prod.mk.injEq, reduceIte, Nat.reduceEqDiff, Nat.reduceAdd, Nat.reduceSub, Nat.reduceMul, Nat.reduceDiv, Nat.reducePow, Nat.reduceLT, Nat.reduceLeDiff, Nat.reduceBEq, Nat.reduceBneDiff, Int.reduceToNat, Int.reduceEq, Int.reduceLE, Int.reduceLT, reduceCtorEq, oGdiskDisk, hq_n0, hr_n0]
     repeat (with_reducible refine And.intro ?_ ?_; next => first | assumption | trivial | omega | decide | (constructor <;> first | assumption | omega) | (simp [Keep.ok, hp_cons_apply, hset_cons, oGdiskDisk, hq_n0, hr_n0]; done))
     refine hk _ _ _ ?_
     refine xghost (D := []) ?_ ?_ ?_ ?_
     ·exact (.cons (Sub.of_eq rfl) .nil)
     ·exact HpW.refl
     ·exact (by intro p hp; cases hp)
     ·omega
   ·rw [ite_f hc] at h
    refine LW_skip ?_
    show LW _ _ _ _ _ _ _ _
    obtain ⟨v_1, hv_1, h⟩ := bd_some h
    refine xseq [(0, .ptr n0 0), (1, eS (lI .i64) list), (5, .lit (.int .i64 v_1.1))] (hp [(n0, .box [.lit (.int .i64 v_1.2.power), eO (lI .u8) v_1.2.areas.x0.data, .lit (.int .i64 v_1.2.areas.x0.safe), eO (lI .u8) v_1.2.areas.x1.data, .lit (.int .i64 v_1.2.areas.x1.safe)])] S) 0 ?_ (fun k kp hk => ?_)
    ·refine LW_seq ?_
     refine xseq [(0, .ptr n0 0), (1, eS (lI .i64) list), (5, .lit (.int .i64 v_1.1)), (14, .lit (.bool (v_1.1 != 0)))] (hp [(n0, .box [.lit (.int .i64 v_1.2.power), eO (lI .u8) v_1.2.areas.x0.data, .lit (.int .i64 v_1.2.areas.x0.safe), eO (lI .u8) v_1.2.areas.x1.data, .lit (.int .i64 v_1.2.areas.x1.safe)])] S) 0 ?_ (fun k kp hk => ?_)
     ·refine xcond (v_1.1 != 0) rfl (fun hc_1 => ?_) (fun hc_1 => ?_)
      ·rw [ite_t hc_1] at h
       refine xseq [(4, .lit (.int .i64 v_1.1))] (hp [(n0, .box [.lit (.int .i64 v_1.2.power), eO (lI .u8) v_1.2.areas.x0.data, .lit (.int .i64 v_1.2.areas.x0.safe), eO (lI .u8) v_1.2.areas.x1.data, .lit (.int .i64 v_1.2.areas.x1.safe)])] S) 0 ?_ (fun k kp hk => ?_)
       ·refine LW_ret ?_
        obtain rfl := Option.some.inj h
        show FPost _ _ _ _ _ _ _
        exact ⟨_, hp_less (L := [(n0, .box [.lit (.int .i64 v_1.2.power), eO (lI .u8) v_1.2.areas.x0.data, .lit (.int .i64 v_1.2.areas.x0.safe), eO (lI .u8) v_1.2.areas.x1.data, .lit (.int .i64 v_1.2.areas.x1.safe)])]) (D := []) (by intro p hp; cases hp), rfl, rfl⟩
       ·try simp (maxSteps := 4000000) only [go_sem, Prod.mk.injEq, reduceIte, Nat.reduceEqDiff, Nat.reduceAdd, Nat.reduceSub, Nat.reduceMul, Nat.reduceDiv, Nat.reducePow, Nat.reduceLT, Nat.reduceLeDiff, Nat.reduceBEq, Nat.reduceBneDiff, Int.reduceToNat, Int.reduceEq, Int.reduceLE, Int.reduceLT, reduceCtorEq, oGdiskDisk, hq_n0, hr_n0]
        repeat (with_reducible refine And.intro ?_ ?_; next => first | assumption | trivial | omega | decide | (constructor <;> first | assumption | omega) | (simp [Keep.ok, hp_cons_apply, hset_cons, oGdiskDisk, hq_n0, hr_n0]; done))
        refine hk _ _ _ ?_
        refine xghost (D := []) ?_ ?_ ?_ ?_
        ·exact (.cons (Sub.of_eq rfl) .nil)
        ·exact HpW.refl
        ·exact (by intro p hp; cases hp)
        ·omega
      ·rw [ite_f hc_1] at h
       refine LW_skip ?_
       show LW _ _ _ _ _ _ _ _
       refine xjoin (J := List Int) (fun jj => [(0, .ptr n0 0), (1, eS (lI .i64) jj)]) (fun jj => (hp [(n0, .box [.lit (.int .i64 v_1.2.power), eO (lI .u8) v_1.2.areas.x0.data, .lit (.int .i64 v_1.2.areas.x0.safe), eO (lI .u8) v_1.2.areas.x1.data, .lit (.int .i64 v_1.2.areas.x1.safe)])] S)) 0 (fun jj => s_disk_Disk_Sync_j1 v_1 jj = some r) ?_ (fun hj_1 => ?_)
       ·rintro list_1 h
        show LW _ _ _ _ [(0, .ptr n0 0), (1, eS (lI .i64) list_1)] (hp [(n0, .box [.lit (.int .i64 v_1.2.power), eO (lI .u8) v_1.2.areas.x0.data, .lit (.int .i64 v_1.2.areas.x0.safe), eO (lI .u8) v_1.2.areas.x1.data, .lit (.int .i64 v_1.2.areas.x1.safe)])] S) 0 _
        replace h : s_disk_Disk_Sync_j1 v_1 list_1 = some r := h
        rw [s_disk_Disk_Sync_j1] at h
        refine LW_seq ?_
        refine xseq [(0, .ptr n0 0), (20, eS (lI .i64) list_1), (21, .lit (.int .i64 (list_1.length : Int))), (22, .lit (.int .i64 0))] (hp [(n0, .box [.lit (.int .i64 v_1.2.power), eO (lI .u8) v_1.2.areas.x0.data, .lit (.int .i64 v_1.2.areas.x0.safe), eO (lI .u8) v_1.2.areas.x1.data, .lit (.int .i64 v_1.2.areas.x1.safe)])] S) 0 ?_ (fun k kp hk => ?_)
        ·refine LW_block ?_
         refine LW_loopX (c := 0) (σ := Int × Int × Int) (s := (0, v_1.2.areas.x0.safe, v_1.2.areas.x1.safe)) (fun zz => [(0, .ptr n0 0), (20, eS (lI .i64) list_1), (21, .lit (.int .i64 (list_1.length : Int))), (22, .lit (.int .i64 zz.1))]) (fun zz => (hp [(n0, .box [.lit (.int .i64 v_1.2.power), eO (lI .u8) v_1.2.areas.x0.data, .lit (.int .i64 zz.2.1), eO (lI .u8) v_1.2.areas.x1.data, .lit (.int .i64 zz.2.2)])] S)) h ?_ ?_
         ·clear h
          rintro ⟨t22, m, m_1⟩ x1 d1 hd1 hf1 h hx1
          show LW _ _ _ _ [(0, .ptr n0 0), (20, eS (lI .i64) list_1), (21, .lit (.int .i64 (list_1.length : Int))), (22, .lit (.int .i64 t22))] (hp [(n0, .box [.lit (.int .i64 v_1.2.power), eO (lI .u8) v_1.2.areas.x0.data, .lit (.int .i64 m), eO (lI .u8) v_1.2.areas.x1.data, .lit (.int .i64 m_1)])] S) 0 _
          have hn1d : (d = d1) = False := by simp; omega
          have hm1d : (d1 = d) = False := by simp; omega
          have hl1_n0 : n0.1 < d1 := by omega
          have hu1n0 : ∀ k, (n0 = (d1, k)) = False := fun k => ne_deep hl1_n0
          have hw1n0 : ∀ k, ((d1, k) = n0) = False := fun k => ne_deep' hl1_n0
          rw [s_disk_Disk_Sync_b1] at h
          refine xseq [(0, .ptr n0 0), (20, eS (lI .i64) list_1), (21, .lit (.int .i64 (list_1.length : Int))), (22, .lit (.int .i64 t22)), (23, .lit (.bool (decide (t22 < (list_1.length : Int)))))] (hp [(n0, .box [.lit (.int .i64 v_1.2.power), eO (lI .u8) v_1.2.areas.x0.data, .lit (.int .i64 m), eO (lI .u8) v_1.2.areas.x1.data, .lit (.int .i64 m_1)])] S) 0 ?_ (fun k kp hk => ?_)
          ·refine LW_seq ?_
           refine xcond (decide (t22 < (list_1.length : Int))) rfl (fun hc_3 => ?_) (fun hc_3 => ?_)
           ·rw [ite_t hc_3] at h
            refine LW_skip ?_
            show LW _ _ _ _ _ _ _ _
            refine xjoin (J := Int × Int) (fun jj => [(0, .ptr n0 0), (20, eS (lI .i64) list_1), (21, .lit (.int .i64 (list_1.length : Int))), (22, .lit (.int .i64 t22))]) (fun jj => (hp [(n0, .box [.lit (.int .i64 v_1.2.power), eO (lI .u8) v_1.2.areas.x0.data, .lit (.int .i64 jj.1), eO (lI .u8) v_1.2.areas.x1.data, .lit (.int .i64 jj.2)])] S)) 1 (fun jj => s_disk_Disk_Sync_j2 t22 jj.1 jj.2 = some x1) ?_ (fun hj => ?_)
            ·rintro ⟨m_1, m_2⟩ h
             show LW _ _ _ _ [(0, .ptr n0 0), (20, eS (lI .i64) list_1), (21, .lit (.int .i64 (list_1.length : Int))), (22, .lit (.int .i64 t22))] (hp [(n0, .box [.lit (.int .i64 v_1.2.power), eO (lI .u8) v_1.2.areas.x0.data, .lit (.int .i64 m_1), eO (lI .u8) v_1.2.areas.x1.data, .lit (.int .i64 m_2)])] S) 1 _
             replace h : s_disk_Disk_Sync_j2 t22 m_1 m_2 = some x1 := h
             rw [s_disk_Disk_Sync_j2] at h
             refine xreg [(0, .ptr n0 0), (20, eS (lI .i64) list_1), (21, .lit (.int .i64 (list_1.length : Int))), (22, .lit (.int .i64 (IntKind.i64.wrap (t22 + 1))))] (hp [(n0, .box [.lit (.int .i64 v_1.2.power), eO (lI .u8) v_1.2.areas.x0.data, .lit (.int .i64 m_1), eO (lI .u8) v_1.2.areas.x1.data, .lit (.int .i64 m_2)])] S) 1 ?_ (fun k kp hk => ?_)
             ·cases h
              exact ⟨rfl, Less.refl _⟩
             ·try simp (maxSteps := 4000000) only [go_sem, Prod.mk.injEq, reduceIte, Nat.reduceEqDiff, Nat.reduceAdd, Nat.reduceSub, Nat.reduceMul, Nat.reduceDiv, Nat.reducePow, Nat.reduceLT, Nat.reduceLeDiff, Nat.reduceBEq, Nat.reduceBneDiff, Int.reduceToNat, Int.reduceEq, Int.reduceLE, Int.reduceLT, reduceCtorEq, oGdiskDisk, hq_n0, hr_n0, hn1d, hm1d, hu1n0, hw1n0]
              repeat (with_reducible refine And.intro ?_ ?_; next => first | assumption | trivial | omega | decide | (constructor <;> first | assumption | omega) | (simp [Keep.ok, hp_cons_apply, hset_cons, oGdiskDisk, hq_n0, hr_n0, hn1d, hm1d, hu1n0, hw1n0]; done))
              refine hk _ _ _ ?_
              refine xghost (D := []) ?_ ?_ ?_ ?_
              ·exact (.cons (Sub.of_eq rfl) (.cons (Sub.of_eq rfl) (.cons (Sub.of_eq rfl) (.cons (Sub.of_eq rfl) .nil))))
              ·exact HpW.refl
              ·exact (by intro p hp; cases hp)
              ·omega
            ·refine LW_block ?_
             obtain ⟨hg, h⟩ := gd_some h
             refine xseq [(0, .ptr n0 0), (7, .lit (.int .i64 (list_1.getD (Int.toNat t22) 0))), (20, eS (lI .i64) list_1), (21, .lit (.int .i64 (list_1.length : Int))), (22, .lit (.int .i64 t22))] (hp [(n0, .box [.lit (.int .i64 v_1.2.power), eO (lI .u8) v_1.2.areas.x0.data, .lit (.int .i64 m), eO (lI .u8) v_1.2.areas.x1.data, .lit (.int .i64 m_1)])] S) 0 ?_ (fun k kp hk => ?_)
             ·by_cases hs_1 : (list_1.getD (Int.toNat t22) 0) = 0
              ·rw [if_pos hs_1] at h
               refine LW_gh (Ghost.openX (L := (lI .u8)) (xs := v_1.2.areas.x0.data) (n := n0) (i := 1) (cs := [.lit (.int .i64 v_1.2.power), eO (lI .u8) v_1.2.areas.x0.data, .lit (.int .i64 m), eO (lI .u8) v_1.2.areas.x1.data, .lit (.int .i64 m_1)]) (A' := [(n0, .box [.lit (.int .i64 v_1.2.power), eB (lI .u8) (d1, 0) v_1.2.areas.x0.data, .lit (.int .i64 m), eO (lI .u8) v_1.2.areas.x1.data, .lit (.int .i64 m_1)]), ((d1, 0), oT (lI .u8) v_1.2.areas.x0.data)]) (by simp only [hp_cons_apply, hp_nil_apply, reduceIte, Prod.mk.injEq, Nat.reduceEqDiff, and_true, and_false, true_and, false_and, oGdiskDisk, hq_n0, hr_n0, hn1d, hm1d, hu1n0, hw1n0, hs_1] <;> rfl) rfl (by simp only [hset_cons, hset_nil, hrem_cons, hrem_nil, List.set_cons_zero, List.set_cons_succ, reduceIte, Prod.mk.injEq, Nat.reduceEqDiff, and_true, and_false, true_and, false_and, oGdiskDisk, hq_n0, hr_n0, hn1d, hm1d, hu1n0, hw1n0, hs_1])) ?_
               refine xregd [(0, .ptr n0 0), (20, eS (lI .i64) list_1), (21, .lit (.int .i64 (list_1.length : Int))), (22, .lit (.int .i64 t22))] (hp [(n0, .box [.lit (.int .i64 v_1.2.power), eO (lI .u8) v_1.2.areas.x0.data, .lit (.int .i64 (v_1.2.areas.x0.data.length : Int)), eO (lI .u8) v_1.2.areas.x1.data, .lit (.int .i64 m_1)])] S) 1 ?_ (fun k kp hk => ?_)
               ·exact hj ((v_1.2.areas.x0.data.length : Int), m_1) h
               ·try simp (maxSteps := 4000000) only [go_sem, Prod.mk.injEq, reduceIte, Nat.reduceEqDiff, Nat.reduceAdd, Nat.reduceSub, Nat.reduceMul, Nat.reduceDiv, Nat.reducePow, Nat.reduceLT, Nat.reduceLeDiff, Nat.reduceBEq, Nat.reduceBneDiff, Int.reduceToNat, Int.reduceEq, Int.reduceLE, Int.reduceLT, reduceCtorEq, oGdiskDisk, hq_n0, hr_n0, hn1d, hm1d, hu1n0, hw1n0, hs_1, vptr_0, vptr_1]
                repeat (with_reducible refine And.intro ?_ ?_; next => first | assumption | trivial | omega | decide | (constructor <;> first | assumption | omega) | (simp [Keep.ok, hp_cons_apply, hset_cons, oGdiskDisk, hq_n0, hr_n0, hn1d, hm1d, hu1n0, hw1n0, hs_1, vptr_0, vptr_1]; done))
                refine hk _ _ _ ?_
                refine Ghost.trans (Ghost.closeX (L := (lI .u8)) (xs := v_1.2.areas.x0.data) (n := n0) (m := (d1, 0)) (i := 1) (cs := [.lit (.int .i64 v_1.2.power), eB (lI .u8) (d1, 0) v_1.2.areas.x0.data, .lit (.int .i64 (v_1.2.areas.x0.data.length : Int)), eO (lI .u8) v_1.2.areas.x1.data, .lit (.int .i64 m_1)]) (A' := [(n0, .box [.lit (.int .i64 v_1.2.power), eO (lI .u8) v_1.2.areas.x0.data, .lit (.int .i64 (v_1.2.areas.x0.data.length : Int)), eO (lI .u8) v_1.2.areas.x1.data, .lit (.int .i64 m_1)])]) (by simp only [hp_cons_apply, hp_nil_apply, reduceIte, Prod.mk.injEq, Nat.reduceEqDiff, and_true, and_false, true_and, false_and, oGdiskDisk, hq_n0, hr_n0, hn1d, hm1d, hu1n0, hw1n0, hs_1] <;> rfl) rfl (by simp only [hp_cons_apply, hp_nil_apply, reduceIte, Prod.mk.injEq, Nat.reduceEqDiff, and_true, and_false, true_and, false_and, oGdiskDisk, hq_n0, hr_n0, hn1d, hm1d, hu1n0, hw1n0, hs_1] <;> rfl) (hd _ (show d ≤ d1 by omega)) (by simp only [hset_cons, hset_nil, hrem_cons, hrem_nil, List.set_cons_zero, List.set_cons_succ, reduceIte, Prod.mk.injEq, Nat.reduceEqDiff, and_true, and_false, true_and, false_and, oGdiskDisk, hq_n0, hr_n0, hn1d, hm1d, hu1n0, hw1n0, hs_1])) ?_
                refine xghost (D := []) ?_ ?_ ?_ ?_
                ·exact (.cons (Sub.of_eq rfl) (.cons (Sub.of_eq rfl) (.cons (Sub.of_eq rfl) (.cons (Sub.of_eq rfl) .nil))))
                ·exact HpW.refl
                ·exact (by intro p hp; cases hp)
                ·omega
              ·rw [if_neg hs_1] at h
               by_cases hs : (list_1.getD (Int.toNat t22) 0) = 1
               ·rw [if_pos hs] at h
                refine LW_gh (Ghost.openX (L := (lI .u8)) (xs := v_1.2.areas.x1.data) (n := n0) (i := 3) (cs := [.lit (.int .i64 v_1.2.power), eO (lI .u8) v_1.2.areas.x0.data, .lit (.int .i64 m), eO (lI .u8) v_1.2.areas.x1.data, .lit (.int .i64 m_1)]) (A' := [(n0, .box [.lit (.int .i64 v_1.2.power), eO (lI .u8) v_1.2.areas.x0.data, .lit (.int .i64 m), eB (lI .u8) (d1, 0) v_1.2.areas.x1.data, .lit (.int .i64 m_1)]), ((d1, 0), oT (lI .u8) v_1.2.areas.x1.data)]) (by simp only [hp_cons_apply, hp_nil_apply, reduceIte, Prod.mk.injEq, Nat.reduceEqDiff, and_true, and_false, true_and, false_and, oGdiskDisk, hq_n0, hr_n0, hn1d, hm1d, hu1n0, hw1n0, hs] <;> rfl) rfl (by simp only [hset_cons, hset_nil, hrem_cons, hrem_nil, List.set_cons_zero, List.set_cons_succ, reduceIte, Prod.mk.injEq, Nat.reduceEqDiff, and_true, and_false, true_and, false_and, oGdiskDisk, hq_n0, hr_n0, hn1d, hm1d, hu1n0, hw1n0, hs])) ?_
                refine xregd [(0, .ptr n0 0), (20, eS (lI .i64) list_1), (21, .lit (.int .i64 (list_1.length : Int))), (22, .lit (.int .i64 t22))] (hp [(n0, .box [.lit (.int .i64 v_1.2.power), eO (lI .u8) v_1.2.areas.x0.data, .lit (.int .i64 m), eO (lI .u8) v_1.2.areas.x1.data, .lit (.int .i64 (v_1.2.areas.x1.data.length : Int))])] S) 1 ?_ (fun k kp hk => ?_)
                ·exact hj (m, (v_1.2.areas.x1.data.length : Int)) h
                ·try simp (maxSteps := 4000000) only [go_sem, Prod.mk.injEq, reduceIte, Nat.reduceEqDiff, Nat.reduceAdd, Nat.reduceSub, Nat.reduceMul, Nat.reduceDiv, Nat.reducePow, Nat.reduceLT, Nat.reduceLeDiff, Nat.reduceBEq, Nat.reduceBneDiff, Int.reduceToNat, Int.reduceEq, Int.reduceLE, Int.reduceLT, reduceCtorEq, oGdiskDisk, hq_n0, hr_n0, hn1d, hm1d, hu1n0, hw1n0, hs, vptr_0, vptr_1]
                 repeat (with_reducible refine And.intro ?_ ?_; next => first | assumption | trivial | omega | decide | (constructor <;> first | assumption | omega) | (simp [Keep.ok, hp_cons_apply, hset_cons, oGdiskDisk, hq_n0, hr_n0, hn1d, hm1d, hu1n0, hw1n0, hs, vptr_0, vptr_1]; done))
                 refine hk _ _ _ ?_
                 refine Ghost.trans (Ghost.closeX (L := (lI .u8)) (xs := v_1.2.areas.x1.data) (n := n0) (m := (d1, 0)) (i := 3) (cs := [.lit (.int .i64 v_1.2.power), eO (lI .u8) v_1.2.areas.x0.data, .lit (.int .i64 m), eB (lI .u8) (d1, 0) v_1.2.areas.x1.data, .lit (.int .i64 (v_1.2.areas.x1.data.length : Int))]) (A' := [(n0, .box [.lit (.int .i64 v_1.2.power), eO (lI .u8) v_1.2.areas.x0.data, .lit (.int .i64 m), eO (lI .u8) v_1.2.areas.x1.data, .lit (.int .i64 (v_1.2.areas.x1.data.length : Int))])]) (by simp only [hp_cons_apply, hp_nil_apply, reduceIte, Prod.mk.injEq, Nat.reduceEqDiff, and_true, and_false, true_and, false_and, oGdiskDisk, hq_n0, hr_n0, hn1d, hm1d, hu1n0, hw1n0, hs] <;> rfl) rfl (by simp only [hp_cons_apply, hp_nil_apply, reduceIte, Prod.mk.injEq, Nat.reduceEqDiff, and_true, and_false, true_and, false_and, oGdiskDisk, hq_n0, hr_n0, hn1d, hm1d, hu1n0, hw1n0, hs] <;> rfl) (hd _ (show d ≤ d1 by omega)) (by simp only [hset_cons, hset_nil, hrem_cons, hrem_nil, List.set_cons_zero, List.set_cons_succ, reduceIte, Prod.mk.injEq, Nat.reduceEqDiff, and_true, and_false, true_and, false_and, oGdiskDisk, hq_n0, hr_n0, hn1d, hm1d, hu1n0, hw1n0, hs])) ?_
                 refine xghost (D := []) ?_ ?_ ?_ ?_
                 ·exact (.cons (Sub.of_eq rfl) (.cons (Sub.of_eq rfl) (.cons (Sub.of_eq rfl) (.cons (Sub.of_eq rfl) .nil))))
                 ·exact HpW.refl
                 ·exact (by intro p hp; cases hp)
                 ·omega
               ·rw [if_neg hs] at h
                cases h
             ·try simp (maxSteps := 4000000) only [go_sem, Prod.mk.injEq, reduceIte, Nat.reduceEqDiff, Nat.reduceAdd, Nat.reduceSub, Nat.reduceMul, Nat.reduceDiv, Nat.reducePow, Nat.reduceLT, Nat.reduceLeDiff, Nat.reduceBEq, Nat.reduceBneDiff, Int.reduceToNat, Int.reduceEq, Int.reduceLE, Int.reduceLT, reduceCtorEq, oGdiskDisk, hq_n0, hr_n0, hn1d, hm1d, hu1n0, hw1n0]
              repeat (with_reducible refine And.intro ?_ ?_; next => first | assumption | trivial | omega | decide | (constructor <;> first | assumption | omega) | (simp [Keep.ok, hp_cons_apply, hset_cons, oGdiskDisk, hq_n0, hr_n0, hn1d, hm1d, hu1n0, hw1n0]; done))
              refine hk _ _ _ ?_
              refine xghost (D := []) ?_ ?_ ?_ ?_
              ·exact (.cons (Sub.of_eq rfl) (.cons (Sub.of_eq rfl) (.cons (Sub.of_eq rfl) (.cons (Sub.of_eq rfl) (.cons (Sub.of_eq rfl) .nil)))))
              ·exact HpW.refl
              ·exact (by intro p hp; cases hp)
              ·omega
           ·rw [ite_f hc_3] at h
            obtain ⟨hq, hxe⟩ := mr_go h hx1
            clear h hx1
            subst hxe
            have h := hq
            clear hq
            refine LW_exitX (sl' := [(0, .ptr n0 0), (20, eS (lI .i64) list_1), (21, .lit (.int .i64 (list_1.length : Int))), (22, .lit (.int .i64 t22)), (23, .lit (.bool (decide (t22 < (list_1.length : Int)))))]) (S' := (hp [(n0, .box [.lit (.int .i64 v_1.2.power), eO (lI .u8) v_1.2.areas.x0.data, .lit (.int .i64 m), eO (lI .u8) v_1.2.areas.x1.data, .lit (.int .i64 m_1)])] S)) (c' := 0) ?_ ?_
            ·refine xghost (D := []) ?_ ?_ ?_ ?_
             ·exact (.cons (Sub.of_eq rfl) (.cons (Sub.of_eq rfl) (.cons (Sub.of_eq rfl) (.cons (Sub.of_eq rfl) (.cons (Sub.of_eq rfl) .nil)))))
             ·exact HpW.refl
             ·exact (by intro p hp; cases hp)
             ·omega
            ·show LW _ _ _ _ _ _ _ _
             refine xseq [(4, .lit (.int .i64 0))] (hp [(n0, .box [.lit (.int .i64 v_1.2.power), eO (lI .u8) v_1.2.areas.x0.data, .lit (.int .i64 m), eO (lI .u8) v_1.2.areas.x1.data, .lit (.int .i64 m_1)])] S) 0 ?_ (fun k kp hk => ?_)
             ·refine LW_ret ?_
              obtain rfl := Option.some.inj h
              show FPost _ _ _ _ _ _ _
              exact ⟨_, hp_less (L := [(n0, .box [.lit (.int .i64 v_1.2.power), eO (lI .u8) v_1.2.areas.x0.data, .lit (.int .i64 m), eO (lI .u8) v_1.2.areas.x1.data, .lit (.int .i64 m_1)])]) (D := []) (by intro p hp; cases hp), rfl, rfl⟩
             ·try simp (maxSteps := 4000000) only [go_sem, Prod.mk.injEq, reduceIte, Nat.reduceEqDiff, Nat.reduceAdd, Nat.reduceSub, Nat.reduceMul, Nat.reduceDiv, Nat.reducePow, Nat.reduceLT, Nat.reduceLeDiff, Nat.reduceBEq, Nat.reduceBneDiff, Int.reduceToNat, Int.reduceEq, Int.reduceLE, Int.reduceLT, reduceCtorEq, oGdiskDisk, hq_n0, hr_n0, hn1d, hm1d, hu1n0, hw1n0]
              repeat (with_reducible refine And.intro ?_ ?_; next => first | assumption | trivial | omega | decide | (constructor <;> first | assumption | omega) | (simp [Keep.ok, hp_cons_apply, hset_cons, oGdiskDisk, hq_n0, hr_n0, hn1d, hm1d, hu1n0, hw1n0]; done))
              refine hk _ _ _ ?_
              refine xghost (D := []) ?_ ?_ ?_ ?_
              ·exact (.cons (Sub.of_eq rfl) .nil)
              ·exact HpW.refl
              ·exact (by intro p hp; cases hp)
              ·omega
          ·try simp (maxSteps := 4000000) only [go_sem, Prod.mk.injEq, reduceIte, Nat.reduceEqDiff, Nat.reduceAdd, Nat.reduceSub, Nat.reduceMul, Nat.reduceDiv, Nat.reducePow, Nat.reduceLT, Nat.reduceLeDiff, Nat.reduceBEq, Nat.reduceBneDiff, Int.reduceToNat, Int.reduceEq, Int.reduceLE, Int.reduceLT, reduceCtorEq, oGdiskDisk, hq_n0, hr_n0, hn1d, hm1d, hu1n0, hw1n0]
           repeat (with_reducible refine And.intro ?_ ?_; next => first | assumption | trivial | omega | decide | (constructor <;> first | assumption | omega) | (simp [Keep.ok, hp_cons_apply, hset_cons, oGdiskDisk, hq_n0, hr_n0, hn1d, hm1d, hu1n0, hw1n0]; done))
           refine hk _ _ _ ?_
           refine xghost (D := []) ?_ ?_ ?_ ?_
           ·exact (.cons (Sub.of_eq rfl) (.cons (Sub.of_eq rfl) (.cons (Sub.of_eq rfl) (.cons (Sub.of_eq rfl) (.cons (Sub.of_eq rfl) .nil)))))
           ·exact HpW.refl
           ·exact (by intro p hp; cases hp)
           ·omega
         ·refine xghost (D := []) ?_ ?_ ?_ ?_
          ·exact (.cons (Sub.of_eq rfl) (.cons (Sub.of_eq rfl) (.cons (Sub.of_eq rfl) (.cons (Sub.of_eq rfl) .nil))))
          ·exact HpW.refl
          ·exact (by intro p hp; cases hp)
          ·omega
        ·try simp (maxSteps := 4000000) only [go_sem, Prod.mk.injEq, reduceIte, Nat.reduceEqDiff, Nat.reduceAdd, Nat.reduceSub, Nat.reduceMul, Nat.reduceDiv, Nat.reducePow, Nat.reduceLT, Nat.reduceLeDiff, Nat.reduceBEq, Nat.reduceBneDiff, Int.reduceToNat, Int.reduceEq, Int.reduceLE, Int.reduceLT, reduceCtorEq, oGdiskDisk, hq_n0, hr_n0]
         repeat (with_reducible refine And.intro ?_ ?_; next => first | assumption | trivial | omega | decide | (constructor <;> first | assumption | omega) | (simp [Keep.ok, hp_cons_apply, hset_cons, oGdiskDisk, hq_n0, hr_n0]; done))
         refine hk _ _ _ ?_
         refine xghost (D := []) ?_ ?_ ?_ ?_
         ·exact (.cons (Sub.of_eq rfl) (.cons (Sub.of_eq rfl) (.cons (Sub.of_eq rfl) (.cons (Sub.of_eq rfl) .nil))))
         ·exact HpW.refl
         ·exact (by intro p hp; cases hp)
         ·omega
       ·refine xseq [(0, .ptr n0 0), (1, eS (lI .i64) list), (18, .lit (.bool ((list.length : Int) == 0)))] (hp [(n0, .box [.lit (.int .i64 v_1.2.power), eO (lI .u8) v_1.2.areas.x0.data, .lit (.int .i64 v_1.2.areas.x0.safe), eO (lI .u8) v_1.2.areas.x1.data, .lit (.int .i64 v_1.2.areas.x1.safe)])] S) 0 ?_ (fun k kp hk => ?_)
        ·refine xcond ((list.length : Int) == 0) rfl (fun hc_2 => ?_) (fun hc_2 => ?_)
         ·rw [ite_t hc_2] at h
          refine xreg [(0, .ptr n0 0), (1, eS (lI .i64) ([0, 1]))] (hp [(n0, .box [.lit (.int .i64 v_1.2.power), eO (lI .u8) v_1.2.areas.x0.data, .lit (.int .i64 v_1.2.areas.x0.safe), eO (lI .u8) v_1.2.areas.x1.data, .lit (.int .i64 v_1.2.areas.x1.safe)])] S) 0 ?_ (fun k kp hk => ?_)
          ·exact hj_1 ([0, 1]) h
          ·try simp (maxSteps := 4000000) only [go_sem, Prod.mk.injEq, reduceIte, Nat.reduceEqDiff, Nat.reduceAdd, Nat.reduceSub, Nat.reduceMul, Nat.reduceDiv, Nat.reducePow, Nat.reduceLT, Nat.reduceLeDiff, Nat.reduceBEq, Nat.reduceBneDiff, Int.reduceToNat, Int.reduceEq, Int.reduceLE, Int.reduceLT, reduceCtorEq, oGdiskDisk, hq_n0, hr_n0]
           repeat (with_reducible refine And.intro ?_ ?_; next => first | assumption | trivial | omega | decide | (constructor <;> first | assumption | omega) | (simp [Keep.ok, hp_cons_apply, hset_cons, oGdiskDisk, hq_n0, hr_n0]; done))
           refine hk _ _ _ ?_
           refine xghost (D := []) ?_ ?_ ?_ ?_
           ·exact (.cons (Sub.of_eq rfl) (.cons (Sub.young (L := (lI .i64)) (xs := ([0, 1]))) .nil))
           ·exact HpW.refl
           ·exact (by intro p hp; cases hp)
           ·omega
         ·rw [ite_f hc_2] at h
          refine LW_skipX (sl' := [(0, .ptr n0 0), (1, eS (lI .i64) list)]) (S' := (hp [(n0, .box [.lit (.int .i64 v_1.2.power), eO (lI .u8) v_1.2.areas.x0.data, .lit (.int .i64 v_1.2.areas.x0.safe), eO (lI .u8) v_1.2.areas.x1.data, .lit (.int .i64 v_1.2.areas.x1.safe)])] S)) (c' := 0) ?_ ?_
          ·refine xghost (D := []) ?_ ?_ ?_ ?_
           ·exact (.cons (Sub.of_eq rfl) (.cons (Sub.of_eq rfl) .nil))
           ·exact HpW.refl
           ·exact (by intro p hp; cases hp)
           ·omega
          ·exact hj_1 list h
        ·try simp (maxSteps := 4000000) only [go_sem, Prod.mk.injEq, reduceIte, Nat.reduceEqDiff, Nat.reduceAdd, Nat.reduceSub, Nat.reduceMul, Nat.reduceDiv, Nat.reducePow, Nat.reduceLT, Nat.reduceLeDiff, Nat.reduceBEq, Nat.reduceBneDiff, Int.reduceToNat, Int.reduceEq, Int.reduceLE, Int.reduceLT, reduceCtorEq, oGdiskDisk, hq_n0, hr_n0]
         repeat (with_reducible refine And.intro ?_ ?_; next => first | assumption | trivial | omega | decide | (constructor <;> first | assumption | omega) | (simp [Keep.ok, hp_cons_apply, hset_cons, oGdiskDisk, hq_n0, hr_n0]; done))
         refine hk _ _ _ ?_
         refine xghost (D := []) ?_ ?_ ?_ ?_
         ·exact (.cons (Sub.of_eq rfl) (.cons (Sub.of_eq rfl) (.cons (Sub.of_eq rfl) .nil)))
         ·exact HpW.refl
         ·exact (by intro p hp; cases hp)
         ·omega
     ·try simp (maxSteps := 4000000) only [go_sem, Prod.mk.injEq, reduceIte, Nat.reduceEqDiff, Nat.reduceAdd, Nat.reduceSub, Nat.reduceMul, Nat.reduceDiv, Nat.reducePow, Nat.reduceLT, Nat.reduceLeDiff, Nat.reduceBEq, Nat.reduceBneDiff, Int.reduceToNat, Int.reduceEq, Int.reduceLE, Int.reduceLT, reduceCtorEq, oGdiskDisk, hq_n0, hr_n0]
      repeat (with_reducible refine And.intro ?_ ?_; next => first | assumption | trivial | omega | decide | (constructor <;> first | assumption | omega) | (simp [Keep.ok, hp_cons_apply, hset_cons, oGdiskDisk, hq_n0, hr_n0]; done))
      refine hk _ _ _ ?_
      refine xghost (D := []) ?_ ?_ ?_ ?_
      ·exact (.cons (Sub.of_eq rfl) (.cons (Sub.of_eq rfl) (.cons (Sub.of_eq rfl) (.cons (Sub.of_eq rfl) .nil))))
      ·exact HpW.refl
      ·exact (by intro p hp; cases hp)
      ·omega
    ·try simp (maxSteps := 4000000) only [go_sem, Prod.mk.injEq, reduceIte, Nat.reduceEqDiff, Nat.reduceAdd, Nat.reduceSub, Nat.reduceMul, Nat.reduceDiv, Nat.reducePow, Nat.reduceLT, Nat.reduceLeDiff, Nat.reduceBEq, Nat.reduceBneDiff, Int.reduceToNat, Int.reduceEq, Int.reduceLE, Int.reduceLT, reduceCtorEq, oGdiskDisk, hq_n0, hr_n0]
     repeat (with_reducible refine And.intro ?_ ?_; next => first | assumption | trivial | omega | decide | (constructor <;> first | assumption | omega) | (simp [Keep.ok, hp_cons_apply, hset_cons, oGdiskDisk, hq_n0, hr_n0]; done))
     have hcall := s_disk_Disk_draw_ok (n0 := n0) (hS0 := by simp only [hp_cons_apply, hp_nil_apply, reduceIte, Prod.mk.injEq, Nat.reduceEqDiff, and_true, and_false, true_and, false_and, oGdiskDisk, hq_n0, hr_n0] <;> rfl) (hp [(n0, .box [.lit (.int .i64 dx.power), eO (lI .u8) dx.areas.x0.data, .lit (.int .i64 dx.areas.x0.safe), eO (lI .u8) dx.areas.x1.data, .lit (.int .i64 dx.areas.x1.safe)])] S) _ (h := hv_1)
     refine call1_x hcall rfl ?_ ?_
     ·exact (.cons Sub.refl .nil)
     clear hcall
     rintro _ SS ⟨rfl, hSS⟩ -
     rw [hSS]
     clear hSS
     try simp (maxSteps := 4000000) only [go_sem, Prod.mk.injEq, reduceIte, Nat.reduceEqDiff, Nat.reduceAdd, Nat.reduceSub, Nat.reduceMul, Nat.reduceDiv, Nat.reducePow, Nat.reduceLT, Nat.reduceLeDiff, Nat.reduceBEq, Nat.reduceBneDiff, Int.reduceToNat, Int.reduceEq, Int.reduceLE, Int.reduceLT, reduceCtorEq, oGdiskDisk, hq_n0, hr_n0]
     repeat (with_reducible refine And.intro ?_ ?_; next => first | assumption | trivial | omega | decide | (constructor <;> first | assumption | omega) | (simp [Keep.ok, hp_cons_apply, hset_cons, oGdiskDisk, hq_n0, hr_n0]; done))
     refine hk _ _ _ ?_
     refine xghost (D := []) ?_ ?_ ?_ ?_
     ·exact (.cons (Sub.of_eq rfl) (.cons (Sub.of_eq rfl) (.cons (Sub.of_eq rfl) .nil)))
     ·exact HpW.refl
     ·exact (by intro p hp; cases hp)
     ·omega
  ·try simp (maxSteps := 4000000) only [go_sem, Prod.mk.injEq, reduceIte, Nat.reduceEqDiff, Nat.reduceAdd, Nat.reduceSub, Nat.reduceMul, Nat.reduceDiv, Nat.reducePow, Nat.reduceLT, Nat.reduceLeDiff, Nat.reduceBEq, Nat.reduceBneDiff, Int.reduceToNat, Int.reduceEq, Int.reduceLE, Int.reduceLT, reduceCtorEq, oGdiskDisk, hq_n0, hr_n0]
   repeat (with_reducible refine And.intro ?_ ?_; next => first | assumption | trivial | omega | decide | (constructor <;> first | assumption | omega) | (simp [Keep.ok, hp_cons_apply, hset_cons, oGdiskDisk, hq_n0, hr_n0]; done))
   have hcall := s_disk_there_ok (hp [(n0, .box [.lit (.int .i64 dx.power), eO (lI .u8) dx.areas.x0.data, .lit (.int .i64 dx.areas.x0.safe), eO (lI .u8) dx.areas.x1.data, .lit (.int .i64 dx.areas.x1.safe)])] S) list hv
   refine call1_x hcall rfl ?_ ?_
   ·exact (.cons Sub.refl .nil)
   clear hcall
   rintro _ SS ⟨rfl, hSS⟩ -
   rw [hSS]
   clear hSS
   try simp (maxSteps := 4000000) only [go_sem, Prod.mk.injEq, reduceIte, Nat.reduceEqDiff, Nat.reduceAdd, Nat.reduceSub, Nat.reduceMul, Nat.reduceDiv, Nat.reducePow, Nat.reduceLT, Nat.reduceLeDiff, Nat.reduceBEq, Nat.reduceBneDiff, Int.reduceToNat, Int.reduceEq, Int.reduceLE, Int.reduceLT, reduceCtorEq, oGdiskDisk, hq_n0, hr_n0]
   repeat (with_reducible refine And.intro ?_ ?_; next => first | assumption | trivial | omega | decide | (constructor <;> first | assumption | omega) | (simp [Keep.ok, hp_cons_apply, hset_cons, oGdiskDisk, hq_n0, hr_n0]; done))
   refine hk _ _ _ ?_
   refine xghost (D := []) ?_ ?_ ?_ ?_
   ·exact (.cons (Sub.of_eq rfl) (.cons (Sub.of_eq rfl) (.cons (Sub.of_eq rfl) .nil)))
   ·exact HpW.refl
   ·exact (by intro p hp; cases hp)
   ·omega
 ·try simp (maxSteps := 4000000) only [go_sem, Prod.mk.injEq, reduceIte, Nat.reduceEqDiff, Nat.reduceAdd, Nat.reduceSub, Nat.reduceMul, Nat.reduceDiv, Nat.reducePow, Nat.reduceLT, Nat.reduceLeDiff, Nat.reduceBEq, Nat.reduceBneDiff, Int.reduceToNat, Int.reduceEq, Int.reduceLE, Int.reduceLT, reduceCtorEq, oGdiskDisk, hq_n0, hr_n0]
  repeat (with_reducible refine And.intro ?_ ?_; next => first | assumption | trivial | omega | decide | (constructor <;> first | assumption | omega) | (simp [Keep.ok, hp_cons_apply, hset_cons, oGdiskDisk, hq_n0, hr_n0]; done))
  refine hk _ _ _ ?_
  refine xghost (D := []) ?_ ?_ ?_ ?_
  ·exact (.cons (Sub.of_eq rfl) (.cons (Sub.of_eq rfl) .nil))
  ·exact HpW.refl
  ·exact (by intro p hp; cases hp)
  ·omega
/-! stanchion/stanchionlaw04.alive -/
def s_stanchionlaw04_alive  : Option Bool :=
 bd (s_disk_New (-1)) fun (v : GdiskDisk) => bd (s_disk_Disk_Append v 1 ([[97, 98], [99]])) fun (v_1 : Int × GdiskDisk) => bd (if (!(v_1.1 != 0)) = true then s_disk_Disk_Sync v_1.2 [] else some (0, v_1.2)) fun (v_2 : Int × GdiskDisk) => bd (if (!((v_1.1 != 0) || (v_2.1 != 0))) = true then s_disk_Disk_Append v_2.2 1 ([[100, 101]]) else some (0, v_2.2)) fun (v_3 : Int × GdiskDisk) => if (((v_1.1 != 0) || (v_2.1 != 0)) || (v_3.1 != 0)) = true then some false else bd (s_disk_Disk_Crash v_3.2 ([9, 1]) (-1)) fun (v_4 : GdiskDisk) => bd (s_disk_Disk_Read v_4 1) fun (v_5 : List Int × Int) => some ((v_5.2 == 0) && ((strOfNums v_5.1).toList == (⟨#[97, 98, 99, 100]⟩ : ByteArray).toList))
theorem s_stanchionlaw04_alive_ok (S : AHeap)  {r : Bool} (h : s_stanchionlaw04_alive  = some r) :
  AC Try.prog n_stanchionlaw04_alive [] S fun r' S' => r' = .ret (.lit (.bool r)) ∧ S' = S := by
 refine AC_of tok mixed fits_stanchionlaw04_alive fun d hd => ?_
 unfold c_stanchionlaw04_alive
 show LW _ _ _ _ [] (hp [] S) 0 _
 rw [s_stanchionlaw04_alive] at h
 refine xseq [] (hp [] S) 0 ?_ (fun k kp hk => ?_)
 ·obtain ⟨v, hv, h⟩ := bd_some h
  refine xseq [(1, .ptr (d, 0) 0)] (hp [((d, 0), oGdiskDisk v)] S) 1 ?_ (fun k kp hk => ?_)
  ·refine LW_seq ?_
   obtain ⟨v_1, hv_1, h⟩ := bd_some h
   obtain ⟨v_2, hv_2, h⟩ := bd_some h
   obtain ⟨v_3, hv_3, h⟩ := bd_some h
   refine xseq [(1, .ptr (d, 0) 0), (30, .lit (.bool (((v_1.1 != 0) || (v_2.1 != 0)) || (v_3.1 != 0))))] (hp [((d, 0), oGdiskDisk v_3.2)] S) 1 ?_ (fun k kp hk => ?_)
   ·refine xcond (((v_1.1 != 0) || (v_2.1 != 0)) || (v_3.1 != 0)) rfl (fun hc => ?_) (fun hc => ?_)
    ·rw [ite_t hc] at h
     refine xseq [(0, .lit (.bool false))] (hp [((d, 0), oGdiskDisk v_3.2)] S) 1 ?_ (fun k kp hk => ?_)
     ·refine LW_ret ?_
      obtain rfl := Option.some.inj h
      show FPost _ _ _ _ _ _ _
      exact ⟨_, hp_less (L := []) (D := [((d, 0), oGdiskDisk v_3.2)]) (by intro p hp; simp only [List.mem_cons, List.not_mem_nil, or_false] at hp; rcases hp with rfl <;> first | exact hd _ (Nat.le_refl _)), rfl, rfl⟩
     ·try simp (maxSteps := 4000000) only [go_sem, Prod.mk.injEq, reduceIte, Nat.reduceEqDiff, Nat.reduceAdd, Nat.reduceSub, Nat.reduceMul, Nat.reduceDiv, Nat.reducePow, Nat.reduceLT, Nat.reduceLeDiff, Nat.reduceBEq, Nat.reduceBneDiff, Int.reduceToNat, Int.reduceEq, Int.reduceLE, Int.reduceLT, reduceCtorEq]
      repeat (with_reducible refine And.intro ?_ ?_; next => first | assumption | trivial | omega | decide | (constructor <;> first | assumption | omega) | (simp [Keep.ok, hp_cons_apply, hset_cons]; done))
      refine hk _ _ _ ?_
      refine xghost (D := []) ?_ ?_ ?_ ?_
      ·exact (.cons (Sub.of_eq rfl) .nil)
      ·exact HpW.refl
      ·exact (by intro p hp; cases hp)
      ·omega
    ·rw [ite_f hc] at h
     refine LW_skip ?_
     show LW _ _ _ _ _ _ _ _
     obtain ⟨v_4, hv_4, h⟩ := bd_some h
     refine xseq [(2, .ptr (d, 1) 0)] (hp [((d, 0), oGdiskDisk v_3.2), ((d, 1), oGdiskDisk v_4)] S) 2 ?_ (fun k kp hk => ?_)
     ·refine LW_seq ?_
      refine xseq [(2, .ptr (d, 1) 0), (35, .lit (.bool false))] (hp [((d, 0), oGdiskDisk v_3.2), ((d, 1), oGdiskDisk v_4)] S) 2 ?_ (fun k kp hk => ?_)
      ·refine xcond false rfl (fun h0 => by cases h0) (fun _ => ?_)
       refine LW_skip ?_
       show LW _ _ _ _ _ _ _ _
       obtain ⟨v_5, hv_5, h⟩ := bd_some h
       refine xseq [(3, eS (lI .u8) v_5.1), (4, .lit (.int .i64 v_5.2))] (hp [((d, 0), oGdiskDisk v_3.2), ((d, 1), oGdiskDisk v_4)] S) 2 ?_ (fun k kp hk => ?_)
       ·refine xseq [(0, .lit (.bool ((v_5.2 == 0) && ((strOfNums v_5.1).toList == (⟨#[97, 98, 99, 100]⟩ : ByteArray).toList))))] (hp [((d, 0), oGdiskDisk v_3.2), ((d, 1), oGdiskDisk v_4)] S) 2 ?_ (fun k kp hk => ?_)
        ·refine LW_ret ?_
         obtain rfl := Option.some.inj h
         show FPost _ _ _ _ _ _ _
         exact ⟨_, hp_less (L := []) (D := [((d, 0), oGdiskDisk v_3.2), ((d, 1), oGdiskDisk v_4)]) (by intro p hp; simp only [List.mem_cons, List.not_mem_nil, or_false] at hp; rcases hp with rfl | rfl <;> first | exact hd _ (Nat.le_refl _)), rfl, rfl⟩
        ·try simp (maxSteps := 4000000) only [go_sem, Prod.mk.injEq, reduceIte, Nat.reduceEqDiff, Nat.reduceAdd, Nat.reduceSub, Nat.reduceMul, Nat.reduceDiv, Nat.reducePow, Nat.reduceLT, Nat.reduceLeDiff, Nat.reduceBEq, Nat.reduceBneDiff, Int.reduceToNat, Int.reduceEq, Int.reduceLE, Int.reduceLT, reduceCtorEq]
         repeat (with_reducible refine And.intro ?_ ?_; next => first | assumption | trivial | omega | decide | (constructor <;> first | assumption | omega) | (simp [Keep.ok, hp_cons_apply, hset_cons]; done))
         refine xo_guard (v_5.2 == 0) rfl (fun hc_1 => ?_) (fun hc_1 => ?_)
         ·try simp (maxSteps := 4000000) only [go_sem, Prod.mk.injEq, reduceIte, Nat.reduceEqDiff, Nat.reduceAdd, Nat.reduceSub, Nat.reduceMul, Nat.reduceDiv, Nat.reducePow, Nat.reduceLT, Nat.reduceLeDiff, Nat.reduceBEq, Nat.reduceBneDiff, Int.reduceToNat, Int.reduceEq, Int.reduceLE, Int.reduceLT, reduceCtorEq, hc_1]
          repeat (with_reducible refine And.intro ?_ ?_; next => first | assumption | trivial | omega | decide | (constructor <;> first | assumption | omega) | (simp [Keep.ok, hp_cons_apply, hset_cons]; done))
          refine hk _ _ _ ?_
          refine xghost (D := []) ?_ ?_ ?_ ?_
          ·exact (.cons (Sub.of_eq (by first | rfl | (simp only [sget_cons, reduceIte, Nat.reduceEqDiff, Bool.and_true, Bool.true_and, Bool.and_false, Bool.false_and, Bool.or_true, Bool.true_or, Bool.or_false, Bool.false_or, Bool.not_true, Bool.not_false, Bool.not_not, hc_1]; done))) .nil)
          ·exact HpW.refl
          ·exact (by intro p hp; cases hp)
          ·omega
         ·try simp (maxSteps := 4000000) only [go_sem, Prod.mk.injEq, reduceIte, Nat.reduceEqDiff, Nat.reduceAdd, Nat.reduceSub, Nat.reduceMul, Nat.reduceDiv, Nat.reducePow, Nat.reduceLT, Nat.reduceLeDiff, Nat.reduceBEq, Nat.reduceBneDiff, Int.reduceToNat, Int.reduceEq, Int.reduceLE, Int.reduceLT, reduceCtorEq, hc_1]
          repeat (with_reducible refine And.intro ?_ ?_; next => first | assumption | trivial | omega | decide | (constructor <;> first | assumption | omega) | (simp [Keep.ok, hp_cons_apply, hset_cons]; done))
          refine hk _ _ _ ?_
          refine xghost (D := []) ?_ ?_ ?_ ?_
          ·exact (.cons (Sub.of_eq (by first | rfl | (simp only [sget_cons, reduceIte, Nat.reduceEqDiff, Bool.and_true, Bool.true_and, Bool.and_false, Bool.false_and, Bool.or_true, Bool.true_or, Bool.or_false, Bool.false_or, Bool.not_true, Bool.not_false, Bool.not_not, hc_1]; done))) .nil)
          ·exact HpW.refl
          ·exact (by intro p hp; cases hp)
          ·omega
       ·try simp (maxSteps := 4000000) only [go_sem, Prod.mk.injEq, reduceIte, Nat.reduceEqDiff, Nat.reduceAdd, Nat.reduceSub, Nat.reduceMul, Nat.reduceDiv, Nat.reducePow, Nat.reduceLT, Nat.reduceLeDiff, Nat.reduceBEq, Nat.reduceBneDiff, Int.reduceToNat, Int.reduceEq, Int.reduceLE, Int.reduceLT, reduceCtorEq]
        repeat (with_reducible refine And.intro ?_ ?_; next => first | assumption | trivial | omega | decide | (constructor <;> first | assumption | omega) | (simp [Keep.ok, hp_cons_apply, hset_cons]; done))
        have hcall := s_disk_Disk_Read_ok (n0 := (d, 1)) (hS0 := by simp only [hp_cons_apply, hp_nil_apply, reduceIte, Prod.mk.injEq, Nat.reduceEqDiff, and_true, and_false, true_and, false_and] <;> rfl) (hp [((d, 0), oGdiskDisk v_3.2), ((d, 1), oGdiskDisk v_4)] S) _ 1 (h := hv_5)
        refine call1_x hcall rfl ?_ ?_
        ·exact (.cons Sub.refl (.cons Sub.refl .nil))
        clear hcall
        rintro _ SS ⟨rfl, hSS⟩ -
        rw [hSS]
        clear hSS
        try simp (maxSteps := 4000000) only [go_sem, Prod.mk.injEq, reduceIte, Nat.reduceEqDiff, Nat.reduceAdd, Nat.reduceSub, Nat.reduceMul, Nat.reduceDiv, Nat.reducePow, Nat.reduceLT, Nat.reduceLeDiff, Nat.reduceBEq, Nat.reduceBneDiff, Int.reduceToNat, Int.reduceEq, Int.reduceLE, Int.reduceLT, reduceCtorEq]
        repeat (with_reducible refine And.intro ?_ ?_; next => first | assumption | trivial | omega | decide | (constructor <;> first | assumption | omega) | (simp [Keep.ok, hp_cons_apply, hset_cons]; done))
        refine hk _ _ _ ?_
        refine xghost (D := []) ?_ ?_ ?_ ?_
        ·exact (.cons (Sub.of_eq rfl) (.cons (Sub.of_eq rfl) .nil))
        ·exact HpW.refl
        ·exact (by intro p hp; cases hp)
        ·omega
      ·try simp (maxSteps := 4000000) only [go_sem, Prod.mk.injEq, reduceIte, Nat.reduceEqDiff, Nat.reduceAdd, Nat.reduceSub, Nat.reduceMul, Nat.reduceDiv, Nat.reducePow, Nat.reduceLT, Nat.reduceLeDiff, Nat.reduceBEq, Nat.reduceBneDiff, Int.reduceToNat, Int.reduceEq, Int.reduceLE, Int.reduceLT, reduceCtorEq]
       repeat (with_reducible refine And.intro ?_ ?_; next => first | assumption | trivial | omega | decide | (constructor <;> first | assumption | omega) | (simp [Keep.ok, hp_cons_apply, hset_cons]; done))
       refine hk _ _ _ ?_
       refine xghost (D := []) ?_ ?_ ?_ ?_
       ·exact (.cons (Sub.of_eq rfl) (.cons (Sub.of_eq rfl) .nil))
       ·exact HpW.refl
       ·exact (by intro p hp; cases hp)
       ·omega
     ·try simp (maxSteps := 4000000) only [go_sem, Prod.mk.injEq, reduceIte, Nat.reduceEqDiff, Nat.reduceAdd, Nat.reduceSub, Nat.reduceMul, Nat.reduceDiv, Nat.reducePow, Nat.reduceLT, Nat.reduceLeDiff, Nat.reduceBEq, Nat.reduceBneDiff, Int.reduceToNat, Int.reduceEq, Int.reduceLE, Int.reduceLT, reduceCtorEq]
      repeat (with_reducible refine And.intro ?_ ?_; next => first | assumption | trivial | omega | decide | (constructor <;> first | assumption | omega) | (simp [Keep.ok, hp_cons_apply, hset_cons]; done))
      have hcall := s_disk_Disk_Crash_ok (n0 := (d, 0)) (hS0 := by simp only [hp_cons_apply, hp_nil_apply, reduceIte, Prod.mk.injEq, Nat.reduceEqDiff, and_true, and_false, true_and, false_and] <;> rfl) (hp [((d, 0), oGdiskDisk v_3.2)] S) _ ([9, 1]) (-1) (h := hv_4)
      refine call1_new hcall rfl rfl ?_ ?_
      ·exact (.cons Sub.refl (.cons (Sub.young (L := (lI .i64)) (xs := [9, 1])) (.cons Sub.refl .nil)))
      clear hcall
      try simp (maxSteps := 4000000) only [go_sem, Prod.mk.injEq, reduceIte, Nat.reduceEqDiff, Nat.reduceAdd, Nat.reduceSub, Nat.reduceMul, Nat.reduceDiv, Nat.reducePow, Nat.reduceLT, Nat.reduceLeDiff, Nat.reduceBEq, Nat.reduceBneDiff, Int.reduceToNat, Int.reduceEq, Int.reduceLE, Int.reduceLT, reduceCtorEq]
      repeat (with_reducible refine And.intro ?_ ?_; next => first | assumption | trivial | omega | decide | (constructor <;> first | assumption | omega) | (simp [Keep.ok, hp_cons_apply, hset_cons]; done))
      refine hk _ _ _ ?_
      refine xghost (D := []) ?_ ?_ ?_ ?_
      ·exact (.cons (Sub.of_eq rfl) .nil)
      ·exact HpW.refl
      ·exact (by intro p hp; cases hp)
      ·omega
   ·try simp (maxSteps := 4000000) only [go_sem, Prod.mk.injEq, reduceIte, Nat.reduceEqDiff, Nat.reduceAdd, Nat.reduceSub, Nat.reduceMul, Nat.reduceDiv, Nat.reducePow, Nat.reduceLT, Nat.reduceLeDiff, Nat.reduceBEq, Nat.reduceBneDiff, Int.reduceToNat, Int.reduceEq, Int.reduceLE, Int.reduceLT, reduceCtorEq]
    repeat (with_reducible refine And.intro ?_ ?_; next => first | assumption | trivial | omega | decide | (constructor <;> first | assumption | omega) | (simp [Keep.ok, hp_cons_apply, hset_cons]; done))
    have hcall := s_disk_Disk_Append_ok (n0 := (d, 0)) (hS0 := by simp only [hp_cons_apply, hp_nil_apply, reduceIte, Prod.mk.injEq, Nat.reduceEqDiff, and_true, and_false, true_and, false_and] <;> rfl) (hp [((d, 0), oGdiskDisk v)] S) _ 1 ([[97, 98], [99]]) (h := hv_1)
    refine call1_x hcall rfl ?_ ?_
    ·exact (.cons Sub.refl (.cons Sub.refl (.cons (Sub.youngL (L := (lS (lI .u8))) (xs := [[97, 98], [99]]) rfl (.cons (Sub.young (L := (lI .u8)) (xs := [97, 98])) (.cons (Sub.young (L := (lI .u8)) (xs := [99])) .nil))) .nil)))
    clear hcall
    rintro _ SS ⟨rfl, hSS⟩ -
    rw [hSS]
    clear hSS
    try simp (maxSteps := 4000000) only [go_sem, Prod.mk.injEq, reduceIte, Nat.reduceEqDiff, Nat.reduceAdd, Nat.reduceSub, Nat.reduceMul, Nat.reduceDiv, Nat.reducePow, Nat.reduceLT, Nat.reduceLeDiff, Nat.reduceBEq, Nat.reduceBneDiff, Int.reduceToNat, Int.reduceEq, Int.reduceLE, Int.reduceLT, reduceCtorEq]
    repeat (with_reducible refine And.intro ?_ ?_; next => first | assumption | trivial | omega | decide | (constructor <;> first | assumption | omega) | (simp [Keep.ok, hp_cons_apply, hset_cons]; done))
    refine xo_guard (v_1.1 != 0) rfl (fun hc_2 => ?_) (fun hc_2 => ?_)
    ·try simp (maxSteps := 4000000) only [go_sem, Prod.mk.injEq, reduceIte, Nat.reduceEqDiff, Nat.reduceAdd, Nat.reduceSub, Nat.reduceMul, Nat.reduceDiv, Nat.reducePow, Nat.reduceLT, Nat.reduceLeDiff, Nat.reduceBEq, Nat.reduceBneDiff, Int.reduceToNat, Int.reduceEq, Int.reduceLE, Int.reduceLT, reduceCtorEq, hc_2]
     repeat (with_reducible refine And.intro ?_ ?_; next => first | assumption | trivial | omega | decide | (constructor <;> first | assumption | omega) | (simp [Keep.ok, hp_cons_apply, hset_cons]; done))
     rw [if_pos (by simp only [Bool.and_true, Bool.true_and, Bool.and_false, Bool.false_and, Bool.or_true, Bool.true_or, Bool.or_false, Bool.false_or, Bool.not_true, Bool.not_false, Bool.not_not, hc_2])] at hv_2
     have hcall := s_disk_Disk_Sync_ok (n0 := (d, 0)) (hS0 := by simp only [hp_cons_apply, hp_nil_apply, reduceIte, Prod.mk.injEq, Nat.reduceEqDiff, and_true, and_false, true_and, false_and] <;> rfl) (hp [((d, 0), oGdiskDisk v_1.2)] S) _ [] (h := hv_2)
     refine call1_x hcall rfl ?_ ?_
     ·exact (.cons Sub.refl (.cons Sub.nil .nil))
     clear hcall
     rintro _ SS ⟨rfl, hSS⟩ -
     rw [hSS]
     clear hSS
     try simp (maxSteps := 4000000) only [go_sem, Prod.mk.injEq, reduceIte, Nat.reduceEqDiff, Nat.reduceAdd, Nat.reduceSub, Nat.reduceMul, Nat.reduceDiv, Nat.reducePow, Nat.reduceLT, Nat.reduceLeDiff, Nat.reduceBEq, Nat.reduceBneDiff, Int.reduceToNat, Int.reduceEq, Int.reduceLE, Int.reduceLT, reduceCtorEq, hc_2]
     repeat (with_reducible refine And.intro ?_ ?_; next => first | assumption | trivial | omega | decide | (constructor <;> first | assumption | omega) | (simp [Keep.ok, hp_cons_apply, hset_cons]; done))
     refine xo_guard (v_2.1 != 0) rfl (fun hc_3 => ?_) (fun hc_3 => ?_)
     ·try simp (maxSteps := 4000000) only [go_sem, Prod.mk.injEq, reduceIte, Nat.reduceEqDiff, Nat.reduceAdd, Nat.reduceSub, Nat.reduceMul, Nat.reduceDiv, Nat.reducePow, Nat.reduceLT, Nat.reduceLeDiff, Nat.reduceBEq, Nat.reduceBneDiff, Int.reduceToNat, Int.reduceEq, Int.reduceLE, Int.reduceLT, reduceCtorEq, hc_2, hc_3]
      repeat (with_reducible refine And.intro ?_ ?_; next => first | assumption | trivial | omega | decide | (constructor <;> first | assumption | omega) | (simp [Keep.ok, hp_cons_apply, hset_cons]; done))
      rw [if_pos (by simp only [Bool.and_true, Bool.true_and, Bool.and_false, Bool.false_and, Bool.or_true, Bool.true_or, Bool.or_false, Bool.false_or, Bool.not_true, Bool.not_false, Bool.not_not, hc_2, hc_3])] at hv_3
      have hcall := s_disk_Disk_Append_ok (n0 := (d, 0)) (hS0 := by simp only [hp_cons_apply, hp_nil_apply, reduceIte, Prod.mk.injEq, Nat.reduceEqDiff, and_true, and_false, true_and, false_and] <;> rfl) (hp [((d, 0), oGdiskDisk v_2.2)] S) _ 1 ([[100, 101]]) (h := hv_3)
      refine call1_x hcall rfl ?_ ?_
      ·exact (.cons Sub.refl (.cons Sub.refl (.cons (Sub.youngL (L := (lS (lI .u8))) (xs := [[100, 101]]) rfl (.cons (Sub.young (L := (lI .u8)) (xs := [100, 101])) .nil)) .nil)))
      clear hcall
      rintro _ SS ⟨rfl, hSS⟩ -
      rw [hSS]
      clear hSS
      try simp (maxSteps := 4000000) only [go_sem, Prod.mk.injEq, reduceIte, Nat.reduceEqDiff, Nat.reduceAdd, Nat.reduceSub, Nat.reduceMul, Nat.reduceDiv, Nat.reducePow, Nat.reduceLT, Nat.reduceLeDiff, Nat.reduceBEq, Nat.reduceBneDiff, Int.reduceToNat, Int.reduceEq, Int.reduceLE, Int.reduceLT, reduceCtorEq, hc_2, hc_3]
      repeat (with_reducible refine And.intro ?_ ?_; next => first | assumption | trivial | omega | decide | (constructor <;> first | assumption | omega) | (simp [Keep.ok, hp_cons_apply, hset_cons]; done))
      refine hk _ _ _ ?_
      refine xghost (D := []) ?_ ?_ ?_ ?_
      ·exact (.cons (Sub.of_eq rfl) (.cons (Sub.of_eq (by first | rfl | (simp only [sget_cons, reduceIte, Nat.reduceEqDiff, Bool.and_true, Bool.true_and, Bool.and_false, Bool.false_and, Bool.or_true, Bool.true_or, Bool.or_false, Bool.false_or, Bool.not_true, Bool.not_false, Bool.not_not, hc_2, hc_3]; done))) .nil))
      ·exact HpW.refl
      ·exact (by intro p hp; cases hp)
      ·omega
     ·have hve_v_3 : v_3 = _ := (Option.some.inj ((if_neg (by simp only [Bool.and_true, Bool.true_and, Bool.and_false, Bool.false_and, Bool.or_true, Bool.true_or, Bool.or_false, Bool.false_or, Bool.not_true, Bool.not_false, Bool.not_not, hc_2, hc_3]; decide)).symm.trans hv_3)).symm
      try simp (maxSteps := 4000000) only [go_sem, Prod.mk.injEq, reduceIte, Nat.reduceEqDiff, Nat.reduceAdd, Nat.reduceSub, Nat.reduceMul, Nat.reduceDiv, Nat.reducePow, Nat.reduceLT, Nat.reduceLeDiff, Nat.reduceBEq, Nat.reduceBneDiff, Int.reduceToNat, Int.reduceEq, Int.reduceLE, Int.reduceLT, reduceCtorEq, hc_2, hc_3]
      repeat (with_reducible refine And.intro ?_ ?_; next => first | assumption | trivial | omega | decide | (constructor <;> first | assumption | omega) | (simp [Keep.ok, hp_cons_apply, hset_cons]; done))
      refine hk _ _ _ ?_
      refine xghost (D := []) ?_ ?_ ?_ ?_
      ·exact (.cons (Sub.of_eq rfl) (.cons (Sub.of_eq (by first | rfl | (simp only [sget_cons, reduceIte, Nat.reduceEqDiff, Bool.and_true, Bool.true_and, Bool.and_false, Bool.false_and, Bool.or_true, Bool.true_or, Bool.or_false, Bool.false_or, Bool.not_true, Bool.not_false, Bool.not_not, hc_2, hc_3]; done))) .nil))
      ·exact (.cons (OSub.of (by first | rfl | (simp only [hve_v_3]; done))) .nil)
      ·exact (by intro p hp; cases hp)
      ·omega
    ·have hve_v_2 : v_2 = _ := (Option.some.inj ((if_neg (by simp only [Bool.and_true, Bool.true_and, Bool.and_false, Bool.false_and, Bool.or_true, Bool.true_or, Bool.or_false, Bool.false_or, Bool.not_true, Bool.not_false, Bool.not_not, hc_2]; decide)).symm.trans hv_2)).symm
     have hve_v_3 : v_3 = _ := (Option.some.inj ((if_neg (by simp only [Bool.and_true, Bool.true_and, Bool.and_false, Bool.false_and, Bool.or_true, Bool.true_or, Bool.or_false, Bool.false_or, Bool.not_true, Bool.not_false, Bool.not_not, hc_2]; decide)).symm.trans hv_3)).symm
     try simp (maxSteps := 4000000) only [go_sem, Prod.mk.injEq, reduceIte, Nat.reduceEqDiff, Nat.reduceAdd, Nat.reduceSub, Nat.reduceMul, Nat.reduceDiv, Nat.reducePow, Nat.reduceLT, Nat.reduceLeDiff, Nat.reduceBEq, Nat.reduceBneDiff, Int.reduceToNat, Int.reduceEq, Int.reduceLE, Int.reduceLT, reduceCtorEq, hc_2]
     repeat (with_reducible refine And.intro ?_ ?_; next => first | assumption | trivial | omega | decide | (constructor <;> first | assumption | omega) | (simp [Keep.ok, hp_cons_apply, hset_cons]; done))
     refine hk _ _ _ ?_
     refine xghost (D := []) ?_ ?_ ?_ ?_
     ·exact (.cons (Sub.of_eq rfl) (.cons (Sub.of_eq (by first | rfl | (simp only [sget_cons, reduceIte, Nat.reduceEqDiff, Bool.and_true, Bool.true_and, Bool.and_false, Bool.false_and, Bool.or_true, Bool.true_or, Bool.or_false, Bool.false_or, Bool.not_true, Bool.not_false, Bool.not_not, hc_2]; done))) .nil))
     ·exact (.cons (OSub.of (by first | rfl | (simp only [hve_v_2, hve_v_3]; done))) .nil)
     ·exact (by intro p hp; cases hp)
     ·omega
  ·try simp (maxSteps := 4000000) only [go_sem, Prod.mk.injEq, reduceIte, Nat.reduceEqDiff, Nat.reduceAdd, Nat.reduceSub, Nat.reduceMul, Nat.reduceDiv, Nat.reducePow, Nat.reduceLT, Nat.reduceLeDiff, Nat.reduceBEq, Nat.reduceBneDiff, Int.reduceToNat, Int.reduceEq, Int.reduceLE, Int.reduceLT, reduceCtorEq]
   repeat (with_reducible refine And.intro ?_ ?_; next => first | assumption | trivial | omega | decide | (constructor <;> first | assumption | omega) | (simp [Keep.ok, hp_cons_apply, hset_cons]; done))
   have hcall := s_disk_New_ok (hp [] S) (-1) hv
   refine call1_new hcall rfl rfl ?_ ?_
   ·exact (.cons Sub.refl .nil)
   clear hcall
   try simp (maxSteps := 4000000) only [go_sem, Prod.mk.injEq, reduceIte, Nat.reduceEqDiff, Nat.reduceAdd, Nat.reduceSub, Nat.reduceMul, Nat.reduceDiv, Nat.reducePow, Nat.reduceLT, Nat.reduceLeDiff, Nat.reduceBEq, Nat.reduceBneDiff, Int.reduceToNat, Int.reduceEq, Int.reduceLE, Int.reduceLT, reduceCtorEq]
   repeat (with_reducible refine And.intro ?_ ?_; next => first | assumption | trivial | omega | decide | (constructor <;> first | assumption | omega) | (simp [Keep.ok, hp_cons_apply, hset_cons]; done))
   refine hk _ _ _ ?_
   refine xghost (D := []) ?_ ?_ ?_ ?_
   ·exact (.cons (Sub.of_eq rfl) .nil)
   ·exact HpW.refl
   ·exact (by intro p hp; cases hp)
   ·omega
 ·try simp (maxSteps := 4000000) only [go_sem, Prod.mk.injEq, reduceIte, Nat.reduceEqDiff, Nat.reduceAdd, Nat.reduceSub, Nat.reduceMul, Nat.reduceDiv, Nat.reducePow, Nat.reduceLT, Nat.reduceLeDiff, Nat.reduceBEq, Nat.reduceBneDiff, Int.reduceToNat, Int.reduceEq, Int.reduceLE, Int.reduceLT, reduceCtorEq]
  repeat (with_reducible refine And.intro ?_ ?_; next => first | assumption | trivial | omega | decide | (constructor <;> first | assumption | omega) | (simp [Keep.ok, hp_cons_apply, hset_cons]; done))
  refine hk _ _ _ ?_
  refine xghost (D := []) ?_ ?_ ?_ ?_
  ·exact .nil
  ·exact HpW.refl
  ·exact (by intro p hp; cases hp)
  ·omega
/-! stanchion/stanchionref00.CopyBytes -/
def s_stanchionref00_CopyBytes (b : List Int) : Option (List Int) :=
 gd (((0 + b.length) * 1 ≤ 140737488355328 ∧ 0 + b.length < 9223372036854775808)) (some b)
theorem s_stanchionref00_CopyBytes_ok (S : AHeap) (b : List Int) {r : List Int} (h : s_stanchionref00_CopyBytes b = some r) :
  AC Try.prog n_stanchionref00_CopyBytes [eS (lI .u8) b] S fun r' S' => r' = .ret (eS (lI .u8) r) ∧ S' = S := by
 refine AC_of tok mixed fits_stanchionref00_CopyBytes fun d hd => ?_
 unfold c_stanchionref00_CopyBytes
 show LW _ _ _ _ [(0, eS (lI .u8) b)] (hp [] S) 0 _
 rw [s_stanchionref00_CopyBytes] at h
 refine xseq [(0, eS (lI .u8) b)] (hp [] S) 0 ?_ (fun k kp hk => ?_)
 ·refine xseq [(0, eS (lI .u8) b), (3, eT (lI .u8) (d, 0) [])] (hp [((d, 0), oT (lI .u8) [])] S) 1 ?_ (fun k kp hk => ?_)
  ·obtain ⟨hg, h⟩ := gd_some h
   refine xseq [(3, eT (lI .u8) (d, 0) b)] (hp [((d, 0), oT (lI .u8) b)] S) 1 ?_ (fun k kp hk => ?_)
   ·refine xseq [(2, eS (lI .u8) b)] (hp [((d, 0), oT (lI .u8) b)] S) 1 ?_ (fun k kp hk => ?_)
    ·refine LW_ret ?_
     obtain rfl := Option.some.inj h
     show FPost _ _ _ _ _ _ _
     exact ⟨_, hp_less (L := []) (D := [((d, 0), oT (lI .u8) b)]) (by intro p hp; simp only [List.mem_cons, List.not_mem_nil, or_false] at hp; rcases hp with rfl <;> first | exact hd _ (Nat.le_refl _)), rfl, rfl⟩
    ·try simp (maxSteps := 4000000) only [go_sem, Prod.mk.injEq, reduceIte, Nat.reduceEqDiff, Nat.reduceAdd, Nat.reduceSub, Nat.reduceMul, Nat.reduceDiv, Nat.reducePow, Nat.reduceLT, Nat.reduceLeDiff, Nat.reduceBEq, Nat.reduceBneDiff, Int.reduceToNat, Int.reduceEq, Int.reduceLE, Int.reduceLT, reduceCtorEq]
     repeat (with_reducible refine And.intro ?_ ?_; next => first | assumption | trivial | omega | decide | (constructor <;> first | assumption | omega) | (simp [Keep.ok, hp_cons_apply, hset_cons]; done))
     refine hk _ _ _ ?_
     refine xghost (D := []) ?_ ?_ ?_ ?_
     ·exact (.cons Sub.tip .nil)
     ·exact HpW.refl
     ·exact (by intro p hp; cases hp)
     ·omega
   ·try simp (maxSteps := 4000000) only [go_sem, Prod.mk.injEq, reduceIte, Nat.reduceEqDiff, Nat.reduceAdd, Nat.reduceSub, Nat.reduceMul, Nat.reduceDiv, Nat.reducePow, Nat.reduceLT, Nat.reduceLeDiff, Nat.reduceBEq, Nat.reduceBneDiff, Int.reduceToNat, Int.reduceEq, Int.reduceLE, Int.reduceLT, reduceCtorEq]
    repeat (with_reducible refine And.intro ?_ ?_; next => first | assumption | trivial | omega | decide | (constructor <;> first | assumption | omega) | (simp [Keep.ok, hp_cons_apply, hset_cons]; done))
    refine append1_eT (L := (lI .u8)) (n := (d, 0)) (xs := []) (ys := b) T22 T22 T5 ?_ rfl ?_ asrc_eS ?_ rfl ?_ ?_
    ·first | exact .inl rfl | exact .inr rfl
    ·try simp (maxSteps := 4000000) only [go_sem, Prod.mk.injEq, reduceIte, Nat.reduceEqDiff, Nat.reduceAdd, Nat.reduceSub, Nat.reduceMul, Nat.reduceDiv, Nat.reducePow, Nat.reduceLT, Nat.reduceLeDiff, Nat.reduceBEq, Nat.reduceBneDiff, Int.reduceToNat, Int.reduceEq, Int.reduceLE, Int.reduceLT, reduceCtorEq]
    ·exact ⟨trivial, rfl⟩
    ·dsimp only [List.length]; omega
    try simp (maxSteps := 4000000) only [go_sem, Prod.mk.injEq, reduceIte, Nat.reduceEqDiff, Nat.reduceAdd, Nat.reduceSub, Nat.reduceMul, Nat.reduceDiv, Nat.reducePow, Nat.reduceLT, Nat.reduceLeDiff, Nat.reduceBEq, Nat.reduceBneDiff, Int.reduceToNat, Int.reduceEq, Int.reduceLE, Int.reduceLT, reduceCtorEq]
    repeat (with_reducible refine And.intro ?_ ?_; next => first | assumption | trivial | omega | decide | (constructor <;> first | assumption | omega) | (simp [Keep.ok, hp_cons_apply, hset_cons]; done))
    refine hk _ _ _ ?_
    refine xghost (D := []) ?_ ?_ ?_ ?_
    ·exact (.cons (Sub.of_eq rfl) .nil)
    ·exact HpW.refl
    ·exact (by intro p hp; cases hp)
    ·omega
  ·try simp (maxSteps := 4000000) only [go_sem, Prod.mk.injEq, reduceIte, Nat.reduceEqDiff, Nat.reduceAdd, Nat.reduceSub, Nat.reduceMul, Nat.reduceDiv, Nat.reducePow, Nat.reduceLT, Nat.reduceLeDiff, Nat.reduceBEq, Nat.reduceBneDiff, Int.reduceToNat, Int.reduceEq, Int.reduceLE, Int.reduceLT, reduceCtorEq]
   repeat (with_reducible refine And.intro ?_ ?_; next => first | assumption | trivial | omega | decide | (constructor <;> first | assumption | omega) | (simp [Keep.ok, hp_cons_apply, hset_cons]; done))
   refine hk _ _ _ ?_
   refine Ghost.trans (xname (lI .u8) 3 Sub.refl) ?_
   try simp (maxSteps := 4000000) only [go_sem, Prod.mk.injEq, reduceIte, Nat.reduceEqDiff, Nat.reduceAdd, Nat.reduceSub, Nat.reduceMul, Nat.reduceDiv, Nat.reducePow, Nat.reduceLT, Nat.reduceLeDiff, Nat.reduceBEq, Nat.reduceBneDiff, Int.reduceToNat, Int.reduceEq, Int.reduceLE, Int.reduceLT, reduceCtorEq]
   refine xghost (D := []) ?_ ?_ ?_ ?_
   ·exact (.cons (Sub.of_eq rfl) (.cons (Sub.of_eq rfl) .nil))
   ·exact HpW.refl
   ·exact (by intro p hp; cases hp)
   ·omega
 ·try simp (maxSteps := 4000000) only [go_sem, Prod.mk.injEq, reduceIte, Nat.reduceEqDiff, Nat.reduceAdd, Nat.reduceSub, Nat.reduceMul, Nat.reduceDiv, Nat.reducePow, Nat.reduceLT, Nat.reduceLeDiff, Nat.reduceBEq, Nat.reduceBneDiff, Int.reduceToNat, Int.reduceEq, Int.reduceLE, Int.reduceLT, reduceCtorEq]
  repeat (with_reducible refine And.intro ?_ ?_; next => first | assumption | trivial | omega | decide | (constructor <;> first | assumption | omega) | (simp [Keep.ok, hp_cons_apply, hset_cons]; done))
  refine hk _ _ _ ?_
  refine xghost (D := []) ?_ ?_ ?_ ?_
  ·exact (.cons (Sub.of_eq rfl) .nil)
  ·exact HpW.refl
  ·exact (by intro p hp; cases hp)
  ·omega
/-! stanchion/stanchionref00.SameBytes -/
def s_stanchionref00_SameBytes_b1 (a : List Int) (b : List Int) : Int → Option ((Int) ⊕ Bool)
 | i => if (decide (i < (a.length : Int))) = true then gd ((0 ≤ i ∧ Int.toNat i < a.length)) (gd ((0 ≤ i ∧ Int.toNat i < b.length)) (if ((a.getD (Int.toNat i) 0) != (b.getD (Int.toNat i) 0)) = true then mr (some false) else some (.inl (IntKind.i64.wrap (i + 1))))) else mr (some true)
def s_stanchionref00_SameBytes (a : List Int) (b : List Int) : Option Bool :=
 if ((a.length : Int) != (b.length : Int)) = true then some false else loop (s_stanchionref00_SameBytes_b1 a b) 0
theorem s_stanchionref00_SameBytes_ok (S : AHeap) (a : List Int) (b : List Int) {r : Bool} (h : s_stanchionref00_SameBytes a b = some r) :
  AC Try.prog n_stanchionref00_SameBytes [eS (lI .u8) a, eS (lI .u8) b] S fun r' S' => r' = .ret (.lit (.bool r)) ∧ S' = S := by
 refine AC_of tok mixed fits_stanchionref00_SameBytes fun d hd => ?_
 unfold c_stanchionref00_SameBytes
 show LW _ _ _ _ [(0, eS (lI .u8) a), (1, eS (lI .u8) b)] (hp [] S) 0 _
 rw [s_stanchionref00_SameBytes] at h
 refine xseq [(0, eS (lI .u8) a), (1, eS (lI .u8) b)] (hp [] S) 0 ?_ (fun k kp hk => ?_)
 ·refine LW_seq ?_
  refine xseq [(0, eS (lI .u8) a), (1, eS (lI .u8) b), (10, .lit (.bool ((a.length : Int) != (b.length : Int))))] (hp [] S) 0 ?_ (fun k kp hk => ?_)
  ·refine xcond ((a.length : Int) != (b.length : Int)) rfl (fun hc => ?_) (fun hc => ?_)
   ·rw [ite_t hc] at h
    refine xseq [(4, .lit (.bool false))] (hp [] S) 0 ?_ (fun k kp hk => ?_)
    ·refine LW_ret ?_
     obtain rfl := Option.some.inj h
     show FPost _ _ _ _ _ _ _
     exact ⟨_, hp_less (L := []) (D := []) (by intro p hp; cases hp), rfl, rfl⟩
    ·try simp (maxSteps := 4000000) only [go_sem, Prod.mk.injEq, reduceIte, Nat.reduceEqDiff, Nat.reduceAdd, Nat.reduceSub, Nat.reduceMul, Nat.reduceDiv, Nat.reducePow, Nat.reduceLT, Nat.reduceLeDiff, Nat.reduceBEq, Nat.reduceBneDiff, Int.reduceToNat, Int.reduceEq, Int.reduceLE, Int.reduceLT, reduceCtorEq]
     repeat (with_reducible refine And.intro ?_ ?_; next => first | assumption | trivial | omega | decide | (constructor <;> first | assumption | omega) | (simp [Keep.ok, hp_cons_apply, hset_cons]; done))
     refine hk _ _ _ ?_
     refine xghost (D := []) ?_ ?_ ?_ ?_
     ·exact (.cons (Sub.of_eq rfl) .nil)
     ·exact HpW.refl
     ·exact (by intro p hp; cases hp)
     ·omega
   ·rw [ite_f hc] at h
    refine LW_skip ?_
    show LW _ _ _ _ _ _ _ _
    refine LW_seq ?_
    refine xseq [(0, eS (lI .u8) a), (1, eS (lI .u8) b), (5, .lit (.int .i64 0))] (hp [] S) 0 ?_ (fun k kp hk => ?_)
    ·refine LW_block ?_
     refine LW_loopX (c := 0) (σ := Int) (s := 0) (fun zz => [(0, eS (lI .u8) a), (1, eS (lI .u8) b), (5, .lit (.int .i64 zz))]) (fun zz => (hp [] S)) h ?_ ?_
     ·clear h
      rintro i x1 d1 hd1 hf1 h hx1
      show LW _ _ _ _ [(0, eS (lI .u8) a), (1, eS (lI .u8) b), (5, .lit (.int .i64 i))] (hp [] S) 0 _
      have hn1d : (d = d1) = False := by simp; omega
      have hm1d : (d1 = d) = False := by simp; omega
      rw [s_stanchionref00_SameBytes_b1] at h
      refine LW_seq ?_
      refine xseq [(0, eS (lI .u8) a), (1, eS (lI .u8) b), (5, .lit (.int .i64 i)), (14, .lit (.bool (decide (i < (a.length : Int)))))] (hp [] S) 0 ?_ (fun k kp hk => ?_)
      ·refine xcond (decide (i < (a.length : Int))) rfl (fun hc_1 => ?_) (fun hc_1 => ?_)
       ·rw [ite_t hc_1] at h
        refine LW_skip ?_
        show LW _ _ _ _ _ _ _ _
        refine LW_seq ?_
        refine LW_block ?_
        obtain ⟨hg, h⟩ := gd_some h
        obtain ⟨hg_1, h⟩ := gd_some h
        refine xseqd [(0, eS (lI .u8) a), (1, eS (lI .u8) b), (5, .lit (.int .i64 i)), (25, .lit (.bool ((a.getD (Int.toNat i) 0) != (b.getD (Int.toNat i) 0))))] (hp [] S) 0 ?_ (fun k kp hk => ?_)
        ·refine xcond ((a.getD (Int.toNat i) 0) != (b.getD (Int.toNat i) 0)) rfl (fun hc_2 => ?_) (fun hc_2 => ?_)
         ·rw [ite_t hc_2] at h
          refine xseq [(0, eS (lI .u8) a), (1, eS (lI .u8) b), (4, .lit (.bool false)), (5, .lit (.int .i64 i))] (hp [] S) 0 ?_ (fun k kp hk => ?_)
          ·obtain ⟨hq, hxe⟩ := mr_go h hx1
           clear h hx1
           subst hxe
           have h := hq
           clear hq
           refine LW_retX (sl' := [(4, .lit (.bool false))]) (S' := (hp [] S)) (c' := 0) ?_ ?_
           ·refine xghost (D := []) ?_ ?_ ?_ ?_
            ·exact (.cons (Sub.of_eq rfl) .nil)
            ·exact HpW.refl
            ·exact (by intro p hp; cases hp)
            ·omega
           ·obtain rfl := Option.some.inj h
            show FPost _ _ _ _ _ _ _
            exact ⟨_, hp_less (L := []) (D := []) (by intro p hp; cases hp), rfl, rfl⟩
          ·try simp (maxSteps := 4000000) only [go_sem, Prod.mk.injEq, reduceIte, Nat.reduceEqDiff, Nat.reduceAdd, Nat.reduceSub, Nat.reduceMul, Nat.reduceDiv, Nat.reducePow, Nat.reduceLT, Nat.reduceLeDiff, Nat.reduceBEq, Nat.reduceBneDiff, Int.reduceToNat, Int.reduceEq, Int.reduceLE, Int.reduceLT, reduceCtorEq, hn1d, hm1d]
           repeat (with_reducible refine And.intro ?_ ?_; next => first | assumption | trivial | omega | decide | (constructor <;> first | assumption | omega) | (simp [Keep.ok, hp_cons_apply, hset_cons, hn1d, hm1d]; done))
           refine hk _ _ _ ?_
           refine xghost (D := []) ?_ ?_ ?_ ?_
           ·exact (.cons (Sub.of_eq rfl) (.cons (Sub.of_eq rfl) (.cons (Sub.of_eq rfl) (.cons (Sub.of_eq rfl) .nil))))
           ·exact HpW.refl
           ·exact (by intro p hp; cases hp)
           ·omega
         ·rw [ite_f hc_2] at h
          refine LW_skip ?_
          show LW _ _ _ _ _ _ _ _
          refine xreg [(0, eS (lI .u8) a), (1, eS (lI .u8) b), (5, .lit (.int .i64 (IntKind.i64.wrap (i + 1))))] (hp [] S) 0 ?_ (fun k kp hk => ?_)
          ·cases h
           exact ⟨rfl, Less.refl _⟩
          ·try simp (maxSteps := 4000000) only [go_sem, Prod.mk.injEq, reduceIte, Nat.reduceEqDiff, Nat.reduceAdd, Nat.reduceSub, Nat.reduceMul, Nat.reduceDiv, Nat.reducePow, Nat.reduceLT, Nat.reduceLeDiff, Nat.reduceBEq, Nat.reduceBneDiff, Int.reduceToNat, Int.reduceEq, Int.reduceLE, Int.reduceLT, reduceCtorEq, hn1d, hm1d]
           repeat (with_reducible refine And.intro ?_ ?_; next => first | assumption | trivial | omega | decide | (constructor <;> first | assumption | omega) | (simp [Keep.ok, hp_cons_apply, hset_cons, hn1d, hm1d]; done))
           refine hk _ _ _ ?_
           refine xghost (D := []) ?_ ?_ ?_ ?_
           ·exact (.cons (Sub.of_eq rfl) (.cons (Sub.of_eq rfl) (.cons (Sub.of_eq rfl) .nil)))
           ·exact HpW.refl
           ·exact (by intro p hp; cases hp)
           ·omega
        ·try simp (maxSteps := 4000000) only [go_sem, Prod.mk.injEq, reduceIte, Nat.reduceEqDiff, Nat.reduceAdd, Nat.reduceSub, Nat.reduceMul, Nat.reduceDiv, Nat.reducePow, Nat.reduceLT, Nat.reduceLeDiff, Nat.reduceBEq, Nat.reduceBneDiff, Int.reduceToNat, Int.reduceEq, Int.reduceLE, Int.reduceLT, reduceCtorEq, hn1d, hm1d]
         repeat (with_reducible refine And.intro ?_ ?_; next => first | assumption | trivial | omega | decide | (constructor <;> first | assumption | omega) | (simp [Keep.ok, hp_cons_apply, hset_cons, hn1d, hm1d]; done))
         refine hk _ _ _ ?_
         refine xghost (D := []) ?_ ?_ ?_ ?_
         ·exact (.cons (Sub.of_eq rfl) (.cons (Sub.of_eq rfl) (.cons (Sub.of_eq rfl) (.cons (Sub.of_eq rfl) .nil))))
         ·exact HpW.refl
         ·exact (by intro p hp; cases hp)
         ·omega
       ·rw [ite_f hc_1] at h
        obtain ⟨hq, hxe⟩ := mr_go h hx1
        clear h hx1
        subst hxe
        have h := hq
        clear hq
        refine LW_exitX (sl' := [(0, eS (lI .u8) a), (1, eS (lI .u8) b), (5, .lit (.int .i64 i)), (14, .lit (.bool (decide (i < (a.length : Int)))))]) (S' := (hp [] S)) (c' := 0) ?_ ?_
        ·refine xghost (D := []) ?_ ?_ ?_ ?_
         ·exact (.cons (Sub.of_eq rfl) (.cons (Sub.of_eq rfl) (.cons (Sub.of_eq rfl) (.cons (Sub.of_eq rfl) .nil))))
         ·exact HpW.refl
         ·exact (by intro p hp; cases hp)
         ·omega
        ·show LW _ _ _ _ _ _ _ _
         refine xseq [(4, .lit (.bool true))] (hp [] S) 0 ?_ (fun k kp hk => ?_)
         ·refine LW_ret ?_
          obtain rfl := Option.some.inj h
          show FPost _ _ _ _ _ _ _
          exact ⟨_, hp_less (L := []) (D := []) (by intro p hp; cases hp), rfl, rfl⟩
         ·try simp (maxSteps := 4000000) only [go_sem, Prod.mk.injEq, reduceIte, Nat.reduceEqDiff, Nat.reduceAdd, Nat.reduceSub, Nat.reduceMul, Nat.reduceDiv, Nat.reducePow, Nat.reduceLT, Nat.reduceLeDiff, Nat.reduceBEq, Nat.reduceBneDiff, Int.reduceToNat, Int.reduceEq, Int.reduceLE, Int.reduceLT, reduceCtorEq, hn1d, hm1d]
          repeat (with_reducible refine And.intro ?_ ?_; next => first | assumption | trivial | omega | decide | (constructor <;> first | assumption | omega) | (simp [Keep.ok, hp_cons_apply, hset_cons, hn1d, hm1d]; done))
          refine hk _ _ _ ?_
          refine xghost (D := []) ?_ ?_ ?_ ?_
          ·exact (.cons (Sub.of_eq rfl) .nil)
          ·exact HpW.refl
          ·exact (by intro p hp; cases hp)
          ·omega
      ·try simp (maxSteps := 4000000) only [go_sem, Prod.mk.injEq, reduceIte, Nat.reduceEqDiff, Nat.reduceAdd, Nat.reduceSub, Nat.reduceMul, Nat.reduceDiv, Nat.reducePow, Nat.reduceLT, Nat.reduceLeDiff, Nat.reduceBEq, Nat.reduceBneDiff, Int.reduceToNat, Int.reduceEq, Int.reduceLE, Int.reduceLT, reduceCtorEq, hn1d, hm1d]
       repeat (with_reducible refine And.intro ?_ ?_; next => first | assumption | trivial | omega | decide | (constructor <;> first | assumption | omega) | (simp [Keep.ok, hp_cons_apply, hset_cons, hn1d, hm1d]; done))
       refine hk _ _ _ ?_
       refine xghost (D := []) ?_ ?_ ?_ ?_
       ·exact (.cons (Sub.of_eq rfl) (.cons (Sub.of_eq rfl) (.cons (Sub.of_eq rfl) (.cons (Sub.of_eq rfl) .nil))))
       ·exact HpW.refl
       ·exact (by intro p hp; cases hp)
       ·omega
     ·refine xghost (D := []) ?_ ?_ ?_ ?_
      ·exact (.cons (Sub.of_eq rfl) (.cons (Sub.of_eq rfl) (.cons (Sub.of_eq rfl) .nil)))
      ·exact HpW.refl
      ·exact (by intro p hp; cases hp)
      ·omega
    ·try simp (maxSteps := 4000000) only [go_sem, Prod.mk.injEq, reduceIte, Nat.reduceEqDiff, Nat.reduceAdd, Nat.reduceSub, Nat.reduceMul, Nat.reduceDiv, Nat.reducePow, Nat.reduceLT, Nat.reduceLeDiff, Nat.reduceBEq, Nat.reduceBneDiff, Int.reduceToNat, Int.reduceEq, Int.reduceLE, Int.reduceLT, reduceCtorEq]
     repeat (with_reducible refine And.intro ?_ ?_; next => first | assumption | trivial | omega | decide | (constructor <;> first | assumption | omega) | (simp [Keep.ok, hp_cons_apply, hset_cons]; done))
     refine hk _ _ _ ?_
     refine xghost (D := []) ?_ ?_ ?_ ?_
     ·exact (.cons (Sub.of_eq rfl) (.cons (Sub.of_eq rfl) (.cons (Sub.of_eq rfl) .nil)))
     ·exact HpW.refl
     ·exact (by intro p hp; cases hp)
     ·omega
  ·try simp (maxSteps := 4000000) only [go_sem, Prod.mk.injEq, reduceIte, Nat.reduceEqDiff, Nat.reduceAdd, Nat.reduceSub, Nat.reduceMul, Nat.reduceDiv, Nat.reducePow, Nat.reduceLT, Nat.reduceLeDiff, Nat.reduceBEq, Nat.reduceBneDiff, Int.reduceToNat, Int.reduceEq, Int.reduceLE, Int.reduceLT, reduceCtorEq]
   repeat (with_reducible refine And.intro ?_ ?_; next => first | assumption | trivial | omega | decide | (constructor <;> first | assumption | omega) | (simp [Keep.ok, hp_cons_apply, hset_cons]; done))
   refine hk _ _ _ ?_
   refine xghost (D := []) ?_ ?_ ?_ ?_
   ·exact (.cons (Sub.of_eq rfl) (.cons (Sub.of_eq rfl) (.cons (Sub.of_eq rfl) .nil)))
   ·exact HpW.refl
   ·exact (by intro p hp; cases hp)
   ·omega
 ·try simp (maxSteps := 4000000) only [go_sem, Prod.mk.injEq, reduceIte, Nat.reduceEqDiff, Nat.reduceAdd, Nat.reduceSub, Nat.reduceMul, Nat.reduceDiv, Nat.reducePow, Nat.reduceLT, Nat.reduceLeDiff, Nat.reduceBEq, Nat.reduceBneDiff, Int.reduceToNat, Int.reduceEq, Int.reduceLE, Int.reduceLT, reduceCtorEq]
  repeat (with_reducible refine And.intro ?_ ?_; next => first | assumption | trivial | omega | decide | (constructor <;> first | assumption | omega) | (simp [Keep.ok, hp_cons_apply, hset_cons]; done))
  refine hk _ _ _ ?_
  refine xghost (D := []) ?_ ?_ ?_ ?_
  ·exact (.cons (Sub.of_eq rfl) (.cons (Sub.of_eq rfl) .nil))
  ·exact HpW.refl
  ·exact (by intro p hp; cases hp)
  ·omega
/-! stanchion/stanchionlaw04.cut -/
def s_stanchionlaw04_cut (script : List Glaw04Op) : Option (List Glaw04Op) :=
 if (decide (60 < (script.length : Int))) = true then gd ((0 ≤ 0 ∧ 0 ≤ 60 ∧ Int.toNat 60 ≤ script.length)) (some ((script.take (Int.toNat 60)).drop (Int.toNat 0))) else some script
theorem s_stanchionlaw04_cut_ok (S : AHeap) (script : List Glaw04Op) {r : List Glaw04Op} (h : s_stanchionlaw04_cut script = some r) :
  AC Try.prog n_stanchionlaw04_cut [eS yGlaw04Op script] S fun r' S' => r' = .ret (eS yGlaw04Op r) ∧ S' = S := by
 refine AC_of tok mixed fits_stanchionlaw04_cut fun d hd => ?_
 unfold c_stanchionlaw04_cut
 show LW _ _ _ _ [(0, eS yGlaw04Op script)] (hp [] S) 0 _
 rw [s_stanchionlaw04_cut] at h
 refine xseq [(0, eS yGlaw04Op script)] (hp [] S) 0 ?_ (fun k kp hk => ?_)
 ·refine LW_seq ?_
  refine xseq [(0, eS yGlaw04Op script), (5, .lit (.bool (decide (60 < (script.length : Int)))))] (hp [] S) 0 ?_ (fun k kp hk => ?_)
  ·refine xcond (decide (60 < (script.length : Int))) rfl (fun hc => ?_) (fun hc => ?_)
   ·rw [ite_t hc] at h
    obtain ⟨hg, h⟩ := gd_some h
    refine xseq [(2, eS yGlaw04Op ((script.take (Int.toNat 60)).drop (Int.toNat 0)))] (hp [] S) 0 ?_ (fun k kp hk => ?_)
    ·refine LW_ret ?_
     obtain rfl := Option.some.inj h
     show FPost _ _ _ _ _ _ _
     exact ⟨_, hp_less (L := []) (D := []) (by intro p hp; cases hp), rfl, rfl⟩
    ·try simp (maxSteps := 4000000) only [go_sem, Prod.mk.injEq, reduceIte, Nat.reduceEqDiff, Nat.reduceAdd, Nat.reduceSub, Nat.reduceMul, Nat.reduceDiv, Nat.reducePow, Nat.reduceLT, Nat.reduceLeDiff, Nat.reduceBEq, Nat.reduceBneDiff, Int.reduceToNat, Int.reduceEq, Int.reduceLE, Int.reduceLT, reduceCtorEq]
     repeat (with_reducible refine And.intro ?_ ?_; next => first | assumption | trivial | omega | decide | (constructor <;> first | assumption | omega) | (simp [Keep.ok, hp_cons_apply, hset_cons]; done))
     refine hk _ _ _ ?_
     refine xghost (D := []) ?_ ?_ ?_ ?_
     ·exact (.cons (Sub.of_eq rfl) .nil)
     ·exact HpW.refl
     ·exact (by intro p hp; cases hp)
     ·omega
   ·rw [ite_f hc] at h
    refine LW_skip ?_
    show LW _ _ _ _ _ _ _ _
    refine xseq [(2, eS yGlaw04Op script)] (hp [] S) 0 ?_ (fun k kp hk => ?_)
    ·refine LW_ret ?_
     obtain rfl := Option.some.inj h
     show FPost _ _ _ _ _ _ _
     exact ⟨_, hp_less (L := []) (D := []) (by intro p hp; cases hp), rfl, rfl⟩
    ·try simp (maxSteps := 4000000) only [go_sem, Prod.mk.injEq, reduceIte, Nat.reduceEqDiff, Nat.reduceAdd, Nat.reduceSub, Nat.reduceMul, Nat.reduceDiv, Nat.reducePow, Nat.reduceLT, Nat.reduceLeDiff, Nat.reduceBEq, Nat.reduceBneDiff, Int.reduceToNat, Int.reduceEq, Int.reduceLE, Int.reduceLT, reduceCtorEq]
     repeat (with_reducible refine And.intro ?_ ?_; next => first | assumption | trivial | omega | decide | (constructor <;> first | assumption | omega) | (simp [Keep.ok, hp_cons_apply, hset_cons]; done))
     refine hk _ _ _ ?_
     refine xghost (D := []) ?_ ?_ ?_ ?_
     ·exact (.cons (Sub.of_eq rfl) .nil)
     ·exact HpW.refl
     ·exact (by intro p hp; cases hp)
     ·omega
  ·try simp (maxSteps := 4000000) only [go_sem, Prod.mk.injEq, reduceIte, Nat.reduceEqDiff, Nat.reduceAdd, Nat.reduceSub, Nat.reduceMul, Nat.reduceDiv, Nat.reducePow, Nat.reduceLT, Nat.reduceLeDiff, Nat.reduceBEq, Nat.reduceBneDiff, Int.reduceToNat, Int.reduceEq, Int.reduceLE, Int.reduceLT, reduceCtorEq]
   repeat (with_reducible refine And.intro ?_ ?_; next => first | assumption | trivial | omega | decide | (constructor <;> first | assumption | omega) | (simp [Keep.ok, hp_cons_apply, hset_cons]; done))
   refine hk _ _ _ ?_
   refine xghost (D := []) ?_ ?_ ?_ ?_
   ·exact (.cons (Sub.of_eq rfl) (.cons (Sub.of_eq rfl) .nil))
   ·exact HpW.refl
   ·exact (by intro p hp; cases hp)
   ·omega
 ·try simp (maxSteps := 4000000) only [go_sem, Prod.mk.injEq, reduceIte, Nat.reduceEqDiff, Nat.reduceAdd, Nat.reduceSub, Nat.reduceMul, Nat.reduceDiv, Nat.reducePow, Nat.reduceLT, Nat.reduceLeDiff, Nat.reduceBEq, Nat.reduceBneDiff, Int.reduceToNat, Int.reduceEq, Int.reduceLE, Int.reduceLT, reduceCtorEq]
  repeat (with_reducible refine And.intro ?_ ?_; next => first | assumption | trivial | omega | decide | (constructor <;> first | assumption | omega) | (simp [Keep.ok, hp_cons_apply, hset_cons]; done))
  refine hk _ _ _ ?_
  refine xghost (D := []) ?_ ?_ ?_ ?_
  ·exact (.cons (Sub.of_eq rfl) .nil)
  ·exact HpW.refl
  ·exact (by intro p hp; cases hp)
  ·omega
/-! stanchion/stanchionlaw04.great -/
def s_stanchionlaw04_great_b2 (script : List Glaw04Op) (i : Int) : (Int × Int) → Option ((Int × Int) ⊕ ((Int × Int) ⊕ Bool))
 | (n_1, j) => gd ((0 ≤ i ∧ Int.toNat i < script.length)) (if ((decide (j < (((script.getD (Int.toNat i) yGlaw04Op.dflt).Parts).length : Int))) && (decide (n_1 ≤ 100000))) = true then gd ((0 ≤ i ∧ Int.toNat i < script.length)) (gd ((0 ≤ j ∧ Int.toNat j < ((script.getD (Int.toNat i) yGlaw04Op.dflt).Parts).length)) (some (.inl ((IntKind.i64.wrap (n_1 + (IntKind.i64.wrap (1 + ((((script.getD (Int.toNat i) yGlaw04Op.dflt).Parts).getD (Int.toNat j) []).length : Int))))), (IntKind.i64.wrap (j + 1)))))) else mr (gd ((0 ≤ i ∧ Int.toNat i < script.length)) (some (.inl ((IntKind.i64.wrap (n_1 + (((script.getD (Int.toNat i) yGlaw04Op.dflt).Areas).length : Int))), (IntKind.i64.wrap (i + 1)))))))
def s_stanchionlaw04_great_b1 (script : List Glaw04Op) : (Int × Int) → Option ((Int × Int) ⊕ Bool)
 | (n, i) => if ((decide (i < (script.length : Int))) && (decide (n ≤ 100000))) = true then loop (s_stanchionlaw04_great_b2 script i) (n, 0) else mr (some (decide (5000 < n)))
def s_stanchionlaw04_great (script : List Glaw04Op) : Option Bool :=
 loop (s_stanchionlaw04_great_b1 script) (0, 0)
theorem s_stanchionlaw04_great_ok (S : AHeap) (script : List Glaw04Op) {r : Bool} (h : s_stanchionlaw04_great script = some r) :
  AC Try.prog n_stanchionlaw04_great [eS yGlaw04Op script] S fun r' S' => r' = .ret (.lit (.bool r)) ∧ S' = S := by
 refine AC_of tok mixed fits_stanchionlaw04_great fun d hd => ?_
 unfold c_stanchionlaw04_great
 show LW _ _ _ _ [(0, eS yGlaw04Op script)] (hp [] S) 0 _
 rw [s_stanchionlaw04_great] at h
 refine xseq [(0, eS yGlaw04Op script)] (hp [] S) 0 ?_ (fun k kp hk => ?_)
 ·refine xseq [(0, eS yGlaw04Op script), (3, .lit (.int .i64 0))] (hp [] S) 0 ?_ (fun k kp hk => ?_)
  ·refine LW_seq ?_
   refine xseq [(0, eS yGlaw04Op script), (3, .lit (.int .i64 0)), (4, .lit (.int .i64 0))] (hp [] S) 0 ?_ (fun k kp hk => ?_)
   ·refine LW_block ?_
    refine LW_loopX (c := 0) (σ := Int × Int) (s := (0, 0)) (fun zz => [(0, eS yGlaw04Op script), (3, .lit (.int .i64 zz.1)), (4, .lit (.int .i64 zz.2))]) (fun zz => (hp [] S)) h ?_ ?_
    ·clear h
     rintro ⟨n, i⟩ x1 d1 hd1 hf1 h hx1
     show LW _ _ _ _ [(0, eS yGlaw04Op script), (3, .lit (.int .i64 n)), (4, .lit (.int .i64 i))] (hp [] S) 0 _
     have hn1d : (d = d1) = False := by simp; omega
     have hm1d : (d1 = d) = False := by simp; omega
     rw [s_stanchionlaw04_great_b1] at h
     refine LW_seq ?_
     refine xseq [(0, eS yGlaw04Op script), (3, .lit (.int .i64 n)), (4, .lit (.int .i64 i)), (13, .lit (.bool ((decide (i < (script.length : Int))) && (decide (n ≤ 100000)))))] (hp [] S) 0 ?_ (fun k kp hk => ?_)
     ·refine xcond ((decide (i < (script.length : Int))) && (decide (n ≤ 100000))) rfl (fun hc => ?_) (fun hc => ?_)
      ·rw [ite_t hc] at h
       refine LW_skip ?_
       show LW _ _ _ _ _ _ _ _
       refine LW_seq ?_
       refine LW_block ?_
       refine LW_seq ?_
       refine xseq [(0, eS yGlaw04Op script), (3, .lit (.int .i64 n)), (4, .lit (.int .i64 i)), (5, .lit (.int .i64 0))] (hp [] S) 0 ?_ (fun k kp hk => ?_)
       ·refine LW_block ?_
        refine LW_loopX (c := 0) (σ := Int × Int) (s := (n, 0)) (fun zz => [(0, eS yGlaw04Op script), (3, .lit (.int .i64 zz.1)), (4, .lit (.int .i64 i)), (5, .lit (.int .i64 zz.2))]) (fun zz => (hp [] S)) h ?_ ?_
        ·clear h
         rintro ⟨n_1, j⟩ x2 d2 hd2 hf2 h hx2
         show LW _ _ _ _ [(0, eS yGlaw04Op script), (3, .lit (.int .i64 n_1)), (4, .lit (.int .i64 i)), (5, .lit (.int .i64 j))] (hp [] S) 0 _
         have hn2d : (d = d2) = False := by simp; omega
         have hm2d : (d2 = d) = False := by simp; omega
         have hn2d1 : (d1 = d2) = False := by simp; omega
         have hm2d1 : (d2 = d1) = False := by simp; omega
         rw [s_stanchionlaw04_great_b2] at h
         refine LW_seq ?_
         obtain ⟨hg, h⟩ := gd_some h
         refine xseq [(0, eS yGlaw04Op script), (3, .lit (.int .i64 n_1)), (4, .lit (.int .i64 i)), (5, .lit (.int .i64 j)), (27, .lit (.bool ((decide (j < (((script.getD (Int.toNat i) yGlaw04Op.dflt).Parts).length : Int))) && (decide (n_1 ≤ 100000)))))] (hp [] S) 0 ?_ (fun k kp hk => ?_)
         ·refine xcond ((decide (j < (((script.getD (Int.toNat i) yGlaw04Op.dflt).Parts).length : Int))) && (decide (n_1 ≤ 100000))) rfl (fun hc_1 => ?_) (fun hc_1 => ?_)
          ·rw [ite_t hc_1] at h
           refine LW_skip ?_
           show LW _ _ _ _ _ _ _ _
           refine LW_seq ?_
           refine LW_block ?_
           obtain ⟨hg_1, h⟩ := gd_some h
           obtain ⟨hg_2, h⟩ := gd_some h
           refine xreg [(0, eS yGlaw04Op script), (3, .lit (.int .i64 (IntKind.i64.wrap (n_1 + (IntKind.i64.wrap (1 + ((((script.getD (Int.toNat i) yGlaw04Op.dflt).Parts).getD (Int.toNat j) []).length : Int))))))), (4, .lit (.int .i64 i)), (5, .lit (.int .i64 j))] (hp [] S) 0 ?_ (fun k kp hk => ?_)
           ·show LW _ _ _ _ _ _ _ _
            refine xreg [(0, eS yGlaw04Op script), (3, .lit (.int .i64 (IntKind.i64.wrap (n_1 + (IntKind.i64.wrap (1 + ((((script.getD (Int.toNat i) yGlaw04Op.dflt).Parts).getD (Int.toNat j) []).length : Int))))))), (4, .lit (.int .i64 i)), (5, .lit (.int .i64 (IntKind.i64.wrap (j + 1))))] (hp [] S) 0 ?_ (fun k kp hk => ?_)
            ·cases h
             exact ⟨rfl, Less.refl _⟩
            ·try simp (maxSteps := 4000000) only [go_sem, Prod.mk.injEq, reduceIte, Nat.reduceEqDiff, Nat.reduceAdd, Nat.reduceSub, Nat.reduceMul, Nat.reduceDiv, Nat.reducePow, Nat.reduceLT, Nat.reduceLeDiff, Nat.reduceBEq, Nat.reduceBneDiff, Int.reduceToNat, Int.reduceEq, Int.reduceLE, Int.reduceLT, reduceCtorEq, hn1d, hm1d, hn2d, hm2d, hn2d1, hm2d1]
             repeat (with_reducible refine And.intro ?_ ?_; next => first | assumption | trivial | omega | decide | (constructor <;> first | assumption | omega) | (simp [Keep.ok, hp_cons_apply, hset_cons, hn1d, hm1d, hn2d, hm2d, hn2d1, hm2d1]; done))
             refine hk _ _ _ ?_
             refine xghost (D := []) ?_ ?_ ?_ ?_
             ·exact (.cons (Sub.of_eq rfl) (.cons (Sub.of_eq rfl) (.cons (Sub.of_eq rfl) (.cons (Sub.of_eq rfl) .nil))))
             ·exact HpW.refl
             ·exact (by intro p hp; cases hp)
             ·omega
           ·try simp (maxSteps := 4000000) only [go_sem, Prod.mk.injEq, reduceIte, Nat.reduceEqDiff, Nat.reduceAdd, Nat.reduceSub, Nat.reduceMul, Nat.reduceDiv, Nat.reducePow, Nat.reduceLT, Nat.reduceLeDiff, Nat.reduceBEq, Nat.reduceBneDiff, Int.reduceToNat, Int.reduceEq, Int.reduceLE, Int.reduceLT, reduceCtorEq, hn1d, hm1d, hn2d, hm2d, hn2d1, hm2d1]
            repeat (with_reducible refine And.intro ?_ ?_; next => first | assumption | trivial | omega | decide | (constructor <;> first | assumption | omega) | (simp [Keep.ok, hp_cons_apply, hset_cons, hn1d, hm1d, hn2d, hm2d, hn2d1, hm2d1]; done))
            refine hk _ _ _ ?_
            refine xghost (D := []) ?_ ?_ ?_ ?_
            ·exact (.cons (Sub.of_eq rfl) (.cons (Sub.of_eq rfl) (.cons (Sub.of_eq rfl) (.cons (Sub.of_eq rfl) .nil))))
            ·exact HpW.refl
            ·exact (by intro p hp; cases hp)
            ·omega
          ·rw [ite_f hc_1] at h
           obtain ⟨hq, hxe⟩ := mr_go h hx2
           clear h hx2
           subst hxe
           have h := hq
           clear hq
           refine LW_exitX (sl' := [(0, eS yGlaw04Op script), (3, .lit (.int .i64 n_1)), (4, .lit (.int .i64 i)), (5, .lit (.int .i64 j)), (27, .lit (.bool ((decide (j < (((script.getD (Int.toNat i) yGlaw04Op.dflt).Parts).length : Int))) && (decide (n_1 ≤ 100000)))))]) (S' := (hp [] S)) (c' := 0) ?_ ?_
           ·refine xghost (D := []) ?_ ?_ ?_ ?_
            ·exact (.cons (Sub.of_eq rfl) (.cons (Sub.of_eq rfl) (.cons (Sub.of_eq rfl) (.cons (Sub.of_eq rfl) (.cons (Sub.of_eq rfl) .nil)))))
            ·exact HpW.refl
            ·exact (by intro p hp; cases hp)
            ·omega
           ·show LW _ _ _ _ _ _ _ _
            obtain ⟨hg_3, h⟩ := gd_some h
            refine xreg [(0, eS yGlaw04Op script), (3, .lit (.int .i64 (IntKind.i64.wrap (n_1 + (((script.getD (Int.toNat i) yGlaw04Op.dflt).Areas).length : Int))))), (4, .lit (.int .i64 i))] (hp [] S) 0 ?_ (fun k kp hk => ?_)
            ·show LW _ _ _ _ _ _ _ _
             refine xreg [(0, eS yGlaw04Op script), (3, .lit (.int .i64 (IntKind.i64.wrap (n_1 + (((script.getD (Int.toNat i) yGlaw04Op.dflt).Areas).length : Int))))), (4, .lit (.int .i64 (IntKind.i64.wrap (i + 1))))] (hp [] S) 0 ?_ (fun k kp hk => ?_)
             ·cases h
              exact ⟨rfl, Less.refl _⟩
             ·try simp (maxSteps := 4000000) only [go_sem, Prod.mk.injEq, reduceIte, Nat.reduceEqDiff, Nat.reduceAdd, Nat.reduceSub, Nat.reduceMul, Nat.reduceDiv, Nat.reducePow, Nat.reduceLT, Nat.reduceLeDiff, Nat.reduceBEq, Nat.reduceBneDiff, Int.reduceToNat, Int.reduceEq, Int.reduceLE, Int.reduceLT, reduceCtorEq, hn1d, hm1d, hn2d, hm2d, hn2d1, hm2d1]
              repeat (with_reducible refine And.intro ?_ ?_; next => first | assumption | trivial | omega | decide | (constructor <;> first | assumption | omega) | (simp [Keep.ok, hp_cons_apply, hset_cons, hn1d, hm1d, hn2d, hm2d, hn2d1, hm2d1]; done))
              refine hk _ _ _ ?_
              refine xghost (D := []) ?_ ?_ ?_ ?_
              ·exact (.cons (Sub.of_eq rfl) (.cons (Sub.of_eq rfl) (.cons (Sub.of_eq rfl) .nil)))
              ·exact HpW.refl
              ·exact (by intro p hp; cases hp)
              ·omega
            ·try simp (maxSteps := 4000000) only [go_sem, Prod.mk.injEq, reduceIte, Nat.reduceEqDiff, Nat.reduceAdd, Nat.reduceSub, Nat.reduceMul, Nat.reduceDiv, Nat.reducePow, Nat.reduceLT, Nat.reduceLeDiff, Nat.reduceBEq, Nat.reduceBneDiff, Int.reduceToNat, Int.reduceEq, Int.reduceLE, Int.reduceLT, reduceCtorEq, hn1d, hm1d, hn2d, hm2d, hn2d1, hm2d1]
             repeat (with_reducible refine And.intro ?_ ?_; next => first | assumption | trivial | omega | decide | (constructor <;> first | assumption | omega) | (simp [Keep.ok, hp_cons_apply, hset_cons, hn1d, hm1d, hn2d, hm2d, hn2d1, hm2d1]; done))
             refine hk _ _ _ ?_
             refine xghost (D := []) ?_ ?_ ?_ ?_
             ·exact (.cons (Sub.of_eq rfl) (.cons (Sub.of_eq rfl) (.cons (Sub.of_eq rfl) .nil)))
             ·exact HpW.refl
             ·exact (by intro p hp; cases hp)
             ·omega
         ·try simp (maxSteps := 4000000) only [go_sem, Prod.mk.injEq, reduceIte, Nat.reduceEqDiff, Nat.reduceAdd, Nat.reduceSub, Nat.reduceMul, Nat.reduceDiv, Nat.reducePow, Nat.reduceLT, Nat.reduceLeDiff, Nat.reduceBEq, Nat.reduceBneDiff, Int.reduceToNat, Int.reduceEq, Int.reduceLE, Int.reduceLT, reduceCtorEq, hn1d, hm1d, hn2d, hm2d, hn2d1, hm2d1]
          repeat (with_reducible refine And.intro ?_ ?_; next => first | assumption | trivial | omega | decide | (constructor <;> first | assumption | omega) | (simp [Keep.ok, hp_cons_apply, hset_cons, hn1d, hm1d, hn2d, hm2d, hn2d1, hm2d1]; done))
          refine xo_guard (decide (j < (((script.getD (Int.toNat i) yGlaw04Op.dflt).Parts).length : Int))) rfl (fun hc_2 => ?_) (fun hc_2 => ?_)
          ·try simp (maxSteps := 4000000) only [go_sem, Prod.mk.injEq, reduceIte, Nat.reduceEqDiff, Nat.reduceAdd, Nat.reduceSub, Nat.reduceMul, Nat.reduceDiv, Nat.reducePow, Nat.reduceLT, Nat.reduceLeDiff, Nat.reduceBEq, Nat.reduceBneDiff, Int.reduceToNat, Int.reduceEq, Int.reduceLE, Int.reduceLT, reduceCtorEq, hn1d, hm1d, hn2d, hm2d, hn2d1, hm2d1, hc_2]
           repeat (with_reducible refine And.intro ?_ ?_; next => first | assumption | trivial | omega | decide | (constructor <;> first | assumption | omega) | (simp [Keep.ok, hp_cons_apply, hset_cons, hn1d, hm1d, hn2d, hm2d, hn2d1, hm2d1]; done))
           refine hk _ _ _ ?_
           refine xghost (D := []) ?_ ?_ ?_ ?_
           ·exact (.cons (Sub.of_eq rfl) (.cons (Sub.of_eq rfl) (.cons (Sub.of_eq rfl) (.cons (Sub.of_eq rfl) (.cons (Sub.of_eq (by first | rfl | (simp only [sget_cons, reduceIte, Nat.reduceEqDiff, Bool.and_true, Bool.true_and, Bool.and_false, Bool.false_and, Bool.or_true, Bool.true_or, Bool.or_false, Bool.false_or, Bool.not_true, Bool.not_false, Bool.not_not, hc_2]; done))) .nil)))))
           ·exact HpW.refl
           ·exact (by intro p hp; cases hp)
           ·omega
          ·try simp (maxSteps := 4000000) only [go_sem, Prod.mk.injEq, reduceIte, Nat.reduceEqDiff, Nat.reduceAdd, Nat.reduceSub, Nat.reduceMul, Nat.reduceDiv, Nat.reducePow, Nat.reduceLT, Nat.reduceLeDiff, Nat.reduceBEq, Nat.reduceBneDiff, Int.reduceToNat, Int.reduceEq, Int.reduceLE, Int.reduceLT, reduceCtorEq, hn1d, hm1d, hn2d, hm2d, hn2d1, hm2d1, hc_2]
           repeat (with_reducible refine And.intro ?_ ?_; next => first | assumption | trivial | omega | decide | (constructor <;> first | assumption | omega) | (simp [Keep.ok, hp_cons_apply, hset_cons, hn1d, hm1d, hn2d, hm2d, hn2d1, hm2d1]; done))
           refine hk _ _ _ ?_
           refine xghost (D := []) ?_ ?_ ?_ ?_
           ·exact (.cons (Sub.of_eq rfl) (.cons (Sub.of_eq rfl) (.cons (Sub.of_eq rfl) (.cons (Sub.of_eq rfl) (.cons (Sub.of_eq (by first | rfl | (simp only [sget_cons, reduceIte, Nat.reduceEqDiff, Bool.and_true, Bool.true_and, Bool.and_false, Bool.false_and, Bool.or_true, Bool.true_or, Bool.or_false, Bool.false_or, Bool.not_true, Bool.not_false, Bool.not_not, hc_2]; done))) .nil)))))
           ·exact HpW.refl
           ·exact (by intro p hp; cases hp)
           ·omega
        ·refine xghost (D := []) ?_ ?_ ?_ ?_
         ·exact (.cons (Sub.of_eq rfl) (.cons (Sub.of_eq rfl) (.cons (Sub.of_eq rfl) (.cons (Sub.of_eq rfl) .nil))))
         ·exact HpW.refl
         ·exact (by intro p hp; cases hp)
         ·omega
       ·try simp (maxSteps := 4000000) only [go_sem, Prod.mk.injEq, reduceIte, Nat.reduceEqDiff, Nat.reduceAdd, Nat.reduceSub, Nat.reduceMul, Nat.reduceDiv, Nat.reducePow, Nat.reduceLT, Nat.reduceLeDiff, Nat.reduceBEq, Nat.reduceBneDiff, Int.reduceToNat, Int.reduceEq, Int.reduceLE, Int.reduceLT, reduceCtorEq, hn1d, hm1d]
        repeat (with_reducible refine And.intro ?_ ?_; next => first | assumption | trivial | omega | decide | (constructor <;> first | assumption | omega) | (simp [Keep.ok, hp_cons_apply, hset_cons, hn1d, hm1d]; done))
        refine hk _ _ _ ?_
        refine xghost (D := []) ?_ ?_ ?_ ?_
        ·exact (.cons (Sub.of_eq rfl) (.cons (Sub.of_eq rfl) (.cons (Sub.of_eq rfl) (.cons (Sub.of_eq rfl) .nil))))
        ·exact HpW.refl
        ·exact (by intro p hp; cases hp)
        ·omega
      ·rw [ite_f hc] at h
       obtain ⟨hq, hxe⟩ := mr_go h hx1
       clear h hx1
       subst hxe
       have h := hq
       clear hq
       refine LW_exitX (sl' := [(0, eS yGlaw04Op script), (3, .lit (.int .i64 n)), (4, .lit (.int .i64 i)), (13, .lit (.bool ((decide (i < (script.length : Int))) && (decide (n ≤ 100000)))))]) (S' := (hp [] S)) (c' := 0) ?_ ?_
       ·refine xghost (D := []) ?_ ?_ ?_ ?_
        ·exact (.cons (Sub.of_eq rfl) (.cons (Sub.of_eq rfl) (.cons (Sub.of_eq rfl) (.cons (Sub.of_eq rfl) .nil))))
        ·exact HpW.refl
        ·exact (by intro p hp; cases hp)
        ·omega
       ·show LW _ _ _ _ _ _ _ _
        refine xseq [(2, .lit (.bool (decide (5000 < n))))] (hp [] S) 0 ?_ (fun k kp hk => ?_)
        ·refine LW_ret ?_
         obtain rfl := Option.some.inj h
         show FPost _ _ _ _ _ _ _
         exact ⟨_, hp_less (L := []) (D := []) (by intro p hp; cases hp), rfl, rfl⟩
        ·try simp (maxSteps := 4000000) only [go_sem, Prod.mk.injEq, reduceIte, Nat.reduceEqDiff, Nat.reduceAdd, Nat.reduceSub, Nat.reduceMul, Nat.reduceDiv, Nat.reducePow, Nat.reduceLT, Nat.reduceLeDiff, Nat.reduceBEq, Nat.reduceBneDiff, Int.reduceToNat, Int.reduceEq, Int.reduceLE, Int.reduceLT, reduceCtorEq, hn1d, hm1d]
         repeat (with_reducible refine And.intro ?_ ?_; next => first | assumption | trivial | omega | decide | (constructor <;> first | assumption | omega) | (simp [Keep.ok, hp_cons_apply, hset_cons, hn1d, hm1d]; done))
         refine hk _ _ _ ?_
         refine xghost (D := []) ?_ ?_ ?_ ?_
         ·exact (.cons (Sub.of_eq rfl) .nil)
         ·exact HpW.refl
         ·exact (by intro p hp; cases hp)
         ·omega
     ·try simp (maxSteps := 4000000) only [go_sem, Prod.mk.injEq, reduceIte, Nat.reduceEqDiff, Nat.reduceAdd, Nat.reduceSub, Nat.reduceMul, Nat.reduceDiv, Nat.reducePow, Nat.reduceLT, Nat.reduceLeDiff, Nat.reduceBEq, Nat.reduceBneDiff, Int.reduceToNat, Int.reduceEq, Int.reduceLE, Int.reduceLT, reduceCtorEq, hn1d, hm1d]
      repeat (with_reducible refine And.intro ?_ ?_; next => first | assumption | trivial | omega | decide | (constructor <;> first | assumption | omega) | (simp [Keep.ok, hp_cons_apply, hset_cons, hn1d, hm1d]; done))
      refine xo_guard (decide (i < (script.length : Int))) rfl (fun hc_3 => ?_) (fun hc_3 => ?_)
      ·try simp (maxSteps := 4000000) only [go_sem, Prod.mk.injEq, reduceIte, Nat.reduceEqDiff, Nat.reduceAdd, Nat.reduceSub, Nat.reduceMul, Nat.reduceDiv, Nat.reducePow, Nat.reduceLT, Nat.reduceLeDiff, Nat.reduceBEq, Nat.reduceBneDiff, Int.reduceToNat, Int.reduceEq, Int.reduceLE, Int.reduceLT, reduceCtorEq, hn1d, hm1d, hc_3]
       repeat (with_reducible refine And.intro ?_ ?_; next => first | assumption | trivial | omega | decide | (constructor <;> first | assumption | omega) | (simp [Keep.ok, hp_cons_apply, hset_cons, hn1d, hm1d]; done))
       refine hk _ _ _ ?_
       refine xghost (D := []) ?_ ?_ ?_ ?_
       ·exact (.cons (Sub.of_eq rfl) (.cons (Sub.of_eq rfl) (.cons (Sub.of_eq rfl) (.cons (Sub.of_eq (by first | rfl | (simp only [sget_cons, reduceIte, Nat.reduceEqDiff, Bool.and_true, Bool.true_and, Bool.and_false, Bool.false_and, Bool.or_true, Bool.true_or, Bool.or_false, Bool.false_or, Bool.not_true, Bool.not_false, Bool.not_not, hc_3]; done))) .nil))))
       ·exact HpW.refl
       ·exact (by intro p hp; cases hp)
       ·omega
      ·try simp (maxSteps := 4000000) only [go_sem, Prod.mk.injEq, reduceIte, Nat.reduceEqDiff, Nat.reduceAdd, Nat.reduceSub, Nat.reduceMul, Nat.reduceDiv, Nat.reducePow, Nat.reduceLT, Nat.reduceLeDiff, Nat.reduceBEq, Nat.reduceBneDiff, Int.reduceToNat, Int.reduceEq, Int.reduceLE, Int.reduceLT, reduceCtorEq, hn1d, hm1d, hc_3]
       repeat (with_reducible refine And.intro ?_ ?_; next => first | assumption | trivial | omega | decide | (constructor <;> first | assumption | omega) | (simp [Keep.ok, hp_cons_apply, hset_cons, hn1d, hm1d]; done))
       refine hk _ _ _ ?_
       refine xghost (D := []) ?_ ?_ ?_ ?_
       ·exact (.cons (Sub.of_eq rfl) (.cons (Sub.of_eq rfl) (.cons (Sub.of_eq rfl) (.cons (Sub.of_eq (by first | rfl | (simp only [sget_cons, reduceIte, Nat.reduceEqDiff, Bool.and_true, Bool.true_and, Bool.and_false, Bool.false_and, Bool.or_true, Bool.true_or, Bool.or_false, Bool.false_or, Bool.not_true, Bool.not_false, Bool.not_not, hc_3]; done))) .nil))))
       ·exact HpW.refl
       ·exact (by intro p hp; cases hp)
       ·omega
    ·refine xghost (D := []) ?_ ?_ ?_ ?_
     ·exact (.cons (Sub.of_eq rfl) (.cons (Sub.of_eq rfl) (.cons (Sub.of_eq rfl) .nil)))
     ·exact HpW.refl
     ·exact (by intro p hp; cases hp)
     ·omega
   ·try simp (maxSteps := 4000000) only [go_sem, Prod.mk.injEq, reduceIte, Nat.reduceEqDiff, Nat.reduceAdd, Nat.reduceSub, Nat.reduceMul, Nat.reduceDiv, Nat.reducePow, Nat.reduceLT, Nat.reduceLeDiff, Nat.reduceBEq, Nat.reduceBneDiff, Int.reduceToNat, Int.reduceEq, Int.reduceLE, Int.reduceLT, reduceCtorEq]
    repeat (with_reducible refine And.intro ?_ ?_; next => first | assumption | trivial | omega | decide | (constructor <;> first | assumption | omega) | (simp [Keep.ok, hp_cons_apply, hset_cons]; done))
    refine hk _ _ _ ?_
    refine xghost (D := []) ?_ ?_ ?_ ?_
    ·exact (.cons (Sub.of_eq rfl) (.cons (Sub.of_eq rfl) (.cons (Sub.of_eq rfl) .nil)))
    ·exact HpW.refl
    ·exact (by intro p hp; cases hp)
    ·omega
  ·try simp (maxSteps := 4000000) only [go_sem, Prod.mk.injEq, reduceIte, Nat.reduceEqDiff, Nat.reduceAdd, Nat.reduceSub, Nat.reduceMul, Nat.reduceDiv, Nat.reducePow, Nat.reduceLT, Nat.reduceLeDiff, Nat.reduceBEq, Nat.reduceBneDiff, Int.reduceToNat, Int.reduceEq, Int.reduceLE, Int.reduceLT, reduceCtorEq]
   repeat (with_reducible refine And.intro ?_ ?_; next => first | assumption | trivial | omega | decide | (constructor <;> first | assumption | omega) | (simp [Keep.ok, hp_cons_apply, hset_cons]; done))
   refine hk _ _ _ ?_
   refine xghost (D := []) ?_ ?_ ?_ ?_
   ·exact (.cons (Sub.of_eq rfl) (.cons (Sub.of_eq rfl) .nil))
   ·exact HpW.refl
   ·exact (by intro p hp; cases hp)
   ·omega
 ·try simp (maxSteps := 4000000) only [go_sem, Prod.mk.injEq, reduceIte, Nat.reduceEqDiff, Nat.reduceAdd, Nat.reduceSub, Nat.reduceMul, Nat.reduceDiv, Nat.reducePow, Nat.reduceLT, Nat.reduceLeDiff, Nat.reduceBEq, Nat.reduceBneDiff, Int.reduceToNat, Int.reduceEq, Int.reduceLE, Int.reduceLT, reduceCtorEq]
  repeat (with_reducible refine And.intro ?_ ?_; next => first | assumption | trivial | omega | decide | (constructor <;> first | assumption | omega) | (simp [Keep.ok, hp_cons_apply, hset_cons]; done))
  refine hk _ _ _ ?_
  refine xghost (D := []) ?_ ?_ ?_ ?_
  ·exact (.cons (Sub.of_eq rfl) .nil)
  ·exact HpW.refl
  ·exact (by intro p hp; cases hp)
  ·omega
/-! stanchion/stanchionref00.CopyInts -/
def s_stanchionref00_CopyInts (s : List Int) : Option (List Int) :=
 gd (((0 + s.length) * 8 ≤ 140737488355328 ∧ 0 + s.length < 9223372036854775808)) (some s)
theorem s_stanchionref00_CopyInts_ok (S : AHeap) (s : List Int) {r : List Int} (h : s_stanchionref00_CopyInts s = some r) :
  AC Try.prog n_stanchionref00_CopyInts [eS (lI .i64) s] S fun r' S' => r' = .ret (eS (lI .i64) r) ∧ S' = S := by
 refine AC_of tok mixed fits_stanchionref00_CopyInts fun d hd => ?_
 unfold c_stanchionref00_CopyInts
 show LW _ _ _ _ [(0, eS (lI .i64) s)] (hp [] S) 0 _
 rw [s_stanchionref00_CopyInts] at h
 refine xseq [(0, eS (lI .i64) s)] (hp [] S) 0 ?_ (fun k kp hk => ?_)
 ·refine xseq [(0, eS (lI .i64) s), (3, eT (lI .i64) (d, 0) [])] (hp [((d, 0), oT (lI .i64) [])] S) 1 ?_ (fun k kp hk => ?_)
  ·obtain ⟨hg, h⟩ := gd_some h
   refine xseq [(3, eT (lI .i64) (d, 0) s)] (hp [((d, 0), oT (lI .i64) s)] S) 1 ?_ (fun k kp hk => ?_)
   ·refine xseq [(2, eS (lI .i64) s)] (hp [((d, 0), oT (lI .i64) s)] S) 1 ?_ (fun k kp hk => ?_)
    ·refine LW_ret ?_
     obtain rfl := Option.some.inj h
     show FPost _ _ _ _ _ _ _
     exact ⟨_, hp_less (L := []) (D := [((d, 0), oT (lI .i64) s)]) (by intro p hp; simp only [List.mem_cons, List.not_mem_nil, or_false] at hp; rcases hp with rfl <;> first | exact hd _ (Nat.le_refl _)), rfl, rfl⟩
    ·try simp (maxSteps := 4000000) only [go_sem, Prod.mk.injEq, reduceIte, Nat.reduceEqDiff, Nat.reduceAdd, Nat.reduceSub, Nat.reduceMul, Nat.reduceDiv, Nat.reducePow, Nat.reduceLT, Nat.reduceLeDiff, Nat.reduceBEq, Nat.reduceBneDiff, Int.reduceToNat, Int.reduceEq, Int.reduceLE, Int.reduceLT, reduceCtorEq]
     repeat (with_reducible refine And.intro ?_ ?_; next => first | assumption | trivial | omega | decide | (constructor <;> first | assumption | omega) | (simp [Keep.ok, hp_cons_apply, hset_cons]; done))
     refine hk _ _ _ ?_
     refine xghost (D := []) ?_ ?_ ?_ ?_
     ·exact (.cons Sub.tip .nil)
     ·exact HpW.refl
     ·exact (by intro p hp; cases hp)
     ·omega
   ·try simp (maxSteps := 4000000) only [go_sem, Prod.mk.injEq, reduceIte, Nat.reduceEqDiff, Nat.reduceAdd, Nat.reduceSub, Nat.reduceMul, Nat.reduceDiv, Nat.reducePow, Nat.reduceLT, Nat.reduceLeDiff, Nat.reduceBEq, Nat.reduceBneDiff, Int.reduceToNat, Int.reduceEq, Int.reduceLE, Int.reduceLT, reduceCtorEq]
    repeat (with_reducible refine And.intro ?_ ?_; next => first | assumption | trivial | omega | decide | (constructor <;> first | assumption | omega) | (simp [Keep.ok, hp_cons_apply, hset_cons]; done))
    refine append1_eT (L := (lI .i64)) (n := (d, 0)) (xs := []) (ys := s) T30 T30 T3 ?_ rfl ?_ asrc_eS ?_ rfl ?_ ?_
    ·first | exact .inl rfl | exact .inr rfl
    ·try simp (maxSteps := 4000000) only [go_sem, Prod.mk.injEq, reduceIte, Nat.reduceEqDiff, Nat.reduceAdd, Nat.reduceSub, Nat.reduceMul, Nat.reduceDiv, Nat.reducePow, Nat.reduceLT, Nat.reduceLeDiff, Nat.reduceBEq, Nat.reduceBneDiff, Int.reduceToNat, Int.reduceEq, Int.reduceLE, Int.reduceLT, reduceCtorEq]
    ·exact ⟨trivial, rfl⟩
    ·dsimp only [List.length]; omega
    try simp (maxSteps := 4000000) only [go_sem, Prod.mk.injEq, reduceIte, Nat.reduceEqDiff, Nat.reduceAdd, Nat.reduceSub, Nat.reduceMul, Nat.reduceDiv, Nat.reducePow, Nat.reduceLT, Nat.reduceLeDiff, Nat.reduceBEq, Nat.reduceBneDiff, Int.reduceToNat, Int.reduceEq, Int.reduceLE, Int.reduceLT, reduceCtorEq]
    repeat (with_reducible refine And.intro ?_ ?_; next => first | assumption | trivial | omega | decide | (constructor <;> first | assumption | omega) | (simp [Keep.ok, hp_cons_apply, hset_cons]; done))
    refine hk _ _ _ ?_
    refine xghost (D := []) ?_ ?_ ?_ ?_
    ·exact (.cons (Sub.of_eq rfl) .nil)
    ·exact HpW.refl
    ·exact (by intro p hp; cases hp)
    ·omega
  ·try simp (maxSteps := 4000000) only [go_sem, Prod.mk.injEq, reduceIte, Nat.reduceEqDiff, Nat.reduceAdd, Nat.reduceSub, Nat.reduceMul, Nat.reduceDiv, Nat.reducePow, Nat.reduceLT, Nat.reduceLeDiff, Nat.reduceBEq, Nat.reduceBneDiff, Int.reduceToNat, Int.reduceEq, Int.reduceLE, Int.reduceLT, reduceCtorEq]
   repeat (with_reducible refine And.intro ?_ ?_; next => first | assumption | trivial | omega | decide | (constructor <;> first | assumption | omega) | (simp [Keep.ok, hp_cons_apply, hset_cons]; done))
   refine hk _ _ _ ?_
   refine Ghost.trans (xname (lI .i64) 3 Sub.refl) ?_
   try simp (maxSteps := 4000000) only [go_sem, Prod.mk.injEq, reduceIte, Nat.reduceEqDiff, Nat.reduceAdd, Nat.reduceSub, Nat.reduceMul, Nat.reduceDiv, Nat.reducePow, Nat.reduceLT, Nat.reduceLeDiff, Nat.reduceBEq, Nat.reduceBneDiff, Int.reduceToNat, Int.reduceEq, Int.reduceLE, Int.reduceLT, reduceCtorEq]
   refine xghost (D := []) ?_ ?_ ?_ ?_
   ·exact (.cons (Sub.of_eq rfl) (.cons (Sub.of_eq rfl) .nil))
   ·exact HpW.refl
   ·exact (by intro p hp; cases hp)
   ·omega
 ·try simp (maxSteps := 4000000) only [go_sem, Prod.mk.injEq, reduceIte, Nat.reduceEqDiff, Nat.reduceAdd, Nat.reduceSub, Nat.reduceMul, Nat.reduceDiv, Nat.reducePow, Nat.reduceLT, Nat.reduceLeDiff, Nat.reduceBEq, Nat.reduceBneDiff, Int.reduceToNat, Int.reduceEq, Int.reduceLE, Int.reduceLT, reduceCtorEq]
  repeat (with_reducible refine And.intro ?_ ?_; next => first | assumption | trivial | omega | decide | (constructor <;> first | assumption | omega) | (simp [Keep.ok, hp_cons_apply, hset_cons]; done))
  refine hk _ _ _ ?_
  refine xghost (D := []) ?_ ?_ ?_ ?_
  ·exact (.cons (Sub.of_eq rfl) .nil)
  ·exact HpW.refl
  ·exact (by intro p hp; cases hp)
  ·omega
/-! (*stanchion/disk.Disk).Trim -/
def s_disk_Disk_Trim_j2 (v_6 : Int × GdiskDisk) (m : List Int) (m_1 : Int) (m_2 : List Int) (m_3 : Int) : Option (Int × GdiskDisk) :=
 some (v_6.1, (GdiskDisk.mk v_6.2.power (Ar2.mk (Gdiskarea.mk m m_1) (Gdiskarea.mk m_2 m_3))))
def s_disk_Disk_Trim_j1 (dx : GdiskDisk) (size : Int) (n_1 : Int) (t28 : Bool) : Option (Int × GdiskDisk) :=
 bd (s_disk_Disk_draw dx) fun (v_6 : Int × GdiskDisk) => if (v_6.1 == 0) = true then if n_1 = 0 then gd ((0 ≤ 0 ∧ 0 ≤ size ∧ Int.toNat size ≤ v_6.2.areas.x0.data.length)) (s_disk_Disk_Trim_j2 v_6 (v_6.2.areas.x0.data.take (Int.toNat size)) (if size < v_6.2.areas.x0.safe then size else v_6.2.areas.x0.safe) v_6.2.areas.x1.data v_6.2.areas.x1.safe) else if n_1 = 1 then gd ((0 ≤ 0 ∧ 0 ≤ size ∧ Int.toNat size ≤ v_6.2.areas.x1.data.length)) (s_disk_Disk_Trim_j2 v_6 v_6.2.areas.x0.data v_6.2.areas.x0.safe (v_6.2.areas.x1.data.take (Int.toNat size)) (if size < v_6.2.areas.x1.safe then size else v_6.2.areas.x1.safe)) else none else s_disk_Disk_Trim_j2 v_6 v_6.2.areas.x0.data v_6.2.areas.x0.safe v_6.2.areas.x1.data v_6.2.areas.x1.safe
def s_disk_Disk_Trim (dx : GdiskDisk) (n : Int) (size : Int) : Option (Int × GdiskDisk) :=
 if n = 0 then bd (s_disk_there ([0])) fun (v_5 : Bool) => if (((!v_5) || (decide (size < 0))) || (decide ((dx.areas.x0.data.length : Int) < size))) = true then some (41, dx) else s_disk_Disk_Trim_j1 dx size 0 (((!v_5) || (decide (size < 0))) || (decide ((dx.areas.x0.data.length : Int) < size))) else if n = 1 then bd (s_disk_there ([1])) fun (v_3 : Bool) => if (((!v_3) || (decide (size < 0))) || (decide ((dx.areas.x1.data.length : Int) < size))) = true then some (41, dx) else s_disk_Disk_Trim_j1 dx size 1 (((!v_3) || (decide (size < 0))) || (decide ((dx.areas.x1.data.length : Int) < size))) else bd (s_disk_there ([n])) fun (v_1 : Bool) => gd ((!((!v_1) || (decide (size < 0)))) = true → False) (if (((!v_1) || (decide (size < 0))) || true) = true then some (41, dx) else s_disk_Disk_Trim_j1 dx size n (((!v_1) || (decide (size < 0))) || true))
theorem s_disk_Disk_Trim_ok (S : AHeap) {n0 : Name} (dx : GdiskDisk) (n : Int) (size : Int) {r : Int × GdiskDisk} (hS0 : S n0 = some (oGdiskDisk dx)) (h : s_disk_Disk_Trim dx n size = some r) :
  AC Try.prog n_disk_Disk_Trim [.ptr n0 0, .lit (.int .i64 n), .lit (.int .i64 size)] S fun r' S' => r' = .ret (.lit (.int .i64 r.1)) ∧ S' = S.set n0 (oGdiskDisk r.2) := by
 refine AC_of tok mixed fits_disk_Disk_Trim fun d hd => ?_
 unfold c_disk_Disk_Trim
 show LW _ _ _ _ [(0, .ptr n0 0), (1, .lit (.int .i64 n)), (2, .lit (.int .i64 size))] S 0 _
 refine LW_heap (hp_in hS0) ?_
 have hl_n0 : n0.1 < d := lt_of_hd hd hS0
 have hq_n0 : ∀ k, (n0 = (d, k)) = False := fun k => ne_deep hl_n0
 have hr_n0 : ∀ k, ((d, k) = n0) = False := fun k => ne_deep' hl_n0
 show LW _ _ _ _ [(0, .ptr n0 0), (1, .lit (.int .i64 n)), (2, .lit (.int .i64 size))] (hp [(n0, .box [.lit (.int .i64 dx.power), eO (lI .u8) dx.areas.x0.data, .lit (.int .i64 dx.areas.x0.safe), eO (lI .u8) dx.areas.x1.data, .lit (.int .i64 dx.areas.x1.safe)])] S) 0 _
 rw [s_disk_Disk_Trim] at h
 refine xseq [(0, .ptr n0 0), (1, .lit (.int .i64 n)), (2, .lit (.int .i64 size))] (hp [(n0, .box [.lit (.int .i64 dx.power), eO (lI .u8) dx.areas.x0.data, .lit (.int .i64 dx.areas.x0.safe), eO (lI .u8) dx.areas.x1.data, .lit (.int .i64 dx.areas.x1.safe)])] S) 0 ?_ (fun k kp hk => ?_)
 ·refine xjoin (J := Int × Bool) (fun jj => [(0, .ptr n0 0), (1, .lit (.int .i64 jj.1)), (2, .lit (.int .i64 size)), (28, .lit (.bool jj.2))]) (fun jj => (hp [(n0, .box [.lit (.int .i64 dx.power), eO (lI .u8) dx.areas.x0.data, .lit (.int .i64 dx.areas.x0.safe), eO (lI .u8) dx.areas.x1.data, .lit (.int .i64 dx.areas.x1.safe)])] S)) 1 (fun jj => s_disk_Disk_Trim_j1 dx size jj.1 jj.2 = some r) ?_ (fun hj_1 => ?_)
  ·rintro ⟨n_1, t28⟩ h
   show LW _ _ _ _ [(0, .ptr n0 0), (1, .lit (.int .i64 n_1)), (2, .lit (.int .i64 size)), (28, .lit (.bool t28))] (hp [(n0, .box [.lit (.int .i64 dx.power), eO (lI .u8) dx.areas.x0.data, .lit (.int .i64 dx.areas.x0.safe), eO (lI .u8) dx.areas.x1.data, .lit (.int .i64 dx.areas.x1.safe)])] S) 1 _
   replace h : s_disk_Disk_Trim_j1 dx size n_1 t28 = some r := h
   rw [s_disk_Disk_Trim_j1] at h
   obtain ⟨v_6, hv_6, h⟩ := bd_some h
   refine xseq [(0, .ptr n0 0), (1, .lit (.int .i64 n_1)), (2, .lit (.int .i64 size)), (7, .lit (.int .i64 v_6.1))] (hp [(n0, .box [.lit (.int .i64 v_6.2.power), eO (lI .u8) v_6.2.areas.x0.data, .lit (.int .i64 v_6.2.areas.x0.safe), eO (lI .u8) v_6.2.areas.x1.data, .lit (.int .i64 v_6.2.areas.x1.safe)])] S) 1 ?_ (fun k kp hk => ?_)
   ·refine xjoin (J := List Int × Int × List Int × Int) (fun jj => [(7, .lit (.int .i64 v_6.1))]) (fun jj => (hp [(n0, .box [.lit (.int .i64 v_6.2.power), eO (lI .u8) jj.1, .lit (.int .i64 jj.2.1), eO (lI .u8) jj.2.2.1, .lit (.int .i64 jj.2.2.2)])] S)) 2 (fun jj => s_disk_Disk_Trim_j2 v_6 jj.1 jj.2.1 jj.2.2.1 jj.2.2.2 = some r) ?_ (fun hj => ?_)
    ·rintro ⟨m, m_1, m_2, m_3⟩ h
     show LW _ _ _ _ [(7, .lit (.int .i64 v_6.1))] (hp [(n0, .box [.lit (.int .i64 v_6.2.power), eO (lI .u8) m, .lit (.int .i64 m_1), eO (lI .u8) m_2, .lit (.int .i64 m_3)])] S) 2 _
     replace h : s_disk_Disk_Trim_j2 v_6 m m_1 m_2 m_3 = some r := h
     rw [s_disk_Disk_Trim_j2] at h
     refine xseq [(6, .lit (.int .i64 v_6.1))] (hp [(n0, .box [.lit (.int .i64 v_6.2.power), eO (lI .u8) m, .lit (.int .i64 m_1), eO (lI .u8) m_2, .lit (.int .i64 m_3)])] S) 2 ?_ (fun k kp hk => ?_)
     ·refine LW_ret ?_
      obtain rfl := Option.some.inj h
      show FPost _ _ _ _ _ _ _
      exact ⟨_, hp_less (L := [(n0, .box [.lit (.int .i64 v_6.2.power), eO (lI .u8) m, .lit (.int .i64 m_1), eO (lI .u8) m_2, .lit (.int .i64 m_3)])]) (D := []) (by intro p hp; cases hp), rfl, rfl⟩
     ·try simp (maxSteps := 4000000) only [go_sem, Prod.mk.injEq, reduceIte, Nat.reduceEqDiff, Nat.reduceAdd, Nat.reduceSub, Nat.reduceMul, Nat.reduceDiv, Nat.reducePow, Nat.reduceLT, Nat.reduceLeDiff, Nat.reduceBEq, Nat.reduceBneDiff, Int.reduceToNat, Int.reduceEq, Int.reduceLE, Int.reduceLT, reduceCtorEq, oGdiskDisk, hq_n0, hr_n0]
      repeat (with_reducible refine And.intro ?_ ?_; next => first | assumption | trivial | omega | decide | (constructor <;> first | assumption | omega) | (simp [Keep.ok, hp_cons_apply, hset_cons, oGdiskDisk, hq_n0, hr_n0]; done))
      refine hk _ _ _ ?_
      refine xghost (D := []) ?_ ?_ ?_ ?_
      ·exact (.cons (Sub.of_eq rfl) .nil)
      ·exact HpW.refl
      ·exact (by intro p hp; cases hp)
      ·omega
    ·refine xseq [(0, .ptr n0 0), (1, .lit (.int .i64 n_1)), (2, .lit (.int .i64 size)), (7, .lit (.int .i64 v_6.1)), (32, .lit (.bool (v_6.1 == 0)))] (hp [(n0, .box [.lit (.int .i64 v_6.2.power), eO (lI .u8) v_6.2.areas.x0.data, .lit (.int .i64 v_6.2.areas.x0.safe), eO (lI .u8) v_6.2.areas.x1.data, .lit (.int .i64 v_6.2.areas.x1.safe)])] S) 1 ?_ (fun k kp hk => ?_)
     ·refine xcond (v_6.1 == 0) rfl (fun hc_9 => ?_) (fun hc_9 => ?_)
      ·rw [ite_t hc_9] at h
       by_cases hs_3 : n_1 = 0
       ·subst hs_3
        rw [if_pos rfl] at h
        refine xseq [(2, .lit (.int .i64 size)), (7, .lit (.int .i64 v_6.1)), (8, .ptr n0 1)] (hp [(n0, .box [.lit (.int .i64 v_6.2.power), eO (lI .u8) v_6.2.areas.x0.data, .lit (.int .i64 v_6.2.areas.x0.safe), eO (lI .u8) v_6.2.areas.x1.data, .lit (.int .i64 v_6.2.areas.x1.safe)])] S) 1 ?_ (fun k kp hk => ?_)
        ·refine LW_gh (Ghost.openX (L := (lI .u8)) (xs := v_6.2.areas.x0.data) (n := n0) (i := 1) (cs := [.lit (.int .i64 v_6.2.power), eO (lI .u8) v_6.2.areas.x0.data, .lit (.int .i64 v_6.2.areas.x0.safe), eO (lI .u8) v_6.2.areas.x1.data, .lit (.int .i64 v_6.2.areas.x1.safe)]) (A' := [(n0, .box [.lit (.int .i64 v_6.2.power), eB (lI .u8) (d, 1) v_6.2.areas.x0.data, .lit (.int .i64 v_6.2.areas.x0.safe), eO (lI .u8) v_6.2.areas.x1.data, .lit (.int .i64 v_6.2.areas.x1.safe)]), ((d, 1), oT (lI .u8) v_6.2.areas.x0.data)]) (by simp only [hp_cons_apply, hp_nil_apply, reduceIte, Prod.mk.injEq, Nat.reduceEqDiff, and_true, and_false, true_and, false_and, oGdiskDisk, hq_n0, hr_n0] <;> rfl) rfl (by simp only [hset_cons, hset_nil, hrem_cons, hrem_nil, List.set_cons_zero, List.set_cons_succ, reduceIte, Prod.mk.injEq, Nat.reduceEqDiff, and_true, and_false, true_and, false_and, oGdiskDisk, hq_n0, hr_n0])) ?_
         obtain ⟨hg_2, h⟩ := gd_some h
         refine xregd [(7, .lit (.int .i64 v_6.1))] (hp [(n0, .box [.lit (.int .i64 v_6.2.power), eO (lI .u8) (v_6.2.areas.x0.data.take (Int.toNat size)), .lit (.int .i64 (if size < v_6.2.areas.x0.safe then size else v_6.2.areas.x0.safe)), eO (lI .u8) v_6.2.areas.x1.data, .lit (.int .i64 v_6.2.areas.x1.safe)])] S) 2 ?_ (fun k kp hk => ?_)
         ·exact hj ((v_6.2.areas.x0.data.take (Int.toNat size)), (if size < v_6.2.areas.x0.safe then size else v_6.2.areas.x0.safe), v_6.2.areas.x1.data, v_6.2.areas.x1.safe) h
         ·try simp (maxSteps := 4000000) only [go_sem, Prod.mk.injEq, reduceIte, Nat.reduceEqDiff, Nat.reduceAdd, Nat.reduceSub, Nat.reduceMul, Nat.reduceDiv, Nat.reducePow, Nat.reduceLT, Nat.reduceLeDiff, Nat.reduceBEq, Nat.reduceBneDiff, Int.reduceToNat, Int.reduceEq, Int.reduceLE, Int.reduceLT, reduceCtorEq, oGdiskDisk, hq_n0, hr_n0]
          repeat (with_reducible refine And.intro ?_ ?_; next => first | assumption | trivial | omega | decide | (constructor <;> first | assumption | omega) | (simp [Keep.ok, hp_cons_apply, hset_cons, oGdiskDisk, hq_n0, hr_n0]; done))
          refine hk _ _ _ ?_
          refine Ghost.trans (Ghost.closeSubX (L := (lI .u8)) (xs := v_6.2.areas.x0.data) (n := n0) (m := (d, 1)) (i := 1) (h := Int.toNat size) (j := 43) (cs := [.lit (.int .i64 v_6.2.power), eW (lI .u8) ((Own.buf (d, 1) (v_6.2.areas.x0.data.length * ((lI .u8)).sz)).sub 0 (Int.toNat size * ((lI .u8)).sz) (flat (lI .u8) v_6.2.areas.x0.data).length) (v_6.2.areas.x0.data.take (Int.toNat size)), .lit (.int .i64 (if size < v_6.2.areas.x0.safe then size else v_6.2.areas.x0.safe)), eO (lI .u8) v_6.2.areas.x1.data, .lit (.int .i64 v_6.2.areas.x1.safe)]) (A' := [(n0, .box [.lit (.int .i64 v_6.2.power), eO (lI .u8) (v_6.2.areas.x0.data.take (Int.toNat size)), .lit (.int .i64 (if size < v_6.2.areas.x0.safe then size else v_6.2.areas.x0.safe)), eO (lI .u8) v_6.2.areas.x1.data, .lit (.int .i64 v_6.2.areas.x1.safe)])]) (by simp only [hp_cons_apply, hp_nil_apply, reduceIte, Prod.mk.injEq, Nat.reduceEqDiff, and_true, and_false, true_and, false_and, oGdiskDisk, hq_n0, hr_n0] <;> rfl) (by omega) rfl (by simp only [hp_cons_apply, hp_nil_apply, reduceIte, Prod.mk.injEq, Nat.reduceEqDiff, and_true, and_false, true_and, false_and, oGdiskDisk, hq_n0, hr_n0] <;> rfl) (hd _ (Nat.le_refl _)) (by simp only [sget_cons, reduceIte, Nat.reduceEqDiff]) (by simp only [hset_cons, hset_nil, hrem_cons, hrem_nil, List.set_cons_zero, List.set_cons_succ, reduceIte, Prod.mk.injEq, Nat.reduceEqDiff, and_true, and_false, true_and, false_and, oGdiskDisk, hq_n0, hr_n0])) ?_
          refine xghost (D := []) ?_ ?_ ?_ ?_
          ·exact (.cons (Sub.of_eq rfl) .nil)
          ·exact HpW.refl
          ·exact (by intro p hp; cases hp)
          ·omega
        ·try simp (maxSteps := 4000000) only [go_sem, Prod.mk.injEq, reduceIte, Nat.reduceEqDiff, Nat.reduceAdd, Nat.reduceSub, Nat.reduceMul, Nat.reduceDiv, Nat.reducePow, Nat.reduceLT, Nat.reduceLeDiff, Nat.reduceBEq, Nat.reduceBneDiff, Int.reduceToNat, Int.reduceEq, Int.reduceLE, Int.reduceLT, reduceCtorEq, oGdiskDisk, hq_n0, hr_n0, vptr_0, vptr_1]
         repeat (with_reducible refine And.intro ?_ ?_; next => first | assumption | trivial | omega | decide | (constructor <;> first | assumption | omega) | (simp [Keep.ok, hp_cons_apply, hset_cons, oGdiskDisk, hq_n0, hr_n0, vptr_0, vptr_1]; done))
         refine hk _ _ _ ?_
         refine xghost (D := []) ?_ ?_ ?_ ?_
         ·exact (.cons (Sub.of_eq rfl) (.cons (Sub.of_eq rfl) (.cons (Sub.of_eq rfl) .nil)))
         ·exact HpW.refl
         ·exact (by intro p hp; cases hp)
         ·omega
       ·rw [if_neg hs_3] at h
        by_cases hs_2 : n_1 = 1
        ·subst hs_2
         rw [if_pos rfl] at h
         refine xseq [(2, .lit (.int .i64 size)), (7, .lit (.int .i64 v_6.1)), (8, .ptr n0 3)] (hp [(n0, .box [.lit (.int .i64 v_6.2.power), eO (lI .u8) v_6.2.areas.x0.data, .lit (.int .i64 v_6.2.areas.x0.safe), eO (lI .u8) v_6.2.areas.x1.data, .lit (.int .i64 v_6.2.areas.x1.safe)])] S) 1 ?_ (fun k kp hk => ?_)
         ·refine LW_gh (Ghost.openX (L := (lI .u8)) (xs := v_6.2.areas.x1.data) (n := n0) (i := 3) (cs := [.lit (.int .i64 v_6.2.power), eO (lI .u8) v_6.2.areas.x0.data, .lit (.int .i64 v_6.2.areas.x0.safe), eO (lI .u8) v_6.2.areas.x1.data, .lit (.int .i64 v_6.2.areas.x1.safe)]) (A' := [(n0, .box [.lit (.int .i64 v_6.2.power), eO (lI .u8) v_6.2.areas.x0.data, .lit (.int .i64 v_6.2.areas.x0.safe), eB (lI .u8) (d, 1) v_6.2.areas.x1.data, .lit (.int .i64 v_6.2.areas.x1.safe)]), ((d, 1), oT (lI .u8) v_6.2.areas.x1.data)]) (by simp only [hp_cons_apply, hp_nil_apply, reduceIte, Prod.mk.injEq, Nat.reduceEqDiff, and_true, and_false, true_and, false_and, oGdiskDisk, hq_n0, hr_n0] <;> rfl) rfl (by simp only [hset_cons, hset_nil, hrem_cons, hrem_nil, List.set_cons_zero, List.set_cons_succ, reduceIte, Prod.mk.injEq, Nat.reduceEqDiff, and_true, and_false, true_and, false_and, oGdiskDisk, hq_n0, hr_n0])) ?_
          obtain ⟨hg_1, h⟩ := gd_some h
          refine xregd [(7, .lit (.int .i64 v_6.1))] (hp [(n0, .box [.lit (.int .i64 v_6.2.power), eO (lI .u8) v_6.2.areas.x0.data, .lit (.int .i64 v_6.2.areas.x0.safe), eO (lI .u8) (v_6.2.areas.x1.data.take (Int.toNat size)), .lit (.int .i64 (if size < v_6.2.areas.x1.safe then size else v_6.2.areas.x1.safe))])] S) 2 ?_ (fun k kp hk => ?_)
          ·exact hj (v_6.2.areas.x0.data, v_6.2.areas.x0.safe, (v_6.2.areas.x1.data.take (Int.toNat size)), (if size < v_6.2.areas.x1.safe then size else v_6.2.areas.x1.safe)) h
          ·try simp (maxSteps := 4000000) only [go_sem, Prod.mk.injEq, reduceIte, Nat.reduceEqDiff, Nat.reduceAdd, Nat.reduceSub, Nat.reduceMul, Nat.reduceDiv, Nat.reducePow, Nat.reduceLT, Nat.reduceLeDiff, Nat.reduceBEq, Nat.reduceBneDiff, Int.reduceToNat, Int.reduceEq, Int.reduceLE, Int.reduceLT, reduceCtorEq, oGdiskDisk, hq_n0, hr_n0]
           repeat (with_reducible refine And.intro ?_ ?_; next => first | assumption | trivial | omega | decide | (constructor <;> first | assumption | omega) | (simp [Keep.ok, hp_cons_apply, hset_cons, oGdiskDisk, hq_n0, hr_n0]; done))
           refine hk _ _ _ ?_
           refine Ghost.trans (Ghost.closeSubX (L := (lI .u8)) (xs := v_6.2.areas.x1.data) (n := n0) (m := (d, 1)) (i := 3) (h := Int.toNat size) (j := 43) (cs := [.lit (.int .i64 v_6.2.power), eO (lI .u8) v_6.2.areas.x0.data, .lit (.int .i64 v_6.2.areas.x0.safe), eW (lI .u8) ((Own.buf (d, 1) (v_6.2.areas.x1.data.length * ((lI .u8)).sz)).sub 0 (Int.toNat size * ((lI .u8)).sz) (flat (lI .u8) v_6.2.areas.x1.data).length) (v_6.2.areas.x1.data.take (Int.toNat size)), .lit (.int .i64 (if size < v_6.2.areas.x1.safe then size else v_6.2.areas.x1.safe))]) (A' := [(n0, .box [.lit (.int .i64 v_6.2.power), eO (lI .u8) v_6.2.areas.x0.data, .lit (.int .i64 v_6.2.areas.x0.safe), eO (lI .u8) (v_6.2.areas.x1.data.take (Int.toNat size)), .lit (.int .i64 (if size < v_6.2.areas.x1.safe then size else v_6.2.areas.x1.safe))])]) (by simp only [hp_cons_apply, hp_nil_apply, reduceIte, Prod.mk.injEq, Nat.reduceEqDiff, and_true, and_false, true_and, false_and, oGdiskDisk, hq_n0, hr_n0] <;> rfl) (by omega) rfl (by simp only [hp_cons_apply, hp_nil_apply, reduceIte, Prod.mk.injEq, Nat.reduceEqDiff, and_true, and_false, true_and, false_and, oGdiskDisk, hq_n0, hr_n0] <;> rfl) (hd _ (Nat.le_refl _)) (by simp only [sget_cons, reduceIte, Nat.reduceEqDiff]) (by simp only [hset_cons, hset_nil, hrem_cons, hrem_nil, List.set_cons_zero, List.set_cons_succ, reduceIte, Prod.mk.injEq, Nat.reduceEqDiff, and_true, and_false, true_and, false_and, oGdiskDisk, hq_n0, hr_n0])) ?_
           refine xghost (D := []) ?_ ?_ ?_ ?_
           ·exact (.cons (Sub.of_eq rfl) .nil)
           ·exact HpW.refl
           ·exact (by intro p hp; cases hp)
           ·omega
         ·try simp (maxSteps := 4000000) only [go_sem, Prod.mk.injEq, reduceIte, Nat.reduceEqDiff, Nat.reduceAdd, Nat.reduceSub, Nat.reduceMul, Nat.reduceDiv, Nat.reducePow, Nat.reduceLT, Nat.reduceLeDiff, Nat.reduceBEq, Nat.reduceBneDiff, Int.reduceToNat, Int.reduceEq, Int.reduceLE, Int.reduceLT, reduceCtorEq, oGdiskDisk, hq_n0, hr_n0, vptr_0, vptr_1]
          repeat (with_reducible refine And.intro ?_ ?_; next => first | assumption | trivial | omega | decide | (constructor <;> first | assumption | omega) | (simp [Keep.ok, hp_cons_apply, hset_cons, oGdiskDisk, hq_n0, hr_n0, vptr_0, vptr_1]; done))
          refine hk _ _ _ ?_
          refine xghost (D := []) ?_ ?_ ?_ ?_
          ·exact (.cons (Sub.of_eq rfl) (.cons (Sub.of_eq rfl) (.cons (Sub.of_eq rfl) .nil)))
          ·exact HpW.refl
          ·exact (by intro p hp; cases hp)
          ·omega
        ·rw [if_neg hs_2] at h
         cases h
      ·rw [ite_f hc_9] at h
       refine LW_skipX (sl' := [(7, .lit (.int .i64 v_6.1))]) (S' := (hp [(n0, .box [.lit (.int .i64 v_6.2.power), eO (lI .u8) v_6.2.areas.x0.data, .lit (.int .i64 v_6.2.areas.x0.safe), eO (lI .u8) v_6.2.areas.x1.data, .lit (.int .i64 v_6.2.areas.x1.safe)])] S)) (c' := 2) ?_ ?_
       ·refine xghost (D := []) ?_ ?_ ?_ ?_
        ·exact (.cons (Sub.of_eq rfl) .nil)
        ·exact HpW.refl
        ·exact (by intro p hp; cases hp)
        ·omega
       ·exact hj (v_6.2.areas.x0.data, v_6.2.areas.x0.safe, v_6.2.areas.x1.data, v_6.2.areas.x1.safe) h
     ·try simp (maxSteps := 4000000) only [go_sem, Prod.mk.injEq, reduceIte, Nat.reduceEqDiff, Nat.reduceAdd, Nat.reduceSub, Nat.reduceMul, Nat.reduceDiv, Nat.reducePow, Nat.reduceLT, Nat.reduceLeDiff, Nat.reduceBEq, Nat.reduceBneDiff, Int.reduceToNat, Int.reduceEq, Int.reduceLE, Int.reduceLT, reduceCtorEq, oGdiskDisk, hq_n0, hr_n0]
      repeat (with_reducible refine And.intro ?_ ?_; next => first | assumption | trivial | omega | decide | (constructor <;> first | assumption | omega) | (simp [Keep.ok, hp_cons_apply, hset_cons, oGdiskDisk, hq_n0, hr_n0]; done))
      refine hk _ _ _ ?_
      refine xghost (D := []) ?_ ?_ ?_ ?_
      ·exact (.cons (Sub.of_eq rfl) (.cons (Sub.of_eq rfl) (.cons (Sub.of_eq rfl) (.cons (Sub.of_eq rfl) (.cons (Sub.of_eq rfl) .nil)))))
      ·exact HpW.refl
      ·exact (by intro p hp; cases hp)
      ·omega
   ·try simp (maxSteps := 4000000) only [go_sem, Prod.mk.injEq, reduceIte, Nat.reduceEqDiff, Nat.reduceAdd, Nat.reduceSub, Nat.reduceMul, Nat.reduceDiv, Nat.reducePow, Nat.reduceLT, Nat.reduceLeDiff, Nat.reduceBEq, Nat.reduceBneDiff, Int.reduceToNat, Int.reduceEq, Int.reduceLE, Int.reduceLT, reduceCtorEq, oGdiskDisk, hq_n0, hr_n0]
    repeat (with_reducible refine And.intro ?_ ?_; next => first | assumption | trivial | omega | decide | (constructor <;> first | assumption | omega) | (simp [Keep.ok, hp_cons_apply, hset_cons, oGdiskDisk, hq_n0, hr_n0]; done))
    have hcall := s_disk_Disk_draw_ok (n0 := n0) (hS0 := by simp only [hp_cons_apply, hp_nil_apply, reduceIte, Prod.mk.injEq, Nat.reduceEqDiff, and_true, and_false, true_and, false_and, oGdiskDisk, hq_n0, hr_n0] <;> rfl) (hp [(n0, .box [.lit (.int .i64 dx.power), eO (lI .u8) dx.areas.x0.data, .lit (.int .i64 dx.areas.x0.safe), eO (lI .u8) dx.areas.x1.data, .lit (.int .i64 dx.areas.x1.safe)])] S) _ (h := hv_6)
    refine call1_x hcall rfl ?_ ?_
    ·exact (.cons Sub.refl .nil)
    clear hcall
    rintro _ SS ⟨rfl, hSS⟩ -
    rw [hSS]
    clear hSS
    try simp (maxSteps := 4000000) only [go_sem, Prod.mk.injEq, reduceIte, Nat.reduceEqDiff, Nat.reduceAdd, Nat.reduceSub, Nat.reduceMul, Nat.reduceDiv, Nat.reducePow, Nat.reduceLT, Nat.reduceLeDiff, Nat.reduceBEq, Nat.reduceBneDiff, Int.reduceToNat, Int.reduceEq, Int.reduceLE, Int.reduceLT, reduceCtorEq, oGdiskDisk, hq_n0, hr_n0]
    repeat (with_reducible refine And.intro ?_ ?_; next => first | assumption | trivial | omega | decide | (constructor <;> first | assumption | omega) | (simp [Keep.ok, hp_cons_apply, hset_cons, oGdiskDisk, hq_n0, hr_n0]; done))
    refine hk _ _ _ ?_
    refine xghost (D := []) ?_ ?_ ?_ ?_
    ·exact (.cons (Sub.of_eq rfl) (.cons (Sub.of_eq rfl) (.cons (Sub.of_eq rfl) (.cons (Sub.of_eq rfl) .nil))))
    ·exact HpW.refl
    ·exact (by intro p hp; cases hp)
    ·omega
  ·by_cases hs_1 : n = 0
   ·subst hs_1
    rw [if_pos rfl] at h
    refine LW_gh (Ghost.openX (L := (lI .u8)) (xs := dx.areas.x0.data) (n := n0) (i := 1) (cs := [.lit (.int .i64 dx.power), eO (lI .u8) dx.areas.x0.data, .lit (.int .i64 dx.areas.x0.safe), eO (lI .u8) dx.areas.x1.data, .lit (.int .i64 dx.areas.x1.safe)]) (A' := [(n0, .box [.lit (.int .i64 dx.power), eB (lI .u8) (d, 0) dx.areas.x0.data, .lit (.int .i64 dx.areas.x0.safe), eO (lI .u8) dx.areas.x1.data, .lit (.int .i64 dx.areas.x1.safe)]), ((d, 0), oT (lI .u8) dx.areas.x0.data)]) (by simp only [hp_cons_apply, hp_nil_apply, reduceIte, Prod.mk.injEq, Nat.reduceEqDiff, and_true, and_false, true_and, false_and, oGdiskDisk, hq_n0, hr_n0] <;> rfl) rfl (by simp only [hset_cons, hset_nil, hrem_cons, hrem_nil, List.set_cons_zero, List.set_cons_succ, reduceIte, Prod.mk.injEq, Nat.reduceEqDiff, and_true, and_false, true_and, false_and, oGdiskDisk, hq_n0, hr_n0])) ?_
    obtain ⟨v_5, hv_5, h⟩ := bd_some h
    refine xseq [(0, .ptr n0 0), (1, .lit (.int .i64 0)), (2, .lit (.int .i64 size)), (28, .lit (.bool (((!v_5) || (decide (size < 0))) || (decide ((dx.areas.x0.data.length : Int) < size)))))] (hp [(n0, .box [.lit (.int .i64 dx.power), eB (lI .u8) (d, 0) dx.areas.x0.data, .lit (.int .i64 dx.areas.x0.safe), eO (lI .u8) dx.areas.x1.data, .lit (.int .i64 dx.areas.x1.safe)]), ((d, 0), oT (lI .u8) dx.areas.x0.data)] S) 1 ?_ (fun k kp hk => ?_)
    ·refine xcond (((!v_5) || (decide (size < 0))) || (decide ((dx.areas.x0.data.length : Int) < size))) rfl (fun hc_6 => ?_) (fun hc_6 => ?_)
     ·rw [ite_t hc_6] at h
      refine xseq [(6, .lit (.int .i64 41))] (hp [(n0, .box [.lit (.int .i64 dx.power), eB (lI .u8) (d, 0) dx.areas.x0.data, .lit (.int .i64 dx.areas.x0.safe), eO (lI .u8) dx.areas.x1.data, .lit (.int .i64 dx.areas.x1.safe)]), ((d, 0), oT (lI .u8) dx.areas.x0.data)] S) 1 ?_ (fun k kp hk => ?_)
      ·refine LW_retX (sl' := [(6, .lit (.int .i64 41))]) (S' := (hp [(n0, .box [.lit (.int .i64 dx.power), eO (lI .u8) dx.areas.x0.data, .lit (.int .i64 dx.areas.x0.safe), eO (lI .u8) dx.areas.x1.data, .lit (.int .i64 dx.areas.x1.safe)])] S)) (c' := 1) ?_ ?_
       ·refine Ghost.trans (Ghost.closeX (L := (lI .u8)) (xs := dx.areas.x0.data) (n := n0) (m := (d, 0)) (i := 1) (cs := [.lit (.int .i64 dx.power), eB (lI .u8) (d, 0) dx.areas.x0.data, .lit (.int .i64 dx.areas.x0.safe), eO (lI .u8) dx.areas.x1.data, .lit (.int .i64 dx.areas.x1.safe)]) (A' := [(n0, .box [.lit (.int .i64 dx.power), eO (lI .u8) dx.areas.x0.data, .lit (.int .i64 dx.areas.x0.safe), eO (lI .u8) dx.areas.x1.data, .lit (.int .i64 dx.areas.x1.safe)])]) (by simp only [hp_cons_apply, hp_nil_apply, reduceIte, Prod.mk.injEq, Nat.reduceEqDiff, and_true, and_false, true_and, false_and, oGdiskDisk, hq_n0, hr_n0] <;> rfl) rfl (by simp only [hp_cons_apply, hp_nil_apply, reduceIte, Prod.mk.injEq, Nat.reduceEqDiff, and_true, and_false, true_and, false_and, oGdiskDisk, hq_n0, hr_n0] <;> rfl) (hd _ (Nat.le_refl _)) (by simp only [hset_cons, hset_nil, hrem_cons, hrem_nil, List.set_cons_zero, List.set_cons_succ, reduceIte, Prod.mk.injEq, Nat.reduceEqDiff, and_true, and_false, true_and, false_and, oGdiskDisk, hq_n0, hr_n0])) ?_
        refine xghost (D := []) ?_ ?_ ?_ ?_
        ·exact (.cons (Sub.of_eq rfl) .nil)
        ·exact HpW.refl
        ·exact (by intro p hp; cases hp)
        ·omega
       ·obtain rfl := Option.some.inj h
        show FPost _ _ _ _ _ _ _
        exact ⟨_, hp_less (L := [(n0, .box [.lit (.int .i64 dx.power), eO (lI .u8) dx.areas.x0.data, .lit (.int .i64 dx.areas.x0.safe), eO (lI .u8) dx.areas.x1.data, .lit (.int .i64 dx.areas.x1.safe)])]) (D := []) (by intro p hp; cases hp), rfl, rfl⟩
      ·try simp (maxSteps := 4000000) only [go_sem, Prod.mk.injEq, reduceIte, Nat.reduceEqDiff, Nat.reduceAdd, Nat.reduceSub, Nat.reduceMul, Nat.reduceDiv, Nat.reducePow, Nat.reduceLT, Nat.reduceLeDiff, Nat.reduceBEq, Nat.reduceBneDiff, Int.reduceToNat, Int.reduceEq, Int.reduceLE, Int.reduceLT, reduceCtorEq, oGdiskDisk, hq_n0, hr_n0]
       repeat (with_reducible refine And.intro ?_ ?_; next => first | assumption | trivial | omega | decide | (constructor <;> first | assumption | omega) | (simp [Keep.ok, hp_cons_apply, hset_cons, oGdiskDisk, hq_n0, hr_n0]; done))
       refine hk _ _ _ ?_
       refine xghost (D := []) ?_ ?_ ?_ ?_
       ·exact (.cons (Sub.of_eq rfl) .nil)
       ·exact HpW.refl
       ·exact (by intro p hp; cases hp)
       ·omega
     ·rw [ite_f hc_6] at h
      refine LW_skipX (sl' := [(0, .ptr n0 0), (1, .lit (.int .i64 0)), (2, .lit (.int .i64 size)), (28, .lit (.bool (((!v_5) || (decide (size < 0))) || (decide ((dx.areas.x0.data.length : Int) < size)))))]) (S' := (hp [(n0, .box [.lit (.int .i64 dx.power), eO (lI .u8) dx.areas.x0.data, .lit (.int .i64 dx.areas.x0.safe), eO (lI .u8) dx.areas.x1.data, .lit (.int .i64 dx.areas.x1.safe)])] S)) (c' := 1) ?_ ?_
      ·refine Ghost.trans (Ghost.closeX (L := (lI .u8)) (xs := dx.areas.x0.data) (n := n0) (m := (d, 0)) (i := 1) (cs := [.lit (.int .i64 dx.power), eB (lI .u8) (d, 0) dx.areas.x0.data, .lit (.int .i64 dx.areas.x0.safe), eO (lI .u8) dx.areas.x1.data, .lit (.int .i64 dx.areas.x1.safe)]) (A' := [(n0, .box [.lit (.int .i64 dx.power), eO (lI .u8) dx.areas.x0.data, .lit (.int .i64 dx.areas.x0.safe), eO (lI .u8) dx.areas.x1.data, .lit (.int .i64 dx.areas.x1.safe)])]) (by simp only [hp_cons_apply, hp_nil_apply, reduceIte, Prod.mk.injEq, Nat.reduceEqDiff, and_true, and_false, true_and, false_and, oGdiskDisk, hq_n0, hr_n0] <;> rfl) rfl (by simp only [hp_cons_apply, hp_nil_apply, reduceIte, Prod.mk.injEq, Nat.reduceEqDiff, and_true, and_false, true_and, false_and, oGdiskDisk, hq_n0, hr_n0] <;> rfl) (hd _ (Nat.le_refl _)) (by simp only [hset_cons, hset_nil, hrem_cons, hrem_nil, List.set_cons_zero, List.set_cons_succ, reduceIte, Prod.mk.injEq, Nat.reduceEqDiff, and_true, and_false, true_and, false_and, oGdiskDisk, hq_n0, hr_n0])) ?_
       refine xghost (D := []) ?_ ?_ ?_ ?_
       ·exact (.cons (Sub.of_eq rfl) (.cons (Sub.of_eq rfl) (.cons (Sub.of_eq rfl) (.cons (Sub.of_eq rfl) .nil))))
       ·exact HpW.refl
       ·exact (by intro p hp; cases hp)
       ·omega
      ·exact hj_1 (0, (((!v_5) || (decide (size < 0))) || (decide ((dx.areas.x0.data.length : Int) < size)))) h
    ·try simp (maxSteps := 4000000) only [go_sem, Prod.mk.injEq, reduceIte, Nat.reduceEqDiff, Nat.reduceAdd, Nat.reduceSub, Nat.reduceMul, Nat.reduceDiv, Nat.reducePow, Nat.reduceLT, Nat.reduceLeDiff, Nat.reduceBEq, Nat.reduceBneDiff, Int.reduceToNat, Int.reduceEq, Int.reduceLE, Int.reduceLT, reduceCtorEq, oGdiskDisk, hq_n0, hr_n0, vptr_0, vptr_1]
     repeat (with_reducible refine And.intro ?_ ?_; next => first | assumption | trivial | omega | decide | (constructor <;> first | assumption | omega) | (simp [Keep.ok, hp_cons_apply, hset_cons, oGdiskDisk, hq_n0, hr_n0, vptr_0, vptr_1]; done))
     have hcall := s_disk_there_ok (hp [(n0, .box [.lit (.int .i64 dx.power), eB (lI .u8) (d, 0) dx.areas.x0.data, .lit (.int .i64 dx.areas.x0.safe), eO (lI .u8) dx.areas.x1.data, .lit (.int .i64 dx.areas.x1.safe)]), ((d, 0), oT (lI .u8) dx.areas.x0.data)] S) ([0]) hv_5
     refine call1_x hcall rfl ?_ ?_
     ·exact (.cons (Sub.young (L := (lI .i64)) (xs := [0])) .nil)
     clear hcall
     rintro _ SS ⟨rfl, hSS⟩ -
     rw [hSS]
     clear hSS
     try simp (maxSteps := 4000000) only [go_sem, Prod.mk.injEq, reduceIte, Nat.reduceEqDiff, Nat.reduceAdd, Nat.reduceSub, Nat.reduceMul, Nat.reduceDiv, Nat.reducePow, Nat.reduceLT, Nat.reduceLeDiff, Nat.reduceBEq, Nat.reduceBneDiff, Int.reduceToNat, Int.reduceEq, Int.reduceLE, Int.reduceLT, reduceCtorEq, oGdiskDisk, hq_n0, hr_n0, vptr_0, vptr_1]
     repeat (with_reducible refine And.intro ?_ ?_; next => first | assumption | trivial | omega | decide | (constructor <;> first | assumption | omega) | (simp [Keep.ok, hp_cons_apply, hset_cons, oGdiskDisk, hq_n0, hr_n0, vptr_0, vptr_1]; done))
     refine xo_guard (!v_5) rfl (fun hc_7 => ?_) (fun hc_7 => ?_)
     ·have hc_7 : v_5 = true := by first | (generalize v_5 = q at hc_7 ⊢; revert hc_7; cases q <;> simp; done) | simpa using hc_7
      try simp (maxSteps := 4000000) only [go_sem, Prod.mk.injEq, reduceIte, Nat.reduceEqDiff, Nat.reduceAdd, Nat.reduceSub, Nat.reduceMul, Nat.reduceDiv, Nat.reducePow, Nat.reduceLT, Nat.reduceLeDiff, Nat.reduceBEq, Nat.reduceBneDiff, Int.reduceToNat, Int.reduceEq, Int.reduceLE, Int.reduceLT, reduceCtorEq, oGdiskDisk, hq_n0, hr_n0, vptr_0, vptr_1, hc_7]
      repeat (with_reducible refine And.intro ?_ ?_; next => first | assumption | trivial | omega | decide | (constructor <;> first | assumption | omega) | (simp [Keep.ok, hp_cons_apply, hset_cons, oGdiskDisk, hq_n0, hr_n0, vptr_0, vptr_1]; done))
      refine xo_guard (decide (size < 0)) rfl (fun hc_8 => ?_) (fun hc_8 => ?_)
      ·try simp (maxSteps := 4000000) only [go_sem, Prod.mk.injEq, reduceIte, Nat.reduceEqDiff, Nat.reduceAdd, Nat.reduceSub, Nat.reduceMul, Nat.reduceDiv, Nat.reducePow, Nat.reduceLT, Nat.reduceLeDiff, Nat.reduceBEq, Nat.reduceBneDiff, Int.reduceToNat, Int.reduceEq, Int.reduceLE, Int.reduceLT, reduceCtorEq, oGdiskDisk, hq_n0, hr_n0, vptr_0, vptr_1, hc_7, hc_8]
       repeat (with_reducible refine And.intro ?_ ?_; next => first | assumption | trivial | omega | decide | (constructor <;> first | assumption | omega) | (simp [Keep.ok, hp_cons_apply, hset_cons, oGdiskDisk, hq_n0, hr_n0, vptr_0, vptr_1]; done))
       refine hk _ _ _ ?_
       refine xghost (D := []) ?_ ?_ ?_ ?_
       ·exact (.cons (Sub.of_eq rfl) (.cons (Sub.of_eq rfl) (.cons (Sub.of_eq rfl) (.cons (Sub.of_eq (by first | rfl | (simp only [sget_cons, reduceIte, Nat.reduceEqDiff, Bool.and_true, Bool.true_and, Bool.and_false, Bool.false_and, Bool.or_true, Bool.true_or, Bool.or_false, Bool.false_or, Bool.not_true, Bool.not_false, Bool.not_not, hc_7, hc_8]; done))) .nil))))
       ·exact HpW.refl
       ·exact (by intro p hp; cases hp)
       ·omega
      ·try simp (maxSteps := 4000000) only [go_sem, Prod.mk.injEq, reduceIte, Nat.reduceEqDiff, Nat.reduceAdd, Nat.reduceSub, Nat.reduceMul, Nat.reduceDiv, Nat.reducePow, Nat.reduceLT, Nat.reduceLeDiff, Nat.reduceBEq, Nat.reduceBneDiff, Int.reduceToNat, Int.reduceEq, Int.reduceLE, Int.reduceLT, reduceCtorEq, oGdiskDisk, hq_n0, hr_n0, vptr_0, vptr_1, hc_7, hc_8]
       repeat (with_reducible refine And.intro ?_ ?_; next => first | assumption | trivial | omega | decide | (constructor <;> first | assumption | omega) | (simp [Keep.ok, hp_cons_apply, hset_cons, oGdiskDisk, hq_n0, hr_n0, vptr_0, vptr_1]; done))
       refine hk _ _ _ ?_
       refine xghost (D := []) ?_ ?_ ?_ ?_
       ·exact (.cons (Sub.of_eq rfl) (.cons (Sub.of_eq rfl) (.cons (Sub.of_eq rfl) (.cons (Sub.of_eq (by first | rfl | (simp only [sget_cons, reduceIte, Nat.reduceEqDiff, Bool.and_true, Bool.true_and, Bool.and_false, Bool.false_and, Bool.or_true, Bool.true_or, Bool.or_false, Bool.false_or, Bool.not_true, Bool.not_false, Bool.not_not, hc_7, hc_8]; done))) .nil))))
       ·exact HpW.refl
       ·exact (by intro p hp; cases hp)
       ·omega
     ·have hc_7 : v_5 = false := by first | (generalize v_5 = q at hc_7 ⊢; revert hc_7; cases q <;> simp; done) | simpa using hc_7
      try simp (maxSteps := 4000000) only [go_sem, Prod.mk.injEq, reduceIte, Nat.reduceEqDiff, Nat.reduceAdd, Nat.reduceSub, Nat.reduceMul, Nat.reduceDiv, Nat.reducePow, Nat.reduceLT, Nat.reduceLeDiff, Nat.reduceBEq, Nat.reduceBneDiff, Int.reduceToNat, Int.reduceEq, Int.reduceLE, Int.reduceLT, reduceCtorEq, oGdiskDisk, hq_n0, hr_n0, vptr_0, vptr_1, hc_7]
      repeat (with_reducible refine And.intro ?_ ?_; next => first | assumption | trivial | omega | decide | (constructor <;> first | assumption | omega) | (simp [Keep.ok, hp_cons_apply, hset_cons, oGdiskDisk, hq_n0, hr_n0, vptr_0, vptr_1]; done))
      refine hk _ _ _ ?_
      refine xghost (D := []) ?_ ?_ ?_ ?_
      ·exact (.cons (Sub.of_eq rfl) (.cons (Sub.of_eq rfl) (.cons (Sub.of_eq rfl) (.cons (Sub.of_eq (by first | rfl | (simp only [sget_cons, reduceIte, Nat.reduceEqDiff, Bool.and_true, Bool.true_and, Bool.and_false, Bool.false_and, Bool.or_true, Bool.true_or, Bool.or_false, Bool.false_or, Bool.not_true, Bool.not_false, Bool.not_not, hc_7]; done))) .nil))))
      ·exact HpW.refl
      ·exact (by intro p hp; cases hp)
      ·omega
   ·rw [if_neg hs_1] at h
    by_cases hs : n = 1
    ·subst hs
     rw [if_pos rfl] at h
     refine LW_gh (Ghost.openX (L := (lI .u8)) (xs := dx.areas.x1.data) (n := n0) (i := 3) (cs := [.lit (.int .i64 dx.power), eO (lI .u8) dx.areas.x0.data, .lit (.int .i64 dx.areas.x0.safe), eO (lI .u8) dx.areas.x1.data, .lit (.int .i64 dx.areas.x1.safe)]) (A' := [(n0, .box [.lit (.int .i64 dx.power), eO (lI .u8) dx.areas.x0.data, .lit (.int .i64 dx.areas.x0.safe), eB (lI .u8) (d, 0) dx.areas.x1.data, .lit (.int .i64 dx.areas.x1.safe)]), ((d, 0), oT (lI .u8) dx.areas.x1.data)]) (by simp only [hp_cons_apply, hp_nil_apply, reduceIte, Prod.mk.injEq, Nat.reduceEqDiff, and_true, and_false, true_and, false_and, oGdiskDisk, hq_n0, hr_n0] <;> rfl) rfl (by simp only [hset_cons, hset_nil, hrem_cons, hrem_nil, List.set_cons_zero, List.set_cons_succ, reduceIte, Prod.mk.injEq, Nat.reduceEqDiff, and_true, and_false, true_and, false_and, oGdiskDisk, hq_n0, hr_n0])) ?_
     obtain ⟨v_3, hv_3, h⟩ := bd_some h
     refine xseq [(0, .ptr n0 0), (1, .lit (.int .i64 1)), (2, .lit (.int .i64 size)), (28, .lit (.bool (((!v_3) || (decide (size < 0))) || (decide ((dx.areas.x1.data.length : Int) < size)))))] (hp [(n0, .box [.lit (.int .i64 dx.power), eO (lI .u8) dx.areas.x0.data, .lit (.int .i64 dx.areas.x0.safe), eB (lI .u8) (d, 0) dx.areas.x1.data, .lit (.int .i64 dx.areas.x1.safe)]), ((d, 0), oT (lI .u8) dx.areas.x1.data)] S) 1 ?_ (fun k kp hk => ?_)
     ·refine xcond (((!v_3) || (decide (size < 0))) || (decide ((dx.areas.x1.data.length : Int) < size))) rfl (fun hc_3 => ?_) (fun hc_3 => ?_)
      ·rw [ite_t hc_3] at h
       refine xseq [(6, .lit (.int .i64 41))] (hp [(n0, .box [.lit (.int .i64 dx.power), eO (lI .u8) dx.areas.x0.data, .lit (.int .i64 dx.areas.x0.safe), eB (lI .u8) (d, 0) dx.areas.x1.data, .lit (.int .i64 dx.areas.x1.safe)]), ((d, 0), oT (lI .u8) dx.areas.x1.data)] S) 1 ?_ (fun k kp hk => ?_)
       ·refine LW_retX (sl' := [(6, .lit (.int .i64 41))]) (S' := (hp [(n0, .box [.lit (.int .i64 dx.power), eO (lI .u8) dx.areas.x0.data, .lit (.int .i64 dx.areas.x0.safe), eO (lI .u8) dx.areas.x1.data, .lit (.int .i64 dx.areas.x1.safe)])] S)) (c' := 1) ?_ ?_
        ·refine Ghost.trans (Ghost.closeX (L := (lI .u8)) (xs := dx.areas.x1.data) (n := n0) (m := (d, 0)) (i := 3) (cs := [.lit (.int .i64 dx.power), eO (lI .u8) dx.areas.x0.data, .lit (.int .i64 dx.areas.x0.safe), eB (lI .u8) (d, 0) dx.areas.x1.data, .lit (.int .i64 dx.areas.x1.safe)]) (A' := [(n0, .box [.lit (.int .i64 dx.power), eO (lI .u8) dx.areas.x0.data, .lit (.int .i64 dx.areas.x0.safe), eO (lI .u8) dx.areas.x1.data, .lit (.int .i64 dx.areas.x1.safe)])]) (by simp only [hp_cons_apply, hp_nil_apply, reduceIte, Prod.mk.injEq, Nat.reduceEqDiff, and_true, and_false, true_and, false_and, oGdiskDisk, hq_n0, hr_n0] <;> rfl) rfl (by simp only [hp_cons_apply, hp_nil_apply, reduceIte, Prod.mk.injEq, Nat.reduceEqDiff, and_true, and_false, true_and, false_and, oGdiskDisk, hq_n0, hr_n0] <;> rfl) (hd _ (Nat.le_refl _)) (by simp only [hset_cons, hset_nil, hrem_cons, hrem_nil, List.set_cons_zero, List.set_cons_succ, reduceIte, Prod.mk.injEq, Nat.reduceEqDiff, and_true, and_false, true_and, false_and, oGdiskDisk, hq_n0, hr_n0])) ?_
         refine xghost (D := []) ?_ ?_ ?_ ?_
         ·exact (.cons (Sub.of_eq rfl) .nil)
         ·exact HpW.refl
         ·exact (by intro p hp; cases hp)
         ·omega
        ·obtain rfl := Option.some.inj h
         show FPost _ _ _ _ _ _ _
         exact ⟨_, hp_less (L := [(n0, .box [.lit (.int .i64 dx.power), eO (lI .u8) dx.areas.x0.data, .lit (.int .i64 dx.areas.x0.safe), eO (lI .u8) dx.areas.x1.data, .lit (.int .i64 dx.areas.x1.safe)])]) (D := []) (by intro p hp; cases hp), rfl, rfl⟩
       ·try simp (maxSteps := 4000000) only [go_sem, Prod.mk.injEq, reduceIte, Nat.reduceEqDiff, Nat.reduceAdd, Nat.reduceSub, Nat.reduceMul, Nat.reduceDiv, Nat.reducePow, Nat.reduceLT, Nat.reduceLeDiff, Nat.reduceBEq, Nat.reduceBneDiff, Int.reduceToNat, Int.reduceEq, Int.reduceLE, Int.reduceLT, reduceCtorEq, oGdiskDisk, hq_n0, hr_n0]
        repeat (with_reducible refine And.intro ?_ ?_; next => first | assumption | trivial | omega | decide | (constructor <;> first | assumption | omega) | (simp [Keep.ok, hp_cons_apply, hset_cons, oGdiskDisk, hq_n0, hr_n0]; done))
        refine hk _ _ _ ?_
        refine xghost (D := []) ?_ ?_ ?_ ?_
        ·exact (.cons (Sub.of_eq rfl) .nil)
        ·exact HpW.refl
        ·exact (by intro p hp; cases hp)
        ·omega
      ·rw [ite_f hc_3] at h
       refine LW_skipX (sl' := [(0, .ptr n0 0), (1, .lit (.int .i64 1)), (2, .lit (.int .i64 size)), (28, .lit (.bool (((!v_3) || (decide (size < 0))) || (decide ((dx.areas.x1.data.length : Int) < size)))))]) (S' := (hp [(n0, .box [.lit (.int .i64 dx.power), eO (lI .u8) dx.areas.x0.data, .lit (.int .i64 dx.areas.x0.safe), eO (lI .u8) dx.areas.x1.data, .lit (.int .i64 dx.areas.x1.safe)])] S)) (c' := 1) ?_ ?_
       ·refine Ghost.trans (Ghost.closeX (L := (lI .u8)) (xs := dx.areas.x1.data) (n := n0) (m := (d, 0)) (i := 3) (cs := [.lit (.int .i64 dx.power), eO (lI .u8) dx.areas.x0.data, .lit (.int .i64 dx.areas.x0.safe), eB (lI .u8) (d, 0) dx.areas.x1.data, .lit (.int .i64 dx.areas.x1.safe)]) (A' := [(n0, .box [.lit (.int .i64 dx.power), eO (lI .u8) dx.areas.x0.data, .lit (.int .i64 dx.areas.x0.safe), eO (lI .u8) dx.areas.x1.data, .lit (.int .i64 dx.areas.x1.safe)])]) (by simp only [hp_cons_apply, hp_nil_apply, reduceIte, Prod.mk.injEq, Nat.reduceEqDiff, and_true, and_false, true_and, false_and, oGdiskDisk, hq_n0, hr_n0] <;> rfl) rfl (by simp only [hp_cons_apply, hp_nil_apply, reduceIte, Prod.mk.injEq, Nat.reduceEqDiff, and_true, and_false, true_and, false_and, oGdiskDisk, hq_n0, hr_n0] <;> rfl) (hd _ (Nat.le_refl _)) (by simp only [hset_cons, hset_nil, hrem_cons, hrem_nil, List.set_cons_zero, List.set_cons_succ, reduceIte, Prod.mk.injEq, Nat.reduceEqDiff, and_true, and_false, true_and, false_and, oGdiskDisk, hq_n0, hr_n0])) ?_
        refine xghost (D := []) ?_ ?_ ?_ ?_
        ·exact (.cons (Sub.of_eq rfl) (.cons (Sub.of_eq rfl) (.cons (Sub.of_eq rfl) (.cons (Sub.of_eq rfl) .nil))))
        ·exact HpW.refl
        ·exact (by intro p hp; cases hp)
        ·omega
       ·exact hj_1 (1, (((!v_3) || (decide (size < 0))) || (decide ((dx.areas.x1.data.length : Int) < size)))) h
     ·try simp (maxSteps := 4000000) only [go_sem, Prod.mk.injEq, reduceIte, Nat.reduceEqDiff, Nat.reduceAdd, Nat.reduceSub, Nat.reduceMul, Nat.reduceDiv, Nat.reducePow, Nat.reduceLT, Nat.reduceLeDiff, Nat.reduceBEq, Nat.reduceBneDiff, Int.reduceToNat, Int.reduceEq, Int.reduceLE, Int.reduceLT, reduceCtorEq, oGdiskDisk, hq_n0, hr_n0, vptr_0, vptr_1]
      repeat (with_reducible refine And.intro ?_ ?_; next => first | assumption | trivial | omega | decide | (constructor <;> first | assumption | omega) | (simp [Keep.ok, hp_cons_apply, hset_cons, oGdiskDisk, hq_n0, hr_n0, vptr_0, vptr_1]; done))
      have hcall := s_disk_there_ok (hp [(n0, .box [.lit (.int .i64 dx.power), eO (lI .u8) dx.areas.x0.data, .lit (.int .i64 dx.areas.x0.safe), eB (lI .u8) (d, 0) dx.areas.x1.data, .lit (.int .i64 dx.areas.x1.safe)]), ((d, 0), oT (lI .u8) dx.areas.x1.data)] S) ([1]) hv_3
      refine call1_x hcall rfl ?_ ?_
      ·exact (.cons (Sub.young (L := (lI .i64)) (xs := [1])) .nil)
      clear hcall
      rintro _ SS ⟨rfl, hSS⟩ -
      rw [hSS]
      clear hSS
      try simp (maxSteps := 4000000) only [go_sem, Prod.mk.injEq, reduceIte, Nat.reduceEqDiff, Nat.reduceAdd, Nat.reduceSub, Nat.reduceMul, Nat.reduceDiv, Nat.reducePow, Nat.reduceLT, Nat.reduceLeDiff, Nat.reduceBEq, Nat.reduceBneDiff, Int.reduceToNat, Int.reduceEq, Int.reduceLE, Int.reduceLT, reduceCtorEq, oGdiskDisk, hq_n0, hr_n0, vptr_0, vptr_1]
      repeat (with_reducible refine And.intro ?_ ?_; next => first | assumption | trivial | omega | decide | (constructor <;> first | assumption | omega) | (simp [Keep.ok, hp_cons_apply, hset_cons, oGdiskDisk, hq_n0, hr_n0, vptr_0, vptr_1]; done))
      refine xo_guard (!v_3) rfl (fun hc_4 => ?_) (fun hc_4 => ?_)
      ·have hc_4 : v_3 = true := by first | (generalize v_3 = q at hc_4 ⊢; revert hc_4; cases q <;> simp; done) | simpa using hc_4
       try simp (maxSteps := 4000000) only [go_sem, Prod.mk.injEq, reduceIte, Nat.reduceEqDiff, Nat.reduceAdd, Nat.reduceSub, Nat.reduceMul, Nat.reduceDiv, Nat.reducePow, Nat.reduceLT, Nat.reduceLeDiff, Nat.reduceBEq, Nat.reduceBneDiff, Int.reduceToNat, Int.reduceEq, Int.reduceLE, Int.reduceLT, reduceCtorEq, oGdiskDisk, hq_n0, hr_n0, vptr_0, vptr_1, hc_4]
       repeat (with_reducible refine And.intro ?_ ?_; next => first | assumption | trivial | omega | decide | (constructor <;> first | assumption | omega) | (simp [Keep.ok, hp_cons_apply, hset_cons, oGdiskDisk, hq_n0, hr_n0, vptr_0, vptr_1]; done))
       refine xo_guard (decide (size < 0)) rfl (fun hc_5 => ?_) (fun hc_5 => ?_)
       ·try simp (maxSteps := 4000000) only [go_sem, Prod.mk.injEq, reduceIte, Nat.reduceEqDiff, Nat.reduceAdd, Nat.reduceSub, Nat.reduceMul, Nat.reduceDiv, Nat.reducePow, Nat.reduceLT, Nat.reduceLeDiff, Nat.reduceBEq, Nat.reduceBneDiff, Int.reduceToNat, Int.reduceEq, Int.reduceLE, Int.reduceLT, reduceCtorEq, oGdiskDisk, hq_n0, hr_n0, vptr_0, vptr_1, hc_4, hc_5]
        repeat (with_reducible refine And.intro ?_ ?_; next => first | assumption | trivial | omega | decide | (constructor <;> first | assumption | omega) | (simp [Keep.ok, hp_cons_apply, hset_cons, oGdiskDisk, hq_n0, hr_n0, vptr_0, vptr_1]; done))
        refine hk _ _ _ ?_
        refine xghost (D := []) ?_ ?_ ?_ ?_
        ·exact (.cons (Sub.of_eq rfl) (.cons (Sub.of_eq rfl) (.cons (Sub.of_eq rfl) (.cons (Sub.of_eq (by first | rfl | (simp only [sget_cons, reduceIte, Nat.reduceEqDiff, Bool.and_true, Bool.true_and, Bool.and_false, Bool.false_and, Bool.or_true, Bool.true_or, Bool.or_false, Bool.false_or, Bool.not_true, Bool.not_false, Bool.not_not, hc_4, hc_5]; done))) .nil))))
        ·exact HpW.refl
        ·exact (by intro p hp; cases hp)
        ·omega
       ·try simp (maxSteps := 4000000) only [go_sem, Prod.mk.injEq, reduceIte, Nat.reduceEqDiff, Nat.reduceAdd, Nat.reduceSub, Nat.reduceMul, Nat.reduceDiv, Nat.reducePow, Nat.reduceLT, Nat.reduceLeDiff, Nat.reduceBEq, Nat.reduceBneDiff, Int.reduceToNat, Int.reduceEq, Int.reduceLE, Int.reduceLT, reduceCtorEq, oGdiskDisk, hq_n0, hr_n0, vptr_0, vptr_1, hc_4, hc_5]
        repeat (with_reducible refine And.intro ?_ ?_; next => first | assumption | trivial | omega | decide | (constructor <;> first | assumption | omega) | (simp [Keep.ok, hp_cons_apply, hset_cons, oGdiskDisk, hq_n0, hr_n0, vptr_0, vptr_1]; done))
        refine hk _ _ _ ?_
        refine xghost (D := []) ?_ ?_ ?_ ?_
        ·exact (.cons (Sub.of_eq rfl) (.cons (Sub.of_eq rfl) (.cons (Sub.of_eq rfl) (.cons (Sub.of_eq (by first | rfl | (simp only [sget_cons, reduceIte, Nat.reduceEqDiff, Bool.and_true, Bool.true_and, Bool.and_false, Bool.false_and, Bool.or_true, Bool.true_or, Bool.or_false, Bool.false_or, Bool.not_true, Bool.not_false, Bool.not_not, hc_4, hc_5]; done))) .nil))))
        ·exact HpW.refl
        ·exact (by intro p hp; cases hp)
        ·omega
      ·have hc_4 : v_3 = false := by first | (generalize v_3 = q at hc_4 ⊢; revert hc_4; cases q <;> simp; done) | simpa using hc_4
       try simp (maxSteps := 4000000) only [go_sem, Prod.mk.injEq, reduceIte, Nat.reduceEqDiff, Nat.reduceAdd, Nat.reduceSub, Nat.reduceMul, Nat.reduceDiv, Nat.reducePow, Nat.reduceLT, Nat.reduceLeDiff, Nat.reduceBEq, Nat.reduceBneDiff, Int.reduceToNat, Int.reduceEq, Int.reduceLE, Int.reduceLT, reduceCtorEq, oGdiskDisk, hq_n0, hr_n0, vptr_0, vptr_1, hc_4]
       repeat (with_reducible refine And.intro ?_ ?_; next => first | assumption | trivial | omega | decide | (constructor <;> first | assumption | omega) | (simp [Keep.ok, hp_cons_apply, hset_cons, oGdiskDisk, hq_n0, hr_n0, vptr_0, vptr_1]; done))
       refine hk _ _ _ ?_
       refine xghost (D := []) ?_ ?_ ?_ ?_
       ·exact (.cons (Sub.of_eq rfl) (.cons (Sub.of_eq rfl) (.cons (Sub.of_eq rfl) (.cons (Sub.of_eq (by first | rfl | (simp only [sget_cons, reduceIte, Nat.reduceEqDiff, Bool.and_true, Bool.true_and, Bool.and_false, Bool.false_and, Bool.or_true, Bool.true_or, Bool.or_false, Bool.false_or, Bool.not_true, Bool.not_false, Bool.not_not, hc_4]; done))) .nil))))
       ·exact HpW.refl
       ·exact (by intro p hp; cases hp)
       ·omega
    ·rw [if_neg hs] at h
     obtain ⟨v_1, hv_1, h⟩ := bd_some h
     obtain ⟨hg, h⟩ := gd_some h
     refine xseq [(0, .ptr n0 0), (1, .lit (.int .i64 n)), (2, .lit (.int .i64 size)), (28, .lit (.bool (((!v_1) || (decide (size < 0))) || true)))] (hp [(n0, .box [.lit (.int .i64 dx.power), eO (lI .u8) dx.areas.x0.data, .lit (.int .i64 dx.areas.x0.safe), eO (lI .u8) dx.areas.x1.data, .lit (.int .i64 dx.areas.x1.safe)])] S) 0 ?_ (fun k kp hk => ?_)
     ·refine xcond (((!v_1) || (decide (size < 0))) || true) rfl (fun hc => ?_) (fun hc => ?_)
      ·rw [ite_t hc] at h
       refine xseq [(6, .lit (.int .i64 41))] (hp [(n0, .box [.lit (.int .i64 dx.power), eO (lI .u8) dx.areas.x0.data, .lit (.int .i64 dx.areas.x0.safe), eO (lI .u8) dx.areas.x1.data, .lit (.int .i64 dx.areas.x1.safe)])] S) 0 ?_ (fun k kp hk => ?_)
       ·refine LW_ret ?_
        obtain rfl := Option.some.inj h
        show FPost _ _ _ _ _ _ _
        exact ⟨_, hp_less (L := [(n0, .box [.lit (.int .i64 dx.power), eO (lI .u8) dx.areas.x0.data, .lit (.int .i64 dx.areas.x0.safe), eO (lI .u8) dx.areas.x1.data, .lit (.int .i64 dx.areas.x1.safe)])]) (D := []) (by intro p hp; cases hp), rfl, rfl⟩
       ·try simp (maxSteps := 4000000) only [go_sem, Prod.mk.injEq, reduceIte, Nat.reduceEqDiff, Nat.reduceAdd, Nat.reduceSub, Nat.reduceMul, Nat.reduceDiv, Nat.reducePow, Nat.reduceLT, Nat.reduceLeDiff, Nat.reduceBEq, Nat.reduceBneDiff, Int.reduceToNat, Int.reduceEq, Int.reduceLE, Int.reduceLT, reduceCtorEq, oGdiskDisk, hq_n0, hr_n0]
        repeat (with_reducible refine And.intro ?_ ?_; next => first | assumption | trivial | omega | decide | (constructor <;> first | assumption | omega) | (simp [Keep.ok, hp_cons_apply, hset_cons, oGdiskDisk, hq_n0, hr_n0]; done))
        refine hk _ _ _ ?_
        refine xghost (D := []) ?_ ?_ ?_ ?_
        ·exact (.cons (Sub.of_eq rfl) .nil)
        ·exact HpW.refl
        ·exact (by intro p hp; cases hp)
        ·omega
      ·rw [ite_f hc] at h
       refine LW_skipX (sl' := [(0, .ptr n0 0), (1, .lit (.int .i64 n)), (2, .lit (.int .i64 size)), (28, .lit (.bool (((!v_1) || (decide (size < 0))) || true)))]) (S' := (hp [(n0, .box [.lit (.int .i64 dx.power), eO (lI .u8) dx.areas.x0.data, .lit (.int .i64 dx.areas.x0.safe), eO (lI .u8) dx.areas.x1.data, .lit (.int .i64 dx.areas.x1.safe)])] S)) (c' := 1) ?_ ?_
       ·refine xghost (D := []) ?_ ?_ ?_ ?_
        ·exact (.cons (Sub.of_eq rfl) (.cons (Sub.of_eq rfl) (.cons (Sub.of_eq rfl) (.cons (Sub.of_eq rfl) .nil))))
        ·exact HpW.refl
        ·exact (by intro p hp; cases hp)
        ·omega
       ·exact hj_1 (n, (((!v_1) || (decide (size < 0))) || true)) h
     ·try simp (maxSteps := 4000000) only [go_sem, Prod.mk.injEq, reduceIte, Nat.reduceEqDiff, Nat.reduceAdd, Nat.reduceSub, Nat.reduceMul, Nat.reduceDiv, Nat.reducePow, Nat.reduceLT, Nat.reduceLeDiff, Nat.reduceBEq, Nat.reduceBneDiff, Int.reduceToNat, Int.reduceEq, Int.reduceLE, Int.reduceLT, reduceCtorEq, oGdiskDisk, hq_n0, hr_n0]
      repeat (with_reducible refine And.intro ?_ ?_; next => first | assumption | trivial | omega | decide | (constructor <;> first | assumption | omega) | (simp [Keep.ok, hp_cons_apply, hset_cons, oGdiskDisk, hq_n0, hr_n0]; done))
      have hcall := s_disk_there_ok (hp [(n0, .box [.lit (.int .i64 dx.power), eO (lI .u8) dx.areas.x0.data, .lit (.int .i64 dx.areas.x0.safe), eO (lI .u8) dx.areas.x1.data, .lit (.int .i64 dx.areas.x1.safe)])] S) ([n]) hv_1
      refine call1_x hcall rfl ?_ ?_
      ·exact (.cons (Sub.young (L := (lI .i64)) (xs := [n])) .nil)
      clear hcall
      rintro _ SS ⟨rfl, hSS⟩ -
      rw [hSS]
      clear hSS
      try simp (maxSteps := 4000000) only [go_sem, Prod.mk.injEq, reduceIte, Nat.reduceEqDiff, Nat.reduceAdd, Nat.reduceSub, Nat.reduceMul, Nat.reduceDiv, Nat.reducePow, Nat.reduceLT, Nat.reduceLeDiff, Nat.reduceBEq, Nat.reduceBneDiff, Int.reduceToNat, Int.reduceEq, Int.reduceLE, Int.reduceLT, reduceCtorEq, oGdiskDisk, hq_n0, hr_n0]
      repeat (with_reducible refine And.intro ?_ ?_; next => first | assumption | trivial | omega | decide | (constructor <;> first | assumption | omega) | (simp [Keep.ok, hp_cons_apply, hset_cons, oGdiskDisk, hq_n0, hr_n0]; done))
      refine xo_guard (!v_1) rfl (fun hc_1 => ?_) (fun hc_1 => ?_)
      ·have hc_1 : v_1 = true := by first | (generalize v_1 = q at hc_1 ⊢; revert hc_1; cases q <;> simp; done) | simpa using hc_1
       try simp (maxSteps := 4000000) only [go_sem, Prod.mk.injEq, reduceIte, Nat.reduceEqDiff, Nat.reduceAdd, Nat.reduceSub, Nat.reduceMul, Nat.reduceDiv, Nat.reducePow, Nat.reduceLT, Nat.reduceLeDiff, Nat.reduceBEq, Nat.reduceBneDiff, Int.reduceToNat, Int.reduceEq, Int.reduceLE, Int.reduceLT, reduceCtorEq, oGdiskDisk, hq_n0, hr_n0, hc_1]
       repeat (with_reducible refine And.intro ?_ ?_; next => first | assumption | trivial | omega | decide | (constructor <;> first | assumption | omega) | (simp [Keep.ok, hp_cons_apply, hset_cons, oGdiskDisk, hq_n0, hr_n0]; done))
       refine xo_guard (decide (size < 0)) rfl (fun hc_2 => ?_) (fun hc_2 => ?_)
       ·have hg := hg (by simp only [Bool.and_true, Bool.true_and, Bool.and_false, Bool.false_and, Bool.or_true, Bool.true_or, Bool.or_false, Bool.false_or, Bool.not_true, Bool.not_false, Bool.not_not, hc_1, hc_2])
        exact hg.elim
       ·try simp (maxSteps := 4000000) only [go_sem, Prod.mk.injEq, reduceIte, Nat.reduceEqDiff, Nat.reduceAdd, Nat.reduceSub, Nat.reduceMul, Nat.reduceDiv, Nat.reducePow, Nat.reduceLT, Nat.reduceLeDiff, Nat.reduceBEq, Nat.reduceBneDiff, Int.reduceToNat, Int.reduceEq, Int.reduceLE, Int.reduceLT, reduceCtorEq, oGdiskDisk, hq_n0, hr_n0, hc_1, hc_2]
        repeat (with_reducible refine And.intro ?_ ?_; next => first | assumption | trivial | omega | decide | (constructor <;> first | assumption | omega) | (simp [Keep.ok, hp_cons_apply, hset_cons, oGdiskDisk, hq_n0, hr_n0]; done))
        refine hk _ _ _ ?_
        refine xghost (D := []) ?_ ?_ ?_ ?_
        ·exact (.cons (Sub.of_eq rfl) (.cons (Sub.of_eq rfl) (.cons (Sub.of_eq rfl) (.cons (Sub.of_eq (by first | rfl | (simp only [sget_cons, reduceIte, Nat.reduceEqDiff, Bool.and_true, Bool.true_and, Bool.and_false, Bool.false_and, Bool.or_true, Bool.true_or, Bool.or_false, Bool.false_or, Bool.not_true, Bool.not_false, Bool.not_not, hc_1, hc_2]; done))) .nil))))
        ·exact HpW.refl
        ·exact (by intro p hp; cases hp)
        ·omega
      ·have hc_1 : v_1 = false := by first | (generalize v_1 = q at hc_1 ⊢; revert hc_1; cases q <;> simp; done) | simpa using hc_1
       try simp (maxSteps := 4000000) only [go_sem, Prod.mk.injEq, reduceIte, Nat.reduceEqDiff, Nat.reduceAdd, Nat.reduceSub, Nat.reduceMul, Nat.reduceDiv, Nat.reducePow, Nat.reduceLT, Nat.reduceLeDiff, Nat.reduceBEq, Nat.reduceBneDiff, Int.reduceToNat, Int.reduceEq, Int.reduceLE, Int.reduceLT, reduceCtorEq, oGdiskDisk, hq_n0, hr_n0, hc_1]
       repeat (with_reducible refine And.intro ?_ ?_; next => first | assumption | trivial | omega | decide | (constructor <;> first | assumption | omega) | (simp [Keep.ok, hp_cons_apply, hset_cons, oGdiskDisk, hq_n0, hr_n0]; done))
       refine hk _ _ _ ?_
       refine xghost (D := []) ?_ ?_ ?_ ?_
       ·exact (.cons (Sub.of_eq rfl) (.cons (Sub.of_eq rfl) (.cons (Sub.of_eq rfl) (.cons (Sub.of_eq (by first | rfl | (simp only [sget_cons, reduceIte, Nat.reduceEqDiff, Bool.and_true, Bool.true_and, Bool.and_false, Bool.false_and, Bool.or_true, Bool.true_or, Bool.or_false, Bool.false_or, Bool.not_true, Bool.not_false, Bool.not_not, hc_1]; done))) .nil))))
       ·exact HpW.refl
       ·exact (by intro p hp; cases hp)
       ·omega
 ·try simp (maxSteps := 4000000) only [go_sem, Prod.mk.injEq, reduceIte, Nat.reduceEqDiff, Nat.reduceAdd, Nat.reduceSub, Nat.reduceMul, Nat.reduceDiv, Nat.reducePow, Nat.reduceLT, Nat.reduceLeDiff, Nat.reduceBEq, Nat.reduceBneDiff, Int.reduceToNat, Int.reduceEq, Int.reduceLE, Int.reduceLT, reduceCtorEq, oGdiskDisk, hq_n0, hr_n0]
  repeat (with_reducible refine And.intro ?_ ?_; next => first | assumption | trivial | omega | decide | (constructor <;> first | assumption | omega) | (simp [Keep.ok, hp_cons_apply, hset_cons, oGdiskDisk, hq_n0, hr_n0]; done))
  refine hk _ _ _ ?_
  refine xghost (D := []) ?_ ?_ ?_ ?_
  ·exact (.cons (Sub.of_eq rfl) (.cons (Sub.of_eq rfl) (.cons (Sub.of_eq rfl) .nil)))
  ·exact HpW.refl
  ·exact (by intro p hp; cases hp)
  ·omega
end
end Go.Proofs.Ythdmpdagkccphaa
