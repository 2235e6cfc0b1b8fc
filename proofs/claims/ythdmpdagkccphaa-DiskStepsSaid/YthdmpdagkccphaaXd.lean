/- Go functions as Lean functions, and that their code does as these say. Printed by a program of this work. -/
import Derived.Test.YthdmpdagkccphaaXL
import Derived.Test.YthdmpdagkccphaaXa
import Derived.Test.YthdmpdagkccphaaXb
import Derived.Test.YthdmpdagkccphaaXc
set_option linter.unusedVariables false
set_option linter.unusedSimpArgs false
set_option maxRecDepth 100000
set_option maxHeartbeats 4000000
namespace Go.Proofs.Ythdmpdagkccphaa
open Go Go.Al
noncomputable section
/-! stanchion/stanchionref00.CopyRows -/
def s_stanchionref00_CopyRows_b1 (s : List (List Int)) : (List (List Int) × Int) → Option ((List (List Int) × Int) ⊕ (List (List Int)))
 | (out, i) => if (decide (i < (s.length : Int))) = true then gd ((0 ≤ i ∧ Int.toNat i < s.length)) (bd (s_stanchionref00_CopyBytes (s.getD (Int.toNat i) [])) fun (v : List Int) => gd (((out.length + 1) * 24 ≤ 140737488355328 ∧ out.length + 1 < 9223372036854775808)) (some (.inl ((out ++ [v]), (IntKind.i64.wrap (i + 1)))))) else mr (some out)
def s_stanchionref00_CopyRows (s : List (List Int)) : Option (List (List Int)) :=
 loop (s_stanchionref00_CopyRows_b1 s) ([], 0)
theorem s_stanchionref00_CopyRows_ok (S : AHeap) (s : List (List Int)) {r : List (List Int)} (h : s_stanchionref00_CopyRows s = some r) :
  AC Try.prog n_stanchionref00_CopyRows [eS (lS (lI .u8)) s] S fun r' S' => r' = .ret (eS (lS (lI .u8)) r) ∧ S' = S := by
 refine AC_of tok mixed fits_stanchionref00_CopyRows fun d hd => ?_
 unfold c_stanchionref00_CopyRows
 show LW _ _ _ _ [(0, eS (lS (lI .u8)) s)] (hp [] S) 0 _
 rw [s_stanchionref00_CopyRows] at h
 refine xseq [(0, eS (lS (lI .u8)) s)] (hp [] S) 0 ?_ (fun k kp hk => ?_)
 ·refine xseq [(0, eS (lS (lI .u8)) s), (3, eT (lS (lI .u8)) (d, 0) [])] (hp [((d, 0), oT (lS (lI .u8)) [])] S) 1 ?_ (fun k kp hk => ?_)
  ·refine LW_seq ?_
   refine xseq [(0, eS (lS (lI .u8)) s), (3, eT (lS (lI .u8)) (d, 0) []), (4, .lit (.int .i64 0))] (hp [((d, 0), oT (lS (lI .u8)) [])] S) 1 ?_ (fun k kp hk => ?_)
   ·refine LW_block ?_
    refine LW_loopX (c := 1) (σ := List (List Int) × Int) (s := ([], 0)) (fun zz => [(0, eS (lS (lI .u8)) s), (3, eT (lS (lI .u8)) (d, 0) zz.1), (4, .lit (.int .i64 zz.2))]) (fun zz => (hp [((d, 0), oT (lS (lI .u8)) zz.1)] S)) h ?_ ?_
    ·clear h
     rintro ⟨out, i⟩ x1 d1 hd1 hf1 h hx1
     show LW _ _ _ _ [(0, eS (lS (lI .u8)) s), (3, eT (lS (lI .u8)) (d, 0) out), (4, .lit (.int .i64 i))] (hp [((d, 0), oT (lS (lI .u8)) out)] S) 0 _
     have hn1d : (d = d1) = False := by simp; omega
     have hm1d : (d1 = d) = False := by simp; omega
     rw [s_stanchionref00_CopyRows_b1] at h
     refine LW_seq ?_
     refine xseq [(0, eS (lS (lI .u8)) s), (3, eT (lS (lI .u8)) (d, 0) out), (4, .lit (.int .i64 i)), (9, .lit (.bool (decide (i < (s.length : Int)))))] (hp [((d, 0), oT (lS (lI .u8)) out)] S) 0 ?_ (fun k kp hk => ?_)
     ·refine xcond (decide (i < (s.length : Int))) rfl (fun hc => ?_) (fun hc => ?_)
      ·rw [ite_t hc] at h
       refine LW_skip ?_
       show LW _ _ _ _ _ _ _ _
       refine LW_seq ?_
       refine LW_block ?_
       obtain ⟨hg, h⟩ := gd_some h
       obtain ⟨v, hv, h⟩ := bd_some h
       obtain ⟨hg_1, h⟩ := gd_some h
       refine xreg [(0, eS (lS (lI .u8)) s), (3, eT (lS (lI .u8)) (d, 0) (out ++ [v])), (4, .lit (.int .i64 i))] (hp [((d, 0), oT (lS (lI .u8)) (out ++ [v]))] S) 0 ?_ (fun k kp hk => ?_)
       ·show LW _ _ _ _ _ _ _ _
        refine xreg [(0, eS (lS (lI .u8)) s), (3, eT (lS (lI .u8)) (d, 0) (out ++ [v])), (4, .lit (.int .i64 (IntKind.i64.wrap (i + 1))))] (hp [((d, 0), oT (lS (lI .u8)) (out ++ [v]))] S) 0 ?_ (fun k kp hk => ?_)
        ·cases h
         exact ⟨rfl, Less.refl _⟩
        ·try simp (maxSteps := 4000000) only [go_sem, Prod.mk.injEq, reduceIte, Nat.reduceEqDiff, Nat.reduceAdd, Nat.reduceSub, Nat.reduceMul, Nat.reduceDiv, Nat.reducePow, Nat.reduceLT, Nat.reduceLeDiff, Nat.reduceBEq, Nat.reduceBneDiff, Int.reduceToNat, Int.reduceEq, Int.reduceLE, Int.reduceLT, reduceCtorEq, hn1d, hm1d]
         repeat (with_reducible refine And.intro ?_ ?_; next => first | assumption | trivial | omega | decide | (constructor <;> first | assumption | omega) | (simp [Keep.ok, hp_cons_apply, hset_cons, hn1d, hm1d]; done))
         refine hk _ _ _ ?_
         refine xghost (D := []) ?_ ?_ ?_ ?_
         ·exact (.cons (Sub.of_eq rfl) (.cons (Sub.of_eq rfl) (.cons (Sub.of_eq rfl) .nil)))
         ·exact HpW.refl
         ·exact (by intro p hp; cases hp)
         ·omega
       ·try simp (maxSteps := 4000000) only [go_sem, Prod.mk.injEq, reduceIte, Nat.reduceEqDiff, Nat.reduceAdd, Nat.reduceSub, Nat.reduceMul, Nat.reduceDiv, Nat.reducePow, Nat.reduceLT, Nat.reduceLeDiff, Nat.reduceBEq, Nat.reduceBneDiff, Int.reduceToNat, Int.reduceEq, Int.reduceLE, Int.reduceLT, reduceCtorEq, hn1d, hm1d]
        repeat (with_reducible refine And.intro ?_ ?_; next => first | assumption | trivial | omega | decide | (constructor <;> first | assumption | omega) | (simp [Keep.ok, hp_cons_apply, hset_cons, hn1d, hm1d]; done))
        have hcall := s_stanchionref00_CopyBytes_ok (hp [((d, 0), oT (lS (lI .u8)) out)] S) (s.getD (Int.toNat i) []) hv
        refine call1_x hcall rfl ?_ ?_
        ·exact (.cons Sub.refl .nil)
        clear hcall
        rintro _ SS ⟨rfl, hSS⟩ -
        rw [hSS]
        clear hSS
        try simp (maxSteps := 4000000) only [go_sem, Prod.mk.injEq, reduceIte, Nat.reduceEqDiff, Nat.reduceAdd, Nat.reduceSub, Nat.reduceMul, Nat.reduceDiv, Nat.reducePow, Nat.reduceLT, Nat.reduceLeDiff, Nat.reduceBEq, Nat.reduceBneDiff, Int.reduceToNat, Int.reduceEq, Int.reduceLE, Int.reduceLT, reduceCtorEq, hn1d, hm1d]
        repeat (with_reducible refine And.intro ?_ ?_; next => first | assumption | trivial | omega | decide | (constructor <;> first | assumption | omega) | (simp [Keep.ok, hp_cons_apply, hset_cons, hn1d, hm1d]; done))
        refine append1_eT (L := (lS (lI .u8))) (n := (d, 0)) (xs := out) (ys := [v]) T41 T41 T22 ?_ rfl ?_ asrc_row ?_ rfl ?_ ?_
        ·first | exact .inl rfl | exact .inr rfl
        ·try simp (maxSteps := 4000000) only [go_sem, Prod.mk.injEq, reduceIte, Nat.reduceEqDiff, Nat.reduceAdd, Nat.reduceSub, Nat.reduceMul, Nat.reduceDiv, Nat.reducePow, Nat.reduceLT, Nat.reduceLeDiff, Nat.reduceBEq, Nat.reduceBneDiff, Int.reduceToNat, Int.reduceEq, Int.reduceLE, Int.reduceLT, reduceCtorEq, hn1d, hm1d]
        ·exact ⟨trivial, rfl⟩
        ·dsimp only [List.length]; omega
        try simp (maxSteps := 4000000) only [go_sem, Prod.mk.injEq, reduceIte, Nat.reduceEqDiff, Nat.reduceAdd, Nat.reduceSub, Nat.reduceMul, Nat.reduceDiv, Nat.reducePow, Nat.reduceLT, Nat.reduceLeDiff, Nat.reduceBEq, Nat.reduceBneDiff, Int.reduceToNat, Int.reduceEq, Int.reduceLE, Int.reduceLT, reduceCtorEq, hn1d, hm1d]
        repeat (with_reducible refine And.intro ?_ ?_; next => first | assumption | trivial | omega | decide | (constructor <;> first | assumption | omega) | (simp [Keep.ok, hp_cons_apply, hset_cons, hn1d, hm1d]; done))
        refine hk _ _ _ ?_
        refine xghost (D := []) ?_ ?_ ?_ ?_
        ·exact (.cons (Sub.of_eq rfl) (.cons (Sub.of_eq rfl) (.cons (Sub.of_eq rfl) .nil)))
        ·exact HpW.refl
        ·exact (by intro p hp; cases hp)
        ·omega
      ·rw [ite_f hc] at h
       obtain ⟨hq, hxe⟩ := mr_go h hx1
       clear h hx1
       subst hxe
       have h := hq
       clear hq
       refine LW_exitX (sl' := [(0, eS (lS (lI .u8)) s), (3, eT (lS (lI .u8)) (d, 0) out), (4, .lit (.int .i64 i)), (9, .lit (.bool (decide (i < (s.length : Int)))))]) (S' := (hp [((d, 0), oT (lS (lI .u8)) out)] S)) (c' := 0) ?_ ?_
       ·refine xghost (D := []) ?_ ?_ ?_ ?_
        ·exact (.cons (Sub.of_eq rfl) (.cons (Sub.of_eq rfl) (.cons (Sub.of_eq rfl) (.cons (Sub.of_eq rfl) .nil))))
        ·exact HpW.refl
        ·exact (by intro p hp; cases hp)
        ·omega
       ·show LW _ _ _ _ _ _ _ _
        refine xseq [(2, eS (lS (lI .u8)) out)] (hp [((d, 0), oT (lS (lI .u8)) out)] S) 1 ?_ (fun k kp hk => ?_)
        ·refine LW_ret ?_
         obtain rfl := Option.some.inj h
         show FPost _ _ _ _ _ _ _
         exact ⟨_, hp_less (L := []) (D := [((d, 0), oT (lS (lI .u8)) out)]) (by intro p hp; simp only [List.mem_cons, List.not_mem_nil, or_false] at hp; rcases hp with rfl <;> first | exact hd _ (Nat.le_refl _)), rfl, rfl⟩
        ·try simp (maxSteps := 4000000) only [go_sem, Prod.mk.injEq, reduceIte, Nat.reduceEqDiff, Nat.reduceAdd, Nat.reduceSub, Nat.reduceMul, Nat.reduceDiv, Nat.reducePow, Nat.reduceLT, Nat.reduceLeDiff, Nat.reduceBEq, Nat.reduceBneDiff, Int.reduceToNat, Int.reduceEq, Int.reduceLE, Int.reduceLT, reduceCtorEq, hn1d, hm1d]
         repeat (with_reducible refine And.intro ?_ ?_; next => first | assumption | trivial | omega | decide | (constructor <;> first | assumption | omega) | (simp [Keep.ok, hp_cons_apply, hset_cons, hn1d, hm1d]; done))
         refine hk _ _ _ ?_
         refine xghost (D := []) ?_ ?_ ?_ ?_
         ·exact (.cons Sub.tip .nil)
         ·exact HpW.refl
         ·exact (by intro p hp; cases hp)
         ·omega
     ·try simp (maxSteps := 4000000) only [go_sem, Prod.mk.injEq, reduceIte, Nat.reduceEqDiff, Nat.reduceAdd, Nat.reduceSub, Nat.reduceMul, Nat.reduceDiv, Nat.reducePow, Nat.reduceLT, Nat.reduceLeDiff, Nat.reduceBEq, Nat.reduceBneDiff, Int.reduceToNat, Int.reduceEq, Int.reduceLE, Int.reduceLT, reduceCtorEq, hn1d, hm1d]
      repeat (with_reducible refine And.intro ?_ ?_; next => first | assumption | trivial | omega | decide | (constructor <;> first | assumption | omega) | (simp [Keep.ok, hp_cons_apply, hset_cons, hn1d, hm1d]; done))
      refine hk _ _ _ ?_
      refine xghost (D := []) ?_ ?_ ?_ ?_
      ·exact (.cons (Sub.of_eq rfl) (.cons (Sub.of_eq rfl) (.cons (Sub.of_eq rfl) (.cons (Sub.of_eq rfl) .nil))))
      ·exact HpW.refl
      ·exact (by intro p hp; cases hp)
      ·omega
    ·refine xghost (D := []) ?_ ?_ ?_ ?_
     ·exact (.cons (Sub.of_eq rfl) (.cons (Sub.of_eq rfl) (.cons (Sub.of_eq rfl) .nil)))
     ·exact HpW.refl
     ·exact (by intro p hp; cases hp)
     ·omega
   ·try simp (maxSteps := 4000000) only [go_sem, Prod.mk.injEq, reduceIte, Nat.reduceEqDiff, Nat.reduceAdd, Nat.reduceSub, Nat.reduceMul, Nat.reduceDiv, Nat.reducePow, Nat.reduceLT, Nat.reduceLeDiff, Nat.reduceBEq, Nat.reduceBneDiff, Int.reduceToNat, Int.reduceEq, Int.reduceLE, Int.reduceLT, reduceCtorEq]
    repeat (with_reducible refine And.intro ?_ ?_; next => first | assumption | trivial | omega | decide | (constructor <;> first | assumption | omega) | (simp [Keep.ok, hp_cons_apply, hset_cons]; done))
    refine hk _ _ _ ?_
    refine xghost (D := []) ?_ ?_ ?_ ?_
    ·exact (.cons (Sub.of_eq rfl) (.cons (Sub.of_eq rfl) (.cons (Sub.of_eq rfl) .nil)))
    ·exact HpW.refl
    ·exact (by intro p hp; cases hp)
    ·omega
  ·try simp (maxSteps := 4000000) only [go_sem, Prod.mk.injEq, reduceIte, Nat.reduceEqDiff, Nat.reduceAdd, Nat.reduceSub, Nat.reduceMul, Nat.reduceDiv, Nat.reducePow, Nat.reduceLT, Nat.reduceLeDiff, Nat.reduceBEq, Nat.reduceBneDiff, Int.reduceToNat, Int.reduceEq, Int.reduceLE, Int.reduceLT, reduceCtorEq]
   repeat (with_reducible refine And.intro ?_ ?_; next => first | assumption | trivial | omega | decide | (constructor <;> first | assumption | omega) | (simp [Keep.ok, hp_cons_apply, hset_cons]; done))
   refine hk _ _ _ ?_
   refine Ghost.trans (xname (lS (lI .u8)) 3 Sub.refl) ?_
   try simp (maxSteps := 4000000) only [go_sem, Prod.mk.injEq, reduceIte, Nat.reduceEqDiff, Nat.reduceAdd, Nat.reduceSub, Nat.reduceMul, Nat.reduceDiv, Nat.reducePow, Nat.reduceLT, Nat.reduceLeDiff, Nat.reduceBEq, Nat.reduceBneDiff, Int.reduceToNat, Int.reduceEq, Int.reduceLE, Int.reduceLT, reduceCtorEq]
   refine xghost (D := []) ?_ ?_ ?_ ?_
   ·exact (.cons (Sub.of_eq rfl) (.cons (Sub.of_eq rfl) .nil))
   ·exact HpW.refl
   ·exact (by intro p hp; cases hp)
   ·omega
 ·try simp (maxSteps := 4000000) only [go_sem, Prod.mk.injEq, reduceIte, Nat.reduceEqDiff, Nat.reduceAdd, Nat.reduceSub, Nat.reduceMul, Nat.reduceDiv, Nat.reducePow, Nat.reduceLT, Nat.reduceLeDiff, Nat.reduceBEq, Nat.reduceBneDiff, Int.reduceToNat, Int.reduceEq, Int.reduceLE, Int.reduceLT, reduceCtorEq]
  repeat (with_reducible refine And.intro ?_ ?_; next => first | assumption | trivial | omega | decide | (constructor <;> first | assumption | omega) | (simp [Keep.ok, hp_cons_apply, hset_cons]; done))
  refine hk _ _ _ ?_
  refine xghost (D := []) ?_ ?_ ?_ ?_
  ·exact (.cons (Sub.of_eq rfl) .nil)
  ·exact HpW.refl
  ·exact (by intro p hp; cases hp)
  ·omega
/-! stanchion/stanchionlaw04.act -/
def s_stanchionlaw04_act (dx : GdiskDisk) (o : Glaw04Op) : Option (Int × GdiskDisk) :=
 if (o.What == 1) = true then bd (s_stanchionref00_CopyRows o.Parts) fun (v : List (List Int)) => bd (s_disk_Disk_Append dx o.Area v) fun (v_1 : Int × GdiskDisk) => some (v_1.1, v_1.2) else if (o.What == 2) = true then bd (s_disk_Disk_Trim dx o.Area o.N) fun (v_2 : Int × GdiskDisk) => some (v_2.1, v_2.2) else if (o.What == 3) = true then bd (s_stanchionref00_CopyInts o.Areas) fun (v_3 : List Int) => bd (s_disk_Disk_Sync dx v_3) fun (v_4 : Int × GdiskDisk) => some (v_4.1, v_4.2) else some (0, dx)
theorem s_stanchionlaw04_act_ok (S : AHeap) {n0 : Name} (dx : GdiskDisk) (o : Glaw04Op) {r : Int × GdiskDisk} (hS0 : S n0 = some (oGdiskDisk dx)) (h : s_stanchionlaw04_act dx o = some r) :
  AC Try.prog n_stanchionlaw04_act [.ptr n0 0, .agg [.lit (.int .i64 o.What), .lit (.int .i64 o.Area), .lit (.int .i64 o.N), eS (lS (lI .u8)) o.Parts, eS (lI .i64) o.Areas]] S fun r' S' => r' = .ret (.lit (.int .i64 r.1)) ∧ S' = S.set n0 (oGdiskDisk r.2) := by
 refine AC_of tok mixed fits_stanchionlaw04_act fun d hd => ?_
 unfold c_stanchionlaw04_act
 show LW _ _ _ _ [(0, .ptr n0 0), (1, .agg [.lit (.int .i64 o.What), .lit (.int .i64 o.Area), .lit (.int .i64 o.N), eS (lS (lI .u8)) o.Parts, eS (lI .i64) o.Areas])] S 0 _
 refine LW_heap (hp_in hS0) ?_
 have hl_n0 : n0.1 < d := lt_of_hd hd hS0
 have hq_n0 : ∀ k, (n0 = (d, k)) = False := fun k => ne_deep hl_n0
 have hr_n0 : ∀ k, ((d, k) = n0) = False := fun k => ne_deep' hl_n0
 show LW _ _ _ _ [(0, .ptr n0 0), (1, .agg [.lit (.int .i64 o.What), .lit (.int .i64 o.Area), .lit (.int .i64 o.N), eS (lS (lI .u8)) o.Parts, eS (lI .i64) o.Areas])] (hp [(n0, oGdiskDisk dx)] S) 0 _
 rw [s_stanchionlaw04_act] at h
 refine xseq [(0, .ptr n0 0), (3, .ptr (d, 0) 0)] (hp [(n0, oGdiskDisk dx), ((d, 0), .box [.lit (.int .i64 o.What), .lit (.int .i64 o.Area), .lit (.int .i64 o.N), eS (lS (lI .u8)) o.Parts, eS (lI .i64) o.Areas])] S) 1 ?_ (fun k kp hk => ?_)
 ·refine LW_seq ?_
  refine xseq [(0, .ptr n0 0), (3, .ptr (d, 0) 0), (6, .lit (.int .i64 o.What))] (hp [(n0, oGdiskDisk dx), ((d, 0), .box [.lit (.int .i64 o.What), .lit (.int .i64 o.Area), .lit (.int .i64 o.N), eS (lS (lI .u8)) o.Parts, eS (lI .i64) o.Areas])] S) 1 ?_ (fun k kp hk => ?_)
  ·refine LW_block ?_
   refine xseq [(0, .ptr n0 0), (3, .ptr (d, 0) 0), (6, .lit (.int .i64 o.What)), (7, .lit (.bool (o.What == 1)))] (hp [(n0, oGdiskDisk dx), ((d, 0), .box [.lit (.int .i64 o.What), .lit (.int .i64 o.Area), .lit (.int .i64 o.N), eS (lS (lI .u8)) o.Parts, eS (lI .i64) o.Areas])] S) 1 ?_ (fun k kp hk => ?_)
   ·refine xcond (o.What == 1) rfl (fun hc => ?_) (fun hc => ?_)
    ·rw [ite_t hc] at h
     obtain ⟨v, hv, h⟩ := bd_some h
     obtain ⟨v_1, hv_1, h⟩ := bd_some h
     refine xseqd [(4, .lit (.int .i64 v_1.1))] (hp [(n0, oGdiskDisk v_1.2), ((d, 0), .box [.lit (.int .i64 o.What), .lit (.int .i64 o.Area), .lit (.int .i64 o.N), eS (lS (lI .u8)) o.Parts, eS (lI .i64) o.Areas])] S) 1 ?_ (fun k kp hk => ?_)
     ·refine LW_ret ?_
      obtain rfl := Option.some.inj h
      show FPost _ _ _ _ _ _ _
      exact ⟨_, hp_less (L := [(n0, oGdiskDisk v_1.2)]) (D := [((d, 0), .box [.lit (.int .i64 o.What), .lit (.int .i64 o.Area), .lit (.int .i64 o.N), eS (lS (lI .u8)) o.Parts, eS (lI .i64) o.Areas])]) (by intro p hp; simp only [List.mem_cons, List.not_mem_nil, or_false] at hp; rcases hp with rfl <;> first | exact hd _ (Nat.le_refl _)), rfl, rfl⟩
     ·try simp (maxSteps := 4000000) only [go_sem, Prod.mk.injEq, reduceIte, Nat.reduceEqDiff, Nat.reduceAdd, Nat.reduceSub, Nat.reduceMul, Nat.reduceDiv, Nat.reducePow, Nat.reduceLT, Nat.reduceLeDiff, Nat.reduceBEq, Nat.reduceBneDiff, Int.reduceToNat, Int.reduceEq, Int.reduceLE, Int.reduceLT, reduceCtorEq, hq_n0, hr_n0]
      repeat (with_reducible refine And.intro ?_ ?_; next => first | assumption | trivial | omega | decide | (constructor <;> first | assumption | omega) | (simp [Keep.ok, hp_cons_apply, hset_cons, hq_n0, hr_n0]; done))
      have hcall := s_stanchionref00_CopyRows_ok (hp [(n0, oGdiskDisk dx), ((d, 0), .box [.lit (.int .i64 o.What), .lit (.int .i64 o.Area), .lit (.int .i64 o.N), eS (lS (lI .u8)) o.Parts, eS (lI .i64) o.Areas])] S) o.Parts hv
      refine call1_x hcall rfl ?_ ?_
      ·exact (.cons Sub.refl .nil)
      clear hcall
      rintro _ SS ⟨rfl, hSS⟩ -
      rw [hSS]
      clear hSS
      try simp (maxSteps := 4000000) only [go_sem, Prod.mk.injEq, reduceIte, Nat.reduceEqDiff, Nat.reduceAdd, Nat.reduceSub, Nat.reduceMul, Nat.reduceDiv, Nat.reducePow, Nat.reduceLT, Nat.reduceLeDiff, Nat.reduceBEq, Nat.reduceBneDiff, Int.reduceToNat, Int.reduceEq, Int.reduceLE, Int.reduceLT, reduceCtorEq, hq_n0, hr_n0]
      repeat (with_reducible refine And.intro ?_ ?_; next => first | assumption | trivial | omega | decide | (constructor <;> first | assumption | omega) | (simp [Keep.ok, hp_cons_apply, hset_cons, hq_n0, hr_n0]; done))
      try simp (maxSteps := 4000000) only [go_sem, Prod.mk.injEq, reduceIte, Nat.reduceEqDiff, Nat.reduceAdd, Nat.reduceSub, Nat.reduceMul, Nat.reduceDiv, Nat.reducePow, Nat.reduceLT, Nat.reduceLeDiff, Nat.reduceBEq, Nat.reduceBneDiff, Int.reduceToNat, Int.reduceEq, Int.reduceLE, Int.reduceLT, reduceCtorEq, hq_n0, hr_n0]
      repeat (with_reducible refine And.intro ?_ ?_; next => first | assumption | trivial | omega | decide | (constructor <;> first | assumption | omega) | (simp [Keep.ok, hp_cons_apply, hset_cons, hq_n0, hr_n0]; done))
      have hcall := s_disk_Disk_Append_ok (n0 := n0) (hS0 := by simp only [hp_cons_apply, hp_nil_apply, reduceIte, Prod.mk.injEq, Nat.reduceEqDiff, and_true, and_false, true_and, false_and, hq_n0, hr_n0] <;> rfl) (hp [(n0, oGdiskDisk dx), ((d, 0), .box [.lit (.int .i64 o.What), .lit (.int .i64 o.Area), .lit (.int .i64 o.N), eS (lS (lI .u8)) o.Parts, eS (lI .i64) o.Areas])] S) _ o.Area v (h := hv_1)
      refine call1_x hcall rfl ?_ ?_
      ·exact (.cons Sub.refl (.cons Sub.refl (.cons Sub.refl .nil)))
      clear hcall
      rintro _ SS ⟨rfl, hSS⟩ -
      rw [hSS]
      clear hSS
      try simp (maxSteps := 4000000) only [go_sem, Prod.mk.injEq, reduceIte, Nat.reduceEqDiff, Nat.reduceAdd, Nat.reduceSub, Nat.reduceMul, Nat.reduceDiv, Nat.reducePow, Nat.reduceLT, Nat.reduceLeDiff, Nat.reduceBEq, Nat.reduceBneDiff, Int.reduceToNat, Int.reduceEq, Int.reduceLE, Int.reduceLT, reduceCtorEq, hq_n0, hr_n0]
      repeat (with_reducible refine And.intro ?_ ?_; next => first | assumption | trivial | omega | decide | (constructor <;> first | assumption | omega) | (simp [Keep.ok, hp_cons_apply, hset_cons, hq_n0, hr_n0]; done))
      try simp (maxSteps := 4000000) only [go_sem, Prod.mk.injEq, reduceIte, Nat.reduceEqDiff, Nat.reduceAdd, Nat.reduceSub, Nat.reduceMul, Nat.reduceDiv, Nat.reducePow, Nat.reduceLT, Nat.reduceLeDiff, Nat.reduceBEq, Nat.reduceBneDiff, Int.reduceToNat, Int.reduceEq, Int.reduceLE, Int.reduceLT, reduceCtorEq, hq_n0, hr_n0]
      repeat (with_reducible refine And.intro ?_ ?_; next => first | assumption | trivial | omega | decide | (constructor <;> first | assumption | omega) | (simp [Keep.ok, hp_cons_apply, hset_cons, hq_n0, hr_n0]; done))
      refine hk _ _ _ ?_
      refine xghost (D := []) ?_ ?_ ?_ ?_
      ·exact (.cons (Sub.of_eq rfl) .nil)
      ·exact HpW.refl
      ·exact (by intro p hp; cases hp)
      ·omega
    ·rw [ite_f hc] at h
     refine xseq [(0, .ptr n0 0), (3, .ptr (d, 0) 0), (6, .lit (.int .i64 o.What)), (16, .lit (.bool (o.What == 2)))] (hp [(n0, oGdiskDisk dx), ((d, 0), .box [.lit (.int .i64 o.What), .lit (.int .i64 o.Area), .lit (.int .i64 o.N), eS (lS (lI .u8)) o.Parts, eS (lI .i64) o.Areas])] S) 1 ?_ (fun k kp hk => ?_)
     ·refine xcond (o.What == 2) rfl (fun hc_1 => ?_) (fun hc_1 => ?_)
      ·rw [ite_t hc_1] at h
       obtain ⟨v_2, hv_2, h⟩ := bd_some h
       refine xseq [(4, .lit (.int .i64 v_2.1))] (hp [(n0, oGdiskDisk v_2.2), ((d, 0), .box [.lit (.int .i64 o.What), .lit (.int .i64 o.Area), .lit (.int .i64 o.N), eS (lS (lI .u8)) o.Parts, eS (lI .i64) o.Areas])] S) 1 ?_ (fun k kp hk => ?_)
       ·refine LW_ret ?_
        obtain rfl := Option.some.inj h
        show FPost _ _ _ _ _ _ _
        exact ⟨_, hp_less (L := [(n0, oGdiskDisk v_2.2)]) (D := [((d, 0), .box [.lit (.int .i64 o.What), .lit (.int .i64 o.Area), .lit (.int .i64 o.N), eS (lS (lI .u8)) o.Parts, eS (lI .i64) o.Areas])]) (by intro p hp; simp only [List.mem_cons, List.not_mem_nil, or_false] at hp; rcases hp with rfl <;> first | exact hd _ (Nat.le_refl _)), rfl, rfl⟩
       ·try simp (maxSteps := 4000000) only [go_sem, Prod.mk.injEq, reduceIte, Nat.reduceEqDiff, Nat.reduceAdd, Nat.reduceSub, Nat.reduceMul, Nat.reduceDiv, Nat.reducePow, Nat.reduceLT, Nat.reduceLeDiff, Nat.reduceBEq, Nat.reduceBneDiff, Int.reduceToNat, Int.reduceEq, Int.reduceLE, Int.reduceLT, reduceCtorEq, hq_n0, hr_n0]
        repeat (with_reducible refine And.intro ?_ ?_; next => first | assumption | trivial | omega | decide | (constructor <;> first | assumption | omega) | (simp [Keep.ok, hp_cons_apply, hset_cons, hq_n0, hr_n0]; done))
        have hcall := s_disk_Disk_Trim_ok (n0 := n0) (hS0 := by simp only [hp_cons_apply, hp_nil_apply, reduceIte, Prod.mk.injEq, Nat.reduceEqDiff, and_true, and_false, true_and, false_and, hq_n0, hr_n0] <;> rfl) (hp [(n0, oGdiskDisk dx), ((d, 0), .box [.lit (.int .i64 o.What), .lit (.int .i64 o.Area), .lit (.int .i64 o.N), eS (lS (lI .u8)) o.Parts, eS (lI .i64) o.Areas])] S) _ o.Area o.N (h := hv_2)
        refine call1_x hcall rfl ?_ ?_
        ·exact (.cons Sub.refl (.cons Sub.refl (.cons Sub.refl .nil)))
        clear hcall
        rintro _ SS ⟨rfl, hSS⟩ -
        rw [hSS]
        clear hSS
        try simp (maxSteps := 4000000) only [go_sem, Prod.mk.injEq, reduceIte, Nat.reduceEqDiff, Nat.reduceAdd, Nat.reduceSub, Nat.reduceMul, Nat.reduceDiv, Nat.reducePow, Nat.reduceLT, Nat.reduceLeDiff, Nat.reduceBEq, Nat.reduceBneDiff, Int.reduceToNat, Int.reduceEq, Int.reduceLE, Int.reduceLT, reduceCtorEq, hq_n0, hr_n0]
        repeat (with_reducible refine And.intro ?_ ?_; next => first | assumption | trivial | omega | decide | (constructor <;> first | assumption | omega) | (simp [Keep.ok, hp_cons_apply, hset_cons, hq_n0, hr_n0]; done))
        refine hk _ _ _ ?_
        refine xghost (D := []) ?_ ?_ ?_ ?_
        ·exact (.cons (Sub.of_eq rfl) .nil)
        ·exact HpW.refl
        ·exact (by intro p hp; cases hp)
        ·omega
      ·rw [ite_f hc_1] at h
       refine xseq [(0, .ptr n0 0), (3, .ptr (d, 0) 0), (24, .lit (.bool (o.What == 3)))] (hp [(n0, oGdiskDisk dx), ((d, 0), .box [.lit (.int .i64 o.What), .lit (.int .i64 o.Area), .lit (.int .i64 o.N), eS (lS (lI .u8)) o.Parts, eS (lI .i64) o.Areas])] S) 1 ?_ (fun k kp hk => ?_)
       ·refine xcond (o.What == 3) rfl (fun hc_2 => ?_) (fun hc_2 => ?_)
        ·rw [ite_t hc_2] at h
         obtain ⟨v_3, hv_3, h⟩ := bd_some h
         obtain ⟨v_4, hv_4, h⟩ := bd_some h
         refine xseq [(4, .lit (.int .i64 v_4.1))] (hp [(n0, oGdiskDisk v_4.2), ((d, 0), .box [.lit (.int .i64 o.What), .lit (.int .i64 o.Area), .lit (.int .i64 o.N), eS (lS (lI .u8)) o.Parts, eS (lI .i64) o.Areas])] S) 1 ?_ (fun k kp hk => ?_)
         ·refine LW_ret ?_
          obtain rfl := Option.some.inj h
          show FPost _ _ _ _ _ _ _
          exact ⟨_, hp_less (L := [(n0, oGdiskDisk v_4.2)]) (D := [((d, 0), .box [.lit (.int .i64 o.What), .lit (.int .i64 o.Area), .lit (.int .i64 o.N), eS (lS (lI .u8)) o.Parts, eS (lI .i64) o.Areas])]) (by intro p hp; simp only [List.mem_cons, List.not_mem_nil, or_false] at hp; rcases hp with rfl <;> first | exact hd _ (Nat.le_refl _)), rfl, rfl⟩
         ·try simp (maxSteps := 4000000) only [go_sem, Prod.mk.injEq, reduceIte, Nat.reduceEqDiff, Nat.reduceAdd, Nat.reduceSub, Nat.reduceMul, Nat.reduceDiv, Nat.reducePow, Nat.reduceLT, Nat.reduceLeDiff, Nat.reduceBEq, Nat.reduceBneDiff, Int.reduceToNat, Int.reduceEq, Int.reduceLE, Int.reduceLT, reduceCtorEq, hq_n0, hr_n0]
          repeat (with_reducible refine And.intro ?_ ?_; next => first | assumption | trivial | omega | decide | (constructor <;> first | assumption | omega) | (simp [Keep.ok, hp_cons_apply, hset_cons, hq_n0, hr_n0]; done))
          have hcall := s_stanchionref00_CopyInts_ok (hp [(n0, oGdiskDisk dx), ((d, 0), .box [.lit (.int .i64 o.What), .lit (.int .i64 o.Area), .lit (.int .i64 o.N), eS (lS (lI .u8)) o.Parts, eS (lI .i64) o.Areas])] S) o.Areas hv_3
          refine call1_x hcall rfl ?_ ?_
          ·exact (.cons Sub.refl .nil)
          clear hcall
          rintro _ SS ⟨rfl, hSS⟩ -
          rw [hSS]
          clear hSS
          try simp (maxSteps := 4000000) only [go_sem, Prod.mk.injEq, reduceIte, Nat.reduceEqDiff, Nat.reduceAdd, Nat.reduceSub, Nat.reduceMul, Nat.reduceDiv, Nat.reducePow, Nat.reduceLT, Nat.reduceLeDiff, Nat.reduceBEq, Nat.reduceBneDiff, Int.reduceToNat, Int.reduceEq, Int.reduceLE, Int.reduceLT, reduceCtorEq, hq_n0, hr_n0]
          repeat (with_reducible refine And.intro ?_ ?_; next => first | assumption | trivial | omega | decide | (constructor <;> first | assumption | omega) | (simp [Keep.ok, hp_cons_apply, hset_cons, hq_n0, hr_n0]; done))
          have hcall := s_disk_Disk_Sync_ok (n0 := n0) (hS0 := by simp only [hp_cons_apply, hp_nil_apply, reduceIte, Prod.mk.injEq, Nat.reduceEqDiff, and_true, and_false, true_and, false_and, hq_n0, hr_n0] <;> rfl) (hp [(n0, oGdiskDisk dx), ((d, 0), .box [.lit (.int .i64 o.What), .lit (.int .i64 o.Area), .lit (.int .i64 o.N), eS (lS (lI .u8)) o.Parts, eS (lI .i64) o.Areas])] S) _ v_3 (h := hv_4)
          refine call1_x hcall rfl ?_ ?_
          ·exact (.cons Sub.refl (.cons Sub.refl .nil))
          clear hcall
          rintro _ SS ⟨rfl, hSS⟩ -
          rw [hSS]
          clear hSS
          try simp (maxSteps := 4000000) only [go_sem, Prod.mk.injEq, reduceIte, Nat.reduceEqDiff, Nat.reduceAdd, Nat.reduceSub, Nat.reduceMul, Nat.reduceDiv, Nat.reducePow, Nat.reduceLT, Nat.reduceLeDiff, Nat.reduceBEq, Nat.reduceBneDiff, Int.reduceToNat, Int.reduceEq, Int.reduceLE, Int.reduceLT, reduceCtorEq, hq_n0, hr_n0]
          repeat (with_reducible refine And.intro ?_ ?_; next => first | assumption | trivial | omega | decide | (constructor <;> first | assumption | omega) | (simp [Keep.ok, hp_cons_apply, hset_cons, hq_n0, hr_n0]; done))
          refine hk _ _ _ ?_
          refine xghost (D := []) ?_ ?_ ?_ ?_
          ·exact (.cons (Sub.of_eq rfl) .nil)
          ·exact HpW.refl
          ·exact (by intro p hp; cases hp)
          ·omega
        ·rw [ite_f hc_2] at h
         refine LW_skip ?_
         show LW _ _ _ _ _ _ _ _
         refine xseq [(4, .lit (.int .i64 0))] (hp [(n0, oGdiskDisk dx), ((d, 0), .box [.lit (.int .i64 o.What), .lit (.int .i64 o.Area), .lit (.int .i64 o.N), eS (lS (lI .u8)) o.Parts, eS (lI .i64) o.Areas])] S) 1 ?_ (fun k kp hk => ?_)
         ·refine LW_ret ?_
          obtain rfl := Option.some.inj h
          show FPost _ _ _ _ _ _ _
          exact ⟨_, hp_less (L := [(n0, oGdiskDisk dx)]) (D := [((d, 0), .box [.lit (.int .i64 o.What), .lit (.int .i64 o.Area), .lit (.int .i64 o.N), eS (lS (lI .u8)) o.Parts, eS (lI .i64) o.Areas])]) (by intro p hp; simp only [List.mem_cons, List.not_mem_nil, or_false] at hp; rcases hp with rfl <;> first | exact hd _ (Nat.le_refl _)), rfl, rfl⟩
         ·try simp (maxSteps := 4000000) only [go_sem, Prod.mk.injEq, reduceIte, Nat.reduceEqDiff, Nat.reduceAdd, Nat.reduceSub, Nat.reduceMul, Nat.reduceDiv, Nat.reducePow, Nat.reduceLT, Nat.reduceLeDiff, Nat.reduceBEq, Nat.reduceBneDiff, Int.reduceToNat, Int.reduceEq, Int.reduceLE, Int.reduceLT, reduceCtorEq, hq_n0, hr_n0]
          repeat (with_reducible refine And.intro ?_ ?_; next => first | assumption | trivial | omega | decide | (constructor <;> first | assumption | omega) | (simp [Keep.ok, hp_cons_apply, hset_cons, hq_n0, hr_n0]; done))
          refine hk _ _ _ ?_
          refine xghost (D := []) ?_ ?_ ?_ ?_
          ·exact (.cons (Sub.of_eq rfl) .nil)
          ·exact HpW.refl
          ·exact (by intro p hp; cases hp)
          ·omega
       ·try simp (maxSteps := 4000000) only [go_sem, Prod.mk.injEq, reduceIte, Nat.reduceEqDiff, Nat.reduceAdd, Nat.reduceSub, Nat.reduceMul, Nat.reduceDiv, Nat.reducePow, Nat.reduceLT, Nat.reduceLeDiff, Nat.reduceBEq, Nat.reduceBneDiff, Int.reduceToNat, Int.reduceEq, Int.reduceLE, Int.reduceLT, reduceCtorEq, hq_n0, hr_n0]
        repeat (with_reducible refine And.intro ?_ ?_; next => first | assumption | trivial | omega | decide | (constructor <;> first | assumption | omega) | (simp [Keep.ok, hp_cons_apply, hset_cons, hq_n0, hr_n0]; done))
        refine hk _ _ _ ?_
        refine xghost (D := []) ?_ ?_ ?_ ?_
        ·exact (.cons (Sub.of_eq rfl) (.cons (Sub.of_eq rfl) (.cons (Sub.of_eq rfl) .nil)))
        ·exact HpW.refl
        ·exact (by intro p hp; cases hp)
        ·omega
     ·try simp (maxSteps := 4000000) only [go_sem, Prod.mk.injEq, reduceIte, Nat.reduceEqDiff, Nat.reduceAdd, Nat.reduceSub, Nat.reduceMul, Nat.reduceDiv, Nat.reducePow, Nat.reduceLT, Nat.reduceLeDiff, Nat.reduceBEq, Nat.reduceBneDiff, Int.reduceToNat, Int.reduceEq, Int.reduceLE, Int.reduceLT, reduceCtorEq, hq_n0, hr_n0]
      repeat (with_reducible refine And.intro ?_ ?_; next => first | assumption | trivial | omega | decide | (constructor <;> first | assumption | omega) | (simp [Keep.ok, hp_cons_apply, hset_cons, hq_n0, hr_n0]; done))
      refine hk _ _ _ ?_
      refine xghost (D := []) ?_ ?_ ?_ ?_
      ·exact (.cons (Sub.of_eq rfl) (.cons (Sub.of_eq rfl) (.cons (Sub.of_eq rfl) (.cons (Sub.of_eq rfl) .nil))))
      ·exact HpW.refl
      ·exact (by intro p hp; cases hp)
      ·omega
   ·try simp (maxSteps := 4000000) only [go_sem, Prod.mk.injEq, reduceIte, Nat.reduceEqDiff, Nat.reduceAdd, Nat.reduceSub, Nat.reduceMul, Nat.reduceDiv, Nat.reducePow, Nat.reduceLT, Nat.reduceLeDiff, Nat.reduceBEq, Nat.reduceBneDiff, Int.reduceToNat, Int.reduceEq, Int.reduceLE, Int.reduceLT, reduceCtorEq, hq_n0, hr_n0]
    repeat (with_reducible refine And.intro ?_ ?_; next => first | assumption | trivial | omega | decide | (constructor <;> first | assumption | omega) | (simp [Keep.ok, hp_cons_apply, hset_cons, hq_n0, hr_n0]; done))
    refine hk _ _ _ ?_
    refine xghost (D := []) ?_ ?_ ?_ ?_
    ·exact (.cons (Sub.of_eq rfl) (.cons (Sub.of_eq rfl) (.cons (Sub.of_eq rfl) (.cons (Sub.of_eq rfl) .nil))))
    ·exact HpW.refl
    ·exact (by intro p hp; cases hp)
    ·omega
  ·try simp (maxSteps := 4000000) only [go_sem, Prod.mk.injEq, reduceIte, Nat.reduceEqDiff, Nat.reduceAdd, Nat.reduceSub, Nat.reduceMul, Nat.reduceDiv, Nat.reducePow, Nat.reduceLT, Nat.reduceLeDiff, Nat.reduceBEq, Nat.reduceBneDiff, Int.reduceToNat, Int.reduceEq, Int.reduceLE, Int.reduceLT, reduceCtorEq, hq_n0, hr_n0]
   repeat (with_reducible refine And.intro ?_ ?_; next => first | assumption | trivial | omega | decide | (constructor <;> first | assumption | omega) | (simp [Keep.ok, hp_cons_apply, hset_cons, hq_n0, hr_n0]; done))
   refine hk _ _ _ ?_
   refine xghost (D := []) ?_ ?_ ?_ ?_
   ·exact (.cons (Sub.of_eq rfl) (.cons (Sub.of_eq rfl) (.cons (Sub.of_eq rfl) .nil)))
   ·exact HpW.refl
   ·exact (by intro p hp; cases hp)
   ·omega
 ·try simp (maxSteps := 4000000) only [go_sem, Prod.mk.injEq, reduceIte, Nat.reduceEqDiff, Nat.reduceAdd, Nat.reduceSub, Nat.reduceMul, Nat.reduceDiv, Nat.reducePow, Nat.reduceLT, Nat.reduceLeDiff, Nat.reduceBEq, Nat.reduceBneDiff, Int.reduceToNat, Int.reduceEq, Int.reduceLE, Int.reduceLT, reduceCtorEq, hq_n0, hr_n0]
  repeat (with_reducible refine And.intro ?_ ?_; next => first | assumption | trivial | omega | decide | (constructor <;> first | assumption | omega) | (simp [Keep.ok, hp_cons_apply, hset_cons, hq_n0, hr_n0]; done))
  refine hk _ _ _ ?_
  refine xghost (D := []) ?_ ?_ ?_ ?_
  ·exact (.cons (Sub.of_eq rfl) (.cons (Sub.of_eq rfl) .nil))
  ·exact HpW.refl
  ·exact (by intro p hp; cases hp)
  ·omega
/-! stanchion/stanchionref00.SameBytes -/
def s_stanchionref00_SameBytes_b1 (a : List Int) (b : List Int) : Int → Option ((Int) ⊕ Bool)
 | i => if (decide (i < (a.length : Int))) = true then gd ((0 ≤ i ∧ Int.toNat i < a.length)) (gd ((0 ≤ i ∧ Int.toNat i < b.length)) (if ((a.getD (Int.toNat i) 0) != (b.getD (Int.toNat i) 0)) = true then mr (some false) else some (.inl (IntKind.i64.wrap (i + 1))))) else mr (some true)
def s_stanchionref00_SameBytes (a : List Int) (b : List Int) : Option Bool :=
 if ((a.length : Int) != (b.length : Int)) = true then some false else loop (s_stanchionref00_SameBytes_b1 a b) 0
theorem s_stanchionref00_SameBytes_ok (S : AHeap) (a : List Int) (b : List Int) {r : Bool} (h : s_stanchionref00_SameBytes a b = some r) :
  AC Try.prog n_stanchionref00_SameBytes [eS (lI .u8) a, eS (lI .u8) b] S fun r' S' => r' = .ret (.lit (.bool r)) ∧ S' = S := by
 refine AC_of tok mixed fits_stanchionref00_SameBytes fun d hd => ?_
 unfold c_stanchionref00_SameBytes
 show LW _ _ _ _ [(0, eS (lI .u8) a), (1, eS (lI .u8) b)] (hp [] S) 0 _
 rw [s_stanchionref00_SameBytes] at h
 refine xseq [(0, eS (lI .u8) a), (1, eS (lI .u8) b)] (hp [] S) 0 ?_ (fun k kp hk => ?_)
 ·refine LW_seq ?_
  refine xseq [(0, eS (lI .u8) a), (1, eS (lI .u8) b), (10, .lit (.bool ((a.length : Int) != (b.length : Int))))] (hp [] S) 0 ?_ (fun k kp hk => ?_)
  ·refine xcond ((a.length : Int) != (b.length : Int)) rfl (fun hc => ?_) (fun hc => ?_)
   ·rw [ite_t hc] at h
    refine xseq [(4, .lit (.bool false))] (hp [] S) 0 ?_ (fun k kp hk => ?_)
    ·refine LW_ret ?_
     obtain rfl := Option.some.inj h
     show FPost _ _ _ _ _ _ _
     exact ⟨_, hp_less (L := []) (D := []) (by intro p hp; cases hp), rfl, rfl⟩
    ·try simp (maxSteps := 4000000) only [go_sem, Prod.mk.injEq, reduceIte, Nat.reduceEqDiff, Nat.reduceAdd, Nat.reduceSub, Nat.reduceMul, Nat.reduceDiv, Nat.reducePow, Nat.reduceLT, Nat.reduceLeDiff, Nat.reduceBEq, Nat.reduceBneDiff, Int.reduceToNat, Int.reduceEq, Int.reduceLE, Int.reduceLT, reduceCtorEq]
     repeat (with_reducible refine And.intro ?_ ?_; next => first | assumption | trivial | omega | decide | (constructor <;> first | assumption | omega) | (simp [Keep.ok, hp_cons_apply, hset_cons]; done))
     refine hk _ _ _ ?_
     refine xghost (D := []) ?_ ?_ ?_ ?_
     ·exact (.cons (Sub.of_eq rfl) .nil)
     ·exact HpW.refl
     ·exact (by intro p hp; cases hp)
     ·omega
   ·rw [ite_f hc] at h
    refine LW_skip ?_
    show LW _ _ _ _ _ _ _ _
    refine LW_seq ?_
    refine xseq [(0, eS (lI .u8) a), (1, eS (lI .u8) b), (5, .lit (.int .i64 0))] (hp [] S) 0 ?_ (fun k kp hk => ?_)
    ·refine LW_block ?_
     refine LW_loopX (c := 0) (σ := Int) (s := 0) (fun zz => [(0, eS (lI .u8) a), (1, eS (lI .u8) b), (5, .lit (.int .i64 zz))]) (fun zz => (hp [] S)) h ?_ ?_
     ·clear h
      rintro i x1 d1 hd1 hf1 h hx1
      show LW _ _ _ _ [(0, eS (lI .u8) a), (1, eS (lI .u8) b), (5, .lit (.int .i64 i))] (hp [] S) 0 _
      have hn1d : (d = d1) = False := by simp; omega
      have hm1d : (d1 = d) = False := by simp; omega
      rw [s_stanchionref00_SameBytes_b1] at h
      refine LW_seq ?_
      refine xseq [(0, eS (lI .u8) a), (1, eS (lI .u8) b), (5, .lit (.int .i64 i)), (14, .lit (.bool (decide (i < (a.length : Int)))))] (hp [] S) 0 ?_ (fun k kp hk => ?_)
      ·refine xcond (decide (i < (a.length : Int))) rfl (fun hc_1 => ?_) (fun hc_1 => ?_)
       ·rw [ite_t hc_1] at h
        refine LW_skip ?_
        show LW _ _ _ _ _ _ _ _
        refine LW_seq ?_
        refine LW_block ?_
        obtain ⟨hg, h⟩ := gd_some h
        obtain ⟨hg_1, h⟩ := gd_some h
        refine xseqd [(0, eS (lI .u8) a), (1, eS (lI .u8) b), (5, .lit (.int .i64 i)), (25, .lit (.bool ((a.getD (Int.toNat i) 0) != (b.getD (Int.toNat i) 0))))] (hp [] S) 0 ?_ (fun k kp hk => ?_)
        ·refine xcond ((a.getD (Int.toNat i) 0) != (b.getD (Int.toNat i) 0)) rfl (fun hc_2 => ?_) (fun hc_2 => ?_)
         ·rw [ite_t hc_2] at h
          refine xseq [(0, eS (lI .u8) a), (1, eS (lI .u8) b), (4, .lit (.bool false)), (5, .lit (.int .i64 i))] (hp [] S) 0 ?_ (fun k kp hk => ?_)
          ·obtain ⟨hq, hxe⟩ := mr_go h hx1
           clear h hx1
           subst hxe
           have h := hq
           clear hq
           refine LW_retX (sl' := [(4, .lit (.bool false))]) (S' := (hp [] S)) (c' := 0) ?_ ?_
           ·refine xghost (D := []) ?_ ?_ ?_ ?_
            ·exact (.cons (Sub.of_eq rfl) .nil)
            ·exact HpW.refl
            ·exact (by intro p hp; cases hp)
            ·omega
           ·obtain rfl := Option.some.inj h
            show FPost _ _ _ _ _ _ _
            exact ⟨_, hp_less (L := []) (D := []) (by intro p hp; cases hp), rfl, rfl⟩
          ·try simp (maxSteps := 4000000) only [go_sem, Prod.mk.injEq, reduceIte, Nat.reduceEqDiff, Nat.reduceAdd, Nat.reduceSub, Nat.reduceMul, Nat.reduceDiv, Nat.reducePow, Nat.reduceLT, Nat.reduceLeDiff, Nat.reduceBEq, Nat.reduceBneDiff, Int.reduceToNat, Int.reduceEq, Int.reduceLE, Int.reduceLT, reduceCtorEq, hn1d, hm1d]
           repeat (with_reducible refine And.intro ?_ ?_; next => first | assumption | trivial | omega | decide | (constructor <;> first | assumption | omega) | (simp [Keep.ok, hp_cons_apply, hset_cons, hn1d, hm1d]; done))
           refine hk _ _ _ ?_
           refine xghost (D := []) ?_ ?_ ?_ ?_
           ·exact (.cons (Sub.of_eq rfl) (.cons (Sub.of_eq rfl) (.cons (Sub.of_eq rfl) (.cons (Sub.of_eq rfl) .nil))))
           ·exact HpW.refl
           ·exact (by intro p hp; cases hp)
           ·omega
         ·rw [ite_f hc_2] at h
          refine LW_skip ?_
          show LW _ _ _ _ _ _ _ _
          refine xreg [(0, eS (lI .u8) a), (1, eS (lI .u8) b), (5, .lit (.int .i64 (IntKind.i64.wrap (i + 1))))] (hp [] S) 0 ?_ (fun k kp hk => ?_)
          ·cases h
           exact ⟨rfl, Less.refl _⟩
          ·try simp (maxSteps := 4000000) only [go_sem, Prod.mk.injEq, reduceIte, Nat.reduceEqDiff, Nat.reduceAdd, Nat.reduceSub, Nat.reduceMul, Nat.reduceDiv, Nat.reducePow, Nat.reduceLT, Nat.reduceLeDiff, Nat.reduceBEq, Nat.reduceBneDiff, Int.reduceToNat, Int.reduceEq, Int.reduceLE, Int.reduceLT, reduceCtorEq, hn1d, hm1d]
           repeat (with_reducible refine And.intro ?_ ?_; next => first | assumption | trivial | omega | decide | (constructor <;> first | assumption | omega) | (simp [Keep.ok, hp_cons_apply, hset_cons, hn1d, hm1d]; done))
           refine hk _ _ _ ?_
           refine xghost (D := []) ?_ ?_ ?_ ?_
           ·exact (.cons (Sub.of_eq rfl) (.cons (Sub.of_eq rfl) (.cons (Sub.of_eq rfl) .nil)))
           ·exact HpW.refl
           ·exact (by intro p hp; cases hp)
           ·omega
        ·try simp (maxSteps := 4000000) only [go_sem, Prod.mk.injEq, reduceIte, Nat.reduceEqDiff, Nat.reduceAdd, Nat.reduceSub, Nat.reduceMul, Nat.reduceDiv, Nat.reducePow, Nat.reduceLT, Nat.reduceLeDiff, Nat.reduceBEq, Nat.reduceBneDiff, Int.reduceToNat, Int.reduceEq, Int.reduceLE, Int.reduceLT, reduceCtorEq, hn1d, hm1d]
         repeat (with_reducible refine And.intro ?_ ?_; next => first | assumption | trivial | omega | decide | (constructor <;> first | assumption | omega) | (simp [Keep.ok, hp_cons_apply, hset_cons, hn1d, hm1d]; done))
         refine hk _ _ _ ?_
         refine xghost (D := []) ?_ ?_ ?_ ?_
         ·exact (.cons (Sub.of_eq rfl) (.cons (Sub.of_eq rfl) (.cons (Sub.of_eq rfl) (.cons (Sub.of_eq rfl) .nil))))
         ·exact HpW.refl
         ·exact (by intro p hp; cases hp)
         ·omega
       ·rw [ite_f hc_1] at h
        obtain ⟨hq, hxe⟩ := mr_go h hx1
        clear h hx1
        subst hxe
        have h := hq
        clear hq
        refine LW_exitX (sl' := [(0, eS (lI .u8) a), (1, eS (lI .u8) b), (5, .lit (.int .i64 i)), (14, .lit (.bool (decide (i < (a.length : Int)))))]) (S' := (hp [] S)) (c' := 0) ?_ ?_
        ·refine xghost (D := []) ?_ ?_ ?_ ?_
         ·exact (.cons (Sub.of_eq rfl) (.cons (Sub.of_eq rfl) (.cons (Sub.of_eq rfl) (.cons (Sub.of_eq rfl) .nil))))
         ·exact HpW.refl
         ·exact (by intro p hp; cases hp)
         ·omega
        ·show LW _ _ _ _ _ _ _ _
         refine xseq [(4, .lit (.bool true))] (hp [] S) 0 ?_ (fun k kp hk => ?_)
         ·refine LW_ret ?_
          obtain rfl := Option.some.inj h
          show FPost _ _ _ _ _ _ _
          exact ⟨_, hp_less (L := []) (D := []) (by intro p hp; cases hp), rfl, rfl⟩
         ·try simp (maxSteps := 4000000) only [go_sem, Prod.mk.injEq, reduceIte, Nat.reduceEqDiff, Nat.reduceAdd, Nat.reduceSub, Nat.reduceMul, Nat.reduceDiv, Nat.reducePow, Nat.reduceLT, Nat.reduceLeDiff, Nat.reduceBEq, Nat.reduceBneDiff, Int.reduceToNat, Int.reduceEq, Int.reduceLE, Int.reduceLT, reduceCtorEq, hn1d, hm1d]
          repeat (with_reducible refine And.intro ?_ ?_; next => first | assumption | trivial | omega | decide | (constructor <;> first | assumption | omega) | (simp [Keep.ok, hp_cons_apply, hset_cons, hn1d, hm1d]; done))
          refine hk _ _ _ ?_
          refine xghost (D := []) ?_ ?_ ?_ ?_
          ·exact (.cons (Sub.of_eq rfl) .nil)
          ·exact HpW.refl
          ·exact (by intro p hp; cases hp)
          ·omega
      ·try simp (maxSteps := 4000000) only [go_sem, Prod.mk.injEq, reduceIte, Nat.reduceEqDiff, Nat.reduceAdd, Nat.reduceSub, Nat.reduceMul, Nat.reduceDiv, Nat.reducePow, Nat.reduceLT, Nat.reduceLeDiff, Nat.reduceBEq, Nat.reduceBneDiff, Int.reduceToNat, Int.reduceEq, Int.reduceLE, Int.reduceLT, reduceCtorEq, hn1d, hm1d]
       repeat (with_reducible refine And.intro ?_ ?_; next => first | assumption | trivial | omega | decide | (constructor <;> first | assumption | omega) | (simp [Keep.ok, hp_cons_apply, hset_cons, hn1d, hm1d]; done))
       refine hk _ _ _ ?_
       refine xghost (D := []) ?_ ?_ ?_ ?_
       ·exact (.cons (Sub.of_eq rfl) (.cons (Sub.of_eq rfl) (.cons (Sub.of_eq rfl) (.cons (Sub.of_eq rfl) .nil))))
       ·exact HpW.refl
       ·exact (by intro p hp; cases hp)
       ·omega
     ·refine xghost (D := []) ?_ ?_ ?_ ?_
      ·exact (.cons (Sub.of_eq rfl) (.cons (Sub.of_eq rfl) (.cons (Sub.of_eq rfl) .nil)))
      ·exact HpW.refl
      ·exact (by intro p hp; cases hp)
      ·omega
    ·try simp (maxSteps := 4000000) only [go_sem, Prod.mk.injEq, reduceIte, Nat.reduceEqDiff, Nat.reduceAdd, Nat.reduceSub, Nat.reduceMul, Nat.reduceDiv, Nat.reducePow, Nat.reduceLT, Nat.reduceLeDiff, Nat.reduceBEq, Nat.reduceBneDiff, Int.reduceToNat, Int.reduceEq, Int.reduceLE, Int.reduceLT, reduceCtorEq]
     repeat (with_reducible refine And.intro ?_ ?_; next => first | assumption | trivial | omega | decide | (constructor <;> first | assumption | omega) | (simp [Keep.ok, hp_cons_apply, hset_cons]; done))
     refine hk _ _ _ ?_
     refine xghost (D := []) ?_ ?_ ?_ ?_
     ·exact (.cons (Sub.of_eq rfl) (.cons (Sub.of_eq rfl) (.cons (Sub.of_eq rfl) .nil)))
     ·exact HpW.refl
     ·exact (by intro p hp; cases hp)
     ·omega
  ·try simp (maxSteps := 4000000) only [go_sem, Prod.mk.injEq, reduceIte, Nat.reduceEqDiff, Nat.reduceAdd, Nat.reduceSub, Nat.reduceMul, Nat.reduceDiv, Nat.reducePow, Nat.reduceLT, Nat.reduceLeDiff, Nat.reduceBEq, Nat.reduceBneDiff, Int.reduceToNat, Int.reduceEq, Int.reduceLE, Int.reduceLT, reduceCtorEq]
   repeat (with_reducible refine And.intro ?_ ?_; next => first | assumption | trivial | omega | decide | (constructor <;> first | assumption | omega) | (simp [Keep.ok, hp_cons_apply, hset_cons]; done))
   refine hk _ _ _ ?_
   refine xghost (D := []) ?_ ?_ ?_ ?_
   ·exact (.cons (Sub.of_eq rfl) (.cons (Sub.of_eq rfl) (.cons (Sub.of_eq rfl) .nil)))
   ·exact HpW.refl
   ·exact (by intro p hp; cases hp)
   ·omega
 ·try simp (maxSteps := 4000000) only [go_sem, Prod.mk.injEq, reduceIte, Nat.reduceEqDiff, Nat.reduceAdd, Nat.reduceSub, Nat.reduceMul, Nat.reduceDiv, Nat.reducePow, Nat.reduceLT, Nat.reduceLeDiff, Nat.reduceBEq, Nat.reduceBneDiff, Int.reduceToNat, Int.reduceEq, Int.reduceLE, Int.reduceLT, reduceCtorEq]
  repeat (with_reducible refine And.intro ?_ ?_; next => first | assumption | trivial | omega | decide | (constructor <;> first | assumption | omega) | (simp [Keep.ok, hp_cons_apply, hset_cons]; done))
  refine hk _ _ _ ?_
  refine xghost (D := []) ?_ ?_ ?_ ?_
  ·exact (.cons (Sub.of_eq rfl) (.cons (Sub.of_eq rfl) .nil))
  ·exact HpW.refl
  ·exact (by intro p hp; cases hp)
  ·omega
/-! (stanchion/stanchionref04.Disk).Read -/
def s_stanchionref04_Disk_Read (dx : Gref04Disk) (a : Int) : Option (List Int × Int) :=
 bd (s_stanchionref04_area a) fun (v : Bool) => if (!v) = true then some ([], 41) else if a = 0 then bd (s_stanchionref00_CopyBytes dx.Data.x0) fun (v_2 : List Int) => some (v_2, 0) else if a = 1 then bd (s_stanchionref00_CopyBytes dx.Data.x1) fun (v_1 : List Int) => some (v_1, 0) else none
theorem s_stanchionref04_Disk_Read_ok (S : AHeap) (dx : Gref04Disk) (a : Int) {r : List Int × Int} (h : s_stanchionref04_Disk_Read dx a = some r) :
  AC Try.prog n_stanchionref04_Disk_Read [.agg [.lit (.int .i64 dx.Power), eS (lI .u8) dx.Data.x0, eS (lI .u8) dx.Data.x1, .lit (.int .i64 dx.Safe.x0), .lit (.int .i64 dx.Safe.x1)], .lit (.int .i64 a)] S fun r' S' => r' = .ret (.tup [eS (lI .u8) r.1, .lit (.int .i64 r.2)]) ∧ S' = S := by
 refine AC_of tok mixed fits_stanchionref04_Disk_Read fun d hd => ?_
 unfold c_stanchionref04_Disk_Read
 show LW _ _ _ _ [(0, .agg [.lit (.int .i64 dx.Power), eS (lI .u8) dx.Data.x0, eS (lI .u8) dx.Data.x1, .lit (.int .i64 dx.Safe.x0), .lit (.int .i64 dx.Safe.x1)]), (1, .lit (.int .i64 a))] (hp [] S) 0 _
 rw [s_stanchionref04_Disk_Read] at h
 refine xseq [(1, .lit (.int .i64 a)), (2, .ptr (d, 0) 0)] (hp [((d, 0), .box [.lit (.int .i64 dx.Power), eS (lI .u8) dx.Data.x0, eS (lI .u8) dx.Data.x1, .lit (.int .i64 dx.Safe.x0), .lit (.int .i64 dx.Safe.x1)])] S) 1 ?_ (fun k kp hk => ?_)
 ·refine LW_seq ?_
  obtain ⟨v, hv, h⟩ := bd_some h
  refine xseq [(1, .lit (.int .i64 a)), (2, .ptr (d, 0) 0), (8, .lit (.bool (!v)))] (hp [((d, 0), .box [.lit (.int .i64 dx.Power), eS (lI .u8) dx.Data.x0, eS (lI .u8) dx.Data.x1, .lit (.int .i64 dx.Safe.x0), .lit (.int .i64 dx.Safe.x1)])] S) 1 ?_ (fun k kp hk => ?_)
  ·refine xcond (!v) rfl (fun hc => ?_) (fun hc => ?_)
   ·rw [ite_t hc] at h
    refine xseq [(4, eS (lI .u8) []), (5, .lit (.int .i64 41))] (hp [((d, 0), .box [.lit (.int .i64 dx.Power), eS (lI .u8) dx.Data.x0, eS (lI .u8) dx.Data.x1, .lit (.int .i64 dx.Safe.x0), .lit (.int .i64 dx.Safe.x1)])] S) 1 ?_ (fun k kp hk => ?_)
    ·refine LW_ret ?_
     obtain rfl := Option.some.inj h
     show FPost _ _ _ _ _ _ _
     exact ⟨_, hp_less (L := []) (D := [((d, 0), .box [.lit (.int .i64 dx.Power), eS (lI .u8) dx.Data.x0, eS (lI .u8) dx.Data.x1, .lit (.int .i64 dx.Safe.x0), .lit (.int .i64 dx.Safe.x1)])]) (by intro p hp; simp only [List.mem_cons, List.not_mem_nil, or_false] at hp; rcases hp with rfl <;> first | exact hd _ (Nat.le_refl _)), rfl, rfl⟩
    ·try simp (maxSteps := 4000000) only [go_sem, Prod.mk.injEq, reduceIte, Nat.reduceEqDiff, Nat.reduceAdd, Nat.reduceSub, Nat.reduceMul, Nat.reduceDiv, Nat.reducePow, Nat.reduceLT, Nat.reduceLeDiff, Nat.reduceBEq, Nat.reduceBneDiff, Int.reduceToNat, Int.reduceEq, Int.reduceLE, Int.reduceLT, reduceCtorEq]
     repeat (with_reducible refine And.intro ?_ ?_; next => first | assumption | trivial | omega | decide | (constructor <;> first | assumption | omega) | (simp [Keep.ok, hp_cons_apply, hset_cons]; done))
     refine hk _ _ _ ?_
     refine xghost (D := []) ?_ ?_ ?_ ?_
     ·exact (.cons Sub.nil (.cons (Sub.of_eq rfl) .nil))
     ·exact HpW.refl
     ·exact (by intro p hp; cases hp)
     ·omega
   ·rw [ite_f hc] at h
    refine LW_skip ?_
    show LW _ _ _ _ _ _ _ _
    by_cases hs_1 : a = 0
    ·subst hs_1
     rw [if_pos rfl] at h
     obtain ⟨v_2, hv_2, h⟩ := bd_some h
     refine xseq [(4, eS (lI .u8) v_2), (5, .lit (.int .i64 0))] (hp [((d, 0), .box [.lit (.int .i64 dx.Power), eS (lI .u8) dx.Data.x0, eS (lI .u8) dx.Data.x1, .lit (.int .i64 dx.Safe.x0), .lit (.int .i64 dx.Safe.x1)])] S) 1 ?_ (fun k kp hk => ?_)
     ·refine LW_ret ?_
      obtain rfl := Option.some.inj h
      show FPost _ _ _ _ _ _ _
      exact ⟨_, hp_less (L := []) (D := [((d, 0), .box [.lit (.int .i64 dx.Power), eS (lI .u8) dx.Data.x0, eS (lI .u8) dx.Data.x1, .lit (.int .i64 dx.Safe.x0), .lit (.int .i64 dx.Safe.x1)])]) (by intro p hp; simp only [List.mem_cons, List.not_mem_nil, or_false] at hp; rcases hp with rfl <;> first | exact hd _ (Nat.le_refl _)), rfl, rfl⟩
     ·try simp (maxSteps := 4000000) only [go_sem, Prod.mk.injEq, reduceIte, Nat.reduceEqDiff, Nat.reduceAdd, Nat.reduceSub, Nat.reduceMul, Nat.reduceDiv, Nat.reducePow, Nat.reduceLT, Nat.reduceLeDiff, Nat.reduceBEq, Nat.reduceBneDiff, Int.reduceToNat, Int.reduceEq, Int.reduceLE, Int.reduceLT, reduceCtorEq, vptr_0, vptr_1]
      repeat (with_reducible refine And.intro ?_ ?_; next => first | assumption | trivial | omega | decide | (constructor <;> first | assumption | omega) | (simp [Keep.ok, hp_cons_apply, hset_cons, vptr_0, vptr_1]; done))
      have hcall := s_stanchionref00_CopyBytes_ok (hp [((d, 0), .box [.lit (.int .i64 dx.Power), eS (lI .u8) dx.Data.x0, eS (lI .u8) dx.Data.x1, .lit (.int .i64 dx.Safe.x0), .lit (.int .i64 dx.Safe.x1)])] S) dx.Data.x0 hv_2
      refine call1_x hcall rfl ?_ ?_
      ·exact (.cons Sub.refl .nil)
      clear hcall
      rintro _ SS ⟨rfl, hSS⟩ -
      rw [hSS]
      clear hSS
      try simp (maxSteps := 4000000) only [go_sem, Prod.mk.injEq, reduceIte, Nat.reduceEqDiff, Nat.reduceAdd, Nat.reduceSub, Nat.reduceMul, Nat.reduceDiv, Nat.reducePow, Nat.reduceLT, Nat.reduceLeDiff, Nat.reduceBEq, Nat.reduceBneDiff, Int.reduceToNat, Int.reduceEq, Int.reduceLE, Int.reduceLT, reduceCtorEq, vptr_0, vptr_1]
      repeat (with_reducible refine And.intro ?_ ?_; next => first | assumption | trivial | omega | decide | (constructor <;> first | assumption | omega) | (simp [Keep.ok, hp_cons_apply, hset_cons, vptr_0, vptr_1]; done))
      refine hk _ _ _ ?_
      refine xghost (D := []) ?_ ?_ ?_ ?_
      ·exact (.cons (Sub.of_eq rfl) (.cons (Sub.of_eq rfl) .nil))
      ·exact HpW.refl
      ·exact (by intro p hp; cases hp)
      ·omega
    ·rw [if_neg hs_1] at h
     by_cases hs : a = 1
     ·subst hs
      rw [if_pos rfl] at h
      obtain ⟨v_1, hv_1, h⟩ := bd_some h
      refine xseq [(4, eS (lI .u8) v_1), (5, .lit (.int .i64 0))] (hp [((d, 0), .box [.lit (.int .i64 dx.Power), eS (lI .u8) dx.Data.x0, eS (lI .u8) dx.Data.x1, .lit (.int .i64 dx.Safe.x0), .lit (.int .i64 dx.Safe.x1)])] S) 1 ?_ (fun k kp hk => ?_)
      ·refine LW_ret ?_
       obtain rfl := Option.some.inj h
       show FPost _ _ _ _ _ _ _
       exact ⟨_, hp_less (L := []) (D := [((d, 0), .box [.lit (.int .i64 dx.Power), eS (lI .u8) dx.Data.x0, eS (lI .u8) dx.Data.x1, .lit (.int .i64 dx.Safe.x0), .lit (.int .i64 dx.Safe.x1)])]) (by intro p hp; simp only [List.mem_cons, List.not_mem_nil, or_false] at hp; rcases hp with rfl <;> first | exact hd _ (Nat.le_refl _)), rfl, rfl⟩
      ·try simp (maxSteps := 4000000) only [go_sem, Prod.mk.injEq, reduceIte, Nat.reduceEqDiff, Nat.reduceAdd, Nat.reduceSub, Nat.reduceMul, Nat.reduceDiv, Nat.reducePow, Nat.reduceLT, Nat.reduceLeDiff, Nat.reduceBEq, Nat.reduceBneDiff, Int.reduceToNat, Int.reduceEq, Int.reduceLE, Int.reduceLT, reduceCtorEq, vptr_0, vptr_1]
       repeat (with_reducible refine And.intro ?_ ?_; next => first | assumption | trivial | omega | decide | (constructor <;> first | assumption | omega) | (simp [Keep.ok, hp_cons_apply, hset_cons, vptr_0, vptr_1]; done))
       have hcall := s_stanchionref00_CopyBytes_ok (hp [((d, 0), .box [.lit (.int .i64 dx.Power), eS (lI .u8) dx.Data.x0, eS (lI .u8) dx.Data.x1, .lit (.int .i64 dx.Safe.x0), .lit (.int .i64 dx.Safe.x1)])] S) dx.Data.x1 hv_1
       refine call1_x hcall rfl ?_ ?_
       ·exact (.cons Sub.refl .nil)
       clear hcall
       rintro _ SS ⟨rfl, hSS⟩ -
       rw [hSS]
       clear hSS
       try simp (maxSteps := 4000000) only [go_sem, Prod.mk.injEq, reduceIte, Nat.reduceEqDiff, Nat.reduceAdd, Nat.reduceSub, Nat.reduceMul, Nat.reduceDiv, Nat.reducePow, Nat.reduceLT, Nat.reduceLeDiff, Nat.reduceBEq, Nat.reduceBneDiff, Int.reduceToNat, Int.reduceEq, Int.reduceLE, Int.reduceLT, reduceCtorEq, vptr_0, vptr_1]
       repeat (with_reducible refine And.intro ?_ ?_; next => first | assumption | trivial | omega | decide | (constructor <;> first | assumption | omega) | (simp [Keep.ok, hp_cons_apply, hset_cons, vptr_0, vptr_1]; done))
       refine hk _ _ _ ?_
       refine xghost (D := []) ?_ ?_ ?_ ?_
       ·exact (.cons (Sub.of_eq rfl) (.cons (Sub.of_eq rfl) .nil))
       ·exact HpW.refl
       ·exact (by intro p hp; cases hp)
       ·omega
     ·rw [if_neg hs] at h
      cases h
  ·try simp (maxSteps := 4000000) only [go_sem, Prod.mk.injEq, reduceIte, Nat.reduceEqDiff, Nat.reduceAdd, Nat.reduceSub, Nat.reduceMul, Nat.reduceDiv, Nat.reducePow, Nat.reduceLT, Nat.reduceLeDiff, Nat.reduceBEq, Nat.reduceBneDiff, Int.reduceToNat, Int.reduceEq, Int.reduceLE, Int.reduceLT, reduceCtorEq]
   repeat (with_reducible refine And.intro ?_ ?_; next => first | assumption | trivial | omega | decide | (constructor <;> first | assumption | omega) | (simp [Keep.ok, hp_cons_apply, hset_cons]; done))
   have hcall := s_stanchionref04_area_ok (hp [((d, 0), .box [.lit (.int .i64 dx.Power), eS (lI .u8) dx.Data.x0, eS (lI .u8) dx.Data.x1, .lit (.int .i64 dx.Safe.x0), .lit (.int .i64 dx.Safe.x1)])] S) a hv
   refine call1_x hcall rfl ?_ ?_
   ·exact (.cons Sub.refl .nil)
   clear hcall
   rintro _ SS ⟨rfl, hSS⟩ -
   rw [hSS]
   clear hSS
   try simp (maxSteps := 4000000) only [go_sem, Prod.mk.injEq, reduceIte, Nat.reduceEqDiff, Nat.reduceAdd, Nat.reduceSub, Nat.reduceMul, Nat.reduceDiv, Nat.reducePow, Nat.reduceLT, Nat.reduceLeDiff, Nat.reduceBEq, Nat.reduceBneDiff, Int.reduceToNat, Int.reduceEq, Int.reduceLE, Int.reduceLT, reduceCtorEq]
   repeat (with_reducible refine And.intro ?_ ?_; next => first | assumption | trivial | omega | decide | (constructor <;> first | assumption | omega) | (simp [Keep.ok, hp_cons_apply, hset_cons]; done))
   refine hk _ _ _ ?_
   refine xghost (D := []) ?_ ?_ ?_ ?_
   ·exact (.cons (Sub.of_eq rfl) (.cons (Sub.of_eq rfl) (.cons (Sub.of_eq rfl) .nil)))
   ·exact HpW.refl
   ·exact (by intro p hp; cases hp)
   ·omega
 ·try simp (maxSteps := 4000000) only [go_sem, Prod.mk.injEq, reduceIte, Nat.reduceEqDiff, Nat.reduceAdd, Nat.reduceSub, Nat.reduceMul, Nat.reduceDiv, Nat.reducePow, Nat.reduceLT, Nat.reduceLeDiff, Nat.reduceBEq, Nat.reduceBneDiff, Int.reduceToNat, Int.reduceEq, Int.reduceLE, Int.reduceLT, reduceCtorEq]
  repeat (with_reducible refine And.intro ?_ ?_; next => first | assumption | trivial | omega | decide | (constructor <;> first | assumption | omega) | (simp [Keep.ok, hp_cons_apply, hset_cons]; done))
  refine hk _ _ _ ?_
  refine xghost (D := []) ?_ ?_ ?_ ?_
  ·exact (.cons (Sub.of_eq rfl) (.cons (Sub.of_eq rfl) .nil))
  ·exact HpW.refl
  ·exact (by intro p hp; cases hp)
  ·omega
/-! stanchion/stanchionlaw04.same -/
def s_stanchionlaw04_same_b1 (dx : GdiskDisk) (m : Gref04Disk) : Int → Option ((Int) ⊕ Bool)
 | a => if (decide (a < 3)) = true then bd (s_disk_Disk_Read dx a) fun (v : List Int × Int) => bd (s_stanchionref04_Disk_Read m a) fun (v_1 : List Int × Int) => bd (s_stanchionref00_SameBytes v.1 v_1.1) fun (v_2 : Bool) => if ((!v_2) || (v.2 != v_1.2)) = true then mr (some false) else some (.inl (IntKind.i64.wrap (a + 1))) else mr (some true)
def s_stanchionlaw04_same (dx : GdiskDisk) (m : Gref04Disk) : Option Bool :=
 loop (s_stanchionlaw04_same_b1 dx m) (-1)
theorem s_stanchionlaw04_same_ok (S : AHeap) {n0 : Name} (dx : GdiskDisk) (m : Gref04Disk) {r : Bool} (hS0 : S n0 = some (oGdiskDisk dx)) (h : s_stanchionlaw04_same dx m = some r) :
  AC Try.prog n_stanchionlaw04_same [.ptr n0 0, .agg [.lit (.int .i64 m.Power), eS (lI .u8) m.Data.x0, eS (lI .u8) m.Data.x1, .lit (.int .i64 m.Safe.x0), .lit (.int .i64 m.Safe.x1)]] S fun r' S' => r' = .ret (.lit (.bool r)) ∧ S' = S := by
 refine AC_of tok mixed fits_stanchionlaw04_same fun d hd => ?_
 unfold c_stanchionlaw04_same
 show LW _ _ _ _ [(0, .ptr n0 0), (1, .agg [.lit (.int .i64 m.Power), eS (lI .u8) m.Data.x0, eS (lI .u8) m.Data.x1, .lit (.int .i64 m.Safe.x0), .lit (.int .i64 m.Safe.x1)])] S 0 _
 refine LW_heap (hp_in hS0) ?_
 have hl_n0 : n0.1 < d := lt_of_hd hd hS0
 have hq_n0 : ∀ k, (n0 = (d, k)) = False := fun k => ne_deep hl_n0
 have hr_n0 : ∀ k, ((d, k) = n0) = False := fun k => ne_deep' hl_n0
 show LW _ _ _ _ [(0, .ptr n0 0), (1, .agg [.lit (.int .i64 m.Power), eS (lI .u8) m.Data.x0, eS (lI .u8) m.Data.x1, .lit (.int .i64 m.Safe.x0), .lit (.int .i64 m.Safe.x1)])] (hp [(n0, oGdiskDisk dx)] S) 0 _
 rw [s_stanchionlaw04_same] at h
 refine xseq [(0, .ptr n0 0), (3, .ptr (d, 0) 0)] (hp [(n0, oGdiskDisk dx), ((d, 0), .box [.lit (.int .i64 m.Power), eS (lI .u8) m.Data.x0, eS (lI .u8) m.Data.x1, .lit (.int .i64 m.Safe.x0), .lit (.int .i64 m.Safe.x1)])] S) 1 ?_ (fun k kp hk => ?_)
 ·refine LW_seq ?_
  refine xseq [(0, .ptr n0 0), (3, .ptr (d, 0) 0), (5, .lit (.int .i64 (-1)))] (hp [(n0, oGdiskDisk dx), ((d, 0), .box [.lit (.int .i64 m.Power), eS (lI .u8) m.Data.x0, eS (lI .u8) m.Data.x1, .lit (.int .i64 m.Safe.x0), .lit (.int .i64 m.Safe.x1)])] S) 1 ?_ (fun k kp hk => ?_)
  ·refine LW_block ?_
   refine LW_loopX (c := 1) (σ := Int) (s := (-1)) (fun zz => [(0, .ptr n0 0), (3, .ptr (d, 0) 0), (5, .lit (.int .i64 zz))]) (fun zz => (hp [(n0, oGdiskDisk dx), ((d, 0), .box [.lit (.int .i64 m.Power), eS (lI .u8) m.Data.x0, eS (lI .u8) m.Data.x1, .lit (.int .i64 m.Safe.x0), .lit (.int .i64 m.Safe.x1)])] S)) h ?_ ?_
   ·clear h
    rintro a x1 d1 hd1 hf1 h hx1
    show LW _ _ _ _ [(0, .ptr n0 0), (3, .ptr (d, 0) 0), (5, .lit (.int .i64 a))] (hp [(n0, oGdiskDisk dx), ((d, 0), .box [.lit (.int .i64 m.Power), eS (lI .u8) m.Data.x0, eS (lI .u8) m.Data.x1, .lit (.int .i64 m.Safe.x0), .lit (.int .i64 m.Safe.x1)])] S) 0 _
    have hn1d : (d = d1) = False := by simp; omega
    have hm1d : (d1 = d) = False := by simp; omega
    have hl1_n0 : n0.1 < d1 := by omega
    have hu1n0 : ∀ k, (n0 = (d1, k)) = False := fun k => ne_deep hl1_n0
    have hw1n0 : ∀ k, ((d1, k) = n0) = False := fun k => ne_deep' hl1_n0
    rw [s_stanchionlaw04_same_b1] at h
    refine LW_seq ?_
    refine xseq [(0, .ptr n0 0), (3, .ptr (d, 0) 0), (5, .lit (.int .i64 a)), (11, .lit (.bool (decide (a < 3))))] (hp [(n0, oGdiskDisk dx), ((d, 0), .box [.lit (.int .i64 m.Power), eS (lI .u8) m.Data.x0, eS (lI .u8) m.Data.x1, .lit (.int .i64 m.Safe.x0), .lit (.int .i64 m.Safe.x1)])] S) 0 ?_ (fun k kp hk => ?_)
    ·refine xcond (decide (a < 3)) rfl (fun hc => ?_) (fun hc => ?_)
     ·rw [ite_t hc] at h
      refine LW_skip ?_
      show LW _ _ _ _ _ _ _ _
      refine LW_seq ?_
      refine LW_block ?_
      obtain ⟨v, hv, h⟩ := bd_some h
      refine xseq [(0, .ptr n0 0), (3, .ptr (d, 0) 0), (5, .lit (.int .i64 a)), (6, eS (lI .u8) v.1), (7, .lit (.int .i64 v.2))] (hp [(n0, oGdiskDisk dx), ((d, 0), .box [.lit (.int .i64 m.Power), eS (lI .u8) m.Data.x0, eS (lI .u8) m.Data.x1, .lit (.int .i64 m.Safe.x0), .lit (.int .i64 m.Safe.x1)])] S) 0 ?_ (fun k kp hk => ?_)
      ·obtain ⟨v_1, hv_1, h⟩ := bd_some h
       refine xseq [(0, .ptr n0 0), (3, .ptr (d, 0) 0), (5, .lit (.int .i64 a)), (6, eS (lI .u8) v.1), (7, .lit (.int .i64 v.2)), (8, eS (lI .u8) v_1.1), (9, .lit (.int .i64 v_1.2))] (hp [(n0, oGdiskDisk dx), ((d, 0), .box [.lit (.int .i64 m.Power), eS (lI .u8) m.Data.x0, eS (lI .u8) m.Data.x1, .lit (.int .i64 m.Safe.x0), .lit (.int .i64 m.Safe.x1)])] S) 0 ?_ (fun k kp hk => ?_)
       ·obtain ⟨v_2, hv_2, h⟩ := bd_some h
        refine xseq [(0, .ptr n0 0), (3, .ptr (d, 0) 0), (5, .lit (.int .i64 a)), (34, .lit (.bool ((!v_2) || (v.2 != v_1.2))))] (hp [(n0, oGdiskDisk dx), ((d, 0), .box [.lit (.int .i64 m.Power), eS (lI .u8) m.Data.x0, eS (lI .u8) m.Data.x1, .lit (.int .i64 m.Safe.x0), .lit (.int .i64 m.Safe.x1)])] S) 0 ?_ (fun k kp hk => ?_)
        ·refine xcond ((!v_2) || (v.2 != v_1.2)) rfl (fun hc_1 => ?_) (fun hc_1 => ?_)
         ·rw [ite_t hc_1] at h
          refine xseq [(0, .ptr n0 0), (3, .ptr (d, 0) 0), (4, .lit (.bool false)), (5, .lit (.int .i64 a))] (hp [(n0, oGdiskDisk dx), ((d, 0), .box [.lit (.int .i64 m.Power), eS (lI .u8) m.Data.x0, eS (lI .u8) m.Data.x1, .lit (.int .i64 m.Safe.x0), .lit (.int .i64 m.Safe.x1)])] S) 0 ?_ (fun k kp hk => ?_)
          ·obtain ⟨hq, hxe⟩ := mr_go h hx1
           clear h hx1
           subst hxe
           have h := hq
           clear hq
           refine LW_retX (sl' := [(4, .lit (.bool false))]) (S' := (hp [(n0, oGdiskDisk dx), ((d, 0), .box [.lit (.int .i64 m.Power), eS (lI .u8) m.Data.x0, eS (lI .u8) m.Data.x1, .lit (.int .i64 m.Safe.x0), .lit (.int .i64 m.Safe.x1)])] S)) (c' := 0) ?_ ?_
           ·refine xghost (D := []) ?_ ?_ ?_ ?_
            ·exact (.cons (Sub.of_eq rfl) .nil)
            ·exact HpW.refl
            ·exact (by intro p hp; cases hp)
            ·omega
           ·obtain rfl := Option.some.inj h
            show FPost _ _ _ _ _ _ _
            exact ⟨_, hp_less (L := [(n0, oGdiskDisk dx)]) (D := [((d, 0), .box [.lit (.int .i64 m.Power), eS (lI .u8) m.Data.x0, eS (lI .u8) m.Data.x1, .lit (.int .i64 m.Safe.x0), .lit (.int .i64 m.Safe.x1)])]) (by intro p hp; simp only [List.mem_cons, List.not_mem_nil, or_false] at hp; rcases hp with rfl <;> first | exact hd _ (Nat.le_refl _)), rfl, hp_out hS0⟩
          ·try simp (maxSteps := 4000000) only [go_sem, Prod.mk.injEq, reduceIte, Nat.reduceEqDiff, Nat.reduceAdd, Nat.reduceSub, Nat.reduceMul, Nat.reduceDiv, Nat.reducePow, Nat.reduceLT, Nat.reduceLeDiff, Nat.reduceBEq, Nat.reduceBneDiff, Int.reduceToNat, Int.reduceEq, Int.reduceLE, Int.reduceLT, reduceCtorEq, hq_n0, hr_n0, hn1d, hm1d, hu1n0, hw1n0]
           repeat (with_reducible refine And.intro ?_ ?_; next => first | assumption | trivial | omega | decide | (constructor <;> first | assumption | omega) | (simp [Keep.ok, hp_cons_apply, hset_cons, hq_n0, hr_n0, hn1d, hm1d, hu1n0, hw1n0]; done))
           refine hk _ _ _ ?_
           refine xghost (D := []) ?_ ?_ ?_ ?_
           ·exact (.cons (Sub.of_eq rfl) (.cons (Sub.of_eq rfl) (.cons (Sub.of_eq rfl) (.cons (Sub.of_eq rfl) .nil))))
           ·exact HpW.refl
           ·exact (by intro p hp; cases hp)
           ·omega
         ·rw [ite_f hc_1] at h
          refine LW_skip ?_
          show LW _ _ _ _ _ _ _ _
          refine xreg [(0, .ptr n0 0), (3, .ptr (d, 0) 0), (5, .lit (.int .i64 (IntKind.i64.wrap (a + 1))))] (hp [(n0, oGdiskDisk dx), ((d, 0), .box [.lit (.int .i64 m.Power), eS (lI .u8) m.Data.x0, eS (lI .u8) m.Data.x1, .lit (.int .i64 m.Safe.x0), .lit (.int .i64 m.Safe.x1)])] S) 0 ?_ (fun k kp hk => ?_)
          ·cases h
           exact ⟨rfl, Less.refl _⟩
          ·try simp (maxSteps := 4000000) only [go_sem, Prod.mk.injEq, reduceIte, Nat.reduceEqDiff, Nat.reduceAdd, Nat.reduceSub, Nat.reduceMul, Nat.reduceDiv, Nat.reducePow, Nat.reduceLT, Nat.reduceLeDiff, Nat.reduceBEq, Nat.reduceBneDiff, Int.reduceToNat, Int.reduceEq, Int.reduceLE, Int.reduceLT, reduceCtorEq, hq_n0, hr_n0, hn1d, hm1d, hu1n0, hw1n0]
           repeat (with_reducible refine And.intro ?_ ?_; next => first | assumption | trivial | omega | decide | (constructor <;> first | assumption | omega) | (simp [Keep.ok, hp_cons_apply, hset_cons, hq_n0, hr_n0, hn1d, hm1d, hu1n0, hw1n0]; done))
           refine hk _ _ _ ?_
           refine xghost (D := []) ?_ ?_ ?_ ?_
           ·exact (.cons (Sub.of_eq rfl) (.cons (Sub.of_eq rfl) (.cons (Sub.of_eq rfl) .nil)))
           ·exact HpW.refl
           ·exact (by intro p hp; cases hp)
           ·omega
        ·try simp (maxSteps := 4000000) only [go_sem, Prod.mk.injEq, reduceIte, Nat.reduceEqDiff, Nat.reduceAdd, Nat.reduceSub, Nat.reduceMul, Nat.reduceDiv, Nat.reducePow, Nat.reduceLT, Nat.reduceLeDiff, Nat.reduceBEq, Nat.reduceBneDiff, Int.reduceToNat, Int.reduceEq, Int.reduceLE, Int.reduceLT, reduceCtorEq, hq_n0, hr_n0, hn1d, hm1d, hu1n0, hw1n0]
         repeat (with_reducible refine And.intro ?_ ?_; next => first | assumption | trivial | omega | decide | (constructor <;> first | assumption | omega) | (simp [Keep.ok, hp_cons_apply, hset_cons, hq_n0, hr_n0, hn1d, hm1d, hu1n0, hw1n0]; done))
         have hcall := s_stanchionref00_SameBytes_ok (hp [(n0, oGdiskDisk dx), ((d, 0), .box [.lit (.int .i64 m.Power), eS (lI .u8) m.Data.x0, eS (lI .u8) m.Data.x1, .lit (.int .i64 m.Safe.x0), .lit (.int .i64 m.Safe.x1)])] S) v.1 v_1.1 hv_2
         refine call1_x hcall rfl ?_ ?_
         ·exact (.cons Sub.refl (.cons Sub.refl .nil))
         clear hcall
         rintro _ SS ⟨rfl, hSS⟩ -
         rw [hSS]
         clear hSS
         try simp (maxSteps := 4000000) only [go_sem, Prod.mk.injEq, reduceIte, Nat.reduceEqDiff, Nat.reduceAdd, Nat.reduceSub, Nat.reduceMul, Nat.reduceDiv, Nat.reducePow, Nat.reduceLT, Nat.reduceLeDiff, Nat.reduceBEq, Nat.reduceBneDiff, Int.reduceToNat, Int.reduceEq, Int.reduceLE, Int.reduceLT, reduceCtorEq, hq_n0, hr_n0, hn1d, hm1d, hu1n0, hw1n0]
         repeat (with_reducible refine And.intro ?_ ?_; next => first | assumption | trivial | omega | decide | (constructor <;> first | assumption | omega) | (simp [Keep.ok, hp_cons_apply, hset_cons, hq_n0, hr_n0, hn1d, hm1d, hu1n0, hw1n0]; done))
         refine xo_guard (!v_2) rfl (fun hc_2 => ?_) (fun hc_2 => ?_)
         ·have hc_2 : v_2 = true := by first | (generalize v_2 = q at hc_2 ⊢; revert hc_2; cases q <;> simp; done) | simpa using hc_2
          try simp (maxSteps := 4000000) only [go_sem, Prod.mk.injEq, reduceIte, Nat.reduceEqDiff, Nat.reduceAdd, Nat.reduceSub, Nat.reduceMul, Nat.reduceDiv, Nat.reducePow, Nat.reduceLT, Nat.reduceLeDiff, Nat.reduceBEq, Nat.reduceBneDiff, Int.reduceToNat, Int.reduceEq, Int.reduceLE, Int.reduceLT, reduceCtorEq, hq_n0, hr_n0, hn1d, hm1d, hu1n0, hw1n0, hc_2]
          repeat (with_reducible refine And.intro ?_ ?_; next => first | assumption | trivial | omega | decide | (constructor <;> first | assumption | omega) | (simp [Keep.ok, hp_cons_apply, hset_cons, hq_n0, hr_n0, hn1d, hm1d, hu1n0, hw1n0]; done))
          refine hk _ _ _ ?_
          refine xghost (D := []) ?_ ?_ ?_ ?_
          ·exact (.cons (Sub.of_eq rfl) (.cons (Sub.of_eq rfl) (.cons (Sub.of_eq rfl) (.cons (Sub.of_eq (by first | rfl | (simp only [sget_cons, reduceIte, Nat.reduceEqDiff, Bool.and_true, Bool.true_and, Bool.and_false, Bool.false_and, Bool.or_true, Bool.true_or, Bool.or_false, Bool.false_or, Bool.not_true, Bool.not_false, Bool.not_not, hc_2]; done))) .nil))))
          ·exact HpW.refl
          ·exact (by intro p hp; cases hp)
          ·omega
         ·have hc_2 : v_2 = false := by first | (generalize v_2 = q at hc_2 ⊢; revert hc_2; cases q <;> simp; done) | simpa using hc_2
          try simp (maxSteps := 4000000) only [go_sem, Prod.mk.injEq, reduceIte, Nat.reduceEqDiff, Nat.reduceAdd, Nat.reduceSub, Nat.reduceMul, Nat.reduceDiv, Nat.reducePow, Nat.reduceLT, Nat.reduceLeDiff, Nat.reduceBEq, Nat.reduceBneDiff, Int.reduceToNat, Int.reduceEq, Int.reduceLE, Int.reduceLT, reduceCtorEq, hq_n0, hr_n0, hn1d, hm1d, hu1n0, hw1n0, hc_2]
          repeat (with_reducible refine And.intro ?_ ?_; next => first | assumption | trivial | omega | decide | (constructor <;> first | assumption | omega) | (simp [Keep.ok, hp_cons_apply, hset_cons, hq_n0, hr_n0, hn1d, hm1d, hu1n0, hw1n0]; done))
          refine hk _ _ _ ?_
          refine xghost (D := []) ?_ ?_ ?_ ?_
          ·exact (.cons (Sub.of_eq rfl) (.cons (Sub.of_eq rfl) (.cons (Sub.of_eq rfl) (.cons (Sub.of_eq (by first | rfl | (simp only [sget_cons, reduceIte, Nat.reduceEqDiff, Bool.and_true, Bool.true_and, Bool.and_false, Bool.false_and, Bool.or_true, Bool.true_or, Bool.or_false, Bool.false_or, Bool.not_true, Bool.not_false, Bool.not_not, hc_2]; done))) .nil))))
          ·exact HpW.refl
          ·exact (by intro p hp; cases hp)
          ·omega
       ·try simp (maxSteps := 4000000) only [go_sem, Prod.mk.injEq, reduceIte, Nat.reduceEqDiff, Nat.reduceAdd, Nat.reduceSub, Nat.reduceMul, Nat.reduceDiv, Nat.reducePow, Nat.reduceLT, Nat.reduceLeDiff, Nat.reduceBEq, Nat.reduceBneDiff, Int.reduceToNat, Int.reduceEq, Int.reduceLE, Int.reduceLT, reduceCtorEq, hq_n0, hr_n0, hn1d, hm1d, hu1n0, hw1n0]
        repeat (with_reducible refine And.intro ?_ ?_; next => first | assumption | trivial | omega | decide | (constructor <;> first | assumption | omega) | (simp [Keep.ok, hp_cons_apply, hset_cons, hq_n0, hr_n0, hn1d, hm1d, hu1n0, hw1n0]; done))
        have hcall := s_stanchionref04_Disk_Read_ok (hp [(n0, oGdiskDisk dx), ((d, 0), .box [.lit (.int .i64 m.Power), eS (lI .u8) m.Data.x0, eS (lI .u8) m.Data.x1, .lit (.int .i64 m.Safe.x0), .lit (.int .i64 m.Safe.x1)])] S) m a hv_1
        refine call1_x hcall rfl ?_ ?_
        ·exact (.cons Sub.refl (.cons Sub.refl .nil))
        clear hcall
        rintro _ SS ⟨rfl, hSS⟩ -
        rw [hSS]
        clear hSS
        try simp (maxSteps := 4000000) only [go_sem, Prod.mk.injEq, reduceIte, Nat.reduceEqDiff, Nat.reduceAdd, Nat.reduceSub, Nat.reduceMul, Nat.reduceDiv, Nat.reducePow, Nat.reduceLT, Nat.reduceLeDiff, Nat.reduceBEq, Nat.reduceBneDiff, Int.reduceToNat, Int.reduceEq, Int.reduceLE, Int.reduceLT, reduceCtorEq, hq_n0, hr_n0, hn1d, hm1d, hu1n0, hw1n0]
        repeat (with_reducible refine And.intro ?_ ?_; next => first | assumption | trivial | omega | decide | (constructor <;> first | assumption | omega) | (simp [Keep.ok, hp_cons_apply, hset_cons, hq_n0, hr_n0, hn1d, hm1d, hu1n0, hw1n0]; done))
        refine hk _ _ _ ?_
        refine xghost (D := []) ?_ ?_ ?_ ?_
        ·exact (.cons (Sub.of_eq rfl) (.cons (Sub.of_eq rfl) (.cons (Sub.of_eq rfl) (.cons (Sub.of_eq rfl) (.cons (Sub.of_eq rfl) (.cons (Sub.of_eq rfl) (.cons (Sub.of_eq rfl) .nil)))))))
        ·exact HpW.refl
        ·exact (by intro p hp; cases hp)
        ·omega
      ·try simp (maxSteps := 4000000) only [go_sem, Prod.mk.injEq, reduceIte, Nat.reduceEqDiff, Nat.reduceAdd, Nat.reduceSub, Nat.reduceMul, Nat.reduceDiv, Nat.reducePow, Nat.reduceLT, Nat.reduceLeDiff, Nat.reduceBEq, Nat.reduceBneDiff, Int.reduceToNat, Int.reduceEq, Int.reduceLE, Int.reduceLT, reduceCtorEq, hq_n0, hr_n0, hn1d, hm1d, hu1n0, hw1n0]
       repeat (with_reducible refine And.intro ?_ ?_; next => first | assumption | trivial | omega | decide | (constructor <;> first | assumption | omega) | (simp [Keep.ok, hp_cons_apply, hset_cons, hq_n0, hr_n0, hn1d, hm1d, hu1n0, hw1n0]; done))
       have hcall := s_disk_Disk_Read_ok (n0 := n0) (hS0 := by simp only [hp_cons_apply, hp_nil_apply, reduceIte, Prod.mk.injEq, Nat.reduceEqDiff, and_true, and_false, true_and, false_and, hq_n0, hr_n0, hn1d, hm1d, hu1n0, hw1n0] <;> rfl) (hp [(n0, oGdiskDisk dx), ((d, 0), .box [.lit (.int .i64 m.Power), eS (lI .u8) m.Data.x0, eS (lI .u8) m.Data.x1, .lit (.int .i64 m.Safe.x0), .lit (.int .i64 m.Safe.x1)])] S) _ a (h := hv)
       refine call1_x hcall rfl ?_ ?_
       ·exact (.cons Sub.refl (.cons Sub.refl .nil))
       clear hcall
       rintro _ SS ⟨rfl, hSS⟩ -
       rw [hSS]
       clear hSS
       try simp (maxSteps := 4000000) only [go_sem, Prod.mk.injEq, reduceIte, Nat.reduceEqDiff, Nat.reduceAdd, Nat.reduceSub, Nat.reduceMul, Nat.reduceDiv, Nat.reducePow, Nat.reduceLT, Nat.reduceLeDiff, Nat.reduceBEq, Nat.reduceBneDiff, Int.reduceToNat, Int.reduceEq, Int.reduceLE, Int.reduceLT, reduceCtorEq, hq_n0, hr_n0, hn1d, hm1d, hu1n0, hw1n0]
       repeat (with_reducible refine And.intro ?_ ?_; next => first | assumption | trivial | omega | decide | (constructor <;> first | assumption | omega) | (simp [Keep.ok, hp_cons_apply, hset_cons, hq_n0, hr_n0, hn1d, hm1d, hu1n0, hw1n0]; done))
       refine hk _ _ _ ?_
       refine xghost (D := []) ?_ ?_ ?_ ?_
       ·exact (.cons (Sub.of_eq rfl) (.cons (Sub.of_eq rfl) (.cons (Sub.of_eq rfl) (.cons (Sub.of_eq rfl) (.cons (Sub.of_eq rfl) .nil)))))
       ·exact HpW.refl
       ·exact (by intro p hp; cases hp)
       ·omega
     ·rw [ite_f hc] at h
      obtain ⟨hq, hxe⟩ := mr_go h hx1
      clear h hx1
      subst hxe
      have h := hq
      clear hq
      refine LW_exitX (sl' := [(0, .ptr n0 0), (3, .ptr (d, 0) 0), (5, .lit (.int .i64 a)), (11, .lit (.bool (decide (a < 3))))]) (S' := (hp [(n0, oGdiskDisk dx), ((d, 0), .box [.lit (.int .i64 m.Power), eS (lI .u8) m.Data.x0, eS (lI .u8) m.Data.x1, .lit (.int .i64 m.Safe.x0), .lit (.int .i64 m.Safe.x1)])] S)) (c' := 0) ?_ ?_
      ·refine xghost (D := []) ?_ ?_ ?_ ?_
       ·exact (.cons (Sub.of_eq rfl) (.cons (Sub.of_eq rfl) (.cons (Sub.of_eq rfl) (.cons (Sub.of_eq rfl) .nil))))
       ·exact HpW.refl
       ·exact (by intro p hp; cases hp)
       ·omega
      ·show LW _ _ _ _ _ _ _ _
       refine xseq [(4, .lit (.bool true))] (hp [(n0, oGdiskDisk dx), ((d, 0), .box [.lit (.int .i64 m.Power), eS (lI .u8) m.Data.x0, eS (lI .u8) m.Data.x1, .lit (.int .i64 m.Safe.x0), .lit (.int .i64 m.Safe.x1)])] S) 1 ?_ (fun k kp hk => ?_)
       ·refine LW_ret ?_
        obtain rfl := Option.some.inj h
        show FPost _ _ _ _ _ _ _
        exact ⟨_, hp_less (L := [(n0, oGdiskDisk dx)]) (D := [((d, 0), .box [.lit (.int .i64 m.Power), eS (lI .u8) m.Data.x0, eS (lI .u8) m.Data.x1, .lit (.int .i64 m.Safe.x0), .lit (.int .i64 m.Safe.x1)])]) (by intro p hp; simp only [List.mem_cons, List.not_mem_nil, or_false] at hp; rcases hp with rfl <;> first | exact hd _ (Nat.le_refl _)), rfl, hp_out hS0⟩
       ·try simp (maxSteps := 4000000) only [go_sem, Prod.mk.injEq, reduceIte, Nat.reduceEqDiff, Nat.reduceAdd, Nat.reduceSub, Nat.reduceMul, Nat.reduceDiv, Nat.reducePow, Nat.reduceLT, Nat.reduceLeDiff, Nat.reduceBEq, Nat.reduceBneDiff, Int.reduceToNat, Int.reduceEq, Int.reduceLE, Int.reduceLT, reduceCtorEq, hq_n0, hr_n0, hn1d, hm1d, hu1n0, hw1n0]
        repeat (with_reducible refine And.intro ?_ ?_; next => first | assumption | trivial | omega | decide | (constructor <;> first | assumption | omega) | (simp [Keep.ok, hp_cons_apply, hset_cons, hq_n0, hr_n0, hn1d, hm1d, hu1n0, hw1n0]; done))
        refine hk _ _ _ ?_
        refine xghost (D := []) ?_ ?_ ?_ ?_
        ·exact (.cons (Sub.of_eq rfl) .nil)
        ·exact HpW.refl
        ·exact (by intro p hp; cases hp)
        ·omega
    ·try simp (maxSteps := 4000000) only [go_sem, Prod.mk.injEq, reduceIte, Nat.reduceEqDiff, Nat.reduceAdd, Nat.reduceSub, Nat.reduceMul, Nat.reduceDiv, Nat.reducePow, Nat.reduceLT, Nat.reduceLeDiff, Nat.reduceBEq, Nat.reduceBneDiff, Int.reduceToNat, Int.reduceEq, Int.reduceLE, Int.reduceLT, reduceCtorEq, hq_n0, hr_n0, hn1d, hm1d, hu1n0, hw1n0]
     repeat (with_reducible refine And.intro ?_ ?_; next => first | assumption | trivial | omega | decide | (constructor <;> first | assumption | omega) | (simp [Keep.ok, hp_cons_apply, hset_cons, hq_n0, hr_n0, hn1d, hm1d, hu1n0, hw1n0]; done))
     refine hk _ _ _ ?_
     refine xghost (D := []) ?_ ?_ ?_ ?_
     ·exact (.cons (Sub.of_eq rfl) (.cons (Sub.of_eq rfl) (.cons (Sub.of_eq rfl) (.cons (Sub.of_eq rfl) .nil))))
     ·exact HpW.refl
     ·exact (by intro p hp; cases hp)
     ·omega
   ·refine xghost (D := []) ?_ ?_ ?_ ?_
    ·exact (.cons (Sub.of_eq rfl) (.cons (Sub.of_eq rfl) (.cons (Sub.of_eq rfl) .nil)))
    ·exact HpW.refl
    ·exact (by intro p hp; cases hp)
    ·omega
  ·try simp (maxSteps := 4000000) only [go_sem, Prod.mk.injEq, reduceIte, Nat.reduceEqDiff, Nat.reduceAdd, Nat.reduceSub, Nat.reduceMul, Nat.reduceDiv, Nat.reducePow, Nat.reduceLT, Nat.reduceLeDiff, Nat.reduceBEq, Nat.reduceBneDiff, Int.reduceToNat, Int.reduceEq, Int.reduceLE, Int.reduceLT, reduceCtorEq, hq_n0, hr_n0]
   repeat (with_reducible refine And.intro ?_ ?_; next => first | assumption | trivial | omega | decide | (constructor <;> first | assumption | omega) | (simp [Keep.ok, hp_cons_apply, hset_cons, hq_n0, hr_n0]; done))
   refine hk _ _ _ ?_
   refine xghost (D := []) ?_ ?_ ?_ ?_
   ·exact (.cons (Sub.of_eq rfl) (.cons (Sub.of_eq rfl) (.cons (Sub.of_eq rfl) .nil)))
   ·exact HpW.refl
   ·exact (by intro p hp; cases hp)
   ·omega
 ·try simp (maxSteps := 4000000) only [go_sem, Prod.mk.injEq, reduceIte, Nat.reduceEqDiff, Nat.reduceAdd, Nat.reduceSub, Nat.reduceMul, Nat.reduceDiv, Nat.reducePow, Nat.reduceLT, Nat.reduceLeDiff, Nat.reduceBEq, Nat.reduceBneDiff, Int.reduceToNat, Int.reduceEq, Int.reduceLE, Int.reduceLT, reduceCtorEq, hq_n0, hr_n0]
  repeat (with_reducible refine And.intro ?_ ?_; next => first | assumption | trivial | omega | decide | (constructor <;> first | assumption | omega) | (simp [Keep.ok, hp_cons_apply, hset_cons, hq_n0, hr_n0]; done))
  refine hk _ _ _ ?_
  refine xghost (D := []) ?_ ?_ ?_ ?_
  ·exact (.cons (Sub.of_eq rfl) (.cons (Sub.of_eq rfl) .nil))
  ·exact HpW.refl
  ·exact (by intro p hp; cases hp)
  ·omega
/-! stanchion/stanchionlaw04.DiskSteps -/
def s_stanchionlaw04_DiskSteps_j1 (t7 : Int) (m_1 : Int) (m_2 : List Int) (m_3 : List Int) (m_4 : Int) (m_5 : Int) (D_1 : GdiskDisk) : Option ((Int × Int × List Int × List Int × Int × Int × GdiskDisk) ⊕ Bool) :=
 bd (s_stanchionlaw04_same D_1 (Gref04Disk.mk m_1 (Ar2.mk m_2 m_3) (Ar2.mk m_4 m_5))) fun (v_9 : Bool) => if (!v_9) = true then mr (some false) else some (.inl ((IntKind.i64.wrap (t7 + 1)), m_1, m_2, m_3, m_4, m_5, D_1))
def s_stanchionlaw04_DiskSteps_b1 (v_1 : List Glaw04Op) : (Int × Int × List Int × List Int × Int × Int × GdiskDisk) → Option ((Int × Int × List Int × List Int × Int × Int × GdiskDisk) ⊕ Bool)
 | (t7, m, m_1, m_2, m_3, m_4, D) => if (decide (t7 < (v_1.length : Int))) = true then gd ((0 ≤ t7 ∧ Int.toNat t7 < v_1.length)) (if ((v_1.getD (Int.toNat t7) yGlaw04Op.dflt).What == 4) = true then bd (s_stanchionref00_CopyInts ((v_1.getD (Int.toNat t7) yGlaw04Op.dflt).Areas)) fun (v_4 : List Int) => bd (s_disk_Disk_Crash D v_4 ((v_1.getD (Int.toNat t7) yGlaw04Op.dflt).N)) fun (v_5 : GdiskDisk) => bd (s_stanchionref04_Disk_Crash (Gref04Disk.mk m (Ar2.mk m_1 m_2) (Ar2.mk m_3 m_4)) ((v_1.getD (Int.toNat t7) yGlaw04Op.dflt).Areas) ((v_1.getD (Int.toNat t7) yGlaw04Op.dflt).N)) fun (v_6 : Gref04Disk) => s_stanchionlaw04_DiskSteps_j1 t7 v_6.Power v_6.Data.x0 v_6.Data.x1 v_6.Safe.x0 v_6.Safe.x1 v_5 else bd (s_stanchionlaw04_does (Gref04Disk.mk m (Ar2.mk m_1 m_2) (Ar2.mk m_3 m_4)) (v_1.getD (Int.toNat t7) yGlaw04Op.dflt)) fun (v_7 : Gref04Disk × Int) => bd (s_stanchionlaw04_act D (v_1.getD (Int.toNat t7) yGlaw04Op.dflt)) fun (v_8 : Int × GdiskDisk) => if (v_8.1 != v_7.2) = true then mr (some false) else s_stanchionlaw04_DiskSteps_j1 t7 v_7.1.Power v_7.1.Data.x0 v_7.1.Data.x1 v_7.1.Safe.x0 v_7.1.Safe.x1 v_8.2) else mr (some true)
def s_stanchionlaw04_DiskSteps (t : Int) (o : List Glaw04Op) : Option Bool :=
 bd (s_stanchionlaw04_alive ) fun (v : Bool) => if (!v) = true then some false else bd (s_stanchionlaw04_cut o) fun (v_1 : List Glaw04Op) => bd (s_stanchionlaw04_great v_1) fun (v_2 : Bool) => if v_2 = true then some true else bd (s_disk_New t) fun (v_3 : GdiskDisk) => loop (s_stanchionlaw04_DiskSteps_b1 v_1) (0, t, [], [], 0, 0, v_3)
theorem s_stanchionlaw04_DiskSteps_ok (S : AHeap) (t : Int) (o : List Glaw04Op) {r : Bool} (h : s_stanchionlaw04_DiskSteps t o = some r) :
  AC Try.prog n_stanchionlaw04_DiskSteps [.lit (.int .i64 t), eS yGlaw04Op o] S fun r' S' => r' = .ret (.lit (.bool r)) ∧ S' = S := by
 refine AC_of tok mixed fits_stanchionlaw04_DiskSteps fun d hd => ?_
 unfold c_stanchionlaw04_DiskSteps
 show LW _ _ _ _ [(0, .lit (.int .i64 t)), (1, eS yGlaw04Op o)] (hp [] S) 0 _
 rw [s_stanchionlaw04_DiskSteps] at h
 refine xseq [(0, .lit (.int .i64 t)), (1, eS yGlaw04Op o)] (hp [] S) 0 ?_ (fun k kp hk => ?_)
 ·refine LW_seq ?_
  obtain ⟨v, hv, h⟩ := bd_some h
  refine xseq [(0, .lit (.int .i64 t)), (1, eS yGlaw04Op o), (12, .lit (.bool (!v)))] (hp [] S) 0 ?_ (fun k kp hk => ?_)
  ·refine xcond (!v) rfl (fun hc => ?_) (fun hc => ?_)
   ·rw [ite_t hc] at h
    refine xseq [(4, .lit (.bool false))] (hp [] S) 0 ?_ (fun k kp hk => ?_)
    ·refine LW_ret ?_
     obtain rfl := Option.some.inj h
     show FPost _ _ _ _ _ _ _
     exact ⟨_, hp_less (L := []) (D := []) (by intro p hp; cases hp), rfl, rfl⟩
    ·try simp (maxSteps := 4000000) only [go_sem, Prod.mk.injEq, reduceIte, Nat.reduceEqDiff, Nat.reduceAdd, Nat.reduceSub, Nat.reduceMul, Nat.reduceDiv, Nat.reducePow, Nat.reduceLT, Nat.reduceLeDiff, Nat.reduceBEq, Nat.reduceBneDiff, Int.reduceToNat, Int.reduceEq, Int.reduceLE, Int.reduceLT, reduceCtorEq]
     repeat (with_reducible refine And.intro ?_ ?_; next => first | assumption | trivial | omega | decide | (constructor <;> first | assumption | omega) | (simp [Keep.ok, hp_cons_apply, hset_cons]; done))
     refine hk _ _ _ ?_
     refine xghost (D := []) ?_ ?_ ?_ ?_
     ·exact (.cons (Sub.of_eq rfl) .nil)
     ·exact HpW.refl
     ·exact (by intro p hp; cases hp)
     ·omega
   ·rw [ite_f hc] at h
    refine LW_skip ?_
    show LW _ _ _ _ _ _ _ _
    obtain ⟨v_1, hv_1, h⟩ := bd_some h
    refine xseq [(0, .lit (.int .i64 t)), (1, eS yGlaw04Op v_1)] (hp [] S) 0 ?_ (fun k kp hk => ?_)
    ·refine LW_seq ?_
     obtain ⟨v_2, hv_2, h⟩ := bd_some h
     refine xseq [(0, .lit (.int .i64 t)), (1, eS yGlaw04Op v_1), (16, .lit (.bool v_2))] (hp [] S) 0 ?_ (fun k kp hk => ?_)
     ·refine xcond v_2 rfl (fun hc_1 => ?_) (fun hc_1 => ?_)
      ·rw [ite_t hc_1] at h
       refine xseq [(4, .lit (.bool true))] (hp [] S) 0 ?_ (fun k kp hk => ?_)
       ·refine LW_ret ?_
        obtain rfl := Option.some.inj h
        show FPost _ _ _ _ _ _ _
        exact ⟨_, hp_less (L := []) (D := []) (by intro p hp; cases hp), rfl, rfl⟩
       ·try simp (maxSteps := 4000000) only [go_sem, Prod.mk.injEq, reduceIte, Nat.reduceEqDiff, Nat.reduceAdd, Nat.reduceSub, Nat.reduceMul, Nat.reduceDiv, Nat.reducePow, Nat.reduceLT, Nat.reduceLeDiff, Nat.reduceBEq, Nat.reduceBneDiff, Int.reduceToNat, Int.reduceEq, Int.reduceLE, Int.reduceLT, reduceCtorEq]
        repeat (with_reducible refine And.intro ?_ ?_; next => first | assumption | trivial | omega | decide | (constructor <;> first | assumption | omega) | (simp [Keep.ok, hp_cons_apply, hset_cons]; done))
        refine hk _ _ _ ?_
        refine xghost (D := []) ?_ ?_ ?_ ?_
        ·exact (.cons (Sub.of_eq rfl) .nil)
        ·exact HpW.refl
        ·exact (by intro p hp; cases hp)
        ·omega
      ·rw [ite_f hc_1] at h
       refine LW_skip ?_
       show LW _ _ _ _ _ _ _ _
       obtain ⟨v_3, hv_3, h⟩ := bd_some h
       refine xseq [(0, .lit (.int .i64 t)), (1, eS yGlaw04Op v_1), (5, .ptr (d, 0) 0)] (hp [((d, 0), oGdiskDisk v_3)] S) 1 ?_ (fun k kp hk => ?_)
       ·refine xseq [(1, eS yGlaw04Op v_1), (5, .ptr (d, 0) 0), (6, .ptr (d, 1) 0)] (hp [((d, 0), oGdiskDisk v_3), ((d, 1), .box [.lit (.int .i64 t), .lit (.slice none 0 0), .lit (.slice none 0 0), .lit (.int .i64 0), .lit (.int .i64 0)])] S) 2 ?_ (fun k kp hk => ?_)
        ·refine LW_seq ?_
         refine xseq [(1, eS yGlaw04Op v_1), (5, .ptr (d, 0) 0), (6, .ptr (d, 1) 0), (22, .lit (.bool false))] (hp [((d, 0), oGdiskDisk v_3), ((d, 1), .box [.lit (.int .i64 t), .lit (.slice none 0 0), .lit (.slice none 0 0), .lit (.int .i64 0), .lit (.int .i64 0)])] S) 2 ?_ (fun k kp hk => ?_)
         ·refine xcond false rfl (fun h0 => by cases h0) (fun _ => ?_)
          refine LW_skip ?_
          show LW _ _ _ _ _ _ _ _
          refine LW_seq ?_
          refine xseq [(1, eS yGlaw04Op v_1), (5, .ptr (d, 0) 0), (6, .ptr (d, 1) 0), (7, .lit (.int .i64 0))] (hp [((d, 0), oGdiskDisk v_3), ((d, 1), .box [.lit (.int .i64 t), .lit (.slice none 0 0), .lit (.slice none 0 0), .lit (.int .i64 0), .lit (.int .i64 0)])] S) 2 ?_ (fun k kp hk => ?_)
          ·refine LW_block ?_
           refine LW_heap (S' := (hp [((d, 1), .box [.lit (.int .i64 t), .lit (.slice none 0 0), .lit (.slice none 0 0), .lit (.int .i64 0), .lit (.int .i64 0)]), ((d, 0), oGdiskDisk v_3)] S)) (hp_last (by intro q hq; simp only [List.mem_cons, List.not_mem_nil, or_false] at hq; rcases hq with rfl <;> simp [])) ?_
           refine LW_loopG (c := 2) (σ := Int × Int × List Int × List Int × Int × Int × GdiskDisk) (s := (0, t, [], [], 0, 0, v_3)) (ok := fun gg : Name => d ≤ gg.1 ∧ (∀ k, 2 ≤ k → gg ≠ (d, k)) ∧ gg ≠ (d, 1)) (fun zz gg => [(1, eS yGlaw04Op v_1), (5, .ptr gg 0), (6, .ptr (d, 1) 0), (7, .lit (.int .i64 zz.1))]) (fun zz gg => (hp [((d, 1), .box [.lit (.int .i64 zz.2.1), eS (lI .u8) zz.2.2.1, eS (lI .u8) zz.2.2.2.1, .lit (.int .i64 zz.2.2.2.2.1), .lit (.int .i64 zz.2.2.2.2.2.1)]), (gg, oGdiskDisk zz.2.2.2.2.2.2)] S)) (d, 0) h ?_ ?_ ?_
           ·clear h
            rintro ⟨t7, m, m_1, m_2, m_3, m_4, D⟩ gn x1 d1 hd1 ⟨hle_gn, hgk_gn, hne0_gn⟩ hf1 h hx1
            show LW _ _ _ _ [(1, eS yGlaw04Op v_1), (5, .ptr gn 0), (6, .ptr (d, 1) 0), (7, .lit (.int .i64 t7))] (hp [((d, 1), .box [.lit (.int .i64 m), eS (lI .u8) m_1, eS (lI .u8) m_2, .lit (.int .i64 m_3), .lit (.int .i64 m_4)]), (gn, oGdiskDisk D)] S) 0 _
            have hn1d : (d = d1) = False := by simp; omega
            have hm1d : (d1 = d) = False := by simp; omega
            have hk_gn : ∀ k, 2 ≤ k → (gn = (d, k)) = False := fun k hk => ne_false (hgk_gn k hk)
            have hj_gn : ∀ k, 2 ≤ k → ((d, k) = gn) = False := fun k hk => ne_false' (hgk_gn k hk)
            have ho0_gn : (gn = (d, 1)) = False := ne_false hne0_gn
            have hp0_gn : ((d, 1) = gn) = False := ne_false' hne0_gn
            have hl1_gn : gn.1 < d1 := lt_of_hd hf1 (show (hp [((d, 1), .box [.lit (.int .i64 m), eS (lI .u8) m_1, eS (lI .u8) m_2, .lit (.int .i64 m_3), .lit (.int .i64 m_4)]), (gn, oGdiskDisk D)] S) gn = some (oGdiskDisk D) from by simp only [hp_cons_apply, hp_nil_apply, reduceIte, ho0_gn])
            have hu1gn : ∀ k, (gn = (d1, k)) = False := fun k => ne_deep hl1_gn
            have hw1gn : ∀ k, ((d1, k) = gn) = False := fun k => ne_deep' hl1_gn
            rw [s_stanchionlaw04_DiskSteps_b1] at h
            refine LW_seq ?_
            refine xseq [(1, eS yGlaw04Op v_1), (5, .ptr gn 0), (6, .ptr (d, 1) 0), (7, .lit (.int .i64 t7)), (26, .lit (.bool (decide (t7 < (v_1.length : Int)))))] (hp [((d, 1), .box [.lit (.int .i64 m), eS (lI .u8) m_1, eS (lI .u8) m_2, .lit (.int .i64 m_3), .lit (.int .i64 m_4)]), (gn, oGdiskDisk D)] S) 0 ?_ (fun k kp hk => ?_)
            ·refine xcond (decide (t7 < (v_1.length : Int))) rfl (fun hc_2 => ?_) (fun hc_2 => ?_)
             ·rw [ite_t hc_2] at h
              refine LW_skip ?_
              show LW _ _ _ _ _ _ _ _
              refine LW_seq ?_
              refine LW_block ?_
              obtain ⟨hg, h⟩ := gd_some h
              refine xseq [(1, eS yGlaw04Op v_1), (5, .ptr gn 0), (6, .ptr (d, 1) 0), (7, .lit (.int .i64 t7)), (8, .ptr (d1, 0) 0)] (hp [((d, 1), .box [.lit (.int .i64 m), eS (lI .u8) m_1, eS (lI .u8) m_2, .lit (.int .i64 m_3), .lit (.int .i64 m_4)]), (gn, oGdiskDisk D), ((d1, 0), .box [.lit (.int .i64 ((v_1.getD (Int.toNat t7) yGlaw04Op.dflt).What)), .lit (.int .i64 ((v_1.getD (Int.toNat t7) yGlaw04Op.dflt).Area)), .lit (.int .i64 ((v_1.getD (Int.toNat t7) yGlaw04Op.dflt).N)), eS (lS (lI .u8)) ((v_1.getD (Int.toNat t7) yGlaw04Op.dflt).Parts), eS (lI .i64) ((v_1.getD (Int.toNat t7) yGlaw04Op.dflt).Areas)])] S) 1 ?_ (fun k kp hk => ?_)
              ·refine xjoin (J := Int × List Int × List Int × Int × Int × GdiskDisk × Name) (fun jj => [(1, eS yGlaw04Op v_1), (5, .ptr jj.2.2.2.2.2.2 0), (6, .ptr (d, 1) 0), (7, .lit (.int .i64 t7))]) (fun jj => (hp [((d, 1), .box [.lit (.int .i64 jj.1), eS (lI .u8) jj.2.1, eS (lI .u8) jj.2.2.1, .lit (.int .i64 jj.2.2.2.1), .lit (.int .i64 jj.2.2.2.2.1)]), (jj.2.2.2.2.2.2, oGdiskDisk jj.2.2.2.2.2.1)] S)) 2 (fun jj => s_stanchionlaw04_DiskSteps_j1 t7 jj.1 jj.2.1 jj.2.2.1 jj.2.2.2.1 jj.2.2.2.2.1 jj.2.2.2.2.2.1 = some x1 ∧ d ≤ jj.2.2.2.2.2.2.1 ∧ jj.2.2.2.2.2.2.1 ≤ d1 ∧ (∀ k, 2 ≤ k → jj.2.2.2.2.2.2 ≠ (d1, k)) ∧ (∀ k, 2 ≤ k → jj.2.2.2.2.2.2 ≠ (d, k)) ∧ jj.2.2.2.2.2.2 ≠ (d, 1)) ?_ (fun hj => ?_)
               ·rintro ⟨m_1, m_2, m_3, m_4, m_5, D_1, gj⟩ ⟨h, hle_gj, hl_gj, hgk_gj, hgk0_gj, hne0_gj⟩
                show LW _ _ _ _ [(1, eS yGlaw04Op v_1), (5, .ptr gj 0), (6, .ptr (d, 1) 0), (7, .lit (.int .i64 t7))] (hp [((d, 1), .box [.lit (.int .i64 m_1), eS (lI .u8) m_2, eS (lI .u8) m_3, .lit (.int .i64 m_4), .lit (.int .i64 m_5)]), (gj, oGdiskDisk D_1)] S) 2 _
                replace h : s_stanchionlaw04_DiskSteps_j1 t7 m_1 m_2 m_3 m_4 m_5 D_1 = some x1 := h
                have hk_gj : ∀ k, 2 ≤ k → (gj = (d1, k)) = False := fun k hk => ne_false (hgk_gj k hk)
                have hj_gj : ∀ k, 2 ≤ k → ((d1, k) = gj) = False := fun k hk => ne_false' (hgk_gj k hk)
                have hk0_gj : ∀ k, 2 ≤ k → (gj = (d, k)) = False := fun k hk => ne_false (hgk0_gj k hk)
                have hj0_gj : ∀ k, 2 ≤ k → ((d, k) = gj) = False := fun k hk => ne_false' (hgk0_gj k hk)
                have ho0_gj : (gj = (d, 1)) = False := ne_false hne0_gj
                have hp0_gj : ((d, 1) = gj) = False := ne_false' hne0_gj
                rw [s_stanchionlaw04_DiskSteps_j1] at h
                obtain ⟨v_9, hv_9, h⟩ := bd_some h
                refine xseq [(1, eS yGlaw04Op v_1), (5, .ptr gj 0), (6, .ptr (d, 1) 0), (7, .lit (.int .i64 t7)), (66, .lit (.bool (!v_9)))] (hp [((d, 1), .box [.lit (.int .i64 m_1), eS (lI .u8) m_2, eS (lI .u8) m_3, .lit (.int .i64 m_4), .lit (.int .i64 m_5)]), (gj, oGdiskDisk D_1)] S) 2 ?_ (fun k kp hk => ?_)
                ·refine xcond (!v_9) rfl (fun hc_5 => ?_) (fun hc_5 => ?_)
                 ·rw [ite_t hc_5] at h
                  refine xseq [(1, eS yGlaw04Op v_1), (4, .lit (.bool false)), (5, .ptr gj 0), (6, .ptr (d, 1) 0), (7, .lit (.int .i64 t7))] (hp [((d, 1), .box [.lit (.int .i64 m_1), eS (lI .u8) m_2, eS (lI .u8) m_3, .lit (.int .i64 m_4), .lit (.int .i64 m_5)]), (gj, oGdiskDisk D_1)] S) 2 ?_ (fun k kp hk => ?_)
                  ·obtain ⟨hq, hxe⟩ := mr_go h hx1
                   clear h hx1
                   subst hxe
                   have h := hq
                   clear hq
                   refine LW_retX (sl' := [(4, .lit (.bool false))]) (S' := (hp [((d, 1), .box [.lit (.int .i64 m_1), eS (lI .u8) m_2, eS (lI .u8) m_3, .lit (.int .i64 m_4), .lit (.int .i64 m_5)]), (gj, oGdiskDisk D_1)] S)) (c' := 2) ?_ ?_
                   ·refine xghost (D := []) ?_ ?_ ?_ ?_
                    ·exact (.cons (Sub.of_eq rfl) .nil)
                    ·exact HpW.refl
                    ·exact (by intro p hp; cases hp)
                    ·omega
                   ·obtain rfl := Option.some.inj h
                    show FPost _ _ _ _ _ _ _
                    exact ⟨_, hp_less (L := []) (D := [((d, 1), .box [.lit (.int .i64 m_1), eS (lI .u8) m_2, eS (lI .u8) m_3, .lit (.int .i64 m_4), .lit (.int .i64 m_5)]), (gj, oGdiskDisk D_1)]) (by intro p hp; simp only [List.mem_cons, List.not_mem_nil, or_false] at hp; rcases hp with rfl | rfl <;> first | exact hd _ (Nat.le_refl _) | exact hd _ hle_gj), rfl, rfl⟩
                  ·try simp (maxSteps := 4000000) only [go_sem, Prod.mk.injEq, reduceIte, Nat.reduceEqDiff, Nat.reduceAdd, Nat.reduceSub, Nat.reduceMul, Nat.reduceDiv, Nat.reducePow, Nat.reduceLT, Nat.reduceLeDiff, Nat.reduceBEq, Nat.reduceBneDiff, Int.reduceToNat, Int.reduceEq, Int.reduceLE, Int.reduceLT, reduceCtorEq, hn1d, hm1d, hu1gn, hw1gn, hk_gn, hj_gn, ho0_gn, hp0_gn, hk_gj, hj_gj, hk0_gj, hj0_gj, ho0_gj, hp0_gj]
                   repeat (with_reducible refine And.intro ?_ ?_; next => first | assumption | trivial | omega | decide | (constructor <;> first | assumption | omega) | (simp [Keep.ok, hp_cons_apply, hset_cons, hn1d, hm1d, hu1gn, hw1gn, hk_gn, hj_gn, ho0_gn, hp0_gn, hk_gj, hj_gj, hk0_gj, hj0_gj, ho0_gj, hp0_gj]; done))
                   refine hk _ _ _ ?_
                   refine xghost (D := []) ?_ ?_ ?_ ?_
                   ·exact (.cons (Sub.of_eq rfl) (.cons (Sub.of_eq rfl) (.cons (Sub.of_eq rfl) (.cons (Sub.of_eq rfl) (.cons (Sub.of_eq rfl) .nil)))))
                   ·exact HpW.refl
                   ·exact (by intro p hp; cases hp)
                   ·omega
                 ·rw [ite_f hc_5] at h
                  refine LW_skip ?_
                  show LW _ _ _ _ _ _ _ _
                  refine xreg [(1, eS yGlaw04Op v_1), (5, .ptr gj 0), (6, .ptr (d, 1) 0), (7, .lit (.int .i64 (IntKind.i64.wrap (t7 + 1))))] (hp [((d, 1), .box [.lit (.int .i64 m_1), eS (lI .u8) m_2, eS (lI .u8) m_3, .lit (.int .i64 m_4), .lit (.int .i64 m_5)]), (gj, oGdiskDisk D_1)] S) 2 ?_ (fun k kp hk => ?_)
                  ·cases h
                   exact ⟨gj, ⟨hle_gj, by intro k hk; first | (simp only [hk, Prod.mk.injEq, Nat.reduceEqDiff, and_false, false_and, and_true, true_and, ne_eq, not_false_eq_true, hn1d, hm1d, hu1gn, hw1gn, hk_gn, hj_gn, ho0_gn, hp0_gn, hk_gj, hj_gj, hk0_gj, hj0_gj, ho0_gj, hp0_gj]; done) | (simp; omega), by first | (simp only [hk, Prod.mk.injEq, Nat.reduceEqDiff, and_false, false_and, and_true, true_and, ne_eq, not_false_eq_true, hn1d, hm1d, hu1gn, hw1gn, hk_gn, hj_gn, ho0_gn, hp0_gn, hk_gj, hj_gj, hk0_gj, hj0_gj, ho0_gj, hp0_gj]; done) | (simp; done) | (simp; omega)⟩, rfl, Less.refl _⟩
                  ·try simp (maxSteps := 4000000) only [go_sem, Prod.mk.injEq, reduceIte, Nat.reduceEqDiff, Nat.reduceAdd, Nat.reduceSub, Nat.reduceMul, Nat.reduceDiv, Nat.reducePow, Nat.reduceLT, Nat.reduceLeDiff, Nat.reduceBEq, Nat.reduceBneDiff, Int.reduceToNat, Int.reduceEq, Int.reduceLE, Int.reduceLT, reduceCtorEq, hn1d, hm1d, hu1gn, hw1gn, hk_gn, hj_gn, ho0_gn, hp0_gn, hk_gj, hj_gj, hk0_gj, hj0_gj, ho0_gj, hp0_gj]
                   repeat (with_reducible refine And.intro ?_ ?_; next => first | assumption | trivial | omega | decide | (constructor <;> first | assumption | omega) | (simp [Keep.ok, hp_cons_apply, hset_cons, hn1d, hm1d, hu1gn, hw1gn, hk_gn, hj_gn, ho0_gn, hp0_gn, hk_gj, hj_gj, hk0_gj, hj0_gj, ho0_gj, hp0_gj]; done))
                   refine hk _ _ _ ?_
                   refine xghost (D := []) ?_ ?_ ?_ ?_
                   ·exact (.cons (Sub.of_eq rfl) (.cons (Sub.of_eq rfl) (.cons (Sub.of_eq rfl) (.cons (Sub.of_eq rfl) .nil))))
                   ·exact HpW.refl
                   ·exact (by intro p hp; cases hp)
                   ·omega
                ·try simp (maxSteps := 4000000) only [go_sem, Prod.mk.injEq, reduceIte, Nat.reduceEqDiff, Nat.reduceAdd, Nat.reduceSub, Nat.reduceMul, Nat.reduceDiv, Nat.reducePow, Nat.reduceLT, Nat.reduceLeDiff, Nat.reduceBEq, Nat.reduceBneDiff, Int.reduceToNat, Int.reduceEq, Int.reduceLE, Int.reduceLT, reduceCtorEq, hn1d, hm1d, hu1gn, hw1gn, hk_gn, hj_gn, ho0_gn, hp0_gn, hk_gj, hj_gj, hk0_gj, hj0_gj, ho0_gj, hp0_gj]
                 repeat (with_reducible refine And.intro ?_ ?_; next => first | assumption | trivial | omega | decide | (constructor <;> first | assumption | omega) | (simp [Keep.ok, hp_cons_apply, hset_cons, hn1d, hm1d, hu1gn, hw1gn, hk_gn, hj_gn, ho0_gn, hp0_gn, hk_gj, hj_gj, hk0_gj, hj0_gj, ho0_gj, hp0_gj]; done))
                 have hcall := s_stanchionlaw04_same_ok (n0 := gj) (hS0 := by simp only [hp_cons_apply, hp_nil_apply, reduceIte, Prod.mk.injEq, Nat.reduceEqDiff, and_true, and_false, true_and, false_and, hn1d, hm1d, hu1gn, hw1gn, hk_gn, hj_gn, ho0_gn, hp0_gn, hk_gj, hj_gj, hk0_gj, hj0_gj, ho0_gj, hp0_gj] <;> rfl) (hp [((d, 1), .box [.lit (.int .i64 m_1), eS (lI .u8) m_2, eS (lI .u8) m_3, .lit (.int .i64 m_4), .lit (.int .i64 m_5)]), (gj, oGdiskDisk D_1)] S) _ (Gref04Disk.mk m_1 (Ar2.mk m_2 m_3) (Ar2.mk m_4 m_5)) (h := hv_9)
                 refine call1_x hcall rfl ?_ ?_
                 ·exact (.cons Sub.refl (.cons Sub.refl .nil))
                 clear hcall
                 rintro _ SS ⟨rfl, hSS⟩ -
                 rw [hSS]
                 clear hSS
                 try simp (maxSteps := 4000000) only [go_sem, Prod.mk.injEq, reduceIte, Nat.reduceEqDiff, Nat.reduceAdd, Nat.reduceSub, Nat.reduceMul, Nat.reduceDiv, Nat.reducePow, Nat.reduceLT, Nat.reduceLeDiff, Nat.reduceBEq, Nat.reduceBneDiff, Int.reduceToNat, Int.reduceEq, Int.reduceLE, Int.reduceLT, reduceCtorEq, hn1d, hm1d, hu1gn, hw1gn, hk_gn, hj_gn, ho0_gn, hp0_gn, hk_gj, hj_gj, hk0_gj, hj0_gj, ho0_gj, hp0_gj]
                 repeat (with_reducible refine And.intro ?_ ?_; next => first | assumption | trivial | omega | decide | (constructor <;> first | assumption | omega) | (simp [Keep.ok, hp_cons_apply, hset_cons, hn1d, hm1d, hu1gn, hw1gn, hk_gn, hj_gn, ho0_gn, hp0_gn, hk_gj, hj_gj, hk0_gj, hj0_gj, ho0_gj, hp0_gj]; done))
                 refine hk _ _ _ ?_
                 refine xghost (D := []) ?_ ?_ ?_ ?_
                 ·exact (.cons (Sub.of_eq rfl) (.cons (Sub.of_eq rfl) (.cons (Sub.of_eq rfl) (.cons (Sub.of_eq rfl) (.cons (Sub.of_eq rfl) .nil)))))
                 ·exact HpW.refl
                 ·exact (by intro p hp; cases hp)
                 ·omega
               ·refine xseq [(1, eS yGlaw04Op v_1), (5, .ptr gn 0), (6, .ptr (d, 1) 0), (7, .lit (.int .i64 t7)), (8, .ptr (d1, 0) 0), (35, .lit (.bool ((v_1.getD (Int.toNat t7) yGlaw04Op.dflt).What == 4)))] (hp [((d, 1), .box [.lit (.int .i64 m), eS (lI .u8) m_1, eS (lI .u8) m_2, .lit (.int .i64 m_3), .lit (.int .i64 m_4)]), (gn, oGdiskDisk D), ((d1, 0), .box [.lit (.int .i64 ((v_1.getD (Int.toNat t7) yGlaw04Op.dflt).What)), .lit (.int .i64 ((v_1.getD (Int.toNat t7) yGlaw04Op.dflt).Area)), .lit (.int .i64 ((v_1.getD (Int.toNat t7) yGlaw04Op.dflt).N)), eS (lS (lI .u8)) ((v_1.getD (Int.toNat t7) yGlaw04Op.dflt).Parts), eS (lI .i64) ((v_1.getD (Int.toNat t7) yGlaw04Op.dflt).Areas)])] S) 1 ?_ (fun k kp hk => ?_)
                ·refine xcond ((v_1.getD (Int.toNat t7) yGlaw04Op.dflt).What == 4) rfl (fun hc_3 => ?_) (fun hc_3 => ?_)
                 ·rw [ite_t hc_3] at h
                  obtain ⟨v_4, hv_4, h⟩ := bd_some h
                  obtain ⟨v_5, hv_5, h⟩ := bd_some h
                  refine xseqd [(1, eS yGlaw04Op v_1), (5, .ptr (d1, 1) 0), (6, .ptr (d, 1) 0), (7, .lit (.int .i64 t7)), (8, .ptr (d1, 0) 0)] (hp [((d, 1), .box [.lit (.int .i64 m), eS (lI .u8) m_1, eS (lI .u8) m_2, .lit (.int .i64 m_3), .lit (.int .i64 m_4)]), (gn, oGdiskDisk D), ((d1, 0), .box [.lit (.int .i64 ((v_1.getD (Int.toNat t7) yGlaw04Op.dflt).What)), .lit (.int .i64 ((v_1.getD (Int.toNat t7) yGlaw04Op.dflt).Area)), .lit (.int .i64 ((v_1.getD (Int.toNat t7) yGlaw04Op.dflt).N)), eS (lS (lI .u8)) ((v_1.getD (Int.toNat t7) yGlaw04Op.dflt).Parts), eS (lI .i64) ((v_1.getD (Int.toNat t7) yGlaw04Op.dflt).Areas)]), ((d1, 1), oGdiskDisk v_5)] S) 2 ?_ (fun k kp hk => ?_)
                  ·obtain ⟨v_6, hv_6, h⟩ := bd_some h
                   refine xseq [(1, eS yGlaw04Op v_1), (5, .ptr (d1, 1) 0), (6, .ptr (d, 1) 0), (7, .lit (.int .i64 t7))] (hp [((d, 1), .box [.lit (.int .i64 v_6.Power), eS (lI .u8) v_6.Data.x0, eS (lI .u8) v_6.Data.x1, .lit (.int .i64 v_6.Safe.x0), .lit (.int .i64 v_6.Safe.x1)]), (gn, oGdiskDisk D), ((d1, 0), .box [.lit (.int .i64 ((v_1.getD (Int.toNat t7) yGlaw04Op.dflt).What)), .lit (.int .i64 ((v_1.getD (Int.toNat t7) yGlaw04Op.dflt).Area)), .lit (.int .i64 ((v_1.getD (Int.toNat t7) yGlaw04Op.dflt).N)), eS (lS (lI .u8)) ((v_1.getD (Int.toNat t7) yGlaw04Op.dflt).Parts), eS (lI .i64) ((v_1.getD (Int.toNat t7) yGlaw04Op.dflt).Areas)]), ((d1, 1), oGdiskDisk v_5)] S) 2 ?_ (fun k kp hk => ?_)
                   ·refine xseq [(1, eS yGlaw04Op v_1), (5, .ptr (d1, 1) 0), (6, .ptr (d, 1) 0), (7, .lit (.int .i64 t7)), (50, .lit (.bool false))] (hp [((d, 1), .box [.lit (.int .i64 v_6.Power), eS (lI .u8) v_6.Data.x0, eS (lI .u8) v_6.Data.x1, .lit (.int .i64 v_6.Safe.x0), .lit (.int .i64 v_6.Safe.x1)]), (gn, oGdiskDisk D), ((d1, 0), .box [.lit (.int .i64 ((v_1.getD (Int.toNat t7) yGlaw04Op.dflt).What)), .lit (.int .i64 ((v_1.getD (Int.toNat t7) yGlaw04Op.dflt).Area)), .lit (.int .i64 ((v_1.getD (Int.toNat t7) yGlaw04Op.dflt).N)), eS (lS (lI .u8)) ((v_1.getD (Int.toNat t7) yGlaw04Op.dflt).Parts), eS (lI .i64) ((v_1.getD (Int.toNat t7) yGlaw04Op.dflt).Areas)]), ((d1, 1), oGdiskDisk v_5)] S) 2 ?_ (fun k kp hk => ?_)
                    ·refine xcond false rfl (fun h0 => by cases h0) (fun _ => ?_)
                     refine LW_skipX (sl' := [(1, eS yGlaw04Op v_1), (5, .ptr (d1, 1) 0), (6, .ptr (d, 1) 0), (7, .lit (.int .i64 t7))]) (S' := (hp [((d, 1), .box [.lit (.int .i64 v_6.Power), eS (lI .u8) v_6.Data.x0, eS (lI .u8) v_6.Data.x1, .lit (.int .i64 v_6.Safe.x0), .lit (.int .i64 v_6.Safe.x1)]), ((d1, 1), oGdiskDisk v_5)] S)) (c' := 2) ?_ ?_
                     ·refine xghostD ?_ ?_ ?_
                      ·exact (.cons (Sub.of_eq rfl) (.cons (Sub.of_eq rfl) (.cons (Sub.of_eq rfl) (.cons (Sub.of_eq rfl) .nil))))
                      ·exact (.cons .refl (.drop (by simp only [hp_cons_apply, hp_nil_apply, reduceIte, Prod.mk.injEq, Nat.reduceEqDiff, and_true, and_false, true_and, false_and, hn1d, hm1d, hu1gn, hw1gn, hk_gn, hj_gn, ho0_gn, hp0_gn]; exact hd _ hle_gn) (.drop (by simp only [hp_cons_apply, hp_nil_apply, reduceIte, Prod.mk.injEq, Nat.reduceEqDiff, and_true, and_false, true_and, false_and, hn1d, hm1d, hu1gn, hw1gn, hk_gn, hj_gn, ho0_gn, hp0_gn]; exact hd _ (show d ≤ d1 by omega)) (.cons .refl .nil))))
                      ·omega
                     ·exact hj (v_6.Power, v_6.Data.x0, v_6.Data.x1, v_6.Safe.x0, v_6.Safe.x1, v_5, (d1, 1)) ⟨h, (show d ≤ d1 by omega), (Nat.le_refl _), by intro k hk; first | (simp only [hk, Prod.mk.injEq, Nat.reduceEqDiff, and_false, false_and, and_true, true_and, ne_eq, not_false_eq_true, hn1d, hm1d, hu1gn, hw1gn, hk_gn, hj_gn, ho0_gn, hp0_gn]; done) | (simp; omega) | (rw [ne_eq]; intro q; have := congrArg Prod.fst q; simp at this; omega), by intro k hk; first | (simp only [hk, Prod.mk.injEq, Nat.reduceEqDiff, and_false, false_and, and_true, true_and, ne_eq, not_false_eq_true, hn1d, hm1d, hu1gn, hw1gn, hk_gn, hj_gn, ho0_gn, hp0_gn]; done) | (simp; omega) | (rw [ne_eq]; intro q; have := congrArg Prod.fst q; simp at this; omega), by first | (simp only [Prod.mk.injEq, Nat.reduceEqDiff, and_false, false_and, and_true, true_and, ne_eq, not_false_eq_true, hn1d, hm1d, hu1gn, hw1gn, hk_gn, hj_gn, ho0_gn, hp0_gn]; done) | (simp; done) | (simp; omega)⟩
                    ·try simp (maxSteps := 4000000) only [go_sem, Prod.mk.injEq, reduceIte, Nat.reduceEqDiff, Nat.reduceAdd, Nat.reduceSub, Nat.reduceMul, Nat.reduceDiv, Nat.reducePow, Nat.reduceLT, Nat.reduceLeDiff, Nat.reduceBEq, Nat.reduceBneDiff, Int.reduceToNat, Int.reduceEq, Int.reduceLE, Int.reduceLT, reduceCtorEq, hn1d, hm1d, hu1gn, hw1gn, hk_gn, hj_gn, ho0_gn, hp0_gn]
                     repeat (with_reducible refine And.intro ?_ ?_; next => first | assumption | trivial | omega | decide | (constructor <;> first | assumption | omega) | (simp [Keep.ok, hp_cons_apply, hset_cons, hn1d, hm1d, hu1gn, hw1gn, hk_gn, hj_gn, ho0_gn, hp0_gn]; done))
                     refine hk _ _ _ ?_
                     refine xghost (D := []) ?_ ?_ ?_ ?_
                     ·exact (.cons (Sub.of_eq rfl) (.cons (Sub.of_eq rfl) (.cons (Sub.of_eq rfl) (.cons (Sub.of_eq rfl) (.cons (Sub.of_eq rfl) .nil)))))
                     ·exact HpW.refl
                     ·exact (by intro p hp; cases hp)
                     ·omega
                   ·try simp (maxSteps := 4000000) only [go_sem, Prod.mk.injEq, reduceIte, Nat.reduceEqDiff, Nat.reduceAdd, Nat.reduceSub, Nat.reduceMul, Nat.reduceDiv, Nat.reducePow, Nat.reduceLT, Nat.reduceLeDiff, Nat.reduceBEq, Nat.reduceBneDiff, Int.reduceToNat, Int.reduceEq, Int.reduceLE, Int.reduceLT, reduceCtorEq, hn1d, hm1d, hu1gn, hw1gn, hk_gn, hj_gn, ho0_gn, hp0_gn]
                    repeat (with_reducible refine And.intro ?_ ?_; next => first | assumption | trivial | omega | decide | (constructor <;> first | assumption | omega) | (simp [Keep.ok, hp_cons_apply, hset_cons, hn1d, hm1d, hu1gn, hw1gn, hk_gn, hj_gn, ho0_gn, hp0_gn]; done))
                    have hcall := s_stanchionref04_Disk_Crash_ok (hp [((d, 1), .box [.lit (.int .i64 m), eS (lI .u8) m_1, eS (lI .u8) m_2, .lit (.int .i64 m_3), .lit (.int .i64 m_4)]), (gn, oGdiskDisk D), ((d1, 0), .box [.lit (.int .i64 ((v_1.getD (Int.toNat t7) yGlaw04Op.dflt).What)), .lit (.int .i64 ((v_1.getD (Int.toNat t7) yGlaw04Op.dflt).Area)), .lit (.int .i64 ((v_1.getD (Int.toNat t7) yGlaw04Op.dflt).N)), eS (lS (lI .u8)) ((v_1.getD (Int.toNat t7) yGlaw04Op.dflt).Parts), eS (lI .i64) ((v_1.getD (Int.toNat t7) yGlaw04Op.dflt).Areas)]), ((d1, 1), oGdiskDisk v_5)] S) (Gref04Disk.mk m (Ar2.mk m_1 m_2) (Ar2.mk m_3 m_4)) ((v_1.getD (Int.toNat t7) yGlaw04Op.dflt).Areas) ((v_1.getD (Int.toNat t7) yGlaw04Op.dflt).N) hv_6
                    refine call1_x hcall rfl ?_ ?_
                    ·exact (.cons Sub.refl (.cons Sub.refl (.cons Sub.refl .nil)))
                    clear hcall
                    rintro _ SS ⟨rfl, hSS⟩ -
                    rw [hSS]
                    clear hSS
                    try simp (maxSteps := 4000000) only [go_sem, Prod.mk.injEq, reduceIte, Nat.reduceEqDiff, Nat.reduceAdd, Nat.reduceSub, Nat.reduceMul, Nat.reduceDiv, Nat.reducePow, Nat.reduceLT, Nat.reduceLeDiff, Nat.reduceBEq, Nat.reduceBneDiff, Int.reduceToNat, Int.reduceEq, Int.reduceLE, Int.reduceLT, reduceCtorEq, hn1d, hm1d, hu1gn, hw1gn, hk_gn, hj_gn, ho0_gn, hp0_gn]
                    repeat (with_reducible refine And.intro ?_ ?_; next => first | assumption | trivial | omega | decide | (constructor <;> first | assumption | omega) | (simp [Keep.ok, hp_cons_apply, hset_cons, hn1d, hm1d, hu1gn, hw1gn, hk_gn, hj_gn, ho0_gn, hp0_gn]; done))
                    refine hk _ _ _ ?_
                    refine xghost (D := []) ?_ ?_ ?_ ?_
                    ·exact (.cons (Sub.of_eq rfl) (.cons (Sub.of_eq rfl) (.cons (Sub.of_eq rfl) (.cons (Sub.of_eq rfl) .nil))))
                    ·exact HpW.refl
                    ·exact (by intro p hp; cases hp)
                    ·omega
                  ·try simp (maxSteps := 4000000) only [go_sem, Prod.mk.injEq, reduceIte, Nat.reduceEqDiff, Nat.reduceAdd, Nat.reduceSub, Nat.reduceMul, Nat.reduceDiv, Nat.reducePow, Nat.reduceLT, Nat.reduceLeDiff, Nat.reduceBEq, Nat.reduceBneDiff, Int.reduceToNat, Int.reduceEq, Int.reduceLE, Int.reduceLT, reduceCtorEq, hn1d, hm1d, hu1gn, hw1gn, hk_gn, hj_gn, ho0_gn, hp0_gn]
                   repeat (with_reducible refine And.intro ?_ ?_; next => first | assumption | trivial | omega | decide | (constructor <;> first | assumption | omega) | (simp [Keep.ok, hp_cons_apply, hset_cons, hn1d, hm1d, hu1gn, hw1gn, hk_gn, hj_gn, ho0_gn, hp0_gn]; done))
                   have hcall := s_stanchionref00_CopyInts_ok (hp [((d, 1), .box [.lit (.int .i64 m), eS (lI .u8) m_1, eS (lI .u8) m_2, .lit (.int .i64 m_3), .lit (.int .i64 m_4)]), (gn, oGdiskDisk D), ((d1, 0), .box [.lit (.int .i64 ((v_1.getD (Int.toNat t7) yGlaw04Op.dflt).What)), .lit (.int .i64 ((v_1.getD (Int.toNat t7) yGlaw04Op.dflt).Area)), .lit (.int .i64 ((v_1.getD (Int.toNat t7) yGlaw04Op.dflt).N)), eS (lS (lI .u8)) ((v_1.getD (Int.toNat t7) yGlaw04Op.dflt).Parts), eS (lI .i64) ((v_1.getD (Int.toNat t7) yGlaw04Op.dflt).Areas)])] S) ((v_1.getD (Int.toNat t7) yGlaw04Op.dflt).Areas) hv_4
                   refine call1_x hcall rfl ?_ ?_
                   ·exact (.cons Sub.refl .nil)
                   clear hcall
                   rintro _ SS ⟨rfl, hSS⟩ -
                   rw [hSS]
                   clear hSS
                   try simp (maxSteps := 4000000) only [go_sem, Prod.mk.injEq, reduceIte, Nat.reduceEqDiff, Nat.reduceAdd, Nat.reduceSub, Nat.reduceMul, Nat.reduceDiv, Nat.reducePow, Nat.reduceLT, Nat.reduceLeDiff, Nat.reduceBEq, Nat.reduceBneDiff, Int.reduceToNat, Int.reduceEq, Int.reduceLE, Int.reduceLT, reduceCtorEq, hn1d, hm1d, hu1gn, hw1gn, hk_gn, hj_gn, ho0_gn, hp0_gn]
                   repeat (with_reducible refine And.intro ?_ ?_; next => first | assumption | trivial | omega | decide | (constructor <;> first | assumption | omega) | (simp [Keep.ok, hp_cons_apply, hset_cons, hn1d, hm1d, hu1gn, hw1gn, hk_gn, hj_gn, ho0_gn, hp0_gn]; done))
                   try simp (maxSteps := 4000000) only [go_sem, Prod.mk.injEq, reduceIte, Nat.reduceEqDiff, Nat.reduceAdd, Nat.reduceSub, Nat.reduceMul, Nat.reduceDiv, Nat.reducePow, Nat.reduceLT, Nat.reduceLeDiff, Nat.reduceBEq, Nat.reduceBneDiff, Int.reduceToNat, Int.reduceEq, Int.reduceLE, Int.reduceLT, reduceCtorEq, hn1d, hm1d, hu1gn, hw1gn, hk_gn, hj_gn, ho0_gn, hp0_gn]
                   repeat (with_reducible refine And.intro ?_ ?_; next => first | assumption | trivial | omega | decide | (constructor <;> first | assumption | omega) | (simp [Keep.ok, hp_cons_apply, hset_cons, hn1d, hm1d, hu1gn, hw1gn, hk_gn, hj_gn, ho0_gn, hp0_gn]; done))
                   have hcall := s_disk_Disk_Crash_ok (n0 := gn) (hS0 := by simp only [hp_cons_apply, hp_nil_apply, reduceIte, Prod.mk.injEq, Nat.reduceEqDiff, and_true, and_false, true_and, false_and, hn1d, hm1d, hu1gn, hw1gn, hk_gn, hj_gn, ho0_gn, hp0_gn] <;> rfl) (hp [((d, 1), .box [.lit (.int .i64 m), eS (lI .u8) m_1, eS (lI .u8) m_2, .lit (.int .i64 m_3), .lit (.int .i64 m_4)]), (gn, oGdiskDisk D), ((d1, 0), .box [.lit (.int .i64 ((v_1.getD (Int.toNat t7) yGlaw04Op.dflt).What)), .lit (.int .i64 ((v_1.getD (Int.toNat t7) yGlaw04Op.dflt).Area)), .lit (.int .i64 ((v_1.getD (Int.toNat t7) yGlaw04Op.dflt).N)), eS (lS (lI .u8)) ((v_1.getD (Int.toNat t7) yGlaw04Op.dflt).Parts), eS (lI .i64) ((v_1.getD (Int.toNat t7) yGlaw04Op.dflt).Areas)])] S) _ v_4 ((v_1.getD (Int.toNat t7) yGlaw04Op.dflt).N) (h := hv_5)
                   refine call1_new hcall rfl rfl ?_ ?_
                   ·exact (.cons Sub.refl (.cons Sub.refl (.cons Sub.refl .nil)))
                   clear hcall
                   try simp (maxSteps := 4000000) only [go_sem, Prod.mk.injEq, reduceIte, Nat.reduceEqDiff, Nat.reduceAdd, Nat.reduceSub, Nat.reduceMul, Nat.reduceDiv, Nat.reducePow, Nat.reduceLT, Nat.reduceLeDiff, Nat.reduceBEq, Nat.reduceBneDiff, Int.reduceToNat, Int.reduceEq, Int.reduceLE, Int.reduceLT, reduceCtorEq, hn1d, hm1d, hu1gn, hw1gn, hk_gn, hj_gn, ho0_gn, hp0_gn]
                   repeat (with_reducible refine And.intro ?_ ?_; next => first | assumption | trivial | omega | decide | (constructor <;> first | assumption | omega) | (simp [Keep.ok, hp_cons_apply, hset_cons, hn1d, hm1d, hu1gn, hw1gn, hk_gn, hj_gn, ho0_gn, hp0_gn]; done))
                   try simp (maxSteps := 4000000) only [go_sem, Prod.mk.injEq, reduceIte, Nat.reduceEqDiff, Nat.reduceAdd, Nat.reduceSub, Nat.reduceMul, Nat.reduceDiv, Nat.reducePow, Nat.reduceLT, Nat.reduceLeDiff, Nat.reduceBEq, Nat.reduceBneDiff, Int.reduceToNat, Int.reduceEq, Int.reduceLE, Int.reduceLT, reduceCtorEq, hn1d, hm1d, hu1gn, hw1gn, hk_gn, hj_gn, ho0_gn, hp0_gn]
                   repeat (with_reducible refine And.intro ?_ ?_; next => first | assumption | trivial | omega | decide | (constructor <;> first | assumption | omega) | (simp [Keep.ok, hp_cons_apply, hset_cons, hn1d, hm1d, hu1gn, hw1gn, hk_gn, hj_gn, ho0_gn, hp0_gn]; done))
                   refine hk _ _ _ ?_
                   refine xghost (D := []) ?_ ?_ ?_ ?_
                   ·exact (.cons (Sub.of_eq rfl) (.cons (Sub.of_eq rfl) (.cons (Sub.of_eq rfl) (.cons (Sub.of_eq rfl) (.cons (Sub.of_eq rfl) .nil)))))
                   ·exact HpW.refl
                   ·exact (by intro p hp; cases hp)
                   ·omega
                 ·rw [ite_f hc_3] at h
                  obtain ⟨v_7, hv_7, h⟩ := bd_some h
                  refine xseq [(1, eS yGlaw04Op v_1), (5, .ptr gn 0), (6, .ptr (d, 1) 0), (7, .lit (.int .i64 t7)), (8, .ptr (d1, 0) 0), (9, .ptr (d1, 1) 0), (10, .lit (.int .i64 v_7.2))] (hp [((d, 1), .box [.lit (.int .i64 m), eS (lI .u8) m_1, eS (lI .u8) m_2, .lit (.int .i64 m_3), .lit (.int .i64 m_4)]), (gn, oGdiskDisk D), ((d1, 0), .box [.lit (.int .i64 ((v_1.getD (Int.toNat t7) yGlaw04Op.dflt).What)), .lit (.int .i64 ((v_1.getD (Int.toNat t7) yGlaw04Op.dflt).Area)), .lit (.int .i64 ((v_1.getD (Int.toNat t7) yGlaw04Op.dflt).N)), eS (lS (lI .u8)) ((v_1.getD (Int.toNat t7) yGlaw04Op.dflt).Parts), eS (lI .i64) ((v_1.getD (Int.toNat t7) yGlaw04Op.dflt).Areas)]), ((d1, 1), .box [.lit (.int .i64 v_7.1.Power), eS (lI .u8) v_7.1.Data.x0, eS (lI .u8) v_7.1.Data.x1, .lit (.int .i64 v_7.1.Safe.x0), .lit (.int .i64 v_7.1.Safe.x1)])] S) 2 ?_ (fun k kp hk => ?_)
                  ·refine xseq [(1, eS yGlaw04Op v_1), (5, .ptr gn 0), (6, .ptr (d, 1) 0), (7, .lit (.int .i64 t7)), (8, .ptr (d1, 0) 0), (10, .lit (.int .i64 v_7.2))] (hp [((d, 1), .box [.lit (.int .i64 v_7.1.Power), eS (lI .u8) v_7.1.Data.x0, eS (lI .u8) v_7.1.Data.x1, .lit (.int .i64 v_7.1.Safe.x0), .lit (.int .i64 v_7.1.Safe.x1)]), (gn, oGdiskDisk D), ((d1, 0), .box [.lit (.int .i64 ((v_1.getD (Int.toNat t7) yGlaw04Op.dflt).What)), .lit (.int .i64 ((v_1.getD (Int.toNat t7) yGlaw04Op.dflt).Area)), .lit (.int .i64 ((v_1.getD (Int.toNat t7) yGlaw04Op.dflt).N)), eS (lS (lI .u8)) ((v_1.getD (Int.toNat t7) yGlaw04Op.dflt).Parts), eS (lI .i64) ((v_1.getD (Int.toNat t7) yGlaw04Op.dflt).Areas)]), ((d1, 1), .box [.lit (.int .i64 v_7.1.Power), eS (lI .u8) v_7.1.Data.x0, eS (lI .u8) v_7.1.Data.x1, .lit (.int .i64 v_7.1.Safe.x0), .lit (.int .i64 v_7.1.Safe.x1)])] S) 2 ?_ (fun k kp hk => ?_)
                   ·obtain ⟨v_8, hv_8, h⟩ := bd_some h
                    refine xseq [(1, eS yGlaw04Op v_1), (5, .ptr gn 0), (6, .ptr (d, 1) 0), (7, .lit (.int .i64 t7)), (62, .lit (.bool (v_8.1 != v_7.2)))] (hp [((d, 1), .box [.lit (.int .i64 v_7.1.Power), eS (lI .u8) v_7.1.Data.x0, eS (lI .u8) v_7.1.Data.x1, .lit (.int .i64 v_7.1.Safe.x0), .lit (.int .i64 v_7.1.Safe.x1)]), (gn, oGdiskDisk v_8.2), ((d1, 0), .box [.lit (.int .i64 ((v_1.getD (Int.toNat t7) yGlaw04Op.dflt).What)), .lit (.int .i64 ((v_1.getD (Int.toNat t7) yGlaw04Op.dflt).Area)), .lit (.int .i64 ((v_1.getD (Int.toNat t7) yGlaw04Op.dflt).N)), eS (lS (lI .u8)) ((v_1.getD (Int.toNat t7) yGlaw04Op.dflt).Parts), eS (lI .i64) ((v_1.getD (Int.toNat t7) yGlaw04Op.dflt).Areas)]), ((d1, 1), .box [.lit (.int .i64 v_7.1.Power), eS (lI .u8) v_7.1.Data.x0, eS (lI .u8) v_7.1.Data.x1, .lit (.int .i64 v_7.1.Safe.x0), .lit (.int .i64 v_7.1.Safe.x1)])] S) 2 ?_ (fun k kp hk => ?_)
                    ·refine xcond (v_8.1 != v_7.2) rfl (fun hc_4 => ?_) (fun hc_4 => ?_)
                     ·rw [ite_t hc_4] at h
                      refine xseq [(1, eS yGlaw04Op v_1), (4, .lit (.bool false)), (5, .ptr gn 0), (6, .ptr (d, 1) 0), (7, .lit (.int .i64 t7))] (hp [((d, 1), .box [.lit (.int .i64 v_7.1.Power), eS (lI .u8) v_7.1.Data.x0, eS (lI .u8) v_7.1.Data.x1, .lit (.int .i64 v_7.1.Safe.x0), .lit (.int .i64 v_7.1.Safe.x1)]), (gn, oGdiskDisk v_8.2), ((d1, 0), .box [.lit (.int .i64 ((v_1.getD (Int.toNat t7) yGlaw04Op.dflt).What)), .lit (.int .i64 ((v_1.getD (Int.toNat t7) yGlaw04Op.dflt).Area)), .lit (.int .i64 ((v_1.getD (Int.toNat t7) yGlaw04Op.dflt).N)), eS (lS (lI .u8)) ((v_1.getD (Int.toNat t7) yGlaw04Op.dflt).Parts), eS (lI .i64) ((v_1.getD (Int.toNat t7) yGlaw04Op.dflt).Areas)]), ((d1, 1), .box [.lit (.int .i64 v_7.1.Power), eS (lI .u8) v_7.1.Data.x0, eS (lI .u8) v_7.1.Data.x1, .lit (.int .i64 v_7.1.Safe.x0), .lit (.int .i64 v_7.1.Safe.x1)])] S) 2 ?_ (fun k kp hk => ?_)
                      ·obtain ⟨hq, hxe⟩ := mr_go h hx1
                       clear h hx1
                       subst hxe
                       have h := hq
                       clear hq
                       refine LW_retX (sl' := [(4, .lit (.bool false))]) (S' := (hp [((d, 1), .box [.lit (.int .i64 v_7.1.Power), eS (lI .u8) v_7.1.Data.x0, eS (lI .u8) v_7.1.Data.x1, .lit (.int .i64 v_7.1.Safe.x0), .lit (.int .i64 v_7.1.Safe.x1)]), (gn, oGdiskDisk v_8.2)] S)) (c' := 2) ?_ ?_
                       ·refine xghost (D := [((d1, 0), .box [.lit (.int .i64 ((v_1.getD (Int.toNat t7) yGlaw04Op.dflt).What)), .lit (.int .i64 ((v_1.getD (Int.toNat t7) yGlaw04Op.dflt).Area)), .lit (.int .i64 ((v_1.getD (Int.toNat t7) yGlaw04Op.dflt).N)), eS (lS (lI .u8)) ((v_1.getD (Int.toNat t7) yGlaw04Op.dflt).Parts), eS (lI .i64) ((v_1.getD (Int.toNat t7) yGlaw04Op.dflt).Areas)]), ((d1, 1), .box [.lit (.int .i64 v_7.1.Power), eS (lI .u8) v_7.1.Data.x0, eS (lI .u8) v_7.1.Data.x1, .lit (.int .i64 v_7.1.Safe.x0), .lit (.int .i64 v_7.1.Safe.x1)])]) ?_ ?_ ?_ ?_
                        ·exact (.cons (Sub.of_eq rfl) .nil)
                        ·exact (.cons .refl (.cons .refl (.cons .refl (.cons .refl .nil))))
                        ·exact (by intro p hp; simp only [List.mem_cons, List.not_mem_nil, or_false] at hp; rcases hp with rfl | rfl <;> first | exact hd _ (show d ≤ d1 by omega))
                        ·omega
                       ·obtain rfl := Option.some.inj h
                        show FPost _ _ _ _ _ _ _
                        exact ⟨_, hp_less (L := []) (D := [((d, 1), .box [.lit (.int .i64 v_7.1.Power), eS (lI .u8) v_7.1.Data.x0, eS (lI .u8) v_7.1.Data.x1, .lit (.int .i64 v_7.1.Safe.x0), .lit (.int .i64 v_7.1.Safe.x1)]), (gn, oGdiskDisk v_8.2)]) (by intro p hp; simp only [List.mem_cons, List.not_mem_nil, or_false] at hp; rcases hp with rfl | rfl <;> first | exact hd _ (Nat.le_refl _) | exact hd _ hle_gn), rfl, rfl⟩
                      ·try simp (maxSteps := 4000000) only [go_sem, Prod.mk.injEq, reduceIte, Nat.reduceEqDiff, Nat.reduceAdd, Nat.reduceSub, Nat.reduceMul, Nat.reduceDiv, Nat.reducePow, Nat.reduceLT, Nat.reduceLeDiff, Nat.reduceBEq, Nat.reduceBneDiff, Int.reduceToNat, Int.reduceEq, Int.reduceLE, Int.reduceLT, reduceCtorEq, hn1d, hm1d, hu1gn, hw1gn, hk_gn, hj_gn, ho0_gn, hp0_gn]
                       repeat (with_reducible refine And.intro ?_ ?_; next => first | assumption | trivial | omega | decide | (constructor <;> first | assumption | omega) | (simp [Keep.ok, hp_cons_apply, hset_cons, hn1d, hm1d, hu1gn, hw1gn, hk_gn, hj_gn, ho0_gn, hp0_gn]; done))
                       refine hk _ _ _ ?_
                       refine xghost (D := []) ?_ ?_ ?_ ?_
                       ·exact (.cons (Sub.of_eq rfl) (.cons (Sub.of_eq rfl) (.cons (Sub.of_eq rfl) (.cons (Sub.of_eq rfl) (.cons (Sub.of_eq rfl) .nil)))))
                       ·exact HpW.refl
                       ·exact (by intro p hp; cases hp)
                       ·omega
                     ·rw [ite_f hc_4] at h
                      refine LW_skipX (sl' := [(1, eS yGlaw04Op v_1), (5, .ptr gn 0), (6, .ptr (d, 1) 0), (7, .lit (.int .i64 t7))]) (S' := (hp [((d, 1), .box [.lit (.int .i64 v_7.1.Power), eS (lI .u8) v_7.1.Data.x0, eS (lI .u8) v_7.1.Data.x1, .lit (.int .i64 v_7.1.Safe.x0), .lit (.int .i64 v_7.1.Safe.x1)]), (gn, oGdiskDisk v_8.2)] S)) (c' := 2) ?_ ?_
                      ·refine xghost (D := [((d1, 0), .box [.lit (.int .i64 ((v_1.getD (Int.toNat t7) yGlaw04Op.dflt).What)), .lit (.int .i64 ((v_1.getD (Int.toNat t7) yGlaw04Op.dflt).Area)), .lit (.int .i64 ((v_1.getD (Int.toNat t7) yGlaw04Op.dflt).N)), eS (lS (lI .u8)) ((v_1.getD (Int.toNat t7) yGlaw04Op.dflt).Parts), eS (lI .i64) ((v_1.getD (Int.toNat t7) yGlaw04Op.dflt).Areas)]), ((d1, 1), .box [.lit (.int .i64 v_7.1.Power), eS (lI .u8) v_7.1.Data.x0, eS (lI .u8) v_7.1.Data.x1, .lit (.int .i64 v_7.1.Safe.x0), .lit (.int .i64 v_7.1.Safe.x1)])]) ?_ ?_ ?_ ?_
                       ·exact (.cons (Sub.of_eq rfl) (.cons (Sub.of_eq rfl) (.cons (Sub.of_eq rfl) (.cons (Sub.of_eq rfl) .nil))))
                       ·exact (.cons .refl (.cons .refl (.cons .refl (.cons .refl .nil))))
                       ·exact (by intro p hp; simp only [List.mem_cons, List.not_mem_nil, or_false] at hp; rcases hp with rfl | rfl <;> first | exact hd _ (show d ≤ d1 by omega))
                       ·omega
                      ·exact hj (v_7.1.Power, v_7.1.Data.x0, v_7.1.Data.x1, v_7.1.Safe.x0, v_7.1.Safe.x1, v_8.2, gn) ⟨h, hle_gn, (show gn.1 ≤ d1 by omega), by intro k hk; first | (simp only [hk, Prod.mk.injEq, Nat.reduceEqDiff, and_false, false_and, and_true, true_and, ne_eq, not_false_eq_true, hn1d, hm1d, hu1gn, hw1gn, hk_gn, hj_gn, ho0_gn, hp0_gn]; done) | (simp; omega) | (rw [ne_eq]; intro q; have := congrArg Prod.fst q; simp at this; omega), by intro k hk; first | (simp only [hk, Prod.mk.injEq, Nat.reduceEqDiff, and_false, false_and, and_true, true_and, ne_eq, not_false_eq_true, hn1d, hm1d, hu1gn, hw1gn, hk_gn, hj_gn, ho0_gn, hp0_gn]; done) | (simp; omega) | (rw [ne_eq]; intro q; have := congrArg Prod.fst q; simp at this; omega), by first | (simp only [Prod.mk.injEq, Nat.reduceEqDiff, and_false, false_and, and_true, true_and, ne_eq, not_false_eq_true, hn1d, hm1d, hu1gn, hw1gn, hk_gn, hj_gn, ho0_gn, hp0_gn]; done) | (simp; done) | (simp; omega)⟩
                    ·try simp (maxSteps := 4000000) only [go_sem, Prod.mk.injEq, reduceIte, Nat.reduceEqDiff, Nat.reduceAdd, Nat.reduceSub, Nat.reduceMul, Nat.reduceDiv, Nat.reducePow, Nat.reduceLT, Nat.reduceLeDiff, Nat.reduceBEq, Nat.reduceBneDiff, Int.reduceToNat, Int.reduceEq, Int.reduceLE, Int.reduceLT, reduceCtorEq, hn1d, hm1d, hu1gn, hw1gn, hk_gn, hj_gn, ho0_gn, hp0_gn]
                     repeat (with_reducible refine And.intro ?_ ?_; next => first | assumption | trivial | omega | decide | (constructor <;> first | assumption | omega) | (simp [Keep.ok, hp_cons_apply, hset_cons, hn1d, hm1d, hu1gn, hw1gn, hk_gn, hj_gn, ho0_gn, hp0_gn]; done))
                     have hcall := s_stanchionlaw04_act_ok (n0 := gn) (hS0 := by simp only [hp_cons_apply, hp_nil_apply, reduceIte, Prod.mk.injEq, Nat.reduceEqDiff, and_true, and_false, true_and, false_and, hn1d, hm1d, hu1gn, hw1gn, hk_gn, hj_gn, ho0_gn, hp0_gn] <;> rfl) (hp [((d, 1), .box [.lit (.int .i64 v_7.1.Power), eS (lI .u8) v_7.1.Data.x0, eS (lI .u8) v_7.1.Data.x1, .lit (.int .i64 v_7.1.Safe.x0), .lit (.int .i64 v_7.1.Safe.x1)]), (gn, oGdiskDisk D), ((d1, 0), .box [.lit (.int .i64 ((v_1.getD (Int.toNat t7) yGlaw04Op.dflt).What)), .lit (.int .i64 ((v_1.getD (Int.toNat t7) yGlaw04Op.dflt).Area)), .lit (.int .i64 ((v_1.getD (Int.toNat t7) yGlaw04Op.dflt).N)), eS (lS (lI .u8)) ((v_1.getD (Int.toNat t7) yGlaw04Op.dflt).Parts), eS (lI .i64) ((v_1.getD (Int.toNat t7) yGlaw04Op.dflt).Areas)]), ((d1, 1), .box [.lit (.int .i64 v_7.1.Power), eS (lI .u8) v_7.1.Data.x0, eS (lI .u8) v_7.1.Data.x1, .lit (.int .i64 v_7.1.Safe.x0), .lit (.int .i64 v_7.1.Safe.x1)])] S) _ (v_1.getD (Int.toNat t7) yGlaw04Op.dflt) (h := hv_8)
                     refine call1_x hcall rfl ?_ ?_
                     ·exact (.cons Sub.refl (.cons Sub.refl .nil))
                     clear hcall
                     rintro _ SS ⟨rfl, hSS⟩ -
                     rw [hSS]
                     clear hSS
                     try simp (maxSteps := 4000000) only [go_sem, Prod.mk.injEq, reduceIte, Nat.reduceEqDiff, Nat.reduceAdd, Nat.reduceSub, Nat.reduceMul, Nat.reduceDiv, Nat.reducePow, Nat.reduceLT, Nat.reduceLeDiff, Nat.reduceBEq, Nat.reduceBneDiff, Int.reduceToNat, Int.reduceEq, Int.reduceLE, Int.reduceLT, reduceCtorEq, hn1d, hm1d, hu1gn, hw1gn, hk_gn, hj_gn, ho0_gn, hp0_gn]
                     repeat (with_reducible refine And.intro ?_ ?_; next => first | assumption | trivial | omega | decide | (constructor <;> first | assumption | omega) | (simp [Keep.ok, hp_cons_apply, hset_cons, hn1d, hm1d, hu1gn, hw1gn, hk_gn, hj_gn, ho0_gn, hp0_gn]; done))
                     refine hk _ _ _ ?_
                     refine xghost (D := []) ?_ ?_ ?_ ?_
                     ·exact (.cons (Sub.of_eq rfl) (.cons (Sub.of_eq rfl) (.cons (Sub.of_eq rfl) (.cons (Sub.of_eq rfl) (.cons (Sub.of_eq rfl) .nil)))))
                     ·exact HpW.refl
                     ·exact (by intro p hp; cases hp)
                     ·omega
                   ·try simp (maxSteps := 4000000) only [go_sem, Prod.mk.injEq, reduceIte, Nat.reduceEqDiff, Nat.reduceAdd, Nat.reduceSub, Nat.reduceMul, Nat.reduceDiv, Nat.reducePow, Nat.reduceLT, Nat.reduceLeDiff, Nat.reduceBEq, Nat.reduceBneDiff, Int.reduceToNat, Int.reduceEq, Int.reduceLE, Int.reduceLT, reduceCtorEq, hn1d, hm1d, hu1gn, hw1gn, hk_gn, hj_gn, ho0_gn, hp0_gn]
                    repeat (with_reducible refine And.intro ?_ ?_; next => first | assumption | trivial | omega | decide | (constructor <;> first | assumption | omega) | (simp [Keep.ok, hp_cons_apply, hset_cons, hn1d, hm1d, hu1gn, hw1gn, hk_gn, hj_gn, ho0_gn, hp0_gn]; done))
                    refine hk _ _ _ ?_
                    refine xghost (D := []) ?_ ?_ ?_ ?_
                    ·exact (.cons (Sub.of_eq rfl) (.cons (Sub.of_eq rfl) (.cons (Sub.of_eq rfl) (.cons (Sub.of_eq rfl) (.cons (Sub.of_eq rfl) (.cons (Sub.of_eq rfl) .nil))))))
                    ·exact HpW.refl
                    ·exact (by intro p hp; cases hp)
                    ·omega
                  ·try simp (maxSteps := 4000000) only [go_sem, Prod.mk.injEq, reduceIte, Nat.reduceEqDiff, Nat.reduceAdd, Nat.reduceSub, Nat.reduceMul, Nat.reduceDiv, Nat.reducePow, Nat.reduceLT, Nat.reduceLeDiff, Nat.reduceBEq, Nat.reduceBneDiff, Int.reduceToNat, Int.reduceEq, Int.reduceLE, Int.reduceLT, reduceCtorEq, hn1d, hm1d, hu1gn, hw1gn, hk_gn, hj_gn, ho0_gn, hp0_gn]
                   repeat (with_reducible refine And.intro ?_ ?_; next => first | assumption | trivial | omega | decide | (constructor <;> first | assumption | omega) | (simp [Keep.ok, hp_cons_apply, hset_cons, hn1d, hm1d, hu1gn, hw1gn, hk_gn, hj_gn, ho0_gn, hp0_gn]; done))
                   have hcall := s_stanchionlaw04_does_ok (hp [((d, 1), .box [.lit (.int .i64 m), eS (lI .u8) m_1, eS (lI .u8) m_2, .lit (.int .i64 m_3), .lit (.int .i64 m_4)]), (gn, oGdiskDisk D), ((d1, 0), .box [.lit (.int .i64 ((v_1.getD (Int.toNat t7) yGlaw04Op.dflt).What)), .lit (.int .i64 ((v_1.getD (Int.toNat t7) yGlaw04Op.dflt).Area)), .lit (.int .i64 ((v_1.getD (Int.toNat t7) yGlaw04Op.dflt).N)), eS (lS (lI .u8)) ((v_1.getD (Int.toNat t7) yGlaw04Op.dflt).Parts), eS (lI .i64) ((v_1.getD (Int.toNat t7) yGlaw04Op.dflt).Areas)])] S) (Gref04Disk.mk m (Ar2.mk m_1 m_2) (Ar2.mk m_3 m_4)) (v_1.getD (Int.toNat t7) yGlaw04Op.dflt) hv_7
                   refine call1_x hcall rfl ?_ ?_
                   ·exact (.cons Sub.refl (.cons Sub.refl .nil))
                   clear hcall
                   rintro _ SS ⟨rfl, hSS⟩ -
                   rw [hSS]
                   clear hSS
                   try simp (maxSteps := 4000000) only [go_sem, Prod.mk.injEq, reduceIte, Nat.reduceEqDiff, Nat.reduceAdd, Nat.reduceSub, Nat.reduceMul, Nat.reduceDiv, Nat.reducePow, Nat.reduceLT, Nat.reduceLeDiff, Nat.reduceBEq, Nat.reduceBneDiff, Int.reduceToNat, Int.reduceEq, Int.reduceLE, Int.reduceLT, reduceCtorEq, hn1d, hm1d, hu1gn, hw1gn, hk_gn, hj_gn, ho0_gn, hp0_gn]
                   repeat (with_reducible refine And.intro ?_ ?_; next => first | assumption | trivial | omega | decide | (constructor <;> first | assumption | omega) | (simp [Keep.ok, hp_cons_apply, hset_cons, hn1d, hm1d, hu1gn, hw1gn, hk_gn, hj_gn, ho0_gn, hp0_gn]; done))
                   refine hk _ _ _ ?_
                   refine xghost (D := []) ?_ ?_ ?_ ?_
                   ·exact (.cons (Sub.of_eq rfl) (.cons (Sub.of_eq rfl) (.cons (Sub.of_eq rfl) (.cons (Sub.of_eq rfl) (.cons (Sub.of_eq rfl) (.cons (Sub.of_eq rfl) (.cons (Sub.of_eq rfl) .nil)))))))
                   ·exact HpW.refl
                   ·exact (by intro p hp; cases hp)
                   ·omega
                ·try simp (maxSteps := 4000000) only [go_sem, Prod.mk.injEq, reduceIte, Nat.reduceEqDiff, Nat.reduceAdd, Nat.reduceSub, Nat.reduceMul, Nat.reduceDiv, Nat.reducePow, Nat.reduceLT, Nat.reduceLeDiff, Nat.reduceBEq, Nat.reduceBneDiff, Int.reduceToNat, Int.reduceEq, Int.reduceLE, Int.reduceLT, reduceCtorEq, hn1d, hm1d, hu1gn, hw1gn, hk_gn, hj_gn, ho0_gn, hp0_gn]
                 repeat (with_reducible refine And.intro ?_ ?_; next => first | assumption | trivial | omega | decide | (constructor <;> first | assumption | omega) | (simp [Keep.ok, hp_cons_apply, hset_cons, hn1d, hm1d, hu1gn, hw1gn, hk_gn, hj_gn, ho0_gn, hp0_gn]; done))
                 refine hk _ _ _ ?_
                 refine xghost (D := []) ?_ ?_ ?_ ?_
                 ·exact (.cons (Sub.of_eq rfl) (.cons (Sub.of_eq rfl) (.cons (Sub.of_eq rfl) (.cons (Sub.of_eq rfl) (.cons (Sub.of_eq rfl) (.cons (Sub.of_eq rfl) .nil))))))
                 ·exact HpW.refl
                 ·exact (by intro p hp; cases hp)
                 ·omega
              ·try simp (maxSteps := 4000000) only [go_sem, Prod.mk.injEq, reduceIte, Nat.reduceEqDiff, Nat.reduceAdd, Nat.reduceSub, Nat.reduceMul, Nat.reduceDiv, Nat.reducePow, Nat.reduceLT, Nat.reduceLeDiff, Nat.reduceBEq, Nat.reduceBneDiff, Int.reduceToNat, Int.reduceEq, Int.reduceLE, Int.reduceLT, reduceCtorEq, hn1d, hm1d, hu1gn, hw1gn, hk_gn, hj_gn, ho0_gn, hp0_gn]
               repeat (with_reducible refine And.intro ?_ ?_; next => first | assumption | trivial | omega | decide | (constructor <;> first | assumption | omega) | (simp [Keep.ok, hp_cons_apply, hset_cons, hn1d, hm1d, hu1gn, hw1gn, hk_gn, hj_gn, ho0_gn, hp0_gn]; done))
               refine hk _ _ _ ?_
               refine xghost (D := []) ?_ ?_ ?_ ?_
               ·exact (.cons (Sub.of_eq rfl) (.cons (Sub.of_eq rfl) (.cons (Sub.of_eq rfl) (.cons (Sub.of_eq rfl) (.cons (Sub.of_eq rfl) .nil)))))
               ·exact HpW.refl
               ·exact (by intro p hp; cases hp)
               ·omega
             ·rw [ite_f hc_2] at h
              obtain ⟨hq, hxe⟩ := mr_go h hx1
              clear h hx1
              subst hxe
              have h := hq
              clear hq
              refine LW_exitX (sl' := [(1, eS yGlaw04Op v_1), (5, .ptr gn 0), (6, .ptr (d, 1) 0), (7, .lit (.int .i64 t7)), (26, .lit (.bool (decide (t7 < (v_1.length : Int)))))]) (S' := (hp [((d, 1), .box [.lit (.int .i64 m), eS (lI .u8) m_1, eS (lI .u8) m_2, .lit (.int .i64 m_3), .lit (.int .i64 m_4)]), (gn, oGdiskDisk D)] S)) (c' := 0) ?_ ?_
              ·refine xghost (D := []) ?_ ?_ ?_ ?_
               ·exact (.cons (Sub.of_eq rfl) (.cons (Sub.of_eq rfl) (.cons (Sub.of_eq rfl) (.cons (Sub.of_eq rfl) (.cons (Sub.of_eq rfl) .nil)))))
               ·exact HpW.refl
               ·exact (by intro p hp; cases hp)
               ·omega
              ·show LW _ _ _ _ _ _ _ _
               refine xseq [(4, .lit (.bool true))] (hp [((d, 1), .box [.lit (.int .i64 m), eS (lI .u8) m_1, eS (lI .u8) m_2, .lit (.int .i64 m_3), .lit (.int .i64 m_4)]), (gn, oGdiskDisk D)] S) 2 ?_ (fun k kp hk => ?_)
               ·refine LW_ret ?_
                obtain rfl := Option.some.inj h
                show FPost _ _ _ _ _ _ _
                exact ⟨_, hp_less (L := []) (D := [((d, 1), .box [.lit (.int .i64 m), eS (lI .u8) m_1, eS (lI .u8) m_2, .lit (.int .i64 m_3), .lit (.int .i64 m_4)]), (gn, oGdiskDisk D)]) (by intro p hp; simp only [List.mem_cons, List.not_mem_nil, or_false] at hp; rcases hp with rfl | rfl <;> first | exact hd _ (Nat.le_refl _) | exact hd _ hle_gn), rfl, rfl⟩
               ·try simp (maxSteps := 4000000) only [go_sem, Prod.mk.injEq, reduceIte, Nat.reduceEqDiff, Nat.reduceAdd, Nat.reduceSub, Nat.reduceMul, Nat.reduceDiv, Nat.reducePow, Nat.reduceLT, Nat.reduceLeDiff, Nat.reduceBEq, Nat.reduceBneDiff, Int.reduceToNat, Int.reduceEq, Int.reduceLE, Int.reduceLT, reduceCtorEq, hn1d, hm1d, hu1gn, hw1gn, hk_gn, hj_gn, ho0_gn, hp0_gn]
                repeat (with_reducible refine And.intro ?_ ?_; next => first | assumption | trivial | omega | decide | (constructor <;> first | assumption | omega) | (simp [Keep.ok, hp_cons_apply, hset_cons, hn1d, hm1d, hu1gn, hw1gn, hk_gn, hj_gn, ho0_gn, hp0_gn]; done))
                refine hk _ _ _ ?_
                refine xghost (D := []) ?_ ?_ ?_ ?_
                ·exact (.cons (Sub.of_eq rfl) .nil)
                ·exact HpW.refl
                ·exact (by intro p hp; cases hp)
                ·omega
            ·try simp (maxSteps := 4000000) only [go_sem, Prod.mk.injEq, reduceIte, Nat.reduceEqDiff, Nat.reduceAdd, Nat.reduceSub, Nat.reduceMul, Nat.reduceDiv, Nat.reducePow, Nat.reduceLT, Nat.reduceLeDiff, Nat.reduceBEq, Nat.reduceBneDiff, Int.reduceToNat, Int.reduceEq, Int.reduceLE, Int.reduceLT, reduceCtorEq, hn1d, hm1d, hu1gn, hw1gn, hk_gn, hj_gn, ho0_gn, hp0_gn]
             repeat (with_reducible refine And.intro ?_ ?_; next => first | assumption | trivial | omega | decide | (constructor <;> first | assumption | omega) | (simp [Keep.ok, hp_cons_apply, hset_cons, hn1d, hm1d, hu1gn, hw1gn, hk_gn, hj_gn, ho0_gn, hp0_gn]; done))
             refine hk _ _ _ ?_
             refine xghost (D := []) ?_ ?_ ?_ ?_
             ·exact (.cons (Sub.of_eq rfl) (.cons (Sub.of_eq rfl) (.cons (Sub.of_eq rfl) (.cons (Sub.of_eq rfl) (.cons (Sub.of_eq rfl) .nil)))))
             ·exact HpW.refl
             ·exact (by intro p hp; cases hp)
             ·omega
           ·exact ⟨(Nat.le_refl _), by intro k hk; first | (simp only [Prod.mk.injEq, Nat.reduceEqDiff, and_false, false_and, and_true, true_and, ne_eq, not_false_eq_true]; done) | (simp; omega), by first | (simp only [Prod.mk.injEq, Nat.reduceEqDiff, and_false, false_and, and_true, true_and, ne_eq, not_false_eq_true]; done) | (simp; done) | (simp; omega)⟩
           ·refine xghost (D := []) ?_ ?_ ?_ ?_
            ·exact (.cons (Sub.of_eq rfl) (.cons (Sub.of_eq rfl) (.cons (Sub.of_eq rfl) (.cons (Sub.of_eq rfl) .nil))))
            ·exact (.cons (.box (.cons Sub.refl (.cons Sub.nil (.cons Sub.nil (.cons Sub.refl (.cons Sub.refl .nil))))) ⟨.inl rfl, ⟨.inl rfl, ⟨.inl rfl, ⟨.inl rfl, ⟨.inl rfl, trivial⟩⟩⟩⟩⟩) (.cons .refl .nil))
            ·exact (by intro p hp; cases hp)
            ·omega
          ·try simp (maxSteps := 4000000) only [go_sem, Prod.mk.injEq, reduceIte, Nat.reduceEqDiff, Nat.reduceAdd, Nat.reduceSub, Nat.reduceMul, Nat.reduceDiv, Nat.reducePow, Nat.reduceLT, Nat.reduceLeDiff, Nat.reduceBEq, Nat.reduceBneDiff, Int.reduceToNat, Int.reduceEq, Int.reduceLE, Int.reduceLT, reduceCtorEq]
           repeat (with_reducible refine And.intro ?_ ?_; next => first | assumption | trivial | omega | decide | (constructor <;> first | assumption | omega) | (simp [Keep.ok, hp_cons_apply, hset_cons]; done))
           refine hk _ _ _ ?_
           refine xghost (D := []) ?_ ?_ ?_ ?_
           ·exact (.cons (Sub.of_eq rfl) (.cons (Sub.of_eq rfl) (.cons (Sub.of_eq rfl) (.cons (Sub.of_eq rfl) .nil))))
           ·exact HpW.refl
           ·exact (by intro p hp; cases hp)
           ·omega
         ·try simp (maxSteps := 4000000) only [go_sem, Prod.mk.injEq, reduceIte, Nat.reduceEqDiff, Nat.reduceAdd, Nat.reduceSub, Nat.reduceMul, Nat.reduceDiv, Nat.reducePow, Nat.reduceLT, Nat.reduceLeDiff, Nat.reduceBEq, Nat.reduceBneDiff, Int.reduceToNat, Int.reduceEq, Int.reduceLE, Int.reduceLT, reduceCtorEq]
          repeat (with_reducible refine And.intro ?_ ?_; next => first | assumption | trivial | omega | decide | (constructor <;> first | assumption | omega) | (simp [Keep.ok, hp_cons_apply, hset_cons]; done))
          refine hk _ _ _ ?_
          refine xghost (D := []) ?_ ?_ ?_ ?_
          ·exact (.cons (Sub.of_eq rfl) (.cons (Sub.of_eq rfl) (.cons (Sub.of_eq rfl) (.cons (Sub.of_eq rfl) .nil))))
          ·exact HpW.refl
          ·exact (by intro p hp; cases hp)
          ·omega
        ·try simp (maxSteps := 4000000) only [go_sem, Prod.mk.injEq, reduceIte, Nat.reduceEqDiff, Nat.reduceAdd, Nat.reduceSub, Nat.reduceMul, Nat.reduceDiv, Nat.reducePow, Nat.reduceLT, Nat.reduceLeDiff, Nat.reduceBEq, Nat.reduceBneDiff, Int.reduceToNat, Int.reduceEq, Int.reduceLE, Int.reduceLT, reduceCtorEq]
         repeat (with_reducible refine And.intro ?_ ?_; next => first | assumption | trivial | omega | decide | (constructor <;> first | assumption | omega) | (simp [Keep.ok, hp_cons_apply, hset_cons]; done))
         refine hk _ _ _ ?_
         refine xghost (D := []) ?_ ?_ ?_ ?_
         ·exact (.cons (Sub.of_eq rfl) (.cons (Sub.of_eq rfl) (.cons (Sub.of_eq rfl) .nil)))
         ·exact HpW.refl
         ·exact (by intro p hp; cases hp)
         ·omega
       ·try simp (maxSteps := 4000000) only [go_sem, Prod.mk.injEq, reduceIte, Nat.reduceEqDiff, Nat.reduceAdd, Nat.reduceSub, Nat.reduceMul, Nat.reduceDiv, Nat.reducePow, Nat.reduceLT, Nat.reduceLeDiff, Nat.reduceBEq, Nat.reduceBneDiff, Int.reduceToNat, Int.reduceEq, Int.reduceLE, Int.reduceLT, reduceCtorEq]
        repeat (with_reducible refine And.intro ?_ ?_; next => first | assumption | trivial | omega | decide | (constructor <;> first | assumption | omega) | (simp [Keep.ok, hp_cons_apply, hset_cons]; done))
        have hcall := s_disk_New_ok (hp [] S) t hv_3
        refine call1_new hcall rfl rfl ?_ ?_
        ·exact (.cons Sub.refl .nil)
        clear hcall
        try simp (maxSteps := 4000000) only [go_sem, Prod.mk.injEq, reduceIte, Nat.reduceEqDiff, Nat.reduceAdd, Nat.reduceSub, Nat.reduceMul, Nat.reduceDiv, Nat.reducePow, Nat.reduceLT, Nat.reduceLeDiff, Nat.reduceBEq, Nat.reduceBneDiff, Int.reduceToNat, Int.reduceEq, Int.reduceLE, Int.reduceLT, reduceCtorEq]
        repeat (with_reducible refine And.intro ?_ ?_; next => first | assumption | trivial | omega | decide | (constructor <;> first | assumption | omega) | (simp [Keep.ok, hp_cons_apply, hset_cons]; done))
        refine hk _ _ _ ?_
        refine xghost (D := []) ?_ ?_ ?_ ?_
        ·exact (.cons (Sub.of_eq rfl) (.cons (Sub.of_eq rfl) (.cons (Sub.of_eq rfl) .nil)))
        ·exact HpW.refl
        ·exact (by intro p hp; cases hp)
        ·omega
     ·try simp (maxSteps := 4000000) only [go_sem, Prod.mk.injEq, reduceIte, Nat.reduceEqDiff, Nat.reduceAdd, Nat.reduceSub, Nat.reduceMul, Nat.reduceDiv, Nat.reducePow, Nat.reduceLT, Nat.reduceLeDiff, Nat.reduceBEq, Nat.reduceBneDiff, Int.reduceToNat, Int.reduceEq, Int.reduceLE, Int.reduceLT, reduceCtorEq]
      repeat (with_reducible refine And.intro ?_ ?_; next => first | assumption | trivial | omega | decide | (constructor <;> first | assumption | omega) | (simp [Keep.ok, hp_cons_apply, hset_cons]; done))
      have hcall := s_stanchionlaw04_great_ok (hp [] S) v_1 hv_2
      refine call1_x hcall rfl ?_ ?_
      ·exact (.cons Sub.refl .nil)
      clear hcall
      rintro _ SS ⟨rfl, hSS⟩ -
      rw [hSS]
      clear hSS
      try simp (maxSteps := 4000000) only [go_sem, Prod.mk.injEq, reduceIte, Nat.reduceEqDiff, Nat.reduceAdd, Nat.reduceSub, Nat.reduceMul, Nat.reduceDiv, Nat.reducePow, Nat.reduceLT, Nat.reduceLeDiff, Nat.reduceBEq, Nat.reduceBneDiff, Int.reduceToNat, Int.reduceEq, Int.reduceLE, Int.reduceLT, reduceCtorEq]
      repeat (with_reducible refine And.intro ?_ ?_; next => first | assumption | trivial | omega | decide | (constructor <;> first | assumption | omega) | (simp [Keep.ok, hp_cons_apply, hset_cons]; done))
      refine hk _ _ _ ?_
      refine xghost (D := []) ?_ ?_ ?_ ?_
      ·exact (.cons (Sub.of_eq rfl) (.cons (Sub.of_eq rfl) (.cons (Sub.of_eq rfl) .nil)))
      ·exact HpW.refl
      ·exact (by intro p hp; cases hp)
      ·omega
    ·try simp (maxSteps := 4000000) only [go_sem, Prod.mk.injEq, reduceIte, Nat.reduceEqDiff, Nat.reduceAdd, Nat.reduceSub, Nat.reduceMul, Nat.reduceDiv, Nat.reducePow, Nat.reduceLT, Nat.reduceLeDiff, Nat.reduceBEq, Nat.reduceBneDiff, Int.reduceToNat, Int.reduceEq, Int.reduceLE, Int.reduceLT, reduceCtorEq]
     repeat (with_reducible refine And.intro ?_ ?_; next => first | assumption | trivial | omega | decide | (constructor <;> first | assumption | omega) | (simp [Keep.ok, hp_cons_apply, hset_cons]; done))
     have hcall := s_stanchionlaw04_cut_ok (hp [] S) o hv_1
     refine call1_x hcall rfl ?_ ?_
     ·exact (.cons Sub.refl .nil)
     clear hcall
     rintro _ SS ⟨rfl, hSS⟩ -
     rw [hSS]
     clear hSS
     try simp (maxSteps := 4000000) only [go_sem, Prod.mk.injEq, reduceIte, Nat.reduceEqDiff, Nat.reduceAdd, Nat.reduceSub, Nat.reduceMul, Nat.reduceDiv, Nat.reducePow, Nat.reduceLT, Nat.reduceLeDiff, Nat.reduceBEq, Nat.reduceBneDiff, Int.reduceToNat, Int.reduceEq, Int.reduceLE, Int.reduceLT, reduceCtorEq]
     repeat (with_reducible refine And.intro ?_ ?_; next => first | assumption | trivial | omega | decide | (constructor <;> first | assumption | omega) | (simp [Keep.ok, hp_cons_apply, hset_cons]; done))
     refine hk _ _ _ ?_
     refine xghost (D := []) ?_ ?_ ?_ ?_
     ·exact (.cons (Sub.of_eq rfl) (.cons (Sub.of_eq rfl) .nil))
     ·exact HpW.refl
     ·exact (by intro p hp; cases hp)
     ·omega
  ·try simp (maxSteps := 4000000) only [go_sem, Prod.mk.injEq, reduceIte, Nat.reduceEqDiff, Nat.reduceAdd, Nat.reduceSub, Nat.reduceMul, Nat.reduceDiv, Nat.reducePow, Nat.reduceLT, Nat.reduceLeDiff, Nat.reduceBEq, Nat.reduceBneDiff, Int.reduceToNat, Int.reduceEq, Int.reduceLE, Int.reduceLT, reduceCtorEq]
   repeat (with_reducible refine And.intro ?_ ?_; next => first | assumption | trivial | omega | decide | (constructor <;> first | assumption | omega) | (simp [Keep.ok, hp_cons_apply, hset_cons]; done))
   have hcall := s_stanchionlaw04_alive_ok (hp [] S)  hv
   refine call1_x hcall rfl ?_ ?_
   ·exact .nil
   clear hcall
   rintro _ SS ⟨rfl, hSS⟩ -
   rw [hSS]
   clear hSS
   try simp (maxSteps := 4000000) only [go_sem, Prod.mk.injEq, reduceIte, Nat.reduceEqDiff, Nat.reduceAdd, Nat.reduceSub, Nat.reduceMul, Nat.reduceDiv, Nat.reducePow, Nat.reduceLT, Nat.reduceLeDiff, Nat.reduceBEq, Nat.reduceBneDiff, Int.reduceToNat, Int.reduceEq, Int.reduceLE, Int.reduceLT, reduceCtorEq]
   repeat (with_reducible refine And.intro ?_ ?_; next => first | assumption | trivial | omega | decide | (constructor <;> first | assumption | omega) | (simp [Keep.ok, hp_cons_apply, hset_cons]; done))
   refine hk _ _ _ ?_
   refine xghost (D := []) ?_ ?_ ?_ ?_
   ·exact (.cons (Sub.of_eq rfl) (.cons (Sub.of_eq rfl) (.cons (Sub.of_eq rfl) .nil)))
   ·exact HpW.refl
   ·exact (by intro p hp; cases hp)
   ·omega
 ·try simp (maxSteps := 4000000) only [go_sem, Prod.mk.injEq, reduceIte, Nat.reduceEqDiff, Nat.reduceAdd, Nat.reduceSub, Nat.reduceMul, Nat.reduceDiv, Nat.reducePow, Nat.reduceLT, Nat.reduceLeDiff, Nat.reduceBEq, Nat.reduceBneDiff, Int.reduceToNat, Int.reduceEq, Int.reduceLE, Int.reduceLT, reduceCtorEq]
  repeat (with_reducible refine And.intro ?_ ?_; next => first | assumption | trivial | omega | decide | (constructor <;> first | assumption | omega) | (simp [Keep.ok, hp_cons_apply, hset_cons]; done))
  refine hk _ _ _ ?_
  refine xghost (D := []) ?_ ?_ ?_ ?_
  ·exact (.cons (Sub.of_eq rfl) (.cons (Sub.of_eq rfl) .nil))
  ·exact HpW.refl
  ·exact (by intro p hp; cases hp)
  ·omega
end
end Go.Proofs.Ythdmpdagkccphaa
