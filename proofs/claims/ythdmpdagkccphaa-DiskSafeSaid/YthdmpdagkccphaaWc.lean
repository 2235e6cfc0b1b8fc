/- Go functions as Lean functions, and that their code does as these say. Printed by a program of this work. -/
import Derived.Test.YthdmpdagkccphaaWL
import Derived.Test.YthdmpdagkccphaaWa
import Derived.Test.YthdmpdagkccphaaWb
set_option linter.unusedVariables false
set_option linter.unusedSimpArgs false
set_option maxRecDepth 100000
set_option maxHeartbeats 4000000
namespace Go.Proofs.Ythdmpdagkccphaa
open Go Go.Al
noncomputable section
/-! stanchion/stanchionref00.CopyRows -/
def s_stanchionref00_CopyRows_b1 (s : List (List Int)) : (List (List Int) × Int) → Option ((List (List Int) × Int) ⊕ (List (List Int)))
 | (out, i) => if (decide (i < (s.length : Int))) = true then gd ((0 ≤ i ∧ Int.toNat i < s.length)) (bd (s_stanchionref00_CopyBytes (s.getD (Int.toNat i) [])) fun (v : List Int) => gd (((out.length + 1) * 24 ≤ 140737488355328 ∧ out.length + 1 < 9223372036854775808)) (some (.inl ((out ++ [v]), (IntKind.i64.wrap (i + 1)))))) else mr (some out)
def s_stanchionref00_CopyRows (s : List (List Int)) : Option (List (List Int)) :=
 loop (s_stanchionref00_CopyRows_b1 s) ([], 0)
theorem s_stanchionref00_CopyRows_ok (S : AHeap) (s : List (List Int)) {r : List (List Int)} (h : s_stanchionref00_CopyRows s = some r) :
  AC Try.prog n_stanchionref00_CopyRows [eS (lS (lI .u8)) s] S fun r' S' => r' = .ret (eS (lS (lI .u8)) r) ∧ S' = S := by
 refine AC_of tok mixed fits_stanchionref00_CopyRows fun d hd => ?_
 unfold c_stanchionref00_CopyRows
 show LW _ _ _ _ [(0, eS (lS (lI .u8)) s)] (hp [] S) 0 _
 rw [s_stanchionref00_CopyRows] at h
 refine xseq [(0, eS (lS (lI .u8)) s)] (hp [] S) 0 ?_ (fun k kp hk => ?_)
 ·refine xseq [(0, eS (lS (lI .u8)) s), (3, eT (lS (lI .u8)) (d, 0) [])] (hp [((d, 0), oT (lS (lI .u8)) [])] S) 1 ?_ (fun k kp hk => ?_)
  ·refine LW_seq ?_
   refine xseq [(0, eS (lS (lI .u8)) s), (3, eT (lS (lI .u8)) (d, 0) []), (4, .lit (.int .i64 0))] (hp [((d, 0), oT (lS (lI .u8)) [])] S) 1 ?_ (fun k kp hk => ?_)
   ·refine LW_block ?_
    refine LW_loopX (c := 1) (σ := List (List Int) × Int) (s := ([], 0)) (fun zz => [(0, eS (lS (lI .u8)) s), (3, eT (lS (lI .u8)) (d, 0) zz.1), (4, .lit (.int .i64 zz.2))]) (fun zz => (hp [((d, 0), oT (lS (lI .u8)) zz.1)] S)) h ?_ ?_
    ·clear h
     rintro ⟨out, i⟩ x1 d1 hd1 hf1 h hx1
     show LW _ _ _ _ [(0, eS (lS (lI .u8)) s), (3, eT (lS (lI .u8)) (d, 0) out), (4, .lit (.int .i64 i))] (hp [((d, 0), oT (lS (lI .u8)) out)] S) 0 _
     have hn1d : (d = d1) = False := by simp; omega
     have hm1d : (d1 = d) = False := by simp; omega
     rw [s_stanchionref00_CopyRows_b1] at h
     refine LW_seq ?_
     refine xseq [(0, eS (lS (lI .u8)) s), (3, eT (lS (lI .u8)) (d, 0) out), (4, .lit (.int .i64 i)), (9, .lit (.bool (decide (i < (s.length : Int)))))] (hp [((d, 0), oT (lS (lI .u8)) out)] S) 0 ?_ (fun k kp hk => ?_)
     ·refine xcond (decide (i < (s.length : Int))) rfl (fun hc => ?_) (fun hc => ?_)
      ·rw [ite_t hc] at h
       refine LW_skip ?_
       show LW _ _ _ _ _ _ _ _
       refine LW_seq ?_
       refine LW_block ?_
       obtain ⟨hg, h⟩ := gd_some h
       obtain ⟨v, hv, h⟩ := bd_some h
       obtain ⟨hg_1, h⟩ := gd_some h
       refine xreg [(0, eS (lS (lI .u8)) s), (3, eT (lS (lI .u8)) (d, 0) (out ++ [v])), (4, .lit (.int .i64 i))] (hp [((d, 0), oT (lS (lI .u8)) (out ++ [v]))] S) 0 ?_ (fun k kp hk => ?_)
       ·show LW _ _ _ _ _ _ _ _
        refine xreg [(0, eS (lS (lI .u8)) s), (3, eT (lS (lI .u8)) (d, 0) (out ++ [v])), (4, .lit (.int .i64 (IntKind.i64.wrap (i + 1))))] (hp [((d, 0), oT (lS (lI .u8)) (out ++ [v]))] S) 0 ?_ (fun k kp hk => ?_)
        ·cases h
         exact ⟨rfl, Less.refl _⟩
        ·try simp (maxSteps := 4000000) only [go_sem, Prod.mk.injEq, reduceIte, Nat.reduceEqDiff, Nat.reduceAdd, Nat.reduceSub, Nat.reduceMul, Nat.reduceDiv, Nat.reducePow, Nat.reduceLT, Nat.reduceLeDiff, Nat.reduceBEq, Nat.reduceBneDiff, Int.reduceToNat, Int.reduceEq, Int.reduceLE, Int.reduceLT, reduceCtorEq, hn1d, hm1d]
         repeat (with_reducible refine And.intro ?_ ?_; next => first | assumption | trivial | omega | decide | (constructor <;> first | assumption | omega) | (simp [Keep.ok, hp_cons_apply, hset_cons, hn1d, hm1d]; done))
         refine hk _ _ _ ?_
         refine xghost (D := []) ?_ ?_ ?_ ?_
         ·exact (.cons (Sub.of_eq rfl) (.cons (Sub.of_eq rfl) (.cons (Sub.of_eq rfl) .nil)))
         ·exact HpW.refl
         ·exact (by intro p hp; cases hp)
         ·omega
       ·try simp (maxSteps := 4000000) only [go_sem, Prod.mk.injEq, reduceIte, Nat.reduceEqDiff, Nat.reduceAdd, Nat.reduceSub, Nat.reduceMul, Nat.reduceDiv, Nat.reducePow, Nat.reduceLT, Nat.reduceLeDiff, Nat.reduceBEq, Nat.reduceBneDiff, Int.reduceToNat, Int.reduceEq, Int.reduceLE, Int.reduceLT, reduceCtorEq, hn1d, hm1d]
        repeat (with_reducible refine And.intro ?_ ?_; next => first | assumption | trivial | omega | decide | (constructor <;> first | assumption | omega) | (simp [Keep.ok, hp_cons_apply, hset_cons, hn1d, hm1d]; done))
        have hcall := s_stanchionref00_CopyBytes_ok (hp [((d, 0), oT (lS (lI .u8)) out)] S) (s.getD (Int.toNat i) []) hv
        refine call1_x hcall rfl ?_ ?_
        ·exact (.cons Sub.refl .nil)
        clear hcall
        rintro _ SS ⟨rfl, hSS⟩ -
        rw [hSS]
        clear hSS
        try simp (maxSteps := 4000000) only [go_sem, Prod.mk.injEq, reduceIte, Nat.reduceEqDiff, Nat.reduceAdd, Nat.reduceSub, Nat.reduceMul, Nat.reduceDiv, Nat.reducePow, Nat.reduceLT, Nat.reduceLeDiff, Nat.reduceBEq, Nat.reduceBneDiff, Int.reduceToNat, Int.reduceEq, Int.reduceLE, Int.reduceLT, reduceCtorEq, hn1d, hm1d]
        repeat (with_reducible refine And.intro ?_ ?_; next => first | assumption | trivial | omega | decide | (constructor <;> first | assumption | omega) | (simp [Keep.ok, hp_cons_apply, hset_cons, hn1d, hm1d]; done))
        refine append1_eT (L := (lS (lI .u8))) (n := (d, 0)) (xs := out) (ys := [v]) T41 T41 T22 ?_ rfl ?_ asrc_row ?_ rfl ?_ ?_
        ·first | exact .inl rfl | exact .inr rfl
        ·try simp (maxSteps := 4000000) only [go_sem, Prod.mk.injEq, reduceIte, Nat.reduceEqDiff, Nat.reduceAdd, Nat.reduceSub, Nat.reduceMul, Nat.reduceDiv, Nat.reducePow, Nat.reduceLT, Nat.reduceLeDiff, Nat.reduceBEq, Nat.reduceBneDiff, Int.reduceToNat, Int.reduceEq, Int.reduceLE, Int.reduceLT, reduceCtorEq, hn1d, hm1d]
        ·exact ⟨trivial, rfl⟩
        ·dsimp only [List.length]; omega
        try simp (maxSteps := 4000000) only [go_sem, Prod.mk.injEq, reduceIte, Nat.reduceEqDiff, Nat.reduceAdd, Nat.reduceSub, Nat.reduceMul, Nat.reduceDiv, Nat.reducePow, Nat.reduceLT, Nat.reduceLeDiff, Nat.reduceBEq, Nat.reduceBneDiff, Int.reduceToNat, Int.reduceEq, Int.reduceLE, Int.reduceLT, reduceCtorEq, hn1d, hm1d]
        repeat (with_reducible refine And.intro ?_ ?_; next => first | assumption | trivial | omega | decide | (constructor <;> first | assumption | omega) | (simp [Keep.ok, hp_cons_apply, hset_cons, hn1d, hm1d]; done))
        refine hk _ _ _ ?_
        refine xghost (D := []) ?_ ?_ ?_ ?_
        ·exact (.cons (Sub.of_eq rfl) (.cons (Sub.of_eq rfl) (.cons (Sub.of_eq rfl) .nil)))
        ·exact HpW.refl
        ·exact (by intro p hp; cases hp)
        ·omega
      ·rw [ite_f hc] at h
       obtain ⟨hq, hxe⟩ := mr_go h hx1
       clear h hx1
       subst hxe
       have h := hq
       clear hq
       refine LW_exitX (sl' := [(0, eS (lS (lI .u8)) s), (3, eT (lS (lI .u8)) (d, 0) out), (4, .lit (.int .i64 i)), (9, .lit (.bool (decide (i < (s.length : Int)))))]) (S' := (hp [((d, 0), oT (lS (lI .u8)) out)] S)) (c' := 0) ?_ ?_
       ·refine xghost (D := []) ?_ ?_ ?_ ?_
        ·exact (.cons (Sub.of_eq rfl) (.cons (Sub.of_eq rfl) (.cons (Sub.of_eq rfl) (.cons (Sub.of_eq rfl) .nil))))
        ·exact HpW.refl
        ·exact (by intro p hp; cases hp)
        ·omega
       ·show LW _ _ _ _ _ _ _ _
        refine xseq [(2, eS (lS (lI .u8)) out)] (hp [((d, 0), oT (lS (lI .u8)) out)] S) 1 ?_ (fun k kp hk => ?_)
        ·refine LW_ret ?_
         obtain rfl := Option.some.inj h
         show FPost _ _ _ _ _ _ _
         exact ⟨_, hp_less (L := []) (D := [((d, 0), oT (lS (lI .u8)) out)]) (by intro p hp; simp only [List.mem_cons, List.not_mem_nil, or_false] at hp; rcases hp with rfl <;> first | exact hd _ (Nat.le_refl _)), rfl, rfl⟩
        ·try simp (maxSteps := 4000000) only [go_sem, Prod.mk.injEq, reduceIte, Nat.reduceEqDiff, Nat.reduceAdd, Nat.reduceSub, Nat.reduceMul, Nat.reduceDiv, Nat.reducePow, Nat.reduceLT, Nat.reduceLeDiff, Nat.reduceBEq, Nat.reduceBneDiff, Int.reduceToNat, Int.reduceEq, Int.reduceLE, Int.reduceLT, reduceCtorEq, hn1d, hm1d]
         repeat (with_reducible refine And.intro ?_ ?_; next => first | assumption | trivial | omega | decide | (constructor <;> first | assumption | omega) | (simp [Keep.ok, hp_cons_apply, hset_cons, hn1d, hm1d]; done))
         refine hk _ _ _ ?_
         refine xghost (D := []) ?_ ?_ ?_ ?_
         ·exact (.cons Sub.tip .nil)
         ·exact HpW.refl
         ·exact (by intro p hp; cases hp)
         ·omega
     ·try simp (maxSteps := 4000000) only [go_sem, Prod.mk.injEq, reduceIte, Nat.reduceEqDiff, Nat.reduceAdd, Nat.reduceSub, Nat.reduceMul, Nat.reduceDiv, Nat.reducePow, Nat.reduceLT, Nat.reduceLeDiff, Nat.reduceBEq, Nat.reduceBneDiff, Int.reduceToNat, Int.reduceEq, Int.reduceLE, Int.reduceLT, reduceCtorEq, hn1d, hm1d]
      repeat (with_reducible refine And.intro ?_ ?_; next => first | assumption | trivial | omega | decide | (constructor <;> first | assumption | omega) | (simp [Keep.ok, hp_cons_apply, hset_cons, hn1d, hm1d]; done))
      refine hk _ _ _ ?_
      refine xghost (D := []) ?_ ?_ ?_ ?_
      ·exact (.cons (Sub.of_eq rfl) (.cons (Sub.of_eq rfl) (.cons (Sub.of_eq rfl) (.cons (Sub.of_eq rfl) .nil))))
      ·exact HpW.refl
      ·exact (by intro p hp; cases hp)
      ·omega
    ·refine xghost (D := []) ?_ ?_ ?_ ?_
     ·exact (.cons (Sub.of_eq rfl) (.cons (Sub.of_eq rfl) (.cons (Sub.of_eq rfl) .nil)))
     ·exact HpW.refl
     ·exact (by intro p hp; cases hp)
     ·omega
   ·try simp (maxSteps := 4000000) only [go_sem, Prod.mk.injEq, reduceIte, Nat.reduceEqDiff, Nat.reduceAdd, Nat.reduceSub, Nat.reduceMul, Nat.reduceDiv, Nat.reducePow, Nat.reduceLT, Nat.reduceLeDiff, Nat.reduceBEq, Nat.reduceBneDiff, Int.reduceToNat, Int.reduceEq, Int.reduceLE, Int.reduceLT, reduceCtorEq]
    repeat (with_reducible refine And.intro ?_ ?_; next => first | assumption | trivial | omega | decide | (constructor <;> first | assumption | omega) | (simp [Keep.ok, hp_cons_apply, hset_cons]; done))
    refine hk _ _ _ ?_
    refine xghost (D := []) ?_ ?_ ?_ ?_
    ·exact (.cons (Sub.of_eq rfl) (.cons (Sub.of_eq rfl) (.cons (Sub.of_eq rfl) .nil)))
    ·exact HpW.refl
    ·exact (by intro p hp; cases hp)
    ·omega
  ·try simp (maxSteps := 4000000) only [go_sem, Prod.mk.injEq, reduceIte, Nat.reduceEqDiff, Nat.reduceAdd, Nat.reduceSub, Nat.reduceMul, Nat.reduceDiv, Nat.reducePow, Nat.reduceLT, Nat.reduceLeDiff, Nat.reduceBEq, Nat.reduceBneDiff, Int.reduceToNat, Int.reduceEq, Int.reduceLE, Int.reduceLT, reduceCtorEq]
   repeat (with_reducible refine And.intro ?_ ?_; next => first | assumption | trivial | omega | decide | (constructor <;> first | assumption | omega) | (simp [Keep.ok, hp_cons_apply, hset_cons]; done))
   refine hk _ _ _ ?_
   refine Ghost.trans (xname (lS (lI .u8)) 3 Sub.refl) ?_
   try simp (maxSteps := 4000000) only [go_sem, Prod.mk.injEq, reduceIte, Nat.reduceEqDiff, Nat.reduceAdd, Nat.reduceSub, Nat.reduceMul, Nat.reduceDiv, Nat.reducePow, Nat.reduceLT, Nat.reduceLeDiff, Nat.reduceBEq, Nat.reduceBneDiff, Int.reduceToNat, Int.reduceEq, Int.reduceLE, Int.reduceLT, reduceCtorEq]
   refine xghost (D := []) ?_ ?_ ?_ ?_
   ·exact (.cons (Sub.of_eq rfl) (.cons (Sub.of_eq rfl) .nil))
   ·exact HpW.refl
   ·exact (by intro p hp; cases hp)
   ·omega
 ·try simp (maxSteps := 4000000) only [go_sem, Prod.mk.injEq, reduceIte, Nat.reduceEqDiff, Nat.reduceAdd, Nat.reduceSub, Nat.reduceMul, Nat.reduceDiv, Nat.reducePow, Nat.reduceLT, Nat.reduceLeDiff, Nat.reduceBEq, Nat.reduceBneDiff, Int.reduceToNat, Int.reduceEq, Int.reduceLE, Int.reduceLT, reduceCtorEq]
  repeat (with_reducible refine And.intro ?_ ?_; next => first | assumption | trivial | omega | decide | (constructor <;> first | assumption | omega) | (simp [Keep.ok, hp_cons_apply, hset_cons]; done))
  refine hk _ _ _ ?_
  refine xghost (D := []) ?_ ?_ ?_ ?_
  ·exact (.cons (Sub.of_eq rfl) .nil)
  ·exact HpW.refl
  ·exact (by intro p hp; cases hp)
  ·omega
/-! stanchion/stanchionlaw04.act -/
def s_stanchionlaw04_act (dx : GdiskDisk) (o : Glaw04Op) : Option (Int × GdiskDisk) :=
 if (o.What == 1) = true then bd (s_stanchionref00_CopyRows o.Parts) fun (v : List (List Int)) => bd (s_disk_Disk_Append dx o.Area v) fun (v_1 : Int × GdiskDisk) => some (v_1.1, v_1.2) else if (o.What == 2) = true then bd (s_disk_Disk_Trim dx o.Area o.N) fun (v_2 : Int × GdiskDisk) => some (v_2.1, v_2.2) else if (o.What == 3) = true then bd (s_stanchionref00_CopyInts o.Areas) fun (v_3 : List Int) => bd (s_disk_Disk_Sync dx v_3) fun (v_4 : Int × GdiskDisk) => some (v_4.1, v_4.2) else some (0, dx)
theorem s_stanchionlaw04_act_ok (S : AHeap) {n0 : Name} (dx : GdiskDisk) (o : Glaw04Op) {r : Int × GdiskDisk} (hS0 : S n0 = some (oGdiskDisk dx)) (h : s_stanchionlaw04_act dx o = some r) :
  AC Try.prog n_stanchionlaw04_act [.ptr n0 0, .agg [.lit (.int .i64 o.What), .lit (.int .i64 o.Area), .lit (.int .i64 o.N), eS (lS (lI .u8)) o.Parts, eS (lI .i64) o.Areas]] S fun r' S' => r' = .ret (.lit (.int .i64 r.1)) ∧ S' = S.set n0 (oGdiskDisk r.2) := by
 refine AC_of tok mixed fits_stanchionlaw04_act fun d hd => ?_
 unfold c_stanchionlaw04_act
 show LW _ _ _ _ [(0, .ptr n0 0), (1, .agg [.lit (.int .i64 o.What), .lit (.int .i64 o.Area), .lit (.int .i64 o.N), eS (lS (lI .u8)) o.Parts, eS (lI .i64) o.Areas])] S 0 _
 refine LW_heap (hp_in hS0) ?_
 have hl_n0 : n0.1 < d := lt_of_hd hd hS0
 have hq_n0 : ∀ k, (n0 = (d, k)) = False := fun k => ne_deep hl_n0
 have hr_n0 : ∀ k, ((d, k) = n0) = False := fun k => ne_deep' hl_n0
 show LW _ _ _ _ [(0, .ptr n0 0), (1, .agg [.lit (.int .i64 o.What), .lit (.int .i64 o.Area), .lit (.int .i64 o.N), eS (lS (lI .u8)) o.Parts, eS (lI .i64) o.Areas])] (hp [(n0, oGdiskDisk dx)] S) 0 _
 rw [s_stanchionlaw04_act] at h
 refine xseq [(0, .ptr n0 0), (3, .ptr (d, 0) 0)] (hp [(n0, oGdiskDisk dx), ((d, 0), .box [.lit (.int .i64 o.What), .lit (.int .i64 o.Area), .lit (.int .i64 o.N), eS (lS (lI .u8)) o.Parts, eS (lI .i64) o.Areas])] S) 1 ?_ (fun k kp hk => ?_)
 ·refine LW_seq ?_
  refine xseq [(0, .ptr n0 0), (3, .ptr (d, 0) 0), (6, .lit (.int .i64 o.What))] (hp [(n0, oGdiskDisk dx), ((d, 0), .box [.lit (.int .i64 o.What), .lit (.int .i64 o.Area), .lit (.int .i64 o.N), eS (lS (lI .u8)) o.Parts, eS (lI .i64) o.Areas])] S) 1 ?_ (fun k kp hk => ?_)
  ·refine LW_block ?_
   refine xseq [(0, .ptr n0 0), (3, .ptr (d, 0) 0), (6, .lit (.int .i64 o.What)), (7, .lit (.bool (o.What == 1)))] (hp [(n0, oGdiskDisk dx), ((d, 0), .box [.lit (.int .i64 o.What), .lit (.int .i64 o.Area), .lit (.int .i64 o.N), eS (lS (lI .u8)) o.Parts, eS (lI .i64) o.Areas])] S) 1 ?_ (fun k kp hk => ?_)
   ·refine xcond (o.What == 1) rfl (fun hc => ?_) (fun hc => ?_)
    ·rw [ite_t hc] at h
     obtain ⟨v, hv, h⟩ := bd_some h
     obtain ⟨v_1, hv_1, h⟩ := bd_some h
     refine xseqd [(4, .lit (.int .i64 v_1.1))] (hp [(n0, oGdiskDisk v_1.2), ((d, 0), .box [.lit (.int .i64 o.What), .lit (.int .i64 o.Area), .lit (.int .i64 o.N), eS (lS (lI .u8)) o.Parts, eS (lI .i64) o.Areas])] S) 1 ?_ (fun k kp hk => ?_)
     ·refine LW_ret ?_
      obtain rfl := Option.some.inj h
      show FPost _ _ _ _ _ _ _
      exact ⟨_, hp_less (L := [(n0, oGdiskDisk v_1.2)]) (D := [((d, 0), .box [.lit (.int .i64 o.What), .lit (.int .i64 o.Area), .lit (.int .i64 o.N), eS (lS (lI .u8)) o.Parts, eS (lI .i64) o.Areas])]) (by intro p hp; simp only [List.mem_cons, List.not_mem_nil, or_false] at hp; rcases hp with rfl <;> first | exact hd _ (Nat.le_refl _)), rfl, rfl⟩
     ·try simp (maxSteps := 4000000) only [go_sem, Prod.mk.injEq, reduceIte, Nat.reduceEqDiff, Nat.reduceAdd, Nat.reduceSub, Nat.reduceMul, Nat.reduceDiv, Nat.reducePow, Nat.reduceLT, Nat.reduceLeDiff, Nat.reduceBEq, Nat.reduceBneDiff, Int.reduceToNat, Int.reduceEq, Int.reduceLE, Int.reduceLT, reduceCtorEq, hq_n0, hr_n0]
      repeat (with_reducible refine And.intro ?_ ?_; next => first | assumption | trivial | omega | decide | (constructor <;> first | assumption | omega) | (simp [Keep.ok, hp_cons_apply, hset_cons, hq_n0, hr_n0]; done))
      have hcall := s_stanchionref00_CopyRows_ok (hp [(n0, oGdiskDisk dx), ((d, 0), .box [.lit (.int .i64 o.What), .lit (.int .i64 o.Area), .lit (.int .i64 o.N), eS (lS (lI .u8)) o.Parts, eS (lI .i64) o.Areas])] S) o.Parts hv
      refine call1_x hcall rfl ?_ ?_
      ·exact (.cons Sub.refl .nil)
      clear hcall
      rintro _ SS ⟨rfl, hSS⟩ -
      rw [hSS]
      clear hSS
      try simp (maxSteps := 4000000) only [go_sem, Prod.mk.injEq, reduceIte, Nat.reduceEqDiff, Nat.reduceAdd, Nat.reduceSub, Nat.reduceMul, Nat.reduceDiv, Nat.reducePow, Nat.reduceLT, Nat.reduceLeDiff, Nat.reduceBEq, Nat.reduceBneDiff, Int.reduceToNat, Int.reduceEq, Int.reduceLE, Int.reduceLT, reduceCtorEq, hq_n0, hr_n0]
      repeat (with_reducible refine And.intro ?_ ?_; next => first | assumption | trivial | omega | decide | (constructor <;> first | assumption | omega) | (simp [Keep.ok, hp_cons_apply, hset_cons, hq_n0, hr_n0]; done))
      try simp (maxSteps := 4000000) only [go_sem, Prod.mk.injEq, reduceIte, Nat.reduceEqDiff, Nat.reduceAdd, Nat.reduceSub, Nat.reduceMul, Nat.reduceDiv, Nat.reducePow, Nat.reduceLT, Nat.reduceLeDiff, Nat.reduceBEq, Nat.reduceBneDiff, Int.reduceToNat, Int.reduceEq, Int.reduceLE, Int.reduceLT, reduceCtorEq, hq_n0, hr_n0]
      repeat (with_reducible refine And.intro ?_ ?_; next => first | assumption | trivial | omega | decide | (constructor <;> first | assumption | omega) | (simp [Keep.ok, hp_cons_apply, hset_cons, hq_n0, hr_n0]; done))
      have hcall := s_disk_Disk_Append_ok (n0 := n0) (hS0 := by simp only [hp_cons_apply, hp_nil_apply, reduceIte, Prod.mk.injEq, Nat.reduceEqDiff, and_true, and_false, true_and, false_and, hq_n0, hr_n0] <;> rfl) (hp [(n0, oGdiskDisk dx), ((d, 0), .box [.lit (.int .i64 o.What), .lit (.int .i64 o.Area), .lit (.int .i64 o.N), eS (lS (lI .u8)) o.Parts, eS (lI .i64) o.Areas])] S) _ o.Area v (h := hv_1)
      refine call1_x hcall rfl ?_ ?_
      ·exact (.cons Sub.refl (.cons Sub.refl (.cons Sub.refl .nil)))
      clear hcall
      rintro _ SS ⟨rfl, hSS⟩ -
      rw [hSS]
      clear hSS
      try simp (maxSteps := 4000000) only [go_sem, Prod.mk.injEq, reduceIte, Nat.reduceEqDiff, Nat.reduceAdd, Nat.reduceSub, Nat.reduceMul, Nat.reduceDiv, Nat.reducePow, Nat.reduceLT, Nat.reduceLeDiff, Nat.reduceBEq, Nat.reduceBneDiff, Int.reduceToNat, Int.reduceEq, Int.reduceLE, Int.reduceLT, reduceCtorEq, hq_n0, hr_n0]
      repeat (with_reducible refine And.intro ?_ ?_; next => first | assumption | trivial | omega | decide | (constructor <;> first | assumption | omega) | (simp [Keep.ok, hp_cons_apply, hset_cons, hq_n0, hr_n0]; done))
      try simp (maxSteps := 4000000) only [go_sem, Prod.mk.injEq, reduceIte, Nat.reduceEqDiff, Nat.reduceAdd, Nat.reduceSub, Nat.reduceMul, Nat.reduceDiv, Nat.reducePow, Nat.reduceLT, Nat.reduceLeDiff, Nat.reduceBEq, Nat.reduceBneDiff, Int.reduceToNat, Int.reduceEq, Int.reduceLE, Int.reduceLT, reduceCtorEq, hq_n0, hr_n0]
      repeat (with_reducible refine And.intro ?_ ?_; next => first | assumption | trivial | omega | decide | (constructor <;> first | assumption | omega) | (simp [Keep.ok, hp_cons_apply, hset_cons, hq_n0, hr_n0]; done))
      refine hk _ _ _ ?_
      refine xghost (D := []) ?_ ?_ ?_ ?_
      ·exact (.cons (Sub.of_eq rfl) .nil)
      ·exact HpW.refl
      ·exact (by intro p hp; cases hp)
      ·omega
    ·rw [ite_f hc] at h
     refine xseq [(0, .ptr n0 0), (3, .ptr (d, 0) 0), (6, .lit (.int .i64 o.What)), (16, .lit (.bool (o.What == 2)))] (hp [(n0, oGdiskDisk dx), ((d, 0), .box [.lit (.int .i64 o.What), .lit (.int .i64 o.Area), .lit (.int .i64 o.N), eS (lS (lI .u8)) o.Parts, eS (lI .i64) o.Areas])] S) 1 ?_ (fun k kp hk => ?_)
     ·refine xcond (o.What == 2) rfl (fun hc_1 => ?_) (fun hc_1 => ?_)
      ·rw [ite_t hc_1] at h
       obtain ⟨v_2, hv_2, h⟩ := bd_some h
       refine xseq [(4, .lit (.int .i64 v_2.1))] (hp [(n0, oGdiskDisk v_2.2), ((d, 0), .box [.lit (.int .i64 o.What), .lit (.int .i64 o.Area), .lit (.int .i64 o.N), eS (lS (lI .u8)) o.Parts, eS (lI .i64) o.Areas])] S) 1 ?_ (fun k kp hk => ?_)
       ·refine LW_ret ?_
        obtain rfl := Option.some.inj h
        show FPost _ _ _ _ _ _ _
        exact ⟨_, hp_less (L := [(n0, oGdiskDisk v_2.2)]) (D := [((d, 0), .box [.lit (.int .i64 o.What), .lit (.int .i64 o.Area), .lit (.int .i64 o.N), eS (lS (lI .u8)) o.Parts, eS (lI .i64) o.Areas])]) (by intro p hp; simp only [List.mem_cons, List.not_mem_nil, or_false] at hp; rcases hp with rfl <;> first | exact hd _ (Nat.le_refl _)), rfl, rfl⟩
       ·try simp (maxSteps := 4000000) only [go_sem, Prod.mk.injEq, reduceIte, Nat.reduceEqDiff, Nat.reduceAdd, Nat.reduceSub, Nat.reduceMul, Nat.reduceDiv, Nat.reducePow, Nat.reduceLT, Nat.reduceLeDiff, Nat.reduceBEq, Nat.reduceBneDiff, Int.reduceToNat, Int.reduceEq, Int.reduceLE, Int.reduceLT, reduceCtorEq, hq_n0, hr_n0]
        repeat (with_reducible refine And.intro ?_ ?_; next => first | assumption | trivial | omega | decide | (constructor <;> first | assumption | omega) | (simp [Keep.ok, hp_cons_apply, hset_cons, hq_n0, hr_n0]; done))
        have hcall := s_disk_Disk_Trim_ok (n0 := n0) (hS0 := by simp only [hp_cons_apply, hp_nil_apply, reduceIte, Prod.mk.injEq, Nat.reduceEqDiff, and_true, and_false, true_and, false_and, hq_n0, hr_n0] <;> rfl) (hp [(n0, oGdiskDisk dx), ((d, 0), .box [.lit (.int .i64 o.What), .lit (.int .i64 o.Area), .lit (.int .i64 o.N), eS (lS (lI .u8)) o.Parts, eS (lI .i64) o.Areas])] S) _ o.Area o.N (h := hv_2)
        refine call1_x hcall rfl ?_ ?_
        ·exact (.cons Sub.refl (.cons Sub.refl (.cons Sub.refl .nil)))
        clear hcall
        rintro _ SS ⟨rfl, hSS⟩ -
        rw [hSS]
        clear hSS
        try simp (maxSteps := 4000000) only [go_sem, Prod.mk.injEq, reduceIte, Nat.reduceEqDiff, Nat.reduceAdd, Nat.reduceSub, Nat.reduceMul, Nat.reduceDiv, Nat.reducePow, Nat.reduceLT, Nat.reduceLeDiff, Nat.reduceBEq, Nat.reduceBneDiff, Int.reduceToNat, Int.reduceEq, Int.reduceLE, Int.reduceLT, reduceCtorEq, hq_n0, hr_n0]
        repeat (with_reducible refine And.intro ?_ ?_; next => first | assumption | trivial | omega | decide | (constructor <;> first | assumption | omega) | (simp [Keep.ok, hp_cons_apply, hset_cons, hq_n0, hr_n0]; done))
        refine hk _ _ _ ?_
        refine xghost (D := []) ?_ ?_ ?_ ?_
        ·exact (.cons (Sub.of_eq rfl) .nil)
        ·exact HpW.refl
        ·exact (by intro p hp; cases hp)
        ·omega
      ·rw [ite_f hc_1] at h
       refine xseq [(0, .ptr n0 0), (3, .ptr (d, 0) 0), (24, .lit (.bool (o.What == 3)))] (hp [(n0, oGdiskDisk dx), ((d, 0), .box [.lit (.int .i64 o.What), .lit (.int .i64 o.Area), .lit (.int .i64 o.N), eS (lS (lI .u8)) o.Parts, eS (lI .i64) o.Areas])] S) 1 ?_ (fun k kp hk => ?_)
       ·refine xcond (o.What == 3) rfl (fun hc_2 => ?_) (fun hc_2 => ?_)
        ·rw [ite_t hc_2] at h
         obtain ⟨v_3, hv_3, h⟩ := bd_some h
         obtain ⟨v_4, hv_4, h⟩ := bd_some h
         refine xseq [(4, .lit (.int .i64 v_4.1))] (hp [(n0, oGdiskDisk v_4.2), ((d, 0), .box [.lit (.int .i64 o.What), .lit (.int .i64 o.Area), .lit (.int .i64 o.N), eS (lS (lI .u8)) o.Parts, eS (lI .i64) o.Areas])] S) 1 ?_ (fun k kp hk => ?_)
         ·refine LW_ret ?_
          obtain rfl := Option.some.inj h
          show FPost _ _ _ _ _ _ _
          exact ⟨_, hp_less (L := [(n0, oGdiskDisk v_4.2)]) (D := [((d, 0), .box [.lit (.int .i64 o.What), .lit (.int .i64 o.Area), .lit (.int .i64 o.N), eS (lS (lI .u8)) o.Parts, eS (lI .i64) o.Areas])]) (by intro p hp; simp only [List.mem_cons, List.not_mem_nil, or_false] at hp; rcases hp with rfl <;> first | exact hd _ (Nat.le_refl _)), rfl, rfl⟩
         ·try simp (maxSteps := 4000000) only [go_sem, Prod.mk.injEq, reduceIte, Nat.reduceEqDiff, Nat.reduceAdd, Nat.reduceSub, Nat.reduceMul, Nat.reduceDiv, Nat.reducePow, Nat.reduceLT, Nat.reduceLeDiff, Nat.reduceBEq, Nat.reduceBneDiff, Int.reduceToNat, Int.reduceEq, Int.reduceLE, Int.reduceLT, reduceCtorEq, hq_n0, hr_n0]
          repeat (with_reducible refine And.intro ?_ ?_; next => first | assumption | trivial | omega | decide | (constructor <;> first | assumption | omega) | (simp [Keep.ok, hp_cons_apply, hset_cons, hq_n0, hr_n0]; done))
          have hcall := s_stanchionref00_CopyInts_ok (hp [(n0, oGdiskDisk dx), ((d, 0), .box [.lit (.int .i64 o.What), .lit (.int .i64 o.Area), .lit (.int .i64 o.N), eS (lS (lI .u8)) o.Parts, eS (lI .i64) o.Areas])] S) o.Areas hv_3
          refine call1_x hcall rfl ?_ ?_
          ·exact (.cons Sub.refl .nil)
          clear hcall
          rintro _ SS ⟨rfl, hSS⟩ -
          rw [hSS]
          clear hSS
          try simp (maxSteps := 4000000) only [go_sem, Prod.mk.injEq, reduceIte, Nat.reduceEqDiff, Nat.reduceAdd, Nat.reduceSub, Nat.reduceMul, Nat.reduceDiv, Nat.reducePow, Nat.reduceLT, Nat.reduceLeDiff, Nat.reduceBEq, Nat.reduceBneDiff, Int.reduceToNat, Int.reduceEq, Int.reduceLE, Int.reduceLT, reduceCtorEq, hq_n0, hr_n0]
          repeat (with_reducible refine And.intro ?_ ?_; next => first | assumption | trivial | omega | decide | (constructor <;> first | assumption | omega) | (simp [Keep.ok, hp_cons_apply, hset_cons, hq_n0, hr_n0]; done))
          have hcall := s_disk_Disk_Sync_ok (n0 := n0) (hS0 := by simp only [hp_cons_apply, hp_nil_apply, reduceIte, Prod.mk.injEq, Nat.reduceEqDiff, and_true, and_false, true_and, false_and, hq_n0, hr_n0] <;> rfl) (hp [(n0, oGdiskDisk dx), ((d, 0), .box [.lit (.int .i64 o.What), .lit (.int .i64 o.Area), .lit (.int .i64 o.N), eS (lS (lI .u8)) o.Parts, eS (lI .i64) o.Areas])] S) _ v_3 (h := hv_4)
          refine call1_x hcall rfl ?_ ?_
          ·exact (.cons Sub.refl (.cons Sub.refl .nil))
          clear hcall
          rintro _ SS ⟨rfl, hSS⟩ -
          rw [hSS]
          clear hSS
          try simp (maxSteps := 4000000) only [go_sem, Prod.mk.injEq, reduceIte, Nat.reduceEqDiff, Nat.reduceAdd, Nat.reduceSub, Nat.reduceMul, Nat.reduceDiv, Nat.reducePow, Nat.reduceLT, Nat.reduceLeDiff, Nat.reduceBEq, Nat.reduceBneDiff, Int.reduceToNat, Int.reduceEq, Int.reduceLE, Int.reduceLT, reduceCtorEq, hq_n0, hr_n0]
          repeat (with_reducible refine And.intro ?_ ?_; next => first | assumption | trivial | omega | decide | (constructor <;> first | assumption | omega) | (simp [Keep.ok, hp_cons_apply, hset_cons, hq_n0, hr_n0]; done))
          refine hk _ _ _ ?_
          refine xghost (D := []) ?_ ?_ ?_ ?_
          ·exact (.cons (Sub.of_eq rfl) .nil)
          ·exact HpW.refl
          ·exact (by intro p hp; cases hp)
          ·omega
        ·rw [ite_f hc_2] at h
         refine LW_skip ?_
         show LW _ _ _ _ _ _ _ _
         refine xseq [(4, .lit (.int .i64 0))] (hp [(n0, oGdiskDisk dx), ((d, 0), .box [.lit (.int .i64 o.What), .lit (.int .i64 o.Area), .lit (.int .i64 o.N), eS (lS (lI .u8)) o.Parts, eS (lI .i64) o.Areas])] S) 1 ?_ (fun k kp hk => ?_)
         ·refine LW_ret ?_
          obtain rfl := Option.some.inj h
          show FPost _ _ _ _ _ _ _
          exact ⟨_, hp_less (L := [(n0, oGdiskDisk dx)]) (D := [((d, 0), .box [.lit (.int .i64 o.What), .lit (.int .i64 o.Area), .lit (.int .i64 o.N), eS (lS (lI .u8)) o.Parts, eS (lI .i64) o.Areas])]) (by intro p hp; simp only [List.mem_cons, List.not_mem_nil, or_false] at hp; rcases hp with rfl <;> first | exact hd _ (Nat.le_refl _)), rfl, rfl⟩
         ·try simp (maxSteps := 4000000) only [go_sem, Prod.mk.injEq, reduceIte, Nat.reduceEqDiff, Nat.reduceAdd, Nat.reduceSub, Nat.reduceMul, Nat.reduceDiv, Nat.reducePow, Nat.reduceLT, Nat.reduceLeDiff, Nat.reduceBEq, Nat.reduceBneDiff, Int.reduceToNat, Int.reduceEq, Int.reduceLE, Int.reduceLT, reduceCtorEq, hq_n0, hr_n0]
          repeat (with_reducible refine And.intro ?_ ?_; next => first | assumption | trivial | omega | decide | (constructor <;> first | assumption | omega) | (simp [Keep.ok, hp_cons_apply, hset_cons, hq_n0, hr_n0]; done))
          refine hk _ _ _ ?_
          refine xghost (D := []) ?_ ?_ ?_ ?_
          ·exact (.cons (Sub.of_eq rfl) .nil)
          ·exact HpW.refl
          ·exact (by intro p hp; cases hp)
          ·omega
       ·try simp (maxSteps := 4000000) only [go_sem, Prod.mk.injEq, reduceIte, Nat.reduceEqDiff, Nat.reduceAdd, Nat.reduceSub, Nat.reduceMul, Nat.reduceDiv, Nat.reducePow, Nat.reduceLT, Nat.reduceLeDiff, Nat.reduceBEq, Nat.reduceBneDiff, Int.reduceToNat, Int.reduceEq, Int.reduceLE, Int.reduceLT, reduceCtorEq, hq_n0, hr_n0]
        repeat (with_reducible refine And.intro ?_ ?_; next => first | assumption | trivial | omega | decide | (constructor <;> first | assumption | omega) | (simp [Keep.ok, hp_cons_apply, hset_cons, hq_n0, hr_n0]; done))
        refine hk _ _ _ ?_
        refine xghost (D := []) ?_ ?_ ?_ ?_
        ·exact (.cons (Sub.of_eq rfl) (.cons (Sub.of_eq rfl) (.cons (Sub.of_eq rfl) .nil)))
        ·exact HpW.refl
        ·exact (by intro p hp; cases hp)
        ·omega
     ·try simp (maxSteps := 4000000) only [go_sem, Prod.mk.injEq, reduceIte, Nat.reduceEqDiff, Nat.reduceAdd, Nat.reduceSub, Nat.reduceMul, Nat.reduceDiv, Nat.reducePow, Nat.reduceLT, Nat.reduceLeDiff, Nat.reduceBEq, Nat.reduceBneDiff, Int.reduceToNat, Int.reduceEq, Int.reduceLE, Int.reduceLT, reduceCtorEq, hq_n0, hr_n0]
      repeat (with_reducible refine And.intro ?_ ?_; next => first | assumption | trivial | omega | decide | (constructor <;> first | assumption | omega) | (simp [Keep.ok, hp_cons_apply, hset_cons, hq_n0, hr_n0]; done))
      refine hk _ _ _ ?_
      refine xghost (D := []) ?_ ?_ ?_ ?_
      ·exact (.cons (Sub.of_eq rfl) (.cons (Sub.of_eq rfl) (.cons (Sub.of_eq rfl) (.cons (Sub.of_eq rfl) .nil))))
      ·exact HpW.refl
      ·exact (by intro p hp; cases hp)
      ·omega
   ·try simp (maxSteps := 4000000) only [go_sem, Prod.mk.injEq, reduceIte, Nat.reduceEqDiff, Nat.reduceAdd, Nat.reduceSub, Nat.reduceMul, Nat.reduceDiv, Nat.reducePow, Nat.reduceLT, Nat.reduceLeDiff, Nat.reduceBEq, Nat.reduceBneDiff, Int.reduceToNat, Int.reduceEq, Int.reduceLE, Int.reduceLT, reduceCtorEq, hq_n0, hr_n0]
    repeat (with_reducible refine And.intro ?_ ?_; next => first | assumption | trivial | omega | decide | (constructor <;> first | assumption | omega) | (simp [Keep.ok, hp_cons_apply, hset_cons, hq_n0, hr_n0]; done))
    refine hk _ _ _ ?_
    refine xghost (D := []) ?_ ?_ ?_ ?_
    ·exact (.cons (Sub.of_eq rfl) (.cons (Sub.of_eq rfl) (.cons (Sub.of_eq rfl) (.cons (Sub.of_eq rfl) .nil))))
    ·exact HpW.refl
    ·exact (by intro p hp; cases hp)
    ·omega
  ·try simp (maxSteps := 4000000) only [go_sem, Prod.mk.injEq, reduceIte, Nat.reduceEqDiff, Nat.reduceAdd, Nat.reduceSub, Nat.reduceMul, Nat.reduceDiv, Nat.reducePow, Nat.reduceLT, Nat.reduceLeDiff, Nat.reduceBEq, Nat.reduceBneDiff, Int.reduceToNat, Int.reduceEq, Int.reduceLE, Int.reduceLT, reduceCtorEq, hq_n0, hr_n0]
   repeat (with_reducible refine And.intro ?_ ?_; next => first | assumption | trivial | omega | decide | (constructor <;> first | assumption | omega) | (simp [Keep.ok, hp_cons_apply, hset_cons, hq_n0, hr_n0]; done))
   refine hk _ _ _ ?_
   refine xghost (D := []) ?_ ?_ ?_ ?_
   ·exact (.cons (Sub.of_eq rfl) (.cons (Sub.of_eq rfl) (.cons (Sub.of_eq rfl) .nil)))
   ·exact HpW.refl
   ·exact (by intro p hp; cases hp)
   ·omega
 ·try simp (maxSteps := 4000000) only [go_sem, Prod.mk.injEq, reduceIte, Nat.reduceEqDiff, Nat.reduceAdd, Nat.reduceSub, Nat.reduceMul, Nat.reduceDiv, Nat.reducePow, Nat.reduceLT, Nat.reduceLeDiff, Nat.reduceBEq, Nat.reduceBneDiff, Int.reduceToNat, Int.reduceEq, Int.reduceLE, Int.reduceLT, reduceCtorEq, hq_n0, hr_n0]
  repeat (with_reducible refine And.intro ?_ ?_; next => first | assumption | trivial | omega | decide | (constructor <;> first | assumption | omega) | (simp [Keep.ok, hp_cons_apply, hset_cons, hq_n0, hr_n0]; done))
  refine hk _ _ _ ?_
  refine xghost (D := []) ?_ ?_ ?_ ?_
  ·exact (.cons (Sub.of_eq rfl) (.cons (Sub.of_eq rfl) .nil))
  ·exact HpW.refl
  ·exact (by intro p hp; cases hp)
  ·omega
/-! stanchion/stanchionlaw04.DiskSafe -/
def s_stanchionlaw04_DiskSafe_b1 (o : Int) (A : List Int) (rx : List Int) (v_1 : List Glaw04Op) : (Int × GdiskDisk) → Option ((Int × GdiskDisk) ⊕ Bool)
 | (t10, D) => if (decide (t10 < (v_1.length : Int))) = true then gd ((0 ≤ t10 ∧ Int.toNat t10 < v_1.length)) (bd (s_stanchionlaw04_act D (v_1.getD (Int.toNat t10) yGlaw04Op.dflt)) fun (v_4 : Int × GdiskDisk) => some (.inl ((IntKind.i64.wrap (t10 + 1)), v_4.2))) else mr (bd (s_disk_Disk_Sync D []) fun (v_5 : Int × GdiskDisk) => if (v_5.1 != 0) = true then some false else bd (s_disk_Disk_Read v_5.2 o) fun (v_6 : List Int × Int) => if (v_6.2 != 0) = true then some (((v_6.2 == 41) && (o != 0)) && (o != 1)) else bd (s_stanchionref00_CopyBytes A) fun (v_7 : List Int) => bd (s_disk_Disk_Append v_5.2 o ([v_7])) fun (v_8 : Int × GdiskDisk) => if (v_8.1 != 0) = true then some false else bd (s_stanchionref00_CopyInts rx) fun (v_9 : List Int) => bd (s_disk_Disk_Crash v_8.2 v_9 (-1)) fun (v_10 : GdiskDisk) => bd (s_disk_Disk_Read v_10 o) fun (v_11 : List Int × Int) => gd ((!(((v_11.2 != 0) || (decide ((v_11.1.length : Int) < (v_6.1.length : Int)))) || (decide ((IntKind.i64.wrap ((v_6.1.length : Int) + (A.length : Int))) < (v_11.1.length : Int))))) = true → (0 ≤ 0 ∧ 0 ≤ (v_6.1.length : Int) ∧ Int.toNat (v_6.1.length : Int) ≤ v_11.1.length)) (bd (if (!(((v_11.2 != 0) || (decide ((v_11.1.length : Int) < (v_6.1.length : Int)))) || (decide ((IntKind.i64.wrap ((v_6.1.length : Int) + (A.length : Int))) < (v_11.1.length : Int))))) = true then s_stanchionref00_SameBytes ((v_11.1.take (Int.toNat (v_6.1.length : Int))).drop (Int.toNat 0)) v_6.1 else some false) fun (v_12 : Bool) => gd ((!((((v_11.2 != 0) || (decide ((v_11.1.length : Int) < (v_6.1.length : Int)))) || (decide ((IntKind.i64.wrap ((v_6.1.length : Int) + (A.length : Int))) < (v_11.1.length : Int)))) || (!v_12))) = true → (0 ≤ (v_6.1.length : Int) ∧ (v_6.1.length : Int) ≤ (v_11.1.length : Int) ∧ Int.toNat (v_11.1.length : Int) ≤ v_11.1.length)) (gd ((!((((v_11.2 != 0) || (decide ((v_11.1.length : Int) < (v_6.1.length : Int)))) || (decide ((IntKind.i64.wrap ((v_6.1.length : Int) + (A.length : Int))) < (v_11.1.length : Int)))) || (!v_12))) = true → (0 ≤ 0 ∧ 0 ≤ (IntKind.i64.wrap ((v_11.1.length : Int) - (v_6.1.length : Int))) ∧ Int.toNat (IntKind.i64.wrap ((v_11.1.length : Int) - (v_6.1.length : Int))) ≤ A.length)) (bd (if (!((((v_11.2 != 0) || (decide ((v_11.1.length : Int) < (v_6.1.length : Int)))) || (decide ((IntKind.i64.wrap ((v_6.1.length : Int) + (A.length : Int))) < (v_11.1.length : Int)))) || (!v_12))) = true then s_stanchionref00_SameBytes ((v_11.1.take (Int.toNat (v_11.1.length : Int))).drop (Int.toNat (v_6.1.length : Int))) ((A.take (Int.toNat (IntKind.i64.wrap ((v_11.1.length : Int) - (v_6.1.length : Int))))).drop (Int.toNat 0)) else some false) fun (v_13 : Bool) => if (((((v_11.2 != 0) || (decide ((v_11.1.length : Int) < (v_6.1.length : Int)))) || (decide ((IntKind.i64.wrap ((v_6.1.length : Int) + (A.length : Int))) < (v_11.1.length : Int)))) || (!v_12)) || (!v_13)) = true then some false else bd (s_disk_Disk_Crash v_10 [] (-1)) fun (v_14 : GdiskDisk) => bd (s_disk_Disk_Read v_14 o) fun (v_15 : List Int × Int) => bd (s_disk_Disk_Read v_8.2 o) fun (v_16 : List Int × Int) => bd (s_stanchionref00_SameBytes v_15.1 v_11.1) fun (v_17 : Bool) => some (v_17 && ((v_16.1.length : Int) == (IntKind.i64.wrap ((v_6.1.length : Int) + (A.length : Int)))))))))
def s_stanchionlaw04_DiskSafe (t : List Glaw04Op) (o : Int) (A : List Int) (rx : List Int) : Option Bool :=
 bd (s_stanchionlaw04_alive ) fun (v : Bool) => if (!v) = true then some false else bd (s_stanchionlaw04_cut t) fun (v_1 : List Glaw04Op) => bd (s_stanchionlaw04_great v_1) fun (v_2 : Bool) => if (v_2 || (decide (5000 < (A.length : Int)))) = true then some true else bd (s_disk_New (-1)) fun (v_3 : GdiskDisk) => loop (s_stanchionlaw04_DiskSafe_b1 o A rx v_1) (0, v_3)
theorem s_stanchionlaw04_DiskSafe_ok (S : AHeap) (t : List Glaw04Op) (o : Int) (A : List Int) (rx : List Int) {r : Bool} (h : s_stanchionlaw04_DiskSafe t o A rx = some r) :
  AC Try.prog n_stanchionlaw04_DiskSafe [eS yGlaw04Op t, .lit (.int .i64 o), eS (lI .u8) A, eS (lI .i64) rx] S fun r' S' => r' = .ret (.lit (.bool r)) ∧ S' = S := by
 refine AC_of tok mixed fits_stanchionlaw04_DiskSafe fun d hd => ?_
 unfold c_stanchionlaw04_DiskSafe
 show LW _ _ _ _ [(0, eS yGlaw04Op t), (1, .lit (.int .i64 o)), (2, eS (lI .u8) A), (3, eS (lI .i64) rx)] (hp [] S) 0 _
 rw [s_stanchionlaw04_DiskSafe] at h
 refine xseq [(0, eS yGlaw04Op t), (1, .lit (.int .i64 o)), (2, eS (lI .u8) A), (3, eS (lI .i64) rx)] (hp [] S) 0 ?_ (fun k kp hk => ?_)
 ·refine LW_seq ?_
  obtain ⟨v, hv, h⟩ := bd_some h
  refine xseq [(0, eS yGlaw04Op t), (1, .lit (.int .i64 o)), (2, eS (lI .u8) A), (3, eS (lI .i64) rx), (21, .lit (.bool (!v)))] (hp [] S) 0 ?_ (fun k kp hk => ?_)
  ·refine xcond (!v) rfl (fun hc => ?_) (fun hc => ?_)
   ·rw [ite_t hc] at h
    refine xseq [(8, .lit (.bool false))] (hp [] S) 0 ?_ (fun k kp hk => ?_)
    ·refine LW_ret ?_
     obtain rfl := Option.some.inj h
     show FPost _ _ _ _ _ _ _
     exact ⟨_, hp_less (L := []) (D := []) (by intro p hp; cases hp), rfl, rfl⟩
    ·try simp (maxSteps := 4000000) only [go_sem, Prod.mk.injEq, reduceIte, Nat.reduceEqDiff, Nat.reduceAdd, Nat.reduceSub, Nat.reduceMul, Nat.reduceDiv, Nat.reducePow, Nat.reduceLT, Nat.reduceLeDiff, Nat.reduceBEq, Nat.reduceBneDiff, Int.reduceToNat, Int.reduceEq, Int.reduceLE, Int.reduceLT, reduceCtorEq]
     repeat (with_reducible refine And.intro ?_ ?_; next => first | assumption | trivial | omega | decide | (constructor <;> first | assumption | omega) | (simp [Keep.ok, hp_cons_apply, hset_cons]; done))
     refine hk _ _ _ ?_
     refine xghost (D := []) ?_ ?_ ?_ ?_
     ·exact (.cons (Sub.of_eq rfl) .nil)
     ·exact HpW.refl
     ·exact (by intro p hp; cases hp)
     ·omega
   ·rw [ite_f hc] at h
    refine LW_skip ?_
    show LW _ _ _ _ _ _ _ _
    obtain ⟨v_1, hv_1, h⟩ := bd_some h
    refine xseq [(0, eS yGlaw04Op v_1), (1, .lit (.int .i64 o)), (2, eS (lI .u8) A), (3, eS (lI .i64) rx)] (hp [] S) 0 ?_ (fun k kp hk => ?_)
    ·refine LW_seq ?_
     obtain ⟨v_2, hv_2, h⟩ := bd_some h
     refine xseq [(0, eS yGlaw04Op v_1), (1, .lit (.int .i64 o)), (2, eS (lI .u8) A), (3, eS (lI .i64) rx), (30, .lit (.bool (v_2 || (decide (5000 < (A.length : Int))))))] (hp [] S) 0 ?_ (fun k kp hk => ?_)
     ·refine xcond (v_2 || (decide (5000 < (A.length : Int)))) rfl (fun hc_1 => ?_) (fun hc_1 => ?_)
      ·rw [ite_t hc_1] at h
       refine xseq [(8, .lit (.bool true))] (hp [] S) 0 ?_ (fun k kp hk => ?_)
       ·refine LW_ret ?_
        obtain rfl := Option.some.inj h
        show FPost _ _ _ _ _ _ _
        exact ⟨_, hp_less (L := []) (D := []) (by intro p hp; cases hp), rfl, rfl⟩
       ·try simp (maxSteps := 4000000) only [go_sem, Prod.mk.injEq, reduceIte, Nat.reduceEqDiff, Nat.reduceAdd, Nat.reduceSub, Nat.reduceMul, Nat.reduceDiv, Nat.reducePow, Nat.reduceLT, Nat.reduceLeDiff, Nat.reduceBEq, Nat.reduceBneDiff, Int.reduceToNat, Int.reduceEq, Int.reduceLE, Int.reduceLT, reduceCtorEq]
        repeat (with_reducible refine And.intro ?_ ?_; next => first | assumption | trivial | omega | decide | (constructor <;> first | assumption | omega) | (simp [Keep.ok, hp_cons_apply, hset_cons]; done))
        refine hk _ _ _ ?_
        refine xghost (D := []) ?_ ?_ ?_ ?_
        ·exact (.cons (Sub.of_eq rfl) .nil)
        ·exact HpW.refl
        ·exact (by intro p hp; cases hp)
        ·omega
      ·rw [ite_f hc_1] at h
       refine LW_skip ?_
       show LW _ _ _ _ _ _ _ _
       obtain ⟨v_3, hv_3, h⟩ := bd_some h
       refine xseq [(0, eS yGlaw04Op v_1), (1, .lit (.int .i64 o)), (2, eS (lI .u8) A), (3, eS (lI .i64) rx), (9, .ptr (d, 0) 0)] (hp [((d, 0), oGdiskDisk v_3)] S) 1 ?_ (fun k kp hk => ?_)
       ·refine LW_seq ?_
        refine xseq [(0, eS yGlaw04Op v_1), (1, .lit (.int .i64 o)), (2, eS (lI .u8) A), (3, eS (lI .i64) rx), (9, .ptr (d, 0) 0), (33, .lit (.bool false))] (hp [((d, 0), oGdiskDisk v_3)] S) 1 ?_ (fun k kp hk => ?_)
        ·refine xcond false rfl (fun h0 => by cases h0) (fun _ => ?_)
         refine LW_skip ?_
         show LW _ _ _ _ _ _ _ _
         refine LW_seq ?_
         refine xseq [(0, eS yGlaw04Op v_1), (1, .lit (.int .i64 o)), (2, eS (lI .u8) A), (3, eS (lI .i64) rx), (9, .ptr (d, 0) 0), (10, .lit (.int .i64 0))] (hp [((d, 0), oGdiskDisk v_3)] S) 1 ?_ (fun k kp hk => ?_)
         ·refine LW_block ?_
          refine LW_loopX (c := 1) (σ := Int × GdiskDisk) (s := (0, v_3)) (fun zz => [(0, eS yGlaw04Op v_1), (1, .lit (.int .i64 o)), (2, eS (lI .u8) A), (3, eS (lI .i64) rx), (9, .ptr (d, 0) 0), (10, .lit (.int .i64 zz.1))]) (fun zz => (hp [((d, 0), oGdiskDisk zz.2)] S)) h ?_ ?_
          ·clear h
           rintro ⟨t10, D⟩ x1 d1 hd1 hf1 h hx1
           show LW _ _ _ _ [(0, eS yGlaw04Op v_1), (1, .lit (.int .i64 o)), (2, eS (lI .u8) A), (3, eS (lI .i64) rx), (9, .ptr (d, 0) 0), (10, .lit (.int .i64 t10))] (hp [((d, 0), oGdiskDisk D)] S) 0 _
           have hn1d : (d = d1) = False := by simp; omega
           have hm1d : (d1 = d) = False := by simp; omega
           rw [s_stanchionlaw04_DiskSafe_b1] at h
           refine LW_seq ?_
           refine xseq [(0, eS yGlaw04Op v_1), (1, .lit (.int .i64 o)), (2, eS (lI .u8) A), (3, eS (lI .i64) rx), (9, .ptr (d, 0) 0), (10, .lit (.int .i64 t10)), (37, .lit (.bool (decide (t10 < (v_1.length : Int)))))] (hp [((d, 0), oGdiskDisk D)] S) 0 ?_ (fun k kp hk => ?_)
           ·refine xcond (decide (t10 < (v_1.length : Int))) rfl (fun hc_2 => ?_) (fun hc_2 => ?_)
            ·rw [ite_t hc_2] at h
             refine LW_skip ?_
             show LW _ _ _ _ _ _ _ _
             refine LW_seq ?_
             refine LW_block ?_
             obtain ⟨hg, h⟩ := gd_some h
             obtain ⟨v_4, hv_4, h⟩ := bd_some h
             refine xreg [(0, eS yGlaw04Op v_1), (1, .lit (.int .i64 o)), (2, eS (lI .u8) A), (3, eS (lI .i64) rx), (9, .ptr (d, 0) 0), (10, .lit (.int .i64 t10))] (hp [((d, 0), oGdiskDisk v_4.2)] S) 0 ?_ (fun k kp hk => ?_)
             ·show LW _ _ _ _ _ _ _ _
              refine xreg [(0, eS yGlaw04Op v_1), (1, .lit (.int .i64 o)), (2, eS (lI .u8) A), (3, eS (lI .i64) rx), (9, .ptr (d, 0) 0), (10, .lit (.int .i64 (IntKind.i64.wrap (t10 + 1))))] (hp [((d, 0), oGdiskDisk v_4.2)] S) 0 ?_ (fun k kp hk => ?_)
              ·cases h
               exact ⟨rfl, Less.refl _⟩
              ·try simp (maxSteps := 4000000) only [go_sem, Prod.mk.injEq, reduceIte, Nat.reduceEqDiff, Nat.reduceAdd, Nat.reduceSub, Nat.reduceMul, Nat.reduceDiv, Nat.reducePow, Nat.reduceLT, Nat.reduceLeDiff, Nat.reduceBEq, Nat.reduceBneDiff, Int.reduceToNat, Int.reduceEq, Int.reduceLE, Int.reduceLT, reduceCtorEq, hn1d, hm1d]
               repeat (with_reducible refine And.intro ?_ ?_; next => first | assumption | trivial | omega | decide | (constructor <;> first | assumption | omega) | (simp [Keep.ok, hp_cons_apply, hset_cons, hn1d, hm1d]; done))
               refine hk _ _ _ ?_
               refine xghost (D := []) ?_ ?_ ?_ ?_
               ·exact (.cons (Sub.of_eq rfl) (.cons (Sub.of_eq rfl) (.cons (Sub.of_eq rfl) (.cons (Sub.of_eq rfl) (.cons (Sub.of_eq rfl) (.cons (Sub.of_eq rfl) .nil))))))
               ·exact HpW.refl
               ·exact (by intro p hp; cases hp)
               ·omega
             ·try simp (maxSteps := 4000000) only [go_sem, Prod.mk.injEq, reduceIte, Nat.reduceEqDiff, Nat.reduceAdd, Nat.reduceSub, Nat.reduceMul, Nat.reduceDiv, Nat.reducePow, Nat.reduceLT, Nat.reduceLeDiff, Nat.reduceBEq, Nat.reduceBneDiff, Int.reduceToNat, Int.reduceEq, Int.reduceLE, Int.reduceLT, reduceCtorEq, hn1d, hm1d]
              repeat (with_reducible refine And.intro ?_ ?_; next => first | assumption | trivial | omega | decide | (constructor <;> first | assumption | omega) | (simp [Keep.ok, hp_cons_apply, hset_cons, hn1d, hm1d]; done))
              have hcall := s_stanchionlaw04_act_ok (n0 := (d, 0)) (hS0 := by simp only [hp_cons_apply, hp_nil_apply, reduceIte, Prod.mk.injEq, Nat.reduceEqDiff, and_true, and_false, true_and, false_and, hn1d, hm1d] <;> rfl) (hp [((d, 0), oGdiskDisk D)] S) _ (v_1.getD (Int.toNat t10) yGlaw04Op.dflt) (h := hv_4)
              refine call1_x hcall rfl ?_ ?_
              ·exact (.cons Sub.refl (.cons Sub.refl .nil))
              clear hcall
              rintro _ SS ⟨rfl, hSS⟩ -
              rw [hSS]
              clear hSS
              try simp (maxSteps := 4000000) only [go_sem, Prod.mk.injEq, reduceIte, Nat.reduceEqDiff, Nat.reduceAdd, Nat.reduceSub, Nat.reduceMul, Nat.reduceDiv, Nat.reducePow, Nat.reduceLT, Nat.reduceLeDiff, Nat.reduceBEq, Nat.reduceBneDiff, Int.reduceToNat, Int.reduceEq, Int.reduceLE, Int.reduceLT, reduceCtorEq, hn1d, hm1d]
              repeat (with_reducible refine And.intro ?_ ?_; next => first | assumption | trivial | omega | decide | (constructor <;> first | assumption | omega) | (simp [Keep.ok, hp_cons_apply, hset_cons, hn1d, hm1d]; done))
              refine hk _ _ _ ?_
              refine xghost (D := []) ?_ ?_ ?_ ?_
              ·exact (.cons (Sub.of_eq rfl) (.cons (Sub.of_eq rfl) (.cons (Sub.of_eq rfl) (.cons (Sub.of_eq rfl) (.cons (Sub.of_eq rfl) (.cons (Sub.of_eq rfl) .nil))))))
              ·exact HpW.refl
              ·exact (by intro p hp; cases hp)
              ·omega
            ·rw [ite_f hc_2] at h
             obtain ⟨hq, hxe⟩ := mr_go h hx1
             clear h hx1
             subst hxe
             have h := hq
             clear hq
             refine LW_exitX (sl' := [(0, eS yGlaw04Op v_1), (1, .lit (.int .i64 o)), (2, eS (lI .u8) A), (3, eS (lI .i64) rx), (9, .ptr (d, 0) 0), (10, .lit (.int .i64 t10)), (37, .lit (.bool (decide (t10 < (v_1.length : Int)))))]) (S' := (hp [((d, 0), oGdiskDisk D)] S)) (c' := 0) ?_ ?_
             ·refine xghost (D := []) ?_ ?_ ?_ ?_
              ·exact (.cons (Sub.of_eq rfl) (.cons (Sub.of_eq rfl) (.cons (Sub.of_eq rfl) (.cons (Sub.of_eq rfl) (.cons (Sub.of_eq rfl) (.cons (Sub.of_eq rfl) (.cons (Sub.of_eq rfl) .nil)))))))
              ·exact HpW.refl
              ·exact (by intro p hp; cases hp)
              ·omega
             ·show LW _ _ _ _ _ _ _ _
              refine LW_seq ?_
              obtain ⟨v_5, hv_5, h⟩ := bd_some h
              refine xseq [(1, .lit (.int .i64 o)), (2, eS (lI .u8) A), (3, eS (lI .i64) rx), (9, .ptr (d, 0) 0), (48, .lit (.bool (v_5.1 != 0)))] (hp [((d, 0), oGdiskDisk v_5.2)] S) 1 ?_ (fun k kp hk => ?_)
              ·refine xcond (v_5.1 != 0) rfl (fun hc_3 => ?_) (fun hc_3 => ?_)
               ·rw [ite_t hc_3] at h
                refine xseq [(8, .lit (.bool false))] (hp [((d, 0), oGdiskDisk v_5.2)] S) 1 ?_ (fun k kp hk => ?_)
                ·refine LW_ret ?_
                 obtain rfl := Option.some.inj h
                 show FPost _ _ _ _ _ _ _
                 exact ⟨_, hp_less (L := []) (D := [((d, 0), oGdiskDisk v_5.2)]) (by intro p hp; simp only [List.mem_cons, List.not_mem_nil, or_false] at hp; rcases hp with rfl <;> first | exact hd _ (Nat.le_refl _)), rfl, rfl⟩
                ·try simp (maxSteps := 4000000) only [go_sem, Prod.mk.injEq, reduceIte, Nat.reduceEqDiff, Nat.reduceAdd, Nat.reduceSub, Nat.reduceMul, Nat.reduceDiv, Nat.reducePow, Nat.reduceLT, Nat.reduceLeDiff, Nat.reduceBEq, Nat.reduceBneDiff, Int.reduceToNat, Int.reduceEq, Int.reduceLE, Int.reduceLT, reduceCtorEq, hn1d, hm1d]
                 repeat (with_reducible refine And.intro ?_ ?_; next => first | assumption | trivial | omega | decide | (constructor <;> first | assumption | omega) | (simp [Keep.ok, hp_cons_apply, hset_cons, hn1d, hm1d]; done))
                 refine hk _ _ _ ?_
                 refine xghost (D := []) ?_ ?_ ?_ ?_
                 ·exact (.cons (Sub.of_eq rfl) .nil)
                 ·exact HpW.refl
                 ·exact (by intro p hp; cases hp)
                 ·omega
               ·rw [ite_f hc_3] at h
                refine LW_skip ?_
                show LW _ _ _ _ _ _ _ _
                obtain ⟨v_6, hv_6, h⟩ := bd_some h
                refine xseq [(1, .lit (.int .i64 o)), (2, eS (lI .u8) A), (3, eS (lI .i64) rx), (9, .ptr (d, 0) 0), (11, eS (lI .u8) v_6.1), (12, .lit (.int .i64 v_6.2))] (hp [((d, 0), oGdiskDisk v_5.2)] S) 1 ?_ (fun k kp hk => ?_)
                ·refine LW_seq ?_
                 refine xseq [(1, .lit (.int .i64 o)), (2, eS (lI .u8) A), (3, eS (lI .i64) rx), (9, .ptr (d, 0) 0), (11, eS (lI .u8) v_6.1), (12, .lit (.int .i64 v_6.2)), (56, .lit (.bool (v_6.2 != 0)))] (hp [((d, 0), oGdiskDisk v_5.2)] S) 1 ?_ (fun k kp hk => ?_)
                 ·refine xcond (v_6.2 != 0) rfl (fun hc_4 => ?_) (fun hc_4 => ?_)
                  ·rw [ite_t hc_4] at h
                   refine xseq [(8, .lit (.bool (((v_6.2 == 41) && (o != 0)) && (o != 1))))] (hp [((d, 0), oGdiskDisk v_5.2)] S) 1 ?_ (fun k kp hk => ?_)
                   ·refine LW_ret ?_
                    obtain rfl := Option.some.inj h
                    show FPost _ _ _ _ _ _ _
                    exact ⟨_, hp_less (L := []) (D := [((d, 0), oGdiskDisk v_5.2)]) (by intro p hp; simp only [List.mem_cons, List.not_mem_nil, or_false] at hp; rcases hp with rfl <;> first | exact hd _ (Nat.le_refl _)), rfl, rfl⟩
                   ·try simp (maxSteps := 4000000) only [go_sem, Prod.mk.injEq, reduceIte, Nat.reduceEqDiff, Nat.reduceAdd, Nat.reduceSub, Nat.reduceMul, Nat.reduceDiv, Nat.reducePow, Nat.reduceLT, Nat.reduceLeDiff, Nat.reduceBEq, Nat.reduceBneDiff, Int.reduceToNat, Int.reduceEq, Int.reduceLE, Int.reduceLT, reduceCtorEq, hn1d, hm1d]
                    repeat (with_reducible refine And.intro ?_ ?_; next => first | assumption | trivial | omega | decide | (constructor <;> first | assumption | omega) | (simp [Keep.ok, hp_cons_apply, hset_cons, hn1d, hm1d]; done))
                    refine xo_guard (v_6.2 == 41) rfl (fun hc_5 => ?_) (fun hc_5 => ?_)
                    ·try simp (maxSteps := 4000000) only [go_sem, Prod.mk.injEq, reduceIte, Nat.reduceEqDiff, Nat.reduceAdd, Nat.reduceSub, Nat.reduceMul, Nat.reduceDiv, Nat.reducePow, Nat.reduceLT, Nat.reduceLeDiff, Nat.reduceBEq, Nat.reduceBneDiff, Int.reduceToNat, Int.reduceEq, Int.reduceLE, Int.reduceLT, reduceCtorEq, hn1d, hm1d, hc_5]
                     repeat (with_reducible refine And.intro ?_ ?_; next => first | assumption | trivial | omega | decide | (constructor <;> first | assumption | omega) | (simp [Keep.ok, hp_cons_apply, hset_cons, hn1d, hm1d]; done))
                     refine xo_guard (o != 0) rfl (fun hc_6 => ?_) (fun hc_6 => ?_)
                     ·try simp (maxSteps := 4000000) only [go_sem, Prod.mk.injEq, reduceIte, Nat.reduceEqDiff, Nat.reduceAdd, Nat.reduceSub, Nat.reduceMul, Nat.reduceDiv, Nat.reducePow, Nat.reduceLT, Nat.reduceLeDiff, Nat.reduceBEq, Nat.reduceBneDiff, Int.reduceToNat, Int.reduceEq, Int.reduceLE, Int.reduceLT, reduceCtorEq, hn1d, hm1d, hc_5, hc_6]
                      repeat (with_reducible refine And.intro ?_ ?_; next => first | assumption | trivial | omega | decide | (constructor <;> first | assumption | omega) | (simp [Keep.ok, hp_cons_apply, hset_cons, hn1d, hm1d]; done))
                      refine hk _ _ _ ?_
                      refine xghost (D := []) ?_ ?_ ?_ ?_
                      ·exact (.cons (Sub.of_eq (by first | rfl | (simp only [sget_cons, reduceIte, Nat.reduceEqDiff, Bool.and_true, Bool.true_and, Bool.and_false, Bool.false_and, Bool.or_true, Bool.true_or, Bool.or_false, Bool.false_or, Bool.not_true, Bool.not_false, Bool.not_not, hc_5, hc_6]; done))) .nil)
                      ·exact HpW.refl
                      ·exact (by intro p hp; cases hp)
                      ·omega
                     ·try simp (maxSteps := 4000000) only [go_sem, Prod.mk.injEq, reduceIte, Nat.reduceEqDiff, Nat.reduceAdd, Nat.reduceSub, Nat.reduceMul, Nat.reduceDiv, Nat.reducePow, Nat.reduceLT, Nat.reduceLeDiff, Nat.reduceBEq, Nat.reduceBneDiff, Int.reduceToNat, Int.reduceEq, Int.reduceLE, Int.reduceLT, reduceCtorEq, hn1d, hm1d, hc_5, hc_6]
                      repeat (with_reducible refine And.intro ?_ ?_; next => first | assumption | trivial | omega | decide | (constructor <;> first | assumption | omega) | (simp [Keep.ok, hp_cons_apply, hset_cons, hn1d, hm1d]; done))
                      refine hk _ _ _ ?_
                      refine xghost (D := []) ?_ ?_ ?_ ?_
                      ·exact (.cons (Sub.of_eq (by first | rfl | (simp only [sget_cons, reduceIte, Nat.reduceEqDiff, Bool.and_true, Bool.true_and, Bool.and_false, Bool.false_and, Bool.or_true, Bool.true_or, Bool.or_false, Bool.false_or, Bool.not_true, Bool.not_false, Bool.not_not, hc_5, hc_6]; done))) .nil)
                      ·exact HpW.refl
                      ·exact (by intro p hp; cases hp)
                      ·omega
                    ·try simp (maxSteps := 4000000) only [go_sem, Prod.mk.injEq, reduceIte, Nat.reduceEqDiff, Nat.reduceAdd, Nat.reduceSub, Nat.reduceMul, Nat.reduceDiv, Nat.reducePow, Nat.reduceLT, Nat.reduceLeDiff, Nat.reduceBEq, Nat.reduceBneDiff, Int.reduceToNat, Int.reduceEq, Int.reduceLE, Int.reduceLT, reduceCtorEq, hn1d, hm1d, hc_5]
                     repeat (with_reducible refine And.intro ?_ ?_; next => first | assumption | trivial | omega | decide | (constructor <;> first | assumption | omega) | (simp [Keep.ok, hp_cons_apply, hset_cons, hn1d, hm1d]; done))
                     refine hk _ _ _ ?_
                     refine xghost (D := []) ?_ ?_ ?_ ?_
                     ·exact (.cons (Sub.of_eq (by first | rfl | (simp only [sget_cons, reduceIte, Nat.reduceEqDiff, Bool.and_true, Bool.true_and, Bool.and_false, Bool.false_and, Bool.or_true, Bool.true_or, Bool.or_false, Bool.false_or, Bool.not_true, Bool.not_false, Bool.not_not, hc_5]; done))) .nil)
                     ·exact HpW.refl
                     ·exact (by intro p hp; cases hp)
                     ·omega
                  ·rw [ite_f hc_4] at h
                   refine LW_skip ?_
                   show LW _ _ _ _ _ _ _ _
                   refine LW_seq ?_
                   obtain ⟨v_7, hv_7, h⟩ := bd_some h
                   obtain ⟨v_8, hv_8, h⟩ := bd_some h
                   refine xseq [(1, .lit (.int .i64 o)), (2, eS (lI .u8) A), (3, eS (lI .i64) rx), (9, .ptr (d, 0) 0), (11, eS (lI .u8) v_6.1), (73, .lit (.bool (v_8.1 != 0)))] (hp [((d, 0), oGdiskDisk v_8.2)] S) 1 ?_ (fun k kp hk => ?_)
                   ·refine xcond (v_8.1 != 0) rfl (fun hc_7 => ?_) (fun hc_7 => ?_)
                    ·rw [ite_t hc_7] at h
                     refine xseq [(8, .lit (.bool false))] (hp [((d, 0), oGdiskDisk v_8.2)] S) 1 ?_ (fun k kp hk => ?_)
                     ·refine LW_ret ?_
                      obtain rfl := Option.some.inj h
                      show FPost _ _ _ _ _ _ _
                      exact ⟨_, hp_less (L := []) (D := [((d, 0), oGdiskDisk v_8.2)]) (by intro p hp; simp only [List.mem_cons, List.not_mem_nil, or_false] at hp; rcases hp with rfl <;> first | exact hd _ (Nat.le_refl _)), rfl, rfl⟩
                     ·try simp (maxSteps := 4000000) only [go_sem, Prod.mk.injEq, reduceIte, Nat.reduceEqDiff, Nat.reduceAdd, Nat.reduceSub, Nat.reduceMul, Nat.reduceDiv, Nat.reducePow, Nat.reduceLT, Nat.reduceLeDiff, Nat.reduceBEq, Nat.reduceBneDiff, Int.reduceToNat, Int.reduceEq, Int.reduceLE, Int.reduceLT, reduceCtorEq, hn1d, hm1d]
                      repeat (with_reducible refine And.intro ?_ ?_; next => first | assumption | trivial | omega | decide | (constructor <;> first | assumption | omega) | (simp [Keep.ok, hp_cons_apply, hset_cons, hn1d, hm1d]; done))
                      refine hk _ _ _ ?_
                      refine xghost (D := []) ?_ ?_ ?_ ?_
                      ·exact (.cons (Sub.of_eq rfl) .nil)
                      ·exact HpW.refl
                      ·exact (by intro p hp; cases hp)
                      ·omega
                    ·rw [ite_f hc_7] at h
                     refine LW_skip ?_
                     show LW _ _ _ _ _ _ _ _
                     obtain ⟨v_9, hv_9, h⟩ := bd_some h
                     obtain ⟨v_10, hv_10, h⟩ := bd_some h
                     refine xseq [(1, .lit (.int .i64 o)), (2, eS (lI .u8) A), (9, .ptr (d, 0) 0), (11, eS (lI .u8) v_6.1), (13, .ptr (d, 1) 0)] (hp [((d, 0), oGdiskDisk v_8.2), ((d, 1), oGdiskDisk v_10)] S) 2 ?_ (fun k kp hk => ?_)
                     ·refine LW_seq ?_
                      refine xseq [(1, .lit (.int .i64 o)), (2, eS (lI .u8) A), (9, .ptr (d, 0) 0), (11, eS (lI .u8) v_6.1), (13, .ptr (d, 1) 0), (79, .lit (.bool false))] (hp [((d, 0), oGdiskDisk v_8.2), ((d, 1), oGdiskDisk v_10)] S) 2 ?_ (fun k kp hk => ?_)
                      ·refine xcond false rfl (fun h0 => by cases h0) (fun _ => ?_)
                       refine LW_skip ?_
                       show LW _ _ _ _ _ _ _ _
                       obtain ⟨v_11, hv_11, h⟩ := bd_some h
                       refine xseq [(1, .lit (.int .i64 o)), (2, eS (lI .u8) A), (9, .ptr (d, 0) 0), (11, eS (lI .u8) v_6.1), (12, .lit (.int .i64 v_11.2)), (13, .ptr (d, 1) 0), (14, eS (lI .u8) v_11.1)] (hp [((d, 0), oGdiskDisk v_8.2), ((d, 1), oGdiskDisk v_10)] S) 2 ?_ (fun k kp hk => ?_)
                       ·refine LW_seq ?_
                        obtain ⟨hg_1, h⟩ := gd_some h
                        obtain ⟨v_12, hv_12, h⟩ := bd_some h
                        obtain ⟨hg_2, h⟩ := gd_some h
                        obtain ⟨hg_3, h⟩ := gd_some h
                        obtain ⟨v_13, hv_13, h⟩ := bd_some h
                        refine xseqd [(1, .lit (.int .i64 o)), (2, eS (lI .u8) A), (9, .ptr (d, 0) 0), (11, eS (lI .u8) v_6.1), (13, .ptr (d, 1) 0), (14, eS (lI .u8) v_11.1), (128, .lit (.bool (((((v_11.2 != 0) || (decide ((v_11.1.length : Int) < (v_6.1.length : Int)))) || (decide ((IntKind.i64.wrap ((v_6.1.length : Int) + (A.length : Int))) < (v_11.1.length : Int)))) || (!v_12)) || (!v_13))))] (hp [((d, 0), oGdiskDisk v_8.2), ((d, 1), oGdiskDisk v_10)] S) 2 ?_ (fun k kp hk => ?_)
                        ·refine xcond (((((v_11.2 != 0) || (decide ((v_11.1.length : Int) < (v_6.1.length : Int)))) || (decide ((IntKind.i64.wrap ((v_6.1.length : Int) + (A.length : Int))) < (v_11.1.length : Int)))) || (!v_12)) || (!v_13)) rfl (fun hc_8 => ?_) (fun hc_8 => ?_)
                         ·rw [ite_t hc_8] at h
                          refine xseq [(8, .lit (.bool false))] (hp [((d, 0), oGdiskDisk v_8.2), ((d, 1), oGdiskDisk v_10)] S) 2 ?_ (fun k kp hk => ?_)
                          ·refine LW_ret ?_
                           obtain rfl := Option.some.inj h
                           show FPost _ _ _ _ _ _ _
                           exact ⟨_, hp_less (L := []) (D := [((d, 0), oGdiskDisk v_8.2), ((d, 1), oGdiskDisk v_10)]) (by intro p hp; simp only [List.mem_cons, List.not_mem_nil, or_false] at hp; rcases hp with rfl | rfl <;> first | exact hd _ (Nat.le_refl _)), rfl, rfl⟩
                          ·try simp (maxSteps := 4000000) only [go_sem, Prod.mk.injEq, reduceIte, Nat.reduceEqDiff, Nat.reduceAdd, Nat.reduceSub, Nat.reduceMul, Nat.reduceDiv, Nat.reducePow, Nat.reduceLT, Nat.reduceLeDiff, Nat.reduceBEq, Nat.reduceBneDiff, Int.reduceToNat, Int.reduceEq, Int.reduceLE, Int.reduceLT, reduceCtorEq, hn1d, hm1d]
                           repeat (with_reducible refine And.intro ?_ ?_; next => first | assumption | trivial | omega | decide | (constructor <;> first | assumption | omega) | (simp [Keep.ok, hp_cons_apply, hset_cons, hn1d, hm1d]; done))
                           refine hk _ _ _ ?_
                           refine xghost (D := []) ?_ ?_ ?_ ?_
                           ·exact (.cons (Sub.of_eq rfl) .nil)
                           ·exact HpW.refl
                           ·exact (by intro p hp; cases hp)
                           ·omega
                         ·rw [ite_f hc_8] at h
                          refine LW_skip ?_
                          show LW _ _ _ _ _ _ _ _
                          obtain ⟨v_14, hv_14, h⟩ := bd_some h
                          refine xseq [(1, .lit (.int .i64 o)), (2, eS (lI .u8) A), (9, .ptr (d, 0) 0), (11, eS (lI .u8) v_6.1), (14, eS (lI .u8) v_11.1), (15, .ptr (d, 2) 0)] (hp [((d, 0), oGdiskDisk v_8.2), ((d, 1), oGdiskDisk v_10), ((d, 2), oGdiskDisk v_14)] S) 3 ?_ (fun k kp hk => ?_)
                          ·refine LW_seq ?_
                           refine xseq [(1, .lit (.int .i64 o)), (2, eS (lI .u8) A), (9, .ptr (d, 0) 0), (11, eS (lI .u8) v_6.1), (14, eS (lI .u8) v_11.1), (15, .ptr (d, 2) 0), (132, .lit (.bool false))] (hp [((d, 0), oGdiskDisk v_8.2), ((d, 1), oGdiskDisk v_10), ((d, 2), oGdiskDisk v_14)] S) 3 ?_ (fun k kp hk => ?_)
                           ·refine xcond false rfl (fun h0 => by cases h0) (fun _ => ?_)
                            refine LW_skip ?_
                            show LW _ _ _ _ _ _ _ _
                            obtain ⟨v_15, hv_15, h⟩ := bd_some h
                            refine xseq [(1, .lit (.int .i64 o)), (2, eS (lI .u8) A), (9, .ptr (d, 0) 0), (11, eS (lI .u8) v_6.1), (14, eS (lI .u8) v_11.1), (16, eS (lI .u8) v_15.1)] (hp [((d, 0), oGdiskDisk v_8.2), ((d, 1), oGdiskDisk v_10), ((d, 2), oGdiskDisk v_14)] S) 3 ?_ (fun k kp hk => ?_)
                            ·obtain ⟨v_16, hv_16, h⟩ := bd_some h
                             refine xseq [(2, eS (lI .u8) A), (11, eS (lI .u8) v_6.1), (14, eS (lI .u8) v_11.1), (16, eS (lI .u8) v_15.1), (18, eS (lI .u8) v_16.1)] (hp [((d, 0), oGdiskDisk v_8.2), ((d, 1), oGdiskDisk v_10), ((d, 2), oGdiskDisk v_14)] S) 3 ?_ (fun k kp hk => ?_)
                             ·obtain ⟨v_17, hv_17, h⟩ := bd_some h
                              refine xseq [(8, .lit (.bool (v_17 && ((v_16.1.length : Int) == (IntKind.i64.wrap ((v_6.1.length : Int) + (A.length : Int)))))))] (hp [((d, 0), oGdiskDisk v_8.2), ((d, 1), oGdiskDisk v_10), ((d, 2), oGdiskDisk v_14)] S) 3 ?_ (fun k kp hk => ?_)
                              ·refine LW_ret ?_
                               obtain rfl := Option.some.inj h
                               show FPost _ _ _ _ _ _ _
                               exact ⟨_, hp_less (L := []) (D := [((d, 0), oGdiskDisk v_8.2), ((d, 1), oGdiskDisk v_10), ((d, 2), oGdiskDisk v_14)]) (by intro p hp; simp only [List.mem_cons, List.not_mem_nil, or_false] at hp; rcases hp with rfl | rfl | rfl <;> first | exact hd _ (Nat.le_refl _)), rfl, rfl⟩
                              ·try simp (maxSteps := 4000000) only [go_sem, Prod.mk.injEq, reduceIte, Nat.reduceEqDiff, Nat.reduceAdd, Nat.reduceSub, Nat.reduceMul, Nat.reduceDiv, Nat.reducePow, Nat.reduceLT, Nat.reduceLeDiff, Nat.reduceBEq, Nat.reduceBneDiff, Int.reduceToNat, Int.reduceEq, Int.reduceLE, Int.reduceLT, reduceCtorEq, hn1d, hm1d]
                               repeat (with_reducible refine And.intro ?_ ?_; next => first | assumption | trivial | omega | decide | (constructor <;> first | assumption | omega) | (simp [Keep.ok, hp_cons_apply, hset_cons, hn1d, hm1d]; done))
                               have hcall := s_stanchionref00_SameBytes_ok (hp [((d, 0), oGdiskDisk v_8.2), ((d, 1), oGdiskDisk v_10), ((d, 2), oGdiskDisk v_14)] S) v_15.1 v_11.1 hv_17
                               refine call1_x hcall rfl ?_ ?_
                               ·exact (.cons Sub.refl (.cons Sub.refl .nil))
                               clear hcall
                               rintro _ SS ⟨rfl, hSS⟩ -
                               rw [hSS]
                               clear hSS
                               try simp (maxSteps := 4000000) only [go_sem, Prod.mk.injEq, reduceIte, Nat.reduceEqDiff, Nat.reduceAdd, Nat.reduceSub, Nat.reduceMul, Nat.reduceDiv, Nat.reducePow, Nat.reduceLT, Nat.reduceLeDiff, Nat.reduceBEq, Nat.reduceBneDiff, Int.reduceToNat, Int.reduceEq, Int.reduceLE, Int.reduceLT, reduceCtorEq, hn1d, hm1d]
                               repeat (with_reducible refine And.intro ?_ ?_; next => first | assumption | trivial | omega | decide | (constructor <;> first | assumption | omega) | (simp [Keep.ok, hp_cons_apply, hset_cons, hn1d, hm1d]; done))
                               refine xo_guard v_17 rfl (fun hc_9 => ?_) (fun hc_9 => ?_)
                               ·try simp (maxSteps := 4000000) only [go_sem, Prod.mk.injEq, reduceIte, Nat.reduceEqDiff, Nat.reduceAdd, Nat.reduceSub, Nat.reduceMul, Nat.reduceDiv, Nat.reducePow, Nat.reduceLT, Nat.reduceLeDiff, Nat.reduceBEq, Nat.reduceBneDiff, Int.reduceToNat, Int.reduceEq, Int.reduceLE, Int.reduceLT, reduceCtorEq, hn1d, hm1d, hc_9]
                                repeat (with_reducible refine And.intro ?_ ?_; next => first | assumption | trivial | omega | decide | (constructor <;> first | assumption | omega) | (simp [Keep.ok, hp_cons_apply, hset_cons, hn1d, hm1d]; done))
                                refine hk _ _ _ ?_
                                refine xghost (D := []) ?_ ?_ ?_ ?_
                                ·exact (.cons (Sub.of_eq (by first | rfl | (simp only [sget_cons, reduceIte, Nat.reduceEqDiff, Bool.and_true, Bool.true_and, Bool.and_false, Bool.false_and, Bool.or_true, Bool.true_or, Bool.or_false, Bool.false_or, Bool.not_true, Bool.not_false, Bool.not_not, hc_9]; done))) .nil)
                                ·exact HpW.refl
                                ·exact (by intro p hp; cases hp)
                                ·omega
                               ·try simp (maxSteps := 4000000) only [go_sem, Prod.mk.injEq, reduceIte, Nat.reduceEqDiff, Nat.reduceAdd, Nat.reduceSub, Nat.reduceMul, Nat.reduceDiv, Nat.reducePow, Nat.reduceLT, Nat.reduceLeDiff, Nat.reduceBEq, Nat.reduceBneDiff, Int.reduceToNat, Int.reduceEq, Int.reduceLE, Int.reduceLT, reduceCtorEq, hn1d, hm1d, hc_9]
                                repeat (with_reducible refine And.intro ?_ ?_; next => first | assumption | trivial | omega | decide | (constructor <;> first | assumption | omega) | (simp [Keep.ok, hp_cons_apply, hset_cons, hn1d, hm1d]; done))
                                refine hk _ _ _ ?_
                                refine xghost (D := []) ?_ ?_ ?_ ?_
                                ·exact (.cons (Sub.of_eq (by first | rfl | (simp only [sget_cons, reduceIte, Nat.reduceEqDiff, Bool.and_true, Bool.true_and, Bool.and_false, Bool.false_and, Bool.or_true, Bool.true_or, Bool.or_false, Bool.false_or, Bool.not_true, Bool.not_false, Bool.not_not, hc_9]; done))) .nil)
                                ·exact HpW.refl
                                ·exact (by intro p hp; cases hp)
                                ·omega
                             ·try simp (maxSteps := 4000000) only [go_sem, Prod.mk.injEq, reduceIte, Nat.reduceEqDiff, Nat.reduceAdd, Nat.reduceSub, Nat.reduceMul, Nat.reduceDiv, Nat.reducePow, Nat.reduceLT, Nat.reduceLeDiff, Nat.reduceBEq, Nat.reduceBneDiff, Int.reduceToNat, Int.reduceEq, Int.reduceLE, Int.reduceLT, reduceCtorEq, hn1d, hm1d]
                              repeat (with_reducible refine And.intro ?_ ?_; next => first | assumption | trivial | omega | decide | (constructor <;> first | assumption | omega) | (simp [Keep.ok, hp_cons_apply, hset_cons, hn1d, hm1d]; done))
                              have hcall := s_disk_Disk_Read_ok (n0 := (d, 0)) (hS0 := by simp only [hp_cons_apply, hp_nil_apply, reduceIte, Prod.mk.injEq, Nat.reduceEqDiff, and_true, and_false, true_and, false_and, hn1d, hm1d] <;> rfl) (hp [((d, 0), oGdiskDisk v_8.2), ((d, 1), oGdiskDisk v_10), ((d, 2), oGdiskDisk v_14)] S) _ o (h := hv_16)
                              refine call1_x hcall rfl ?_ ?_
                              ·exact (.cons Sub.refl (.cons Sub.refl .nil))
                              clear hcall
                              rintro _ SS ⟨rfl, hSS⟩ -
                              rw [hSS]
                              clear hSS
                              try simp (maxSteps := 4000000) only [go_sem, Prod.mk.injEq, reduceIte, Nat.reduceEqDiff, Nat.reduceAdd, Nat.reduceSub, Nat.reduceMul, Nat.reduceDiv, Nat.reducePow, Nat.reduceLT, Nat.reduceLeDiff, Nat.reduceBEq, Nat.reduceBneDiff, Int.reduceToNat, Int.reduceEq, Int.reduceLE, Int.reduceLT, reduceCtorEq, hn1d, hm1d]
                              repeat (with_reducible refine And.intro ?_ ?_; next => first | assumption | trivial | omega | decide | (constructor <;> first | assumption | omega) | (simp [Keep.ok, hp_cons_apply, hset_cons, hn1d, hm1d]; done))
                              refine hk _ _ _ ?_
                              refine xghost (D := []) ?_ ?_ ?_ ?_
                              ·exact (.cons (Sub.of_eq rfl) (.cons (Sub.of_eq rfl) (.cons (Sub.of_eq rfl) (.cons (Sub.of_eq rfl) (.cons (Sub.of_eq rfl) .nil)))))
                              ·exact HpW.refl
                              ·exact (by intro p hp; cases hp)
                              ·omega
                            ·try simp (maxSteps := 4000000) only [go_sem, Prod.mk.injEq, reduceIte, Nat.reduceEqDiff, Nat.reduceAdd, Nat.reduceSub, Nat.reduceMul, Nat.reduceDiv, Nat.reducePow, Nat.reduceLT, Nat.reduceLeDiff, Nat.reduceBEq, Nat.reduceBneDiff, Int.reduceToNat, Int.reduceEq, Int.reduceLE, Int.reduceLT, reduceCtorEq, hn1d, hm1d]
                             repeat (with_reducible refine And.intro ?_ ?_; next => first | assumption | trivial | omega | decide | (constructor <;> first | assumption | omega) | (simp [Keep.ok, hp_cons_apply, hset_cons, hn1d, hm1d]; done))
                             have hcall := s_disk_Disk_Read_ok (n0 := (d, 2)) (hS0 := by simp only [hp_cons_apply, hp_nil_apply, reduceIte, Prod.mk.injEq, Nat.reduceEqDiff, and_true, and_false, true_and, false_and, hn1d, hm1d] <;> rfl) (hp [((d, 0), oGdiskDisk v_8.2), ((d, 1), oGdiskDisk v_10), ((d, 2), oGdiskDisk v_14)] S) _ o (h := hv_15)
                             refine call1_x hcall rfl ?_ ?_
                             ·exact (.cons Sub.refl (.cons Sub.refl .nil))
                             clear hcall
                             rintro _ SS ⟨rfl, hSS⟩ -
                             rw [hSS]
                             clear hSS
                             try simp (maxSteps := 4000000) only [go_sem, Prod.mk.injEq, reduceIte, Nat.reduceEqDiff, Nat.reduceAdd, Nat.reduceSub, Nat.reduceMul, Nat.reduceDiv, Nat.reducePow, Nat.reduceLT, Nat.reduceLeDiff, Nat.reduceBEq, Nat.reduceBneDiff, Int.reduceToNat, Int.reduceEq, Int.reduceLE, Int.reduceLT, reduceCtorEq, hn1d, hm1d]
                             repeat (with_reducible refine And.intro ?_ ?_; next => first | assumption | trivial | omega | decide | (constructor <;> first | assumption | omega) | (simp [Keep.ok, hp_cons_apply, hset_cons, hn1d, hm1d]; done))
                             refine hk _ _ _ ?_
                             refine xghost (D := []) ?_ ?_ ?_ ?_
                             ·exact (.cons (Sub.of_eq rfl) (.cons (Sub.of_eq rfl) (.cons (Sub.of_eq rfl) (.cons (Sub.of_eq rfl) (.cons (Sub.of_eq rfl) (.cons (Sub.of_eq rfl) .nil))))))
                             ·exact HpW.refl
                             ·exact (by intro p hp; cases hp)
                             ·omega
                           ·try simp (maxSteps := 4000000) only [go_sem, Prod.mk.injEq, reduceIte, Nat.reduceEqDiff, Nat.reduceAdd, Nat.reduceSub, Nat.reduceMul, Nat.reduceDiv, Nat.reducePow, Nat.reduceLT, Nat.reduceLeDiff, Nat.reduceBEq, Nat.reduceBneDiff, Int.reduceToNat, Int.reduceEq, Int.reduceLE, Int.reduceLT, reduceCtorEq, hn1d, hm1d]
                            repeat (with_reducible refine And.intro ?_ ?_; next => first | assumption | trivial | omega | decide | (constructor <;> first | assumption | omega) | (simp [Keep.ok, hp_cons_apply, hset_cons, hn1d, hm1d]; done))
                            refine hk _ _ _ ?_
                            refine xghost (D := []) ?_ ?_ ?_ ?_
                            ·exact (.cons (Sub.of_eq rfl) (.cons (Sub.of_eq rfl) (.cons (Sub.of_eq rfl) (.cons (Sub.of_eq rfl) (.cons (Sub.of_eq rfl) (.cons (Sub.of_eq rfl) (.cons (Sub.of_eq rfl) .nil)))))))
                            ·exact HpW.refl
                            ·exact (by intro p hp; cases hp)
                            ·omega
                          ·try simp (maxSteps := 4000000) only [go_sem, Prod.mk.injEq, reduceIte, Nat.reduceEqDiff, Nat.reduceAdd, Nat.reduceSub, Nat.reduceMul, Nat.reduceDiv, Nat.reducePow, Nat.reduceLT, Nat.reduceLeDiff, Nat.reduceBEq, Nat.reduceBneDiff, Int.reduceToNat, Int.reduceEq, Int.reduceLE, Int.reduceLT, reduceCtorEq, hn1d, hm1d]
                           repeat (with_reducible refine And.intro ?_ ?_; next => first | assumption | trivial | omega | decide | (constructor <;> first | assumption | omega) | (simp [Keep.ok, hp_cons_apply, hset_cons, hn1d, hm1d]; done))
                           have hcall := s_disk_Disk_Crash_ok (n0 := (d, 1)) (hS0 := by simp only [hp_cons_apply, hp_nil_apply, reduceIte, Prod.mk.injEq, Nat.reduceEqDiff, and_true, and_false, true_and, false_and, hn1d, hm1d] <;> rfl) (hp [((d, 0), oGdiskDisk v_8.2), ((d, 1), oGdiskDisk v_10)] S) _ [] (-1) (h := hv_14)
                           refine call1_new hcall rfl rfl ?_ ?_
                           ·exact (.cons Sub.refl (.cons Sub.nil (.cons Sub.refl .nil)))
                           clear hcall
                           try simp (maxSteps := 4000000) only [go_sem, Prod.mk.injEq, reduceIte, Nat.reduceEqDiff, Nat.reduceAdd, Nat.reduceSub, Nat.reduceMul, Nat.reduceDiv, Nat.reducePow, Nat.reduceLT, Nat.reduceLeDiff, Nat.reduceBEq, Nat.reduceBneDiff, Int.reduceToNat, Int.reduceEq, Int.reduceLE, Int.reduceLT, reduceCtorEq, hn1d, hm1d]
                           repeat (with_reducible refine And.intro ?_ ?_; next => first | assumption | trivial | omega | decide | (constructor <;> first | assumption | omega) | (simp [Keep.ok, hp_cons_apply, hset_cons, hn1d, hm1d]; done))
                           refine hk _ _ _ ?_
                           refine xghost (D := []) ?_ ?_ ?_ ?_
                           ·exact (.cons (Sub.of_eq rfl) (.cons (Sub.of_eq rfl) (.cons (Sub.of_eq rfl) (.cons (Sub.of_eq rfl) (.cons (Sub.of_eq rfl) (.cons (Sub.of_eq rfl) .nil))))))
                           ·exact HpW.refl
                           ·exact (by intro p hp; cases hp)
                           ·omega
                        ·try simp (maxSteps := 4000000) only [go_sem, Prod.mk.injEq, reduceIte, Nat.reduceEqDiff, Nat.reduceAdd, Nat.reduceSub, Nat.reduceMul, Nat.reduceDiv, Nat.reducePow, Nat.reduceLT, Nat.reduceLeDiff, Nat.reduceBEq, Nat.reduceBneDiff, Int.reduceToNat, Int.reduceEq, Int.reduceLE, Int.reduceLT, reduceCtorEq, hn1d, hm1d]
                         repeat (with_reducible refine And.intro ?_ ?_; next => first | assumption | trivial | omega | decide | (constructor <;> first | assumption | omega) | (simp [Keep.ok, hp_cons_apply, hset_cons, hn1d, hm1d]; done))
                         refine xd_guard (v_11.2 != 0) rfl (fun hc_10 => ?_) (fun hc_10 => ?_)
                         ·try simp (maxSteps := 4000000) only [go_sem, Prod.mk.injEq, reduceIte, Nat.reduceEqDiff, Nat.reduceAdd, Nat.reduceSub, Nat.reduceMul, Nat.reduceDiv, Nat.reducePow, Nat.reduceLT, Nat.reduceLeDiff, Nat.reduceBEq, Nat.reduceBneDiff, Int.reduceToNat, Int.reduceEq, Int.reduceLE, Int.reduceLT, reduceCtorEq, hn1d, hm1d, hc_10]
                          repeat (with_reducible refine And.intro ?_ ?_; next => first | assumption | trivial | omega | decide | (constructor <;> first | assumption | omega) | (simp [Keep.ok, hp_cons_apply, hset_cons, hn1d, hm1d]; done))
                          refine xd_guard (decide ((v_11.1.length : Int) < (v_6.1.length : Int))) rfl (fun hc_11 => ?_) (fun hc_11 => ?_)
                          ·try simp (maxSteps := 4000000) only [go_sem, Prod.mk.injEq, reduceIte, Nat.reduceEqDiff, Nat.reduceAdd, Nat.reduceSub, Nat.reduceMul, Nat.reduceDiv, Nat.reducePow, Nat.reduceLT, Nat.reduceLeDiff, Nat.reduceBEq, Nat.reduceBneDiff, Int.reduceToNat, Int.reduceEq, Int.reduceLE, Int.reduceLT, reduceCtorEq, hn1d, hm1d, hc_10, hc_11]
                           repeat (with_reducible refine And.intro ?_ ?_; next => first | assumption | trivial | omega | decide | (constructor <;> first | assumption | omega) | (simp [Keep.ok, hp_cons_apply, hset_cons, hn1d, hm1d]; done))
                           refine xd_guard (decide ((IntKind.i64.wrap ((v_6.1.length : Int) + (A.length : Int))) < (v_11.1.length : Int))) rfl (fun hc_12 => ?_) (fun hc_12 => ?_)
                           ·have hg_1 := hg_1 (by simp only [Bool.and_true, Bool.true_and, Bool.and_false, Bool.false_and, Bool.or_true, Bool.true_or, Bool.or_false, Bool.false_or, Bool.not_true, Bool.not_false, Bool.not_not, hc_10, hc_11, hc_12])
                            try simp (maxSteps := 4000000) only [go_sem, Prod.mk.injEq, reduceIte, Nat.reduceEqDiff, Nat.reduceAdd, Nat.reduceSub, Nat.reduceMul, Nat.reduceDiv, Nat.reducePow, Nat.reduceLT, Nat.reduceLeDiff, Nat.reduceBEq, Nat.reduceBneDiff, Int.reduceToNat, Int.reduceEq, Int.reduceLE, Int.reduceLT, reduceCtorEq, hn1d, hm1d, hc_10, hc_11, hc_12]
                            repeat (with_reducible refine And.intro ?_ ?_; next => first | assumption | trivial | omega | decide | (constructor <;> first | assumption | omega) | (simp [Keep.ok, hp_cons_apply, hset_cons, hn1d, hm1d]; done))
                            rw [if_pos (by simp only [Bool.and_true, Bool.true_and, Bool.and_false, Bool.false_and, Bool.or_true, Bool.true_or, Bool.or_false, Bool.false_or, Bool.not_true, Bool.not_false, Bool.not_not, hc_10, hc_11, hc_12])] at hv_12
                            have hcall := s_stanchionref00_SameBytes_ok (hp [((d, 0), oGdiskDisk v_8.2), ((d, 1), oGdiskDisk v_10)] S) ((v_11.1.take (Int.toNat (v_6.1.length : Int))).drop (Int.toNat 0)) v_6.1 hv_12
                            refine call1_x hcall rfl ?_ ?_
                            ·exact (.cons Sub.refl (.cons Sub.refl .nil))
                            clear hcall
                            rintro _ SS ⟨rfl, hSS⟩ -
                            rw [hSS]
                            clear hSS
                            try simp (maxSteps := 4000000) only [go_sem, Prod.mk.injEq, reduceIte, Nat.reduceEqDiff, Nat.reduceAdd, Nat.reduceSub, Nat.reduceMul, Nat.reduceDiv, Nat.reducePow, Nat.reduceLT, Nat.reduceLeDiff, Nat.reduceBEq, Nat.reduceBneDiff, Int.reduceToNat, Int.reduceEq, Int.reduceLE, Int.reduceLT, reduceCtorEq, hn1d, hm1d, hc_10, hc_11, hc_12]
                            repeat (with_reducible refine And.intro ?_ ?_; next => first | assumption | trivial | omega | decide | (constructor <;> first | assumption | omega) | (simp [Keep.ok, hp_cons_apply, hset_cons, hn1d, hm1d]; done))
                            try simp (maxSteps := 4000000) only [go_sem, Prod.mk.injEq, reduceIte, Nat.reduceEqDiff, Nat.reduceAdd, Nat.reduceSub, Nat.reduceMul, Nat.reduceDiv, Nat.reducePow, Nat.reduceLT, Nat.reduceLeDiff, Nat.reduceBEq, Nat.reduceBneDiff, Int.reduceToNat, Int.reduceEq, Int.reduceLE, Int.reduceLT, reduceCtorEq, hn1d, hm1d, hc_10, hc_11, hc_12]
                            repeat (with_reducible refine And.intro ?_ ?_; next => first | assumption | trivial | omega | decide | (constructor <;> first | assumption | omega) | (simp [Keep.ok, hp_cons_apply, hset_cons, hn1d, hm1d]; done))
                            refine xd_guard (!v_12) rfl (fun hc_13 => ?_) (fun hc_13 => ?_)
                            ·have hc_13 : v_12 = true := by first | (generalize v_12 = q at hc_13 ⊢; revert hc_13; cases q <;> simp; done) | simpa using hc_13
                             have hg_2 := hg_2 (by simp only [Bool.and_true, Bool.true_and, Bool.and_false, Bool.false_and, Bool.or_true, Bool.true_or, Bool.or_false, Bool.false_or, Bool.not_true, Bool.not_false, Bool.not_not, hc_10, hc_11, hc_12, hc_13])
                             have hg_3 := hg_3 (by simp only [Bool.and_true, Bool.true_and, Bool.and_false, Bool.false_and, Bool.or_true, Bool.true_or, Bool.or_false, Bool.false_or, Bool.not_true, Bool.not_false, Bool.not_not, hc_10, hc_11, hc_12, hc_13])
                             try simp (maxSteps := 4000000) only [go_sem, Prod.mk.injEq, reduceIte, Nat.reduceEqDiff, Nat.reduceAdd, Nat.reduceSub, Nat.reduceMul, Nat.reduceDiv, Nat.reducePow, Nat.reduceLT, Nat.reduceLeDiff, Nat.reduceBEq, Nat.reduceBneDiff, Int.reduceToNat, Int.reduceEq, Int.reduceLE, Int.reduceLT, reduceCtorEq, hn1d, hm1d, hc_10, hc_11, hc_12, hc_13]
                             repeat (with_reducible refine And.intro ?_ ?_; next => first | assumption | trivial | omega | decide | (constructor <;> first | assumption | omega) | (simp [Keep.ok, hp_cons_apply, hset_cons, hn1d, hm1d]; done))
                             rw [if_pos (by simp only [Bool.and_true, Bool.true_and, Bool.and_false, Bool.false_and, Bool.or_true, Bool.true_or, Bool.or_false, Bool.false_or, Bool.not_true, Bool.not_false, Bool.not_not, hc_10, hc_11, hc_12, hc_13])] at hv_13
                             have hcall := s_stanchionref00_SameBytes_ok (hp [((d, 0), oGdiskDisk v_8.2), ((d, 1), oGdiskDisk v_10)] S) ((v_11.1.take (Int.toNat (v_11.1.length : Int))).drop (Int.toNat (v_6.1.length : Int))) ((A.take (Int.toNat (IntKind.i64.wrap ((v_11.1.length : Int) - (v_6.1.length : Int))))).drop (Int.toNat 0)) hv_13
                             refine call1_x hcall rfl ?_ ?_
                             ·exact (.cons Sub.refl (.cons Sub.refl .nil))
                             clear hcall
                             rintro _ SS ⟨rfl, hSS⟩ -
                             rw [hSS]
                             clear hSS
                             try simp (maxSteps := 4000000) only [go_sem, Prod.mk.injEq, reduceIte, Nat.reduceEqDiff, Nat.reduceAdd, Nat.reduceSub, Nat.reduceMul, Nat.reduceDiv, Nat.reducePow, Nat.reduceLT, Nat.reduceLeDiff, Nat.reduceBEq, Nat.reduceBneDiff, Int.reduceToNat, Int.reduceEq, Int.reduceLE, Int.reduceLT, reduceCtorEq, hn1d, hm1d, hc_10, hc_11, hc_12, hc_13]
                             repeat (with_reducible refine And.intro ?_ ?_; next => first | assumption | trivial | omega | decide | (constructor <;> first | assumption | omega) | (simp [Keep.ok, hp_cons_apply, hset_cons, hn1d, hm1d]; done))
                             try simp (maxSteps := 4000000) only [go_sem, Prod.mk.injEq, reduceIte, Nat.reduceEqDiff, Nat.reduceAdd, Nat.reduceSub, Nat.reduceMul, Nat.reduceDiv, Nat.reducePow, Nat.reduceLT, Nat.reduceLeDiff, Nat.reduceBEq, Nat.reduceBneDiff, Int.reduceToNat, Int.reduceEq, Int.reduceLE, Int.reduceLT, reduceCtorEq, hn1d, hm1d, hc_10, hc_11, hc_12, hc_13]
                             repeat (with_reducible refine And.intro ?_ ?_; next => first | assumption | trivial | omega | decide | (constructor <;> first | assumption | omega) | (simp [Keep.ok, hp_cons_apply, hset_cons, hn1d, hm1d]; done))
                             refine hk _ _ _ ?_
                             refine xghost (D := []) ?_ ?_ ?_ ?_
                             ·exact (.cons (Sub.of_eq rfl) (.cons (Sub.of_eq rfl) (.cons (Sub.of_eq rfl) (.cons (Sub.of_eq rfl) (.cons (Sub.of_eq rfl) (.cons (Sub.of_eq rfl) (.cons (Sub.of_eq (by first | rfl | (simp only [sget_cons, reduceIte, Nat.reduceEqDiff, Bool.and_true, Bool.true_and, Bool.and_false, Bool.false_and, Bool.or_true, Bool.true_or, Bool.or_false, Bool.false_or, Bool.not_true, Bool.not_false, Bool.not_not, hc_10, hc_11, hc_12, hc_13]; done))) .nil)))))))
                             ·exact HpW.refl
                             ·exact (by intro p hp; cases hp)
                             ·omega
                            ·have hc_13 : v_12 = false := by first | (generalize v_12 = q at hc_13 ⊢; revert hc_13; cases q <;> simp; done) | simpa using hc_13
                             try simp (maxSteps := 4000000) only [go_sem, Prod.mk.injEq, reduceIte, Nat.reduceEqDiff, Nat.reduceAdd, Nat.reduceSub, Nat.reduceMul, Nat.reduceDiv, Nat.reducePow, Nat.reduceLT, Nat.reduceLeDiff, Nat.reduceBEq, Nat.reduceBneDiff, Int.reduceToNat, Int.reduceEq, Int.reduceLE, Int.reduceLT, reduceCtorEq, hn1d, hm1d, hc_10, hc_11, hc_12, hc_13]
                             repeat (with_reducible refine And.intro ?_ ?_; next => first | assumption | trivial | omega | decide | (constructor <;> first | assumption | omega) | (simp [Keep.ok, hp_cons_apply, hset_cons, hn1d, hm1d]; done))
                             refine hk _ _ _ ?_
                             refine xghost (D := []) ?_ ?_ ?_ ?_
                             ·exact (.cons (Sub.of_eq rfl) (.cons (Sub.of_eq rfl) (.cons (Sub.of_eq rfl) (.cons (Sub.of_eq rfl) (.cons (Sub.of_eq rfl) (.cons (Sub.of_eq rfl) (.cons (Sub.of_eq (by first | rfl | (simp only [sget_cons, reduceIte, Nat.reduceEqDiff, Bool.and_true, Bool.true_and, Bool.and_false, Bool.false_and, Bool.or_true, Bool.true_or, Bool.or_false, Bool.false_or, Bool.not_true, Bool.not_false, Bool.not_not, hc_10, hc_11, hc_12, hc_13]; done))) .nil)))))))
                             ·exact HpW.refl
                             ·exact (by intro p hp; cases hp)
                             ·omega
                           ·try simp (maxSteps := 4000000) only [go_sem, Prod.mk.injEq, reduceIte, Nat.reduceEqDiff, Nat.reduceAdd, Nat.reduceSub, Nat.reduceMul, Nat.reduceDiv, Nat.reducePow, Nat.reduceLT, Nat.reduceLeDiff, Nat.reduceBEq, Nat.reduceBneDiff, Int.reduceToNat, Int.reduceEq, Int.reduceLE, Int.reduceLT, reduceCtorEq, hn1d, hm1d, hc_10, hc_11, hc_12]
                            repeat (with_reducible refine And.intro ?_ ?_; next => first | assumption | trivial | omega | decide | (constructor <;> first | assumption | omega) | (simp [Keep.ok, hp_cons_apply, hset_cons, hn1d, hm1d]; done))
                            refine hk _ _ _ ?_
                            refine xghost (D := []) ?_ ?_ ?_ ?_
                            ·exact (.cons (Sub.of_eq rfl) (.cons (Sub.of_eq rfl) (.cons (Sub.of_eq rfl) (.cons (Sub.of_eq rfl) (.cons (Sub.of_eq rfl) (.cons (Sub.of_eq rfl) (.cons (Sub.of_eq (by first | rfl | (simp only [sget_cons, reduceIte, Nat.reduceEqDiff, Bool.and_true, Bool.true_and, Bool.and_false, Bool.false_and, Bool.or_true, Bool.true_or, Bool.or_false, Bool.false_or, Bool.not_true, Bool.not_false, Bool.not_not, hc_10, hc_11, hc_12]; done))) .nil)))))))
                            ·exact HpW.refl
                            ·exact (by intro p hp; cases hp)
                            ·omega
                          ·try simp (maxSteps := 4000000) only [go_sem, Prod.mk.injEq, reduceIte, Nat.reduceEqDiff, Nat.reduceAdd, Nat.reduceSub, Nat.reduceMul, Nat.reduceDiv, Nat.reducePow, Nat.reduceLT, Nat.reduceLeDiff, Nat.reduceBEq, Nat.reduceBneDiff, Int.reduceToNat, Int.reduceEq, Int.reduceLE, Int.reduceLT, reduceCtorEq, hn1d, hm1d, hc_10, hc_11]
                           repeat (with_reducible refine And.intro ?_ ?_; next => first | assumption | trivial | omega | decide | (constructor <;> first | assumption | omega) | (simp [Keep.ok, hp_cons_apply, hset_cons, hn1d, hm1d]; done))
                           refine hk _ _ _ ?_
                           refine xghost (D := []) ?_ ?_ ?_ ?_
                           ·exact (.cons (Sub.of_eq rfl) (.cons (Sub.of_eq rfl) (.cons (Sub.of_eq rfl) (.cons (Sub.of_eq rfl) (.cons (Sub.of_eq rfl) (.cons (Sub.of_eq rfl) (.cons (Sub.of_eq (by first | rfl | (simp only [sget_cons, reduceIte, Nat.reduceEqDiff, Bool.and_true, Bool.true_and, Bool.and_false, Bool.false_and, Bool.or_true, Bool.true_or, Bool.or_false, Bool.false_or, Bool.not_true, Bool.not_false, Bool.not_not, hc_10, hc_11]; done))) .nil)))))))
                           ·exact HpW.refl
                           ·exact (by intro p hp; cases hp)
                           ·omega
                         ·try simp (maxSteps := 4000000) only [go_sem, Prod.mk.injEq, reduceIte, Nat.reduceEqDiff, Nat.reduceAdd, Nat.reduceSub, Nat.reduceMul, Nat.reduceDiv, Nat.reducePow, Nat.reduceLT, Nat.reduceLeDiff, Nat.reduceBEq, Nat.reduceBneDiff, Int.reduceToNat, Int.reduceEq, Int.reduceLE, Int.reduceLT, reduceCtorEq, hn1d, hm1d, hc_10]
                          repeat (with_reducible refine And.intro ?_ ?_; next => first | assumption | trivial | omega | decide | (constructor <;> first | assumption | omega) | (simp [Keep.ok, hp_cons_apply, hset_cons, hn1d, hm1d]; done))
                          refine hk _ _ _ ?_
                          refine xghost (D := []) ?_ ?_ ?_ ?_
                          ·exact (.cons (Sub.of_eq rfl) (.cons (Sub.of_eq rfl) (.cons (Sub.of_eq rfl) (.cons (Sub.of_eq rfl) (.cons (Sub.of_eq rfl) (.cons (Sub.of_eq rfl) (.cons (Sub.of_eq (by first | rfl | (simp only [sget_cons, reduceIte, Nat.reduceEqDiff, Bool.and_true, Bool.true_and, Bool.and_false, Bool.false_and, Bool.or_true, Bool.true_or, Bool.or_false, Bool.false_or, Bool.not_true, Bool.not_false, Bool.not_not, hc_10]; done))) .nil)))))))
                          ·exact HpW.refl
                          ·exact (by intro p hp; cases hp)
                          ·omega
                       ·try simp (maxSteps := 4000000) only [go_sem, Prod.mk.injEq, reduceIte, Nat.reduceEqDiff, Nat.reduceAdd, Nat.reduceSub, Nat.reduceMul, Nat.reduceDiv, Nat.reducePow, Nat.reduceLT, Nat.reduceLeDiff, Nat.reduceBEq, Nat.reduceBneDiff, Int.reduceToNat, Int.reduceEq, Int.reduceLE, Int.reduceLT, reduceCtorEq, hn1d, hm1d]
                        repeat (with_reducible refine And.intro ?_ ?_; next => first | assumption | trivial | omega | decide | (constructor <;> first | assumption | omega) | (simp [Keep.ok, hp_cons_apply, hset_cons, hn1d, hm1d]; done))
                        have hcall := s_disk_Disk_Read_ok (n0 := (d, 1)) (hS0 := by simp only [hp_cons_apply, hp_nil_apply, reduceIte, Prod.mk.injEq, Nat.reduceEqDiff, and_true, and_false, true_and, false_and, hn1d, hm1d] <;> rfl) (hp [((d, 0), oGdiskDisk v_8.2), ((d, 1), oGdiskDisk v_10)] S) _ o (h := hv_11)
                        refine call1_x hcall rfl ?_ ?_
                        ·exact (.cons Sub.refl (.cons Sub.refl .nil))
                        clear hcall
                        rintro _ SS ⟨rfl, hSS⟩ -
                        rw [hSS]
                        clear hSS
                        try simp (maxSteps := 4000000) only [go_sem, Prod.mk.injEq, reduceIte, Nat.reduceEqDiff, Nat.reduceAdd, Nat.reduceSub, Nat.reduceMul, Nat.reduceDiv, Nat.reducePow, Nat.reduceLT, Nat.reduceLeDiff, Nat.reduceBEq, Nat.reduceBneDiff, Int.reduceToNat, Int.reduceEq, Int.reduceLE, Int.reduceLT, reduceCtorEq, hn1d, hm1d]
                        repeat (with_reducible refine And.intro ?_ ?_; next => first | assumption | trivial | omega | decide | (constructor <;> first | assumption | omega) | (simp [Keep.ok, hp_cons_apply, hset_cons, hn1d, hm1d]; done))
                        refine hk _ _ _ ?_
                        refine xghost (D := []) ?_ ?_ ?_ ?_
                        ·exact (.cons (Sub.of_eq rfl) (.cons (Sub.of_eq rfl) (.cons (Sub.of_eq rfl) (.cons (Sub.of_eq rfl) (.cons (Sub.of_eq rfl) (.cons (Sub.of_eq rfl) (.cons (Sub.of_eq rfl) .nil)))))))
                        ·exact HpW.refl
                        ·exact (by intro p hp; cases hp)
                        ·omega
                      ·try simp (maxSteps := 4000000) only [go_sem, Prod.mk.injEq, reduceIte, Nat.reduceEqDiff, Nat.reduceAdd, Nat.reduceSub, Nat.reduceMul, Nat.reduceDiv, Nat.reducePow, Nat.reduceLT, Nat.reduceLeDiff, Nat.reduceBEq, Nat.reduceBneDiff, Int.reduceToNat, Int.reduceEq, Int.reduceLE, Int.reduceLT, reduceCtorEq, hn1d, hm1d]
                       repeat (with_reducible refine And.intro ?_ ?_; next => first | assumption | trivial | omega | decide | (constructor <;> first | assumption | omega) | (simp [Keep.ok, hp_cons_apply, hset_cons, hn1d, hm1d]; done))
                       refine hk _ _ _ ?_
                       refine xghost (D := []) ?_ ?_ ?_ ?_
                       ·exact (.cons (Sub.of_eq rfl) (.cons (Sub.of_eq rfl) (.cons (Sub.of_eq rfl) (.cons (Sub.of_eq rfl) (.cons (Sub.of_eq rfl) (.cons (Sub.of_eq rfl) .nil))))))
                       ·exact HpW.refl
                       ·exact (by intro p hp; cases hp)
                       ·omega
                     ·try simp (maxSteps := 4000000) only [go_sem, Prod.mk.injEq, reduceIte, Nat.reduceEqDiff, Nat.reduceAdd, Nat.reduceSub, Nat.reduceMul, Nat.reduceDiv, Nat.reducePow, Nat.reduceLT, Nat.reduceLeDiff, Nat.reduceBEq, Nat.reduceBneDiff, Int.reduceToNat, Int.reduceEq, Int.reduceLE, Int.reduceLT, reduceCtorEq, hn1d, hm1d]
                      repeat (with_reducible refine And.intro ?_ ?_; next => first | assumption | trivial | omega | decide | (constructor <;> first | assumption | omega) | (simp [Keep.ok, hp_cons_apply, hset_cons, hn1d, hm1d]; done))
                      have hcall := s_stanchionref00_CopyInts_ok (hp [((d, 0), oGdiskDisk v_8.2)] S) rx hv_9
                      refine call1_x hcall rfl ?_ ?_
                      ·exact (.cons Sub.refl .nil)
                      clear hcall
                      rintro _ SS ⟨rfl, hSS⟩ -
                      rw [hSS]
                      clear hSS
                      try simp (maxSteps := 4000000) only [go_sem, Prod.mk.injEq, reduceIte, Nat.reduceEqDiff, Nat.reduceAdd, Nat.reduceSub, Nat.reduceMul, Nat.reduceDiv, Nat.reducePow, Nat.reduceLT, Nat.reduceLeDiff, Nat.reduceBEq, Nat.reduceBneDiff, Int.reduceToNat, Int.reduceEq, Int.reduceLE, Int.reduceLT, reduceCtorEq, hn1d, hm1d]
                      repeat (with_reducible refine And.intro ?_ ?_; next => first | assumption | trivial | omega | decide | (constructor <;> first | assumption | omega) | (simp [Keep.ok, hp_cons_apply, hset_cons, hn1d, hm1d]; done))
                      have hcall := s_disk_Disk_Crash_ok (n0 := (d, 0)) (hS0 := by simp only [hp_cons_apply, hp_nil_apply, reduceIte, Prod.mk.injEq, Nat.reduceEqDiff, and_true, and_false, true_and, false_and, hn1d, hm1d] <;> rfl) (hp [((d, 0), oGdiskDisk v_8.2)] S) _ v_9 (-1) (h := hv_10)
                      refine call1_new hcall rfl rfl ?_ ?_
                      ·exact (.cons Sub.refl (.cons Sub.refl (.cons Sub.refl .nil)))
                      clear hcall
                      try simp (maxSteps := 4000000) only [go_sem, Prod.mk.injEq, reduceIte, Nat.reduceEqDiff, Nat.reduceAdd, Nat.reduceSub, Nat.reduceMul, Nat.reduceDiv, Nat.reducePow, Nat.reduceLT, Nat.reduceLeDiff, Nat.reduceBEq, Nat.reduceBneDiff, Int.reduceToNat, Int.reduceEq, Int.reduceLE, Int.reduceLT, reduceCtorEq, hn1d, hm1d]
                      repeat (with_reducible refine And.intro ?_ ?_; next => first | assumption | trivial | omega | decide | (constructor <;> first | assumption | omega) | (simp [Keep.ok, hp_cons_apply, hset_cons, hn1d, hm1d]; done))
                      refine hk _ _ _ ?_
                      refine xghost (D := []) ?_ ?_ ?_ ?_
                      ·exact (.cons (Sub.of_eq rfl) (.cons (Sub.of_eq rfl) (.cons (Sub.of_eq rfl) (.cons (Sub.of_eq rfl) (.cons (Sub.of_eq rfl) .nil)))))
                      ·exact HpW.refl
                      ·exact (by intro p hp; cases hp)
                      ·omega
                   ·try simp (maxSteps := 4000000) only [go_sem, Prod.mk.injEq, reduceIte, Nat.reduceEqDiff, Nat.reduceAdd, Nat.reduceSub, Nat.reduceMul, Nat.reduceDiv, Nat.reducePow, Nat.reduceLT, Nat.reduceLeDiff, Nat.reduceBEq, Nat.reduceBneDiff, Int.reduceToNat, Int.reduceEq, Int.reduceLE, Int.reduceLT, reduceCtorEq, hn1d, hm1d]
                    repeat (with_reducible refine And.intro ?_ ?_; next => first | assumption | trivial | omega | decide | (constructor <;> first | assumption | omega) | (simp [Keep.ok, hp_cons_apply, hset_cons, hn1d, hm1d]; done))
                    have hcall := s_stanchionref00_CopyBytes_ok (hp [((d, 0), oGdiskDisk v_5.2)] S) A hv_7
                    refine call1_x hcall rfl ?_ ?_
                    ·exact (.cons Sub.refl .nil)
                    clear hcall
                    rintro _ SS ⟨rfl, hSS⟩ -
                    rw [hSS]
                    clear hSS
                    try simp (maxSteps := 4000000) only [go_sem, Prod.mk.injEq, reduceIte, Nat.reduceEqDiff, Nat.reduceAdd, Nat.reduceSub, Nat.reduceMul, Nat.reduceDiv, Nat.reducePow, Nat.reduceLT, Nat.reduceLeDiff, Nat.reduceBEq, Nat.reduceBneDiff, Int.reduceToNat, Int.reduceEq, Int.reduceLE, Int.reduceLT, reduceCtorEq, hn1d, hm1d]
                    repeat (with_reducible refine And.intro ?_ ?_; next => first | assumption | trivial | omega | decide | (constructor <;> first | assumption | omega) | (simp [Keep.ok, hp_cons_apply, hset_cons, hn1d, hm1d]; done))
                    have hcall := s_disk_Disk_Append_ok (n0 := (d, 0)) (hS0 := by simp only [hp_cons_apply, hp_nil_apply, reduceIte, Prod.mk.injEq, Nat.reduceEqDiff, and_true, and_false, true_and, false_and, hn1d, hm1d] <;> rfl) (hp [((d, 0), oGdiskDisk v_5.2)] S) _ o ([v_7]) (h := hv_8)
                    refine call1_x hcall rfl ?_ ?_
                    ·exact (.cons Sub.refl (.cons Sub.refl (.cons (Sub.young (L := (lS (lI .u8))) (xs := [v_7])) .nil)))
                    clear hcall
                    rintro _ SS ⟨rfl, hSS⟩ -
                    rw [hSS]
                    clear hSS
                    try simp (maxSteps := 4000000) only [go_sem, Prod.mk.injEq, reduceIte, Nat.reduceEqDiff, Nat.reduceAdd, Nat.reduceSub, Nat.reduceMul, Nat.reduceDiv, Nat.reducePow, Nat.reduceLT, Nat.reduceLeDiff, Nat.reduceBEq, Nat.reduceBneDiff, Int.reduceToNat, Int.reduceEq, Int.reduceLE, Int.reduceLT, reduceCtorEq, hn1d, hm1d]
                    repeat (with_reducible refine And.intro ?_ ?_; next => first | assumption | trivial | omega | decide | (constructor <;> first | assumption | omega) | (simp [Keep.ok, hp_cons_apply, hset_cons, hn1d, hm1d]; done))
                    refine hk _ _ _ ?_
                    refine xghost (D := []) ?_ ?_ ?_ ?_
                    ·exact (.cons (Sub.of_eq rfl) (.cons (Sub.of_eq rfl) (.cons (Sub.of_eq rfl) (.cons (Sub.of_eq rfl) (.cons (Sub.of_eq rfl) (.cons (Sub.of_eq rfl) .nil))))))
                    ·exact HpW.refl
                    ·exact (by intro p hp; cases hp)
                    ·omega
                 ·try simp (maxSteps := 4000000) only [go_sem, Prod.mk.injEq, reduceIte, Nat.reduceEqDiff, Nat.reduceAdd, Nat.reduceSub, Nat.reduceMul, Nat.reduceDiv, Nat.reducePow, Nat.reduceLT, Nat.reduceLeDiff, Nat.reduceBEq, Nat.reduceBneDiff, Int.reduceToNat, Int.reduceEq, Int.reduceLE, Int.reduceLT, reduceCtorEq, hn1d, hm1d]
                  repeat (with_reducible refine And.intro ?_ ?_; next => first | assumption | trivial | omega | decide | (constructor <;> first | assumption | omega) | (simp [Keep.ok, hp_cons_apply, hset_cons, hn1d, hm1d]; done))
                  refine hk _ _ _ ?_
                  refine xghost (D := []) ?_ ?_ ?_ ?_
                  ·exact (.cons (Sub.of_eq rfl) (.cons (Sub.of_eq rfl) (.cons (Sub.of_eq rfl) (.cons (Sub.of_eq rfl) (.cons (Sub.of_eq rfl) (.cons (Sub.of_eq rfl) (.cons (Sub.of_eq rfl) .nil)))))))
                  ·exact HpW.refl
                  ·exact (by intro p hp; cases hp)
                  ·omega
                ·try simp (maxSteps := 4000000) only [go_sem, Prod.mk.injEq, reduceIte, Nat.reduceEqDiff, Nat.reduceAdd, Nat.reduceSub, Nat.reduceMul, Nat.reduceDiv, Nat.reducePow, Nat.reduceLT, Nat.reduceLeDiff, Nat.reduceBEq, Nat.reduceBneDiff, Int.reduceToNat, Int.reduceEq, Int.reduceLE, Int.reduceLT, reduceCtorEq, hn1d, hm1d]
                 repeat (with_reducible refine And.intro ?_ ?_; next => first | assumption | trivial | omega | decide | (constructor <;> first | assumption | omega) | (simp [Keep.ok, hp_cons_apply, hset_cons, hn1d, hm1d]; done))
                 have hcall := s_disk_Disk_Read_ok (n0 := (d, 0)) (hS0 := by simp only [hp_cons_apply, hp_nil_apply, reduceIte, Prod.mk.injEq, Nat.reduceEqDiff, and_true, and_false, true_and, false_and, hn1d, hm1d] <;> rfl) (hp [((d, 0), oGdiskDisk v_5.2)] S) _ o (h := hv_6)
                 refine call1_x hcall rfl ?_ ?_
                 ·exact (.cons Sub.refl (.cons Sub.refl .nil))
                 clear hcall
                 rintro _ SS ⟨rfl, hSS⟩ -
                 rw [hSS]
                 clear hSS
                 try simp (maxSteps := 4000000) only [go_sem, Prod.mk.injEq, reduceIte, Nat.reduceEqDiff, Nat.reduceAdd, Nat.reduceSub, Nat.reduceMul, Nat.reduceDiv, Nat.reducePow, Nat.reduceLT, Nat.reduceLeDiff, Nat.reduceBEq, Nat.reduceBneDiff, Int.reduceToNat, Int.reduceEq, Int.reduceLE, Int.reduceLT, reduceCtorEq, hn1d, hm1d]
                 repeat (with_reducible refine And.intro ?_ ?_; next => first | assumption | trivial | omega | decide | (constructor <;> first | assumption | omega) | (simp [Keep.ok, hp_cons_apply, hset_cons, hn1d, hm1d]; done))
                 refine hk _ _ _ ?_
                 refine xghost (D := []) ?_ ?_ ?_ ?_
                 ·exact (.cons (Sub.of_eq rfl) (.cons (Sub.of_eq rfl) (.cons (Sub.of_eq rfl) (.cons (Sub.of_eq rfl) (.cons (Sub.of_eq rfl) (.cons (Sub.of_eq rfl) .nil))))))
                 ·exact HpW.refl
                 ·exact (by intro p hp; cases hp)
                 ·omega
              ·try simp (maxSteps := 4000000) only [go_sem, Prod.mk.injEq, reduceIte, Nat.reduceEqDiff, Nat.reduceAdd, Nat.reduceSub, Nat.reduceMul, Nat.reduceDiv, Nat.reducePow, Nat.reduceLT, Nat.reduceLeDiff, Nat.reduceBEq, Nat.reduceBneDiff, Int.reduceToNat, Int.reduceEq, Int.reduceLE, Int.reduceLT, reduceCtorEq, hn1d, hm1d]
               repeat (with_reducible refine And.intro ?_ ?_; next => first | assumption | trivial | omega | decide | (constructor <;> first | assumption | omega) | (simp [Keep.ok, hp_cons_apply, hset_cons, hn1d, hm1d]; done))
               have hcall := s_disk_Disk_Sync_ok (n0 := (d, 0)) (hS0 := by simp only [hp_cons_apply, hp_nil_apply, reduceIte, Prod.mk.injEq, Nat.reduceEqDiff, and_true, and_false, true_and, false_and, hn1d, hm1d] <;> rfl) (hp [((d, 0), oGdiskDisk D)] S) _ [] (h := hv_5)
               refine call1_x hcall rfl ?_ ?_
               ·exact (.cons Sub.refl (.cons Sub.nil .nil))
               clear hcall
               rintro _ SS ⟨rfl, hSS⟩ -
               rw [hSS]
               clear hSS
               try simp (maxSteps := 4000000) only [go_sem, Prod.mk.injEq, reduceIte, Nat.reduceEqDiff, Nat.reduceAdd, Nat.reduceSub, Nat.reduceMul, Nat.reduceDiv, Nat.reducePow, Nat.reduceLT, Nat.reduceLeDiff, Nat.reduceBEq, Nat.reduceBneDiff, Int.reduceToNat, Int.reduceEq, Int.reduceLE, Int.reduceLT, reduceCtorEq, hn1d, hm1d]
               repeat (with_reducible refine And.intro ?_ ?_; next => first | assumption | trivial | omega | decide | (constructor <;> first | assumption | omega) | (simp [Keep.ok, hp_cons_apply, hset_cons, hn1d, hm1d]; done))
               refine hk _ _ _ ?_
               refine xghost (D := []) ?_ ?_ ?_ ?_
               ·exact (.cons (Sub.of_eq rfl) (.cons (Sub.of_eq rfl) (.cons (Sub.of_eq rfl) (.cons (Sub.of_eq rfl) (.cons (Sub.of_eq rfl) .nil)))))
               ·exact HpW.refl
               ·exact (by intro p hp; cases hp)
               ·omega
           ·try simp (maxSteps := 4000000) only [go_sem, Prod.mk.injEq, reduceIte, Nat.reduceEqDiff, Nat.reduceAdd, Nat.reduceSub, Nat.reduceMul, Nat.reduceDiv, Nat.reducePow, Nat.reduceLT, Nat.reduceLeDiff, Nat.reduceBEq, Nat.reduceBneDiff, Int.reduceToNat, Int.reduceEq, Int.reduceLE, Int.reduceLT, reduceCtorEq, hn1d, hm1d]
            repeat (with_reducible refine And.intro ?_ ?_; next => first | assumption | trivial | omega | decide | (constructor <;> first | assumption | omega) | (simp [Keep.ok, hp_cons_apply, hset_cons, hn1d, hm1d]; done))
            refine hk _ _ _ ?_
            refine xghost (D := []) ?_ ?_ ?_ ?_
            ·exact (.cons (Sub.of_eq rfl) (.cons (Sub.of_eq rfl) (.cons (Sub.of_eq rfl) (.cons (Sub.of_eq rfl) (.cons (Sub.of_eq rfl) (.cons (Sub.of_eq rfl) (.cons (Sub.of_eq rfl) .nil)))))))
            ·exact HpW.refl
            ·exact (by intro p hp; cases hp)
            ·omega
          ·refine xghost (D := []) ?_ ?_ ?_ ?_
           ·exact (.cons (Sub.of_eq rfl) (.cons (Sub.of_eq rfl) (.cons (Sub.of_eq rfl) (.cons (Sub.of_eq rfl) (.cons (Sub.of_eq rfl) (.cons (Sub.of_eq rfl) .nil))))))
           ·exact HpW.refl
           ·exact (by intro p hp; cases hp)
           ·omega
         ·try simp (maxSteps := 4000000) only [go_sem, Prod.mk.injEq, reduceIte, Nat.reduceEqDiff, Nat.reduceAdd, Nat.reduceSub, Nat.reduceMul, Nat.reduceDiv, Nat.reducePow, Nat.reduceLT, Nat.reduceLeDiff, Nat.reduceBEq, Nat.reduceBneDiff, Int.reduceToNat, Int.reduceEq, Int.reduceLE, Int.reduceLT, reduceCtorEq]
          repeat (with_reducible refine And.intro ?_ ?_; next => first | assumption | trivial | omega | decide | (constructor <;> first | assumption | omega) | (simp [Keep.ok, hp_cons_apply, hset_cons]; done))
          refine hk _ _ _ ?_
          refine xghost (D := []) ?_ ?_ ?_ ?_
          ·exact (.cons (Sub.of_eq rfl) (.cons (Sub.of_eq rfl) (.cons (Sub.of_eq rfl) (.cons (Sub.of_eq rfl) (.cons (Sub.of_eq rfl) (.cons (Sub.of_eq rfl) .nil))))))
          ·exact HpW.refl
          ·exact (by intro p hp; cases hp)
          ·omega
        ·try simp (maxSteps := 4000000) only [go_sem, Prod.mk.injEq, reduceIte, Nat.reduceEqDiff, Nat.reduceAdd, Nat.reduceSub, Nat.reduceMul, Nat.reduceDiv, Nat.reducePow, Nat.reduceLT, Nat.reduceLeDiff, Nat.reduceBEq, Nat.reduceBneDiff, Int.reduceToNat, Int.reduceEq, Int.reduceLE, Int.reduceLT, reduceCtorEq]
         repeat (with_reducible refine And.intro ?_ ?_; next => first | assumption | trivial | omega | decide | (constructor <;> first | assumption | omega) | (simp [Keep.ok, hp_cons_apply, hset_cons]; done))
         refine hk _ _ _ ?_
         refine xghost (D := []) ?_ ?_ ?_ ?_
         ·exact (.cons (Sub.of_eq rfl) (.cons (Sub.of_eq rfl) (.cons (Sub.of_eq rfl) (.cons (Sub.of_eq rfl) (.cons (Sub.of_eq rfl) (.cons (Sub.of_eq rfl) .nil))))))
         ·exact HpW.refl
         ·exact (by intro p hp; cases hp)
         ·omega
       ·try simp (maxSteps := 4000000) only [go_sem, Prod.mk.injEq, reduceIte, Nat.reduceEqDiff, Nat.reduceAdd, Nat.reduceSub, Nat.reduceMul, Nat.reduceDiv, Nat.reducePow, Nat.reduceLT, Nat.reduceLeDiff, Nat.reduceBEq, Nat.reduceBneDiff, Int.reduceToNat, Int.reduceEq, Int.reduceLE, Int.reduceLT, reduceCtorEq]
        repeat (with_reducible refine And.intro ?_ ?_; next => first | assumption | trivial | omega | decide | (constructor <;> first | assumption | omega) | (simp [Keep.ok, hp_cons_apply, hset_cons]; done))
        have hcall := s_disk_New_ok (hp [] S) (-1) hv_3
        refine call1_new hcall rfl rfl ?_ ?_
        ·exact (.cons Sub.refl .nil)
        clear hcall
        try simp (maxSteps := 4000000) only [go_sem, Prod.mk.injEq, reduceIte, Nat.reduceEqDiff, Nat.reduceAdd, Nat.reduceSub, Nat.reduceMul, Nat.reduceDiv, Nat.reducePow, Nat.reduceLT, Nat.reduceLeDiff, Nat.reduceBEq, Nat.reduceBneDiff, Int.reduceToNat, Int.reduceEq, Int.reduceLE, Int.reduceLT, reduceCtorEq]
        repeat (with_reducible refine And.intro ?_ ?_; next => first | assumption | trivial | omega | decide | (constructor <;> first | assumption | omega) | (simp [Keep.ok, hp_cons_apply, hset_cons]; done))
        refine hk _ _ _ ?_
        refine xghost (D := []) ?_ ?_ ?_ ?_
        ·exact (.cons (Sub.of_eq rfl) (.cons (Sub.of_eq rfl) (.cons (Sub.of_eq rfl) (.cons (Sub.of_eq rfl) (.cons (Sub.of_eq rfl) .nil)))))
        ·exact HpW.refl
        ·exact (by intro p hp; cases hp)
        ·omega
     ·try simp (maxSteps := 4000000) only [go_sem, Prod.mk.injEq, reduceIte, Nat.reduceEqDiff, Nat.reduceAdd, Nat.reduceSub, Nat.reduceMul, Nat.reduceDiv, Nat.reducePow, Nat.reduceLT, Nat.reduceLeDiff, Nat.reduceBEq, Nat.reduceBneDiff, Int.reduceToNat, Int.reduceEq, Int.reduceLE, Int.reduceLT, reduceCtorEq]
      repeat (with_reducible refine And.intro ?_ ?_; next => first | assumption | trivial | omega | decide | (constructor <;> first | assumption | omega) | (simp [Keep.ok, hp_cons_apply, hset_cons]; done))
      have hcall := s_stanchionlaw04_great_ok (hp [] S) v_1 hv_2
      refine call1_x hcall rfl ?_ ?_
      ·exact (.cons Sub.refl .nil)
      clear hcall
      rintro _ SS ⟨rfl, hSS⟩ -
      rw [hSS]
      clear hSS
      try simp (maxSteps := 4000000) only [go_sem, Prod.mk.injEq, reduceIte, Nat.reduceEqDiff, Nat.reduceAdd, Nat.reduceSub, Nat.reduceMul, Nat.reduceDiv, Nat.reducePow, Nat.reduceLT, Nat.reduceLeDiff, Nat.reduceBEq, Nat.reduceBneDiff, Int.reduceToNat, Int.reduceEq, Int.reduceLE, Int.reduceLT, reduceCtorEq]
      repeat (with_reducible refine And.intro ?_ ?_; next => first | assumption | trivial | omega | decide | (constructor <;> first | assumption | omega) | (simp [Keep.ok, hp_cons_apply, hset_cons]; done))
      refine xo_guard v_2 rfl (fun hc_14 => ?_) (fun hc_14 => ?_)
      ·try simp (maxSteps := 4000000) only [go_sem, Prod.mk.injEq, reduceIte, Nat.reduceEqDiff, Nat.reduceAdd, Nat.reduceSub, Nat.reduceMul, Nat.reduceDiv, Nat.reducePow, Nat.reduceLT, Nat.reduceLeDiff, Nat.reduceBEq, Nat.reduceBneDiff, Int.reduceToNat, Int.reduceEq, Int.reduceLE, Int.reduceLT, reduceCtorEq, hc_14]
       repeat (with_reducible refine And.intro ?_ ?_; next => first | assumption | trivial | omega | decide | (constructor <;> first | assumption | omega) | (simp [Keep.ok, hp_cons_apply, hset_cons]; done))
       refine hk _ _ _ ?_
       refine xghost (D := []) ?_ ?_ ?_ ?_
       ·exact (.cons (Sub.of_eq rfl) (.cons (Sub.of_eq rfl) (.cons (Sub.of_eq rfl) (.cons (Sub.of_eq rfl) (.cons (Sub.of_eq (by first | rfl | (simp only [sget_cons, reduceIte, Nat.reduceEqDiff, Bool.and_true, Bool.true_and, Bool.and_false, Bool.false_and, Bool.or_true, Bool.true_or, Bool.or_false, Bool.false_or, Bool.not_true, Bool.not_false, Bool.not_not, hc_14]; done))) .nil)))))
       ·exact HpW.refl
       ·exact (by intro p hp; cases hp)
       ·omega
      ·try simp (maxSteps := 4000000) only [go_sem, Prod.mk.injEq, reduceIte, Nat.reduceEqDiff, Nat.reduceAdd, Nat.reduceSub, Nat.reduceMul, Nat.reduceDiv, Nat.reducePow, Nat.reduceLT, Nat.reduceLeDiff, Nat.reduceBEq, Nat.reduceBneDiff, Int.reduceToNat, Int.reduceEq, Int.reduceLE, Int.reduceLT, reduceCtorEq, hc_14]
       repeat (with_reducible refine And.intro ?_ ?_; next => first | assumption | trivial | omega | decide | (constructor <;> first | assumption | omega) | (simp [Keep.ok, hp_cons_apply, hset_cons]; done))
       refine hk _ _ _ ?_
       refine xghost (D := []) ?_ ?_ ?_ ?_
       ·exact (.cons (Sub.of_eq rfl) (.cons (Sub.of_eq rfl) (.cons (Sub.of_eq rfl) (.cons (Sub.of_eq rfl) (.cons (Sub.of_eq (by first | rfl | (simp only [sget_cons, reduceIte, Nat.reduceEqDiff, Bool.and_true, Bool.true_and, Bool.and_false, Bool.false_and, Bool.or_true, Bool.true_or, Bool.or_false, Bool.false_or, Bool.not_true, Bool.not_false, Bool.not_not, hc_14]; done))) .nil)))))
       ·exact HpW.refl
       ·exact (by intro p hp; cases hp)
       ·omega
    ·try simp (maxSteps := 4000000) only [go_sem, Prod.mk.injEq, reduceIte, Nat.reduceEqDiff, Nat.reduceAdd, Nat.reduceSub, Nat.reduceMul, Nat.reduceDiv, Nat.reducePow, Nat.reduceLT, Nat.reduceLeDiff, Nat.reduceBEq, Nat.reduceBneDiff, Int.reduceToNat, Int.reduceEq, Int.reduceLE, Int.reduceLT, reduceCtorEq]
     repeat (with_reducible refine And.intro ?_ ?_; next => first | assumption | trivial | omega | decide | (constructor <;> first | assumption | omega) | (simp [Keep.ok, hp_cons_apply, hset_cons]; done))
     have hcall := s_stanchionlaw04_cut_ok (hp [] S) t hv_1
     refine call1_x hcall rfl ?_ ?_
     ·exact (.cons Sub.refl .nil)
     clear hcall
     rintro _ SS ⟨rfl, hSS⟩ -
     rw [hSS]
     clear hSS
     try simp (maxSteps := 4000000) only [go_sem, Prod.mk.injEq, reduceIte, Nat.reduceEqDiff, Nat.reduceAdd, Nat.reduceSub, Nat.reduceMul, Nat.reduceDiv, Nat.reducePow, Nat.reduceLT, Nat.reduceLeDiff, Nat.reduceBEq, Nat.reduceBneDiff, Int.reduceToNat, Int.reduceEq, Int.reduceLE, Int.reduceLT, reduceCtorEq]
     repeat (with_reducible refine And.intro ?_ ?_; next => first | assumption | trivial | omega | decide | (constructor <;> first | assumption | omega) | (simp [Keep.ok, hp_cons_apply, hset_cons]; done))
     refine hk _ _ _ ?_
     refine xghost (D := []) ?_ ?_ ?_ ?_
     ·exact (.cons (Sub.of_eq rfl) (.cons (Sub.of_eq rfl) (.cons (Sub.of_eq rfl) (.cons (Sub.of_eq rfl) .nil))))
     ·exact HpW.refl
     ·exact (by intro p hp; cases hp)
     ·omega
  ·try simp (maxSteps := 4000000) only [go_sem, Prod.mk.injEq, reduceIte, Nat.reduceEqDiff, Nat.reduceAdd, Nat.reduceSub, Nat.reduceMul, Nat.reduceDiv, Nat.reducePow, Nat.reduceLT, Nat.reduceLeDiff, Nat.reduceBEq, Nat.reduceBneDiff, Int.reduceToNat, Int.reduceEq, Int.reduceLE, Int.reduceLT, reduceCtorEq]
   repeat (with_reducible refine And.intro ?_ ?_; next => first | assumption | trivial | omega | decide | (constructor <;> first | assumption | omega) | (simp [Keep.ok, hp_cons_apply, hset_cons]; done))
   have hcall := s_stanchionlaw04_alive_ok (hp [] S)  hv
   refine call1_x hcall rfl ?_ ?_
   ·exact .nil
   clear hcall
   rintro _ SS ⟨rfl, hSS⟩ -
   rw [hSS]
   clear hSS
   try simp (maxSteps := 4000000) only [go_sem, Prod.mk.injEq, reduceIte, Nat.reduceEqDiff, Nat.reduceAdd, Nat.reduceSub, Nat.reduceMul, Nat.reduceDiv, Nat.reducePow, Nat.reduceLT, Nat.reduceLeDiff, Nat.reduceBEq, Nat.reduceBneDiff, Int.reduceToNat, Int.reduceEq, Int.reduceLE, Int.reduceLT, reduceCtorEq]
   repeat (with_reducible refine And.intro ?_ ?_; next => first | assumption | trivial | omega | decide | (constructor <;> first | assumption | omega) | (simp [Keep.ok, hp_cons_apply, hset_cons]; done))
   refine hk _ _ _ ?_
   refine xghost (D := []) ?_ ?_ ?_ ?_
   ·exact (.cons (Sub.of_eq rfl) (.cons (Sub.of_eq rfl) (.cons (Sub.of_eq rfl) (.cons (Sub.of_eq rfl) (.cons (Sub.of_eq rfl) .nil)))))
   ·exact HpW.refl
   ·exact (by intro p hp; cases hp)
   ·omega
 ·try simp (maxSteps := 4000000) only [go_sem, Prod.mk.injEq, reduceIte, Nat.reduceEqDiff, Nat.reduceAdd, Nat.reduceSub, Nat.reduceMul, Nat.reduceDiv, Nat.reducePow, Nat.reduceLT, Nat.reduceLeDiff, Nat.reduceBEq, Nat.reduceBneDiff, Int.reduceToNat, Int.reduceEq, Int.reduceLE, Int.reduceLT, reduceCtorEq]
  repeat (with_reducible refine And.intro ?_ ?_; next => first | assumption | trivial | omega | decide | (constructor <;> first | assumption | omega) | (simp [Keep.ok, hp_cons_apply, hset_cons]; done))
  refine hk _ _ _ ?_
  refine xghost (D := []) ?_ ?_ ?_ ?_
  ·exact (.cons (Sub.of_eq rfl) (.cons (Sub.of_eq rfl) (.cons (Sub.of_eq rfl) (.cons (Sub.of_eq rfl) .nil))))
  ·exact HpW.refl
  ·exact (by intro p hp; cases hp)
  ·omega
/-! stanchion/stanchionlaw04.DiskPower -/
def s_stanchionlaw04_DiskPower_j1 (t8 : Int) (t7_1 : Int) (D_1 : GdiskDisk) (D_2 : GdiskDisk) : Option ((Int × Int × GdiskDisk × GdiskDisk) ⊕ Bool) :=
 some (.inl (t7_1, (IntKind.i64.wrap (t8 + 1)), D_1, D_2))
def s_stanchionlaw04_DiskPower_b2 (D : GdiskDisk) (D_1 : GdiskDisk) : Int → Option ((Int) ⊕ Bool)
 | t11 => if (decide (t11 < 2)) = true then bd (s_disk_Disk_Read D t11) fun (v_7 : List Int × Int) => bd (s_disk_Disk_Read D_1 t11) fun (v_8 : List Int × Int) => bd (s_stanchionref00_SameBytes v_7.1 v_8.1) fun (v_9 : Bool) => if (!v_9) = true then mr (some false) else some (.inl (IntKind.i64.wrap (t11 + 1))) else mr (some true)
def s_stanchionlaw04_DiskPower_b1 (v_1 : List Glaw04Op) : (Int × Int × GdiskDisk × GdiskDisk) → Option ((Int × Int × GdiskDisk × GdiskDisk) ⊕ Bool)
 | (t7, t8, D, D_1) => if (decide (t8 < (v_1.length : Int))) = true then gd ((0 ≤ t8 ∧ Int.toNat t8 < v_1.length)) (if ((decide ((v_1.getD (Int.toNat t8) yGlaw04Op.dflt).What < 1)) || (decide (3 < (v_1.getD (Int.toNat t8) yGlaw04Op.dflt).What))) = true then s_stanchionlaw04_DiskPower_j1 t8 t7 D D_1 else bd (s_stanchionlaw04_act D (v_1.getD (Int.toNat t8) yGlaw04Op.dflt)) fun (v_5 : Int × GdiskDisk) => if (t7 == 0) = true then if (v_5.1 == 0) = true then mr (some false) else s_stanchionlaw04_DiskPower_j1 t8 t7 v_5.2 D_1 else bd (s_stanchionlaw04_act D_1 (v_1.getD (Int.toNat t8) yGlaw04Op.dflt)) fun (v_6 : Int × GdiskDisk) => if (v_5.1 != v_6.1) = true then mr (some false) else if (v_5.1 == 0) = true then s_stanchionlaw04_DiskPower_j1 t8 (IntKind.i64.wrap (t7 - 1)) v_5.2 v_6.2 else s_stanchionlaw04_DiskPower_j1 t8 t7 v_5.2 v_6.2) else mr (loop (s_stanchionlaw04_DiskPower_b2 D D_1) 0)
def s_stanchionlaw04_DiskPower (t : Int) (o : List Glaw04Op) : Option Bool :=
 bd (s_stanchionlaw04_alive ) fun (v : Bool) => if (!v) = true then some false else bd (s_stanchionlaw04_cut o) fun (v_1 : List Glaw04Op) => bd (s_stanchionlaw04_great v_1) fun (v_2 : Bool) => if (v_2 || (decide (t < 0))) = true then some true else bd (s_disk_New t) fun (v_3 : GdiskDisk) => bd (s_disk_New (-1)) fun (v_4 : GdiskDisk) => loop (s_stanchionlaw04_DiskPower_b1 v_1) (t, 0, v_3, v_4)
theorem s_stanchionlaw04_DiskPower_ok (S : AHeap) (t : Int) (o : List Glaw04Op) {r : Bool} (h : s_stanchionlaw04_DiskPower t o = some r) :
  AC Try.prog n_stanchionlaw04_DiskPower [.lit (.int .i64 t), eS yGlaw04Op o] S fun r' S' => r' = .ret (.lit (.bool r)) ∧ S' = S := by
 refine AC_of tok mixed fits_stanchionlaw04_DiskPower fun d hd => ?_
 unfold c_stanchionlaw04_DiskPower
 show LW _ _ _ _ [(0, .lit (.int .i64 t)), (1, eS yGlaw04Op o)] (hp [] S) 0 _
 rw [s_stanchionlaw04_DiskPower] at h
 refine xseq [(0, .lit (.int .i64 t)), (1, eS yGlaw04Op o)] (hp [] S) 0 ?_ (fun k kp hk => ?_)
 ·refine LW_seq ?_
  obtain ⟨v, hv, h⟩ := bd_some h
  refine xseq [(0, .lit (.int .i64 t)), (1, eS yGlaw04Op o), (17, .lit (.bool (!v)))] (hp [] S) 0 ?_ (fun k kp hk => ?_)
  ·refine xcond (!v) rfl (fun hc => ?_) (fun hc => ?_)
   ·rw [ite_t hc] at h
    refine xseq [(4, .lit (.bool false))] (hp [] S) 0 ?_ (fun k kp hk => ?_)
    ·refine LW_ret ?_
     obtain rfl := Option.some.inj h
     show FPost _ _ _ _ _ _ _
     exact ⟨_, hp_less (L := []) (D := []) (by intro p hp; cases hp), rfl, rfl⟩
    ·try simp (maxSteps := 4000000) only [go_sem, Prod.mk.injEq, reduceIte, Nat.reduceEqDiff, Nat.reduceAdd, Nat.reduceSub, Nat.reduceMul, Nat.reduceDiv, Nat.reducePow, Nat.reduceLT, Nat.reduceLeDiff, Nat.reduceBEq, Nat.reduceBneDiff, Int.reduceToNat, Int.reduceEq, Int.reduceLE, Int.reduceLT, reduceCtorEq]
     repeat (with_reducible refine And.intro ?_ ?_; next => first | assumption | trivial | omega | decide | (constructor <;> first | assumption | omega) | (simp [Keep.ok, hp_cons_apply, hset_cons]; done))
     refine hk _ _ _ ?_
     refine xghost (D := []) ?_ ?_ ?_ ?_
     ·exact (.cons (Sub.of_eq rfl) .nil)
     ·exact HpW.refl
     ·exact (by intro p hp; cases hp)
     ·omega
   ·rw [ite_f hc] at h
    refine LW_skip ?_
    show LW _ _ _ _ _ _ _ _
    obtain ⟨v_1, hv_1, h⟩ := bd_some h
    refine xseq [(0, .lit (.int .i64 t)), (1, eS yGlaw04Op v_1)] (hp [] S) 0 ?_ (fun k kp hk => ?_)
    ·refine LW_seq ?_
     obtain ⟨v_2, hv_2, h⟩ := bd_some h
     refine xseq [(0, .lit (.int .i64 t)), (1, eS yGlaw04Op v_1), (25, .lit (.bool (v_2 || (decide (t < 0)))))] (hp [] S) 0 ?_ (fun k kp hk => ?_)
     ·refine xcond (v_2 || (decide (t < 0))) rfl (fun hc_1 => ?_) (fun hc_1 => ?_)
      ·rw [ite_t hc_1] at h
       refine xseq [(4, .lit (.bool true))] (hp [] S) 0 ?_ (fun k kp hk => ?_)
       ·refine LW_ret ?_
        obtain rfl := Option.some.inj h
        show FPost _ _ _ _ _ _ _
        exact ⟨_, hp_less (L := []) (D := []) (by intro p hp; cases hp), rfl, rfl⟩
       ·try simp (maxSteps := 4000000) only [go_sem, Prod.mk.injEq, reduceIte, Nat.reduceEqDiff, Nat.reduceAdd, Nat.reduceSub, Nat.reduceMul, Nat.reduceDiv, Nat.reducePow, Nat.reduceLT, Nat.reduceLeDiff, Nat.reduceBEq, Nat.reduceBneDiff, Int.reduceToNat, Int.reduceEq, Int.reduceLE, Int.reduceLT, reduceCtorEq]
        repeat (with_reducible refine And.intro ?_ ?_; next => first | assumption | trivial | omega | decide | (constructor <;> first | assumption | omega) | (simp [Keep.ok, hp_cons_apply, hset_cons]; done))
        refine hk _ _ _ ?_
        refine xghost (D := []) ?_ ?_ ?_ ?_
        ·exact (.cons (Sub.of_eq rfl) .nil)
        ·exact HpW.refl
        ·exact (by intro p hp; cases hp)
        ·omega
      ·rw [ite_f hc_1] at h
       refine LW_skip ?_
       show LW _ _ _ _ _ _ _ _
       obtain ⟨v_3, hv_3, h⟩ := bd_some h
       refine xseq [(0, .lit (.int .i64 t)), (1, eS yGlaw04Op v_1), (5, .ptr (d, 0) 0)] (hp [((d, 0), oGdiskDisk v_3)] S) 1 ?_ (fun k kp hk => ?_)
       ·obtain ⟨v_4, hv_4, h⟩ := bd_some h
        refine xseq [(0, .lit (.int .i64 t)), (1, eS yGlaw04Op v_1), (5, .ptr (d, 0) 0), (6, .ptr (d, 1) 0)] (hp [((d, 0), oGdiskDisk v_3), ((d, 1), oGdiskDisk v_4)] S) 2 ?_ (fun k kp hk => ?_)
        ·refine LW_seq ?_
         refine xseq [(0, .lit (.int .i64 t)), (1, eS yGlaw04Op v_1), (5, .ptr (d, 0) 0), (6, .ptr (d, 1) 0), (34, .lit (.bool false))] (hp [((d, 0), oGdiskDisk v_3), ((d, 1), oGdiskDisk v_4)] S) 2 ?_ (fun k kp hk => ?_)
         ·refine xcond false rfl (fun h0 => by cases h0) (fun _ => ?_)
          refine LW_skip ?_
          show LW _ _ _ _ _ _ _ _
          refine xseq [(1, eS yGlaw04Op v_1), (5, .ptr (d, 0) 0), (6, .ptr (d, 1) 0), (7, .lit (.int .i64 t))] (hp [((d, 0), oGdiskDisk v_3), ((d, 1), oGdiskDisk v_4)] S) 2 ?_ (fun k kp hk => ?_)
          ·refine LW_seq ?_
           refine xseq [(1, eS yGlaw04Op v_1), (5, .ptr (d, 0) 0), (6, .ptr (d, 1) 0), (7, .lit (.int .i64 t)), (8, .lit (.int .i64 0))] (hp [((d, 0), oGdiskDisk v_3), ((d, 1), oGdiskDisk v_4)] S) 2 ?_ (fun k kp hk => ?_)
           ·refine LW_block ?_
            refine LW_loopX (c := 2) (σ := Int × Int × GdiskDisk × GdiskDisk) (s := (t, 0, v_3, v_4)) (fun zz => [(1, eS yGlaw04Op v_1), (5, .ptr (d, 0) 0), (6, .ptr (d, 1) 0), (7, .lit (.int .i64 zz.1)), (8, .lit (.int .i64 zz.2.1))]) (fun zz => (hp [((d, 0), oGdiskDisk zz.2.2.1), ((d, 1), oGdiskDisk zz.2.2.2)] S)) h ?_ ?_
            ·clear h
             rintro ⟨t7, t8, D, D_1⟩ x1 d1 hd1 hf1 h hx1
             show LW _ _ _ _ [(1, eS yGlaw04Op v_1), (5, .ptr (d, 0) 0), (6, .ptr (d, 1) 0), (7, .lit (.int .i64 t7)), (8, .lit (.int .i64 t8))] (hp [((d, 0), oGdiskDisk D), ((d, 1), oGdiskDisk D_1)] S) 0 _
             have hn1d : (d = d1) = False := by simp; omega
             have hm1d : (d1 = d) = False := by simp; omega
             rw [s_stanchionlaw04_DiskPower_b1] at h
             refine LW_seq ?_
             refine xseq [(1, eS yGlaw04Op v_1), (5, .ptr (d, 0) 0), (6, .ptr (d, 1) 0), (7, .lit (.int .i64 t7)), (8, .lit (.int .i64 t8)), (39, .lit (.bool (decide (t8 < (v_1.length : Int)))))] (hp [((d, 0), oGdiskDisk D), ((d, 1), oGdiskDisk D_1)] S) 0 ?_ (fun k kp hk => ?_)
             ·refine xcond (decide (t8 < (v_1.length : Int))) rfl (fun hc_2 => ?_) (fun hc_2 => ?_)
              ·rw [ite_t hc_2] at h
               refine LW_skip ?_
               show LW _ _ _ _ _ _ _ _
               refine xjoin (J := Int × GdiskDisk × GdiskDisk) (fun jj => [(1, eS yGlaw04Op v_1), (5, .ptr (d, 0) 0), (6, .ptr (d, 1) 0), (7, .lit (.int .i64 jj.1)), (8, .lit (.int .i64 t8))]) (fun jj => (hp [((d, 0), oGdiskDisk jj.2.1), ((d, 1), oGdiskDisk jj.2.2)] S)) 1 (fun jj => s_stanchionlaw04_DiskPower_j1 t8 jj.1 jj.2.1 jj.2.2 = some x1) ?_ (fun hj => ?_)
               ·rintro ⟨t7_1, D_1, D_2⟩ h
                show LW _ _ _ _ [(1, eS yGlaw04Op v_1), (5, .ptr (d, 0) 0), (6, .ptr (d, 1) 0), (7, .lit (.int .i64 t7_1)), (8, .lit (.int .i64 t8))] (hp [((d, 0), oGdiskDisk D_1), ((d, 1), oGdiskDisk D_2)] S) 1 _
                replace h : s_stanchionlaw04_DiskPower_j1 t8 t7_1 D_1 D_2 = some x1 := h
                rw [s_stanchionlaw04_DiskPower_j1] at h
                refine xreg [(1, eS yGlaw04Op v_1), (5, .ptr (d, 0) 0), (6, .ptr (d, 1) 0), (7, .lit (.int .i64 t7_1)), (8, .lit (.int .i64 (IntKind.i64.wrap (t8 + 1))))] (hp [((d, 0), oGdiskDisk D_1), ((d, 1), oGdiskDisk D_2)] S) 1 ?_ (fun k kp hk => ?_)
                ·cases h
                 exact ⟨rfl, Less.refl _⟩
                ·try simp (maxSteps := 4000000) only [go_sem, Prod.mk.injEq, reduceIte, Nat.reduceEqDiff, Nat.reduceAdd, Nat.reduceSub, Nat.reduceMul, Nat.reduceDiv, Nat.reducePow, Nat.reduceLT, Nat.reduceLeDiff, Nat.reduceBEq, Nat.reduceBneDiff, Int.reduceToNat, Int.reduceEq, Int.reduceLE, Int.reduceLT, reduceCtorEq, hn1d, hm1d]
                 repeat (with_reducible refine And.intro ?_ ?_; next => first | assumption | trivial | omega | decide | (constructor <;> first | assumption | omega) | (simp [Keep.ok, hp_cons_apply, hset_cons, hn1d, hm1d]; done))
                 refine hk _ _ _ ?_
                 refine xghost (D := []) ?_ ?_ ?_ ?_
                 ·exact (.cons (Sub.of_eq rfl) (.cons (Sub.of_eq rfl) (.cons (Sub.of_eq rfl) (.cons (Sub.of_eq rfl) (.cons (Sub.of_eq rfl) .nil)))))
                 ·exact HpW.refl
                 ·exact (by intro p hp; cases hp)
                 ·omega
               ·refine LW_block ?_
                obtain ⟨hg, h⟩ := gd_some h
                refine xseq [(1, eS yGlaw04Op v_1), (5, .ptr (d, 0) 0), (6, .ptr (d, 1) 0), (7, .lit (.int .i64 t7)), (8, .lit (.int .i64 t8)), (9, .ptr (d1, 0) 0)] (hp [((d, 0), oGdiskDisk D), ((d, 1), oGdiskDisk D_1), ((d1, 0), .box [.lit (.int .i64 ((v_1.getD (Int.toNat t8) yGlaw04Op.dflt).What)), .lit (.int .i64 ((v_1.getD (Int.toNat t8) yGlaw04Op.dflt).Area)), .lit (.int .i64 ((v_1.getD (Int.toNat t8) yGlaw04Op.dflt).N)), eS (lS (lI .u8)) ((v_1.getD (Int.toNat t8) yGlaw04Op.dflt).Parts), eS (lI .i64) ((v_1.getD (Int.toNat t8) yGlaw04Op.dflt).Areas)])] S) 1 ?_ (fun k kp hk => ?_)
                ·refine LW_seq ?_
                 refine xseq [(1, eS yGlaw04Op v_1), (5, .ptr (d, 0) 0), (6, .ptr (d, 1) 0), (7, .lit (.int .i64 t7)), (8, .lit (.int .i64 t8)), (9, .ptr (d1, 0) 0), (53, .lit (.bool ((decide ((v_1.getD (Int.toNat t8) yGlaw04Op.dflt).What < 1)) || (decide (3 < (v_1.getD (Int.toNat t8) yGlaw04Op.dflt).What)))))] (hp [((d, 0), oGdiskDisk D), ((d, 1), oGdiskDisk D_1), ((d1, 0), .box [.lit (.int .i64 ((v_1.getD (Int.toNat t8) yGlaw04Op.dflt).What)), .lit (.int .i64 ((v_1.getD (Int.toNat t8) yGlaw04Op.dflt).Area)), .lit (.int .i64 ((v_1.getD (Int.toNat t8) yGlaw04Op.dflt).N)), eS (lS (lI .u8)) ((v_1.getD (Int.toNat t8) yGlaw04Op.dflt).Parts), eS (lI .i64) ((v_1.getD (Int.toNat t8) yGlaw04Op.dflt).Areas)])] S) 1 ?_ (fun k kp hk => ?_)
                 ·refine xcond ((decide ((v_1.getD (Int.toNat t8) yGlaw04Op.dflt).What < 1)) || (decide (3 < (v_1.getD (Int.toNat t8) yGlaw04Op.dflt).What))) rfl (fun hc_3 => ?_) (fun hc_3 => ?_)
                  ·rw [ite_t hc_3] at h
                   refine LW_exitX (sl' := [(1, eS yGlaw04Op v_1), (5, .ptr (d, 0) 0), (6, .ptr (d, 1) 0), (7, .lit (.int .i64 t7)), (8, .lit (.int .i64 t8))]) (S' := (hp [((d, 0), oGdiskDisk D), ((d, 1), oGdiskDisk D_1)] S)) (c' := 1) ?_ ?_
                   ·refine xghost (D := [((d1, 0), .box [.lit (.int .i64 ((v_1.getD (Int.toNat t8) yGlaw04Op.dflt).What)), .lit (.int .i64 ((v_1.getD (Int.toNat t8) yGlaw04Op.dflt).Area)), .lit (.int .i64 ((v_1.getD (Int.toNat t8) yGlaw04Op.dflt).N)), eS (lS (lI .u8)) ((v_1.getD (Int.toNat t8) yGlaw04Op.dflt).Parts), eS (lI .i64) ((v_1.getD (Int.toNat t8) yGlaw04Op.dflt).Areas)])]) ?_ ?_ ?_ ?_
                    ·exact (.cons (Sub.of_eq rfl) (.cons (Sub.of_eq rfl) (.cons (Sub.of_eq rfl) (.cons (Sub.of_eq rfl) (.cons (Sub.of_eq rfl) .nil)))))
                    ·exact (.cons .refl (.cons .refl (.cons .refl .nil)))
                    ·exact (by intro p hp; simp only [List.mem_cons, List.not_mem_nil, or_false] at hp; rcases hp with rfl <;> first | exact hd _ (show d ≤ d1 by omega))
                    ·omega
                   ·exact hj (t7, D, D_1) h
                  ·rw [ite_f hc_3] at h
                   refine LW_skip ?_
                   show LW _ _ _ _ _ _ _ _
                   obtain ⟨v_5, hv_5, h⟩ := bd_some h
                   refine xseq [(1, eS yGlaw04Op v_1), (5, .ptr (d, 0) 0), (6, .ptr (d, 1) 0), (7, .lit (.int .i64 t7)), (8, .lit (.int .i64 t8)), (9, .ptr (d1, 0) 0), (10, .lit (.int .i64 v_5.1))] (hp [((d, 0), oGdiskDisk v_5.2), ((d, 1), oGdiskDisk D_1), ((d1, 0), .box [.lit (.int .i64 ((v_1.getD (Int.toNat t8) yGlaw04Op.dflt).What)), .lit (.int .i64 ((v_1.getD (Int.toNat t8) yGlaw04Op.dflt).Area)), .lit (.int .i64 ((v_1.getD (Int.toNat t8) yGlaw04Op.dflt).N)), eS (lS (lI .u8)) ((v_1.getD (Int.toNat t8) yGlaw04Op.dflt).Parts), eS (lI .i64) ((v_1.getD (Int.toNat t8) yGlaw04Op.dflt).Areas)])] S) 1 ?_ (fun k kp hk => ?_)
                   ·refine LW_seq ?_
                    refine xseq [(1, eS yGlaw04Op v_1), (5, .ptr (d, 0) 0), (6, .ptr (d, 1) 0), (7, .lit (.int .i64 t7)), (8, .lit (.int .i64 t8)), (9, .ptr (d1, 0) 0), (10, .lit (.int .i64 v_5.1)), (58, .lit (.bool (t7 == 0)))] (hp [((d, 0), oGdiskDisk v_5.2), ((d, 1), oGdiskDisk D_1), ((d1, 0), .box [.lit (.int .i64 ((v_1.getD (Int.toNat t8) yGlaw04Op.dflt).What)), .lit (.int .i64 ((v_1.getD (Int.toNat t8) yGlaw04Op.dflt).Area)), .lit (.int .i64 ((v_1.getD (Int.toNat t8) yGlaw04Op.dflt).N)), eS (lS (lI .u8)) ((v_1.getD (Int.toNat t8) yGlaw04Op.dflt).Parts), eS (lI .i64) ((v_1.getD (Int.toNat t8) yGlaw04Op.dflt).Areas)])] S) 1 ?_ (fun k kp hk => ?_)
                    ·refine xcond (t7 == 0) rfl (fun hc_4 => ?_) (fun hc_4 => ?_)
                     ·rw [ite_t hc_4] at h
                      refine LW_seq ?_
                      refine xseq [(1, eS yGlaw04Op v_1), (5, .ptr (d, 0) 0), (6, .ptr (d, 1) 0), (7, .lit (.int .i64 t7)), (8, .lit (.int .i64 t8)), (60, .lit (.bool (v_5.1 == 0)))] (hp [((d, 0), oGdiskDisk v_5.2), ((d, 1), oGdiskDisk D_1), ((d1, 0), .box [.lit (.int .i64 ((v_1.getD (Int.toNat t8) yGlaw04Op.dflt).What)), .lit (.int .i64 ((v_1.getD (Int.toNat t8) yGlaw04Op.dflt).Area)), .lit (.int .i64 ((v_1.getD (Int.toNat t8) yGlaw04Op.dflt).N)), eS (lS (lI .u8)) ((v_1.getD (Int.toNat t8) yGlaw04Op.dflt).Parts), eS (lI .i64) ((v_1.getD (Int.toNat t8) yGlaw04Op.dflt).Areas)])] S) 1 ?_ (fun k kp hk => ?_)
                      ·refine xcond (v_5.1 == 0) rfl (fun hc_5 => ?_) (fun hc_5 => ?_)
                       ·rw [ite_t hc_5] at h
                        refine xseq [(1, eS yGlaw04Op v_1), (4, .lit (.bool false)), (5, .ptr (d, 0) 0), (6, .ptr (d, 1) 0), (7, .lit (.int .i64 t7)), (8, .lit (.int .i64 t8))] (hp [((d, 0), oGdiskDisk v_5.2), ((d, 1), oGdiskDisk D_1), ((d1, 0), .box [.lit (.int .i64 ((v_1.getD (Int.toNat t8) yGlaw04Op.dflt).What)), .lit (.int .i64 ((v_1.getD (Int.toNat t8) yGlaw04Op.dflt).Area)), .lit (.int .i64 ((v_1.getD (Int.toNat t8) yGlaw04Op.dflt).N)), eS (lS (lI .u8)) ((v_1.getD (Int.toNat t8) yGlaw04Op.dflt).Parts), eS (lI .i64) ((v_1.getD (Int.toNat t8) yGlaw04Op.dflt).Areas)])] S) 1 ?_ (fun k kp hk => ?_)
                        ·obtain ⟨hq, hxe⟩ := mr_go h hx1
                         clear h hx1
                         subst hxe
                         have h := hq
                         clear hq
                         refine LW_retX (sl' := [(4, .lit (.bool false))]) (S' := (hp [((d, 0), oGdiskDisk v_5.2), ((d, 1), oGdiskDisk D_1)] S)) (c' := 1) ?_ ?_
                         ·refine xghost (D := [((d1, 0), .box [.lit (.int .i64 ((v_1.getD (Int.toNat t8) yGlaw04Op.dflt).What)), .lit (.int .i64 ((v_1.getD (Int.toNat t8) yGlaw04Op.dflt).Area)), .lit (.int .i64 ((v_1.getD (Int.toNat t8) yGlaw04Op.dflt).N)), eS (lS (lI .u8)) ((v_1.getD (Int.toNat t8) yGlaw04Op.dflt).Parts), eS (lI .i64) ((v_1.getD (Int.toNat t8) yGlaw04Op.dflt).Areas)])]) ?_ ?_ ?_ ?_
                          ·exact (.cons (Sub.of_eq rfl) .nil)
                          ·exact (.cons .refl (.cons .refl (.cons .refl .nil)))
                          ·exact (by intro p hp; simp only [List.mem_cons, List.not_mem_nil, or_false] at hp; rcases hp with rfl <;> first | exact hd _ (show d ≤ d1 by omega))
                          ·omega
                         ·obtain rfl := Option.some.inj h
                          show FPost _ _ _ _ _ _ _
                          exact ⟨_, hp_less (L := []) (D := [((d, 0), oGdiskDisk v_5.2), ((d, 1), oGdiskDisk D_1)]) (by intro p hp; simp only [List.mem_cons, List.not_mem_nil, or_false] at hp; rcases hp with rfl | rfl <;> first | exact hd _ (Nat.le_refl _)), rfl, rfl⟩
                        ·try simp (maxSteps := 4000000) only [go_sem, Prod.mk.injEq, reduceIte, Nat.reduceEqDiff, Nat.reduceAdd, Nat.reduceSub, Nat.reduceMul, Nat.reduceDiv, Nat.reducePow, Nat.reduceLT, Nat.reduceLeDiff, Nat.reduceBEq, Nat.reduceBneDiff, Int.reduceToNat, Int.reduceEq, Int.reduceLE, Int.reduceLT, reduceCtorEq, hn1d, hm1d]
                         repeat (with_reducible refine And.intro ?_ ?_; next => first | assumption | trivial | omega | decide | (constructor <;> first | assumption | omega) | (simp [Keep.ok, hp_cons_apply, hset_cons, hn1d, hm1d]; done))
                         refine hk _ _ _ ?_
                         refine xghost (D := []) ?_ ?_ ?_ ?_
                         ·exact (.cons (Sub.of_eq rfl) (.cons (Sub.of_eq rfl) (.cons (Sub.of_eq rfl) (.cons (Sub.of_eq rfl) (.cons (Sub.of_eq rfl) (.cons (Sub.of_eq rfl) .nil))))))
                         ·exact HpW.refl
                         ·exact (by intro p hp; cases hp)
                         ·omega
                       ·rw [ite_f hc_5] at h
                        refine LW_skip ?_
                        show LW _ _ _ _ _ _ _ _
                        refine LW_exitX (sl' := [(1, eS yGlaw04Op v_1), (5, .ptr (d, 0) 0), (6, .ptr (d, 1) 0), (7, .lit (.int .i64 t7)), (8, .lit (.int .i64 t8))]) (S' := (hp [((d, 0), oGdiskDisk v_5.2), ((d, 1), oGdiskDisk D_1)] S)) (c' := 1) ?_ ?_
                        ·refine xghost (D := [((d1, 0), .box [.lit (.int .i64 ((v_1.getD (Int.toNat t8) yGlaw04Op.dflt).What)), .lit (.int .i64 ((v_1.getD (Int.toNat t8) yGlaw04Op.dflt).Area)), .lit (.int .i64 ((v_1.getD (Int.toNat t8) yGlaw04Op.dflt).N)), eS (lS (lI .u8)) ((v_1.getD (Int.toNat t8) yGlaw04Op.dflt).Parts), eS (lI .i64) ((v_1.getD (Int.toNat t8) yGlaw04Op.dflt).Areas)])]) ?_ ?_ ?_ ?_
                         ·exact (.cons (Sub.of_eq rfl) (.cons (Sub.of_eq rfl) (.cons (Sub.of_eq rfl) (.cons (Sub.of_eq rfl) (.cons (Sub.of_eq rfl) .nil)))))
                         ·exact (.cons .refl (.cons .refl (.cons .refl .nil)))
                         ·exact (by intro p hp; simp only [List.mem_cons, List.not_mem_nil, or_false] at hp; rcases hp with rfl <;> first | exact hd _ (show d ≤ d1 by omega))
                         ·omega
                        ·exact hj (t7, v_5.2, D_1) h
                      ·try simp (maxSteps := 4000000) only [go_sem, Prod.mk.injEq, reduceIte, Nat.reduceEqDiff, Nat.reduceAdd, Nat.reduceSub, Nat.reduceMul, Nat.reduceDiv, Nat.reducePow, Nat.reduceLT, Nat.reduceLeDiff, Nat.reduceBEq, Nat.reduceBneDiff, Int.reduceToNat, Int.reduceEq, Int.reduceLE, Int.reduceLT, reduceCtorEq, hn1d, hm1d]
                       repeat (with_reducible refine And.intro ?_ ?_; next => first | assumption | trivial | omega | decide | (constructor <;> first | assumption | omega) | (simp [Keep.ok, hp_cons_apply, hset_cons, hn1d, hm1d]; done))
                       refine hk _ _ _ ?_
                       refine xghost (D := []) ?_ ?_ ?_ ?_
                       ·exact (.cons (Sub.of_eq rfl) (.cons (Sub.of_eq rfl) (.cons (Sub.of_eq rfl) (.cons (Sub.of_eq rfl) (.cons (Sub.of_eq rfl) (.cons (Sub.of_eq rfl) .nil))))))
                       ·exact HpW.refl
                       ·exact (by intro p hp; cases hp)
                       ·omega
                     ·rw [ite_f hc_4] at h
                      refine LW_skip ?_
                      show LW _ _ _ _ _ _ _ _
                      refine LW_seq ?_
                      obtain ⟨v_6, hv_6, h⟩ := bd_some h
                      refine xseq [(1, eS yGlaw04Op v_1), (5, .ptr (d, 0) 0), (6, .ptr (d, 1) 0), (7, .lit (.int .i64 t7)), (8, .lit (.int .i64 t8)), (10, .lit (.int .i64 v_5.1)), (65, .lit (.bool (v_5.1 != v_6.1)))] (hp [((d, 0), oGdiskDisk v_5.2), ((d, 1), oGdiskDisk v_6.2), ((d1, 0), .box [.lit (.int .i64 ((v_1.getD (Int.toNat t8) yGlaw04Op.dflt).What)), .lit (.int .i64 ((v_1.getD (Int.toNat t8) yGlaw04Op.dflt).Area)), .lit (.int .i64 ((v_1.getD (Int.toNat t8) yGlaw04Op.dflt).N)), eS (lS (lI .u8)) ((v_1.getD (Int.toNat t8) yGlaw04Op.dflt).Parts), eS (lI .i64) ((v_1.getD (Int.toNat t8) yGlaw04Op.dflt).Areas)])] S) 1 ?_ (fun k kp hk => ?_)
                      ·refine xcond (v_5.1 != v_6.1) rfl (fun hc_6 => ?_) (fun hc_6 => ?_)
                       ·rw [ite_t hc_6] at h
                        refine xseq [(1, eS yGlaw04Op v_1), (4, .lit (.bool false)), (5, .ptr (d, 0) 0), (6, .ptr (d, 1) 0), (7, .lit (.int .i64 t7)), (8, .lit (.int .i64 t8))] (hp [((d, 0), oGdiskDisk v_5.2), ((d, 1), oGdiskDisk v_6.2), ((d1, 0), .box [.lit (.int .i64 ((v_1.getD (Int.toNat t8) yGlaw04Op.dflt).What)), .lit (.int .i64 ((v_1.getD (Int.toNat t8) yGlaw04Op.dflt).Area)), .lit (.int .i64 ((v_1.getD (Int.toNat t8) yGlaw04Op.dflt).N)), eS (lS (lI .u8)) ((v_1.getD (Int.toNat t8) yGlaw04Op.dflt).Parts), eS (lI .i64) ((v_1.getD (Int.toNat t8) yGlaw04Op.dflt).Areas)])] S) 1 ?_ (fun k kp hk => ?_)
                        ·obtain ⟨hq, hxe⟩ := mr_go h hx1
                         clear h hx1
                         subst hxe
                         have h := hq
                         clear hq
                         refine LW_retX (sl' := [(4, .lit (.bool false))]) (S' := (hp [((d, 0), oGdiskDisk v_5.2), ((d, 1), oGdiskDisk v_6.2)] S)) (c' := 1) ?_ ?_
                         ·refine xghost (D := [((d1, 0), .box [.lit (.int .i64 ((v_1.getD (Int.toNat t8) yGlaw04Op.dflt).What)), .lit (.int .i64 ((v_1.getD (Int.toNat t8) yGlaw04Op.dflt).Area)), .lit (.int .i64 ((v_1.getD (Int.toNat t8) yGlaw04Op.dflt).N)), eS (lS (lI .u8)) ((v_1.getD (Int.toNat t8) yGlaw04Op.dflt).Parts), eS (lI .i64) ((v_1.getD (Int.toNat t8) yGlaw04Op.dflt).Areas)])]) ?_ ?_ ?_ ?_
                          ·exact (.cons (Sub.of_eq rfl) .nil)
                          ·exact (.cons .refl (.cons .refl (.cons .refl .nil)))
                          ·exact (by intro p hp; simp only [List.mem_cons, List.not_mem_nil, or_false] at hp; rcases hp with rfl <;> first | exact hd _ (show d ≤ d1 by omega))
                          ·omega
                         ·obtain rfl := Option.some.inj h
                          show FPost _ _ _ _ _ _ _
                          exact ⟨_, hp_less (L := []) (D := [((d, 0), oGdiskDisk v_5.2), ((d, 1), oGdiskDisk v_6.2)]) (by intro p hp; simp only [List.mem_cons, List.not_mem_nil, or_false] at hp; rcases hp with rfl | rfl <;> first | exact hd _ (Nat.le_refl _)), rfl, rfl⟩
                        ·try simp (maxSteps := 4000000) only [go_sem, Prod.mk.injEq, reduceIte, Nat.reduceEqDiff, Nat.reduceAdd, Nat.reduceSub, Nat.reduceMul, Nat.reduceDiv, Nat.reducePow, Nat.reduceLT, Nat.reduceLeDiff, Nat.reduceBEq, Nat.reduceBneDiff, Int.reduceToNat, Int.reduceEq, Int.reduceLE, Int.reduceLT, reduceCtorEq, hn1d, hm1d]
                         repeat (with_reducible refine And.intro ?_ ?_; next => first | assumption | trivial | omega | decide | (constructor <;> first | assumption | omega) | (simp [Keep.ok, hp_cons_apply, hset_cons, hn1d, hm1d]; done))
                         refine hk _ _ _ ?_
                         refine xghost (D := []) ?_ ?_ ?_ ?_
                         ·exact (.cons (Sub.of_eq rfl) (.cons (Sub.of_eq rfl) (.cons (Sub.of_eq rfl) (.cons (Sub.of_eq rfl) (.cons (Sub.of_eq rfl) (.cons (Sub.of_eq rfl) .nil))))))
                         ·exact HpW.refl
                         ·exact (by intro p hp; cases hp)
                         ·omega
                       ·rw [ite_f hc_6] at h
                        refine LW_skip ?_
                        show LW _ _ _ _ _ _ _ _
                        refine xseq [(1, eS yGlaw04Op v_1), (5, .ptr (d, 0) 0), (6, .ptr (d, 1) 0), (7, .lit (.int .i64 t7)), (8, .lit (.int .i64 t8)), (67, .lit (.bool (v_5.1 == 0)))] (hp [((d, 0), oGdiskDisk v_5.2), ((d, 1), oGdiskDisk v_6.2), ((d1, 0), .box [.lit (.int .i64 ((v_1.getD (Int.toNat t8) yGlaw04Op.dflt).What)), .lit (.int .i64 ((v_1.getD (Int.toNat t8) yGlaw04Op.dflt).Area)), .lit (.int .i64 ((v_1.getD (Int.toNat t8) yGlaw04Op.dflt).N)), eS (lS (lI .u8)) ((v_1.getD (Int.toNat t8) yGlaw04Op.dflt).Parts), eS (lI .i64) ((v_1.getD (Int.toNat t8) yGlaw04Op.dflt).Areas)])] S) 1 ?_ (fun k kp hk => ?_)
                        ·refine xcond (v_5.1 == 0) rfl (fun hc_7 => ?_) (fun hc_7 => ?_)
                         ·rw [ite_t hc_7] at h
                          refine xreg [(1, eS yGlaw04Op v_1), (5, .ptr (d, 0) 0), (6, .ptr (d, 1) 0), (7, .lit (.int .i64 (IntKind.i64.wrap (t7 - 1)))), (8, .lit (.int .i64 t8))] (hp [((d, 0), oGdiskDisk v_5.2), ((d, 1), oGdiskDisk v_6.2)] S) 1 ?_ (fun k kp hk => ?_)
                          ·exact hj ((IntKind.i64.wrap (t7 - 1)), v_5.2, v_6.2) h
                          ·try simp (maxSteps := 4000000) only [go_sem, Prod.mk.injEq, reduceIte, Nat.reduceEqDiff, Nat.reduceAdd, Nat.reduceSub, Nat.reduceMul, Nat.reduceDiv, Nat.reducePow, Nat.reduceLT, Nat.reduceLeDiff, Nat.reduceBEq, Nat.reduceBneDiff, Int.reduceToNat, Int.reduceEq, Int.reduceLE, Int.reduceLT, reduceCtorEq, hn1d, hm1d]
                           repeat (with_reducible refine And.intro ?_ ?_; next => first | assumption | trivial | omega | decide | (constructor <;> first | assumption | omega) | (simp [Keep.ok, hp_cons_apply, hset_cons, hn1d, hm1d]; done))
                           refine hk _ _ _ ?_
                           refine xghost (D := [((d1, 0), .box [.lit (.int .i64 ((v_1.getD (Int.toNat t8) yGlaw04Op.dflt).What)), .lit (.int .i64 ((v_1.getD (Int.toNat t8) yGlaw04Op.dflt).Area)), .lit (.int .i64 ((v_1.getD (Int.toNat t8) yGlaw04Op.dflt).N)), eS (lS (lI .u8)) ((v_1.getD (Int.toNat t8) yGlaw04Op.dflt).Parts), eS (lI .i64) ((v_1.getD (Int.toNat t8) yGlaw04Op.dflt).Areas)])]) ?_ ?_ ?_ ?_
                           ·exact (.cons (Sub.of_eq rfl) (.cons (Sub.of_eq rfl) (.cons (Sub.of_eq rfl) (.cons (Sub.of_eq rfl) (.cons (Sub.of_eq rfl) .nil)))))
                           ·exact (.cons .refl (.cons .refl (.cons .refl .nil)))
                           ·exact (by intro p hp; simp only [List.mem_cons, List.not_mem_nil, or_false] at hp; rcases hp with rfl <;> first | exact hd _ (show d ≤ d1 by omega))
                           ·omega
                         ·rw [ite_f hc_7] at h
                          refine LW_skipX (sl' := [(1, eS yGlaw04Op v_1), (5, .ptr (d, 0) 0), (6, .ptr (d, 1) 0), (7, .lit (.int .i64 t7)), (8, .lit (.int .i64 t8))]) (S' := (hp [((d, 0), oGdiskDisk v_5.2), ((d, 1), oGdiskDisk v_6.2)] S)) (c' := 1) ?_ ?_
                          ·refine xghost (D := [((d1, 0), .box [.lit (.int .i64 ((v_1.getD (Int.toNat t8) yGlaw04Op.dflt).What)), .lit (.int .i64 ((v_1.getD (Int.toNat t8) yGlaw04Op.dflt).Area)), .lit (.int .i64 ((v_1.getD (Int.toNat t8) yGlaw04Op.dflt).N)), eS (lS (lI .u8)) ((v_1.getD (Int.toNat t8) yGlaw04Op.dflt).Parts), eS (lI .i64) ((v_1.getD (Int.toNat t8) yGlaw04Op.dflt).Areas)])]) ?_ ?_ ?_ ?_
                           ·exact (.cons (Sub.of_eq rfl) (.cons (Sub.of_eq rfl) (.cons (Sub.of_eq rfl) (.cons (Sub.of_eq rfl) (.cons (Sub.of_eq rfl) .nil)))))
                           ·exact (.cons .refl (.cons .refl (.cons .refl .nil)))
                           ·exact (by intro p hp; simp only [List.mem_cons, List.not_mem_nil, or_false] at hp; rcases hp with rfl <;> first | exact hd _ (show d ≤ d1 by omega))
                           ·omega
                          ·exact hj (t7, v_5.2, v_6.2) h
                        ·try simp (maxSteps := 4000000) only [go_sem, Prod.mk.injEq, reduceIte, Nat.reduceEqDiff, Nat.reduceAdd, Nat.reduceSub, Nat.reduceMul, Nat.reduceDiv, Nat.reducePow, Nat.reduceLT, Nat.reduceLeDiff, Nat.reduceBEq, Nat.reduceBneDiff, Int.reduceToNat, Int.reduceEq, Int.reduceLE, Int.reduceLT, reduceCtorEq, hn1d, hm1d]
                         repeat (with_reducible refine And.intro ?_ ?_; next => first | assumption | trivial | omega | decide | (constructor <;> first | assumption | omega) | (simp [Keep.ok, hp_cons_apply, hset_cons, hn1d, hm1d]; done))
                         refine hk _ _ _ ?_
                         refine xghost (D := []) ?_ ?_ ?_ ?_
                         ·exact (.cons (Sub.of_eq rfl) (.cons (Sub.of_eq rfl) (.cons (Sub.of_eq rfl) (.cons (Sub.of_eq rfl) (.cons (Sub.of_eq rfl) (.cons (Sub.of_eq rfl) .nil))))))
                         ·exact HpW.refl
                         ·exact (by intro p hp; cases hp)
                         ·omega
                      ·try simp (maxSteps := 4000000) only [go_sem, Prod.mk.injEq, reduceIte, Nat.reduceEqDiff, Nat.reduceAdd, Nat.reduceSub, Nat.reduceMul, Nat.reduceDiv, Nat.reducePow, Nat.reduceLT, Nat.reduceLeDiff, Nat.reduceBEq, Nat.reduceBneDiff, Int.reduceToNat, Int.reduceEq, Int.reduceLE, Int.reduceLT, reduceCtorEq, hn1d, hm1d]
                       repeat (with_reducible refine And.intro ?_ ?_; next => first | assumption | trivial | omega | decide | (constructor <;> first | assumption | omega) | (simp [Keep.ok, hp_cons_apply, hset_cons, hn1d, hm1d]; done))
                       have hcall := s_stanchionlaw04_act_ok (n0 := (d, 1)) (hS0 := by simp only [hp_cons_apply, hp_nil_apply, reduceIte, Prod.mk.injEq, Nat.reduceEqDiff, and_true, and_false, true_and, false_and, hn1d, hm1d] <;> rfl) (hp [((d, 0), oGdiskDisk v_5.2), ((d, 1), oGdiskDisk D_1), ((d1, 0), .box [.lit (.int .i64 ((v_1.getD (Int.toNat t8) yGlaw04Op.dflt).What)), .lit (.int .i64 ((v_1.getD (Int.toNat t8) yGlaw04Op.dflt).Area)), .lit (.int .i64 ((v_1.getD (Int.toNat t8) yGlaw04Op.dflt).N)), eS (lS (lI .u8)) ((v_1.getD (Int.toNat t8) yGlaw04Op.dflt).Parts), eS (lI .i64) ((v_1.getD (Int.toNat t8) yGlaw04Op.dflt).Areas)])] S) _ (v_1.getD (Int.toNat t8) yGlaw04Op.dflt) (h := hv_6)
                       refine call1_x hcall rfl ?_ ?_
                       ·exact (.cons Sub.refl (.cons Sub.refl .nil))
                       clear hcall
                       rintro _ SS ⟨rfl, hSS⟩ -
                       rw [hSS]
                       clear hSS
                       try simp (maxSteps := 4000000) only [go_sem, Prod.mk.injEq, reduceIte, Nat.reduceEqDiff, Nat.reduceAdd, Nat.reduceSub, Nat.reduceMul, Nat.reduceDiv, Nat.reducePow, Nat.reduceLT, Nat.reduceLeDiff, Nat.reduceBEq, Nat.reduceBneDiff, Int.reduceToNat, Int.reduceEq, Int.reduceLE, Int.reduceLT, reduceCtorEq, hn1d, hm1d]
                       repeat (with_reducible refine And.intro ?_ ?_; next => first | assumption | trivial | omega | decide | (constructor <;> first | assumption | omega) | (simp [Keep.ok, hp_cons_apply, hset_cons, hn1d, hm1d]; done))
                       refine hk _ _ _ ?_
                       refine xghost (D := []) ?_ ?_ ?_ ?_
                       ·exact (.cons (Sub.of_eq rfl) (.cons (Sub.of_eq rfl) (.cons (Sub.of_eq rfl) (.cons (Sub.of_eq rfl) (.cons (Sub.of_eq rfl) (.cons (Sub.of_eq rfl) (.cons (Sub.of_eq rfl) .nil)))))))
                       ·exact HpW.refl
                       ·exact (by intro p hp; cases hp)
                       ·omega
                    ·try simp (maxSteps := 4000000) only [go_sem, Prod.mk.injEq, reduceIte, Nat.reduceEqDiff, Nat.reduceAdd, Nat.reduceSub, Nat.reduceMul, Nat.reduceDiv, Nat.reducePow, Nat.reduceLT, Nat.reduceLeDiff, Nat.reduceBEq, Nat.reduceBneDiff, Int.reduceToNat, Int.reduceEq, Int.reduceLE, Int.reduceLT, reduceCtorEq, hn1d, hm1d]
                     repeat (with_reducible refine And.intro ?_ ?_; next => first | assumption | trivial | omega | decide | (constructor <;> first | assumption | omega) | (simp [Keep.ok, hp_cons_apply, hset_cons, hn1d, hm1d]; done))
                     refine hk _ _ _ ?_
                     refine xghost (D := []) ?_ ?_ ?_ ?_
                     ·exact (.cons (Sub.of_eq rfl) (.cons (Sub.of_eq rfl) (.cons (Sub.of_eq rfl) (.cons (Sub.of_eq rfl) (.cons (Sub.of_eq rfl) (.cons (Sub.of_eq rfl) (.cons (Sub.of_eq rfl) (.cons (Sub.of_eq rfl) .nil))))))))
                     ·exact HpW.refl
                     ·exact (by intro p hp; cases hp)
                     ·omega
                   ·try simp (maxSteps := 4000000) only [go_sem, Prod.mk.injEq, reduceIte, Nat.reduceEqDiff, Nat.reduceAdd, Nat.reduceSub, Nat.reduceMul, Nat.reduceDiv, Nat.reducePow, Nat.reduceLT, Nat.reduceLeDiff, Nat.reduceBEq, Nat.reduceBneDiff, Int.reduceToNat, Int.reduceEq, Int.reduceLE, Int.reduceLT, reduceCtorEq, hn1d, hm1d]
                    repeat (with_reducible refine And.intro ?_ ?_; next => first | assumption | trivial | omega | decide | (constructor <;> first | assumption | omega) | (simp [Keep.ok, hp_cons_apply, hset_cons, hn1d, hm1d]; done))
                    have hcall := s_stanchionlaw04_act_ok (n0 := (d, 0)) (hS0 := by simp only [hp_cons_apply, hp_nil_apply, reduceIte, Prod.mk.injEq, Nat.reduceEqDiff, and_true, and_false, true_and, false_and, hn1d, hm1d] <;> rfl) (hp [((d, 0), oGdiskDisk D), ((d, 1), oGdiskDisk D_1), ((d1, 0), .box [.lit (.int .i64 ((v_1.getD (Int.toNat t8) yGlaw04Op.dflt).What)), .lit (.int .i64 ((v_1.getD (Int.toNat t8) yGlaw04Op.dflt).Area)), .lit (.int .i64 ((v_1.getD (Int.toNat t8) yGlaw04Op.dflt).N)), eS (lS (lI .u8)) ((v_1.getD (Int.toNat t8) yGlaw04Op.dflt).Parts), eS (lI .i64) ((v_1.getD (Int.toNat t8) yGlaw04Op.dflt).Areas)])] S) _ (v_1.getD (Int.toNat t8) yGlaw04Op.dflt) (h := hv_5)
                    refine call1_x hcall rfl ?_ ?_
                    ·exact (.cons Sub.refl (.cons Sub.refl .nil))
                    clear hcall
                    rintro _ SS ⟨rfl, hSS⟩ -
                    rw [hSS]
                    clear hSS
                    try simp (maxSteps := 4000000) only [go_sem, Prod.mk.injEq, reduceIte, Nat.reduceEqDiff, Nat.reduceAdd, Nat.reduceSub, Nat.reduceMul, Nat.reduceDiv, Nat.reducePow, Nat.reduceLT, Nat.reduceLeDiff, Nat.reduceBEq, Nat.reduceBneDiff, Int.reduceToNat, Int.reduceEq, Int.reduceLE, Int.reduceLT, reduceCtorEq, hn1d, hm1d]
                    repeat (with_reducible refine And.intro ?_ ?_; next => first | assumption | trivial | omega | decide | (constructor <;> first | assumption | omega) | (simp [Keep.ok, hp_cons_apply, hset_cons, hn1d, hm1d]; done))
                    refine hk _ _ _ ?_
                    refine xghost (D := []) ?_ ?_ ?_ ?_
                    ·exact (.cons (Sub.of_eq rfl) (.cons (Sub.of_eq rfl) (.cons (Sub.of_eq rfl) (.cons (Sub.of_eq rfl) (.cons (Sub.of_eq rfl) (.cons (Sub.of_eq rfl) (.cons (Sub.of_eq rfl) .nil)))))))
                    ·exact HpW.refl
                    ·exact (by intro p hp; cases hp)
                    ·omega
                 ·try simp (maxSteps := 4000000) only [go_sem, Prod.mk.injEq, reduceIte, Nat.reduceEqDiff, Nat.reduceAdd, Nat.reduceSub, Nat.reduceMul, Nat.reduceDiv, Nat.reducePow, Nat.reduceLT, Nat.reduceLeDiff, Nat.reduceBEq, Nat.reduceBneDiff, Int.reduceToNat, Int.reduceEq, Int.reduceLE, Int.reduceLT, reduceCtorEq, hn1d, hm1d]
                  repeat (with_reducible refine And.intro ?_ ?_; next => first | assumption | trivial | omega | decide | (constructor <;> first | assumption | omega) | (simp [Keep.ok, hp_cons_apply, hset_cons, hn1d, hm1d]; done))
                  refine xo_guard (decide ((v_1.getD (Int.toNat t8) yGlaw04Op.dflt).What < 1)) rfl (fun hc_8 => ?_) (fun hc_8 => ?_)
                  ·try simp (maxSteps := 4000000) only [go_sem, Prod.mk.injEq, reduceIte, Nat.reduceEqDiff, Nat.reduceAdd, Nat.reduceSub, Nat.reduceMul, Nat.reduceDiv, Nat.reducePow, Nat.reduceLT, Nat.reduceLeDiff, Nat.reduceBEq, Nat.reduceBneDiff, Int.reduceToNat, Int.reduceEq, Int.reduceLE, Int.reduceLT, reduceCtorEq, hn1d, hm1d, hc_8]
                   repeat (with_reducible refine And.intro ?_ ?_; next => first | assumption | trivial | omega | decide | (constructor <;> first | assumption | omega) | (simp [Keep.ok, hp_cons_apply, hset_cons, hn1d, hm1d]; done))
                   refine hk _ _ _ ?_
                   refine xghost (D := []) ?_ ?_ ?_ ?_
                   ·exact (.cons (Sub.of_eq rfl) (.cons (Sub.of_eq rfl) (.cons (Sub.of_eq rfl) (.cons (Sub.of_eq rfl) (.cons (Sub.of_eq rfl) (.cons (Sub.of_eq rfl) (.cons (Sub.of_eq (by first | rfl | (simp only [sget_cons, reduceIte, Nat.reduceEqDiff, Bool.and_true, Bool.true_and, Bool.and_false, Bool.false_and, Bool.or_true, Bool.true_or, Bool.or_false, Bool.false_or, Bool.not_true, Bool.not_false, Bool.not_not, hc_8]; done))) .nil)))))))
                   ·exact HpW.refl
                   ·exact (by intro p hp; cases hp)
                   ·omega
                  ·try simp (maxSteps := 4000000) only [go_sem, Prod.mk.injEq, reduceIte, Nat.reduceEqDiff, Nat.reduceAdd, Nat.reduceSub, Nat.reduceMul, Nat.reduceDiv, Nat.reducePow, Nat.reduceLT, Nat.reduceLeDiff, Nat.reduceBEq, Nat.reduceBneDiff, Int.reduceToNat, Int.reduceEq, Int.reduceLE, Int.reduceLT, reduceCtorEq, hn1d, hm1d, hc_8]
                   repeat (with_reducible refine And.intro ?_ ?_; next => first | assumption | trivial | omega | decide | (constructor <;> first | assumption | omega) | (simp [Keep.ok, hp_cons_apply, hset_cons, hn1d, hm1d]; done))
                   refine hk _ _ _ ?_
                   refine xghost (D := []) ?_ ?_ ?_ ?_
                   ·exact (.cons (Sub.of_eq rfl) (.cons (Sub.of_eq rfl) (.cons (Sub.of_eq rfl) (.cons (Sub.of_eq rfl) (.cons (Sub.of_eq rfl) (.cons (Sub.of_eq rfl) (.cons (Sub.of_eq (by first | rfl | (simp only [sget_cons, reduceIte, Nat.reduceEqDiff, Bool.and_true, Bool.true_and, Bool.and_false, Bool.false_and, Bool.or_true, Bool.true_or, Bool.or_false, Bool.false_or, Bool.not_true, Bool.not_false, Bool.not_not, hc_8]; done))) .nil)))))))
                   ·exact HpW.refl
                   ·exact (by intro p hp; cases hp)
                   ·omega
                ·try simp (maxSteps := 4000000) only [go_sem, Prod.mk.injEq, reduceIte, Nat.reduceEqDiff, Nat.reduceAdd, Nat.reduceSub, Nat.reduceMul, Nat.reduceDiv, Nat.reducePow, Nat.reduceLT, Nat.reduceLeDiff, Nat.reduceBEq, Nat.reduceBneDiff, Int.reduceToNat, Int.reduceEq, Int.reduceLE, Int.reduceLT, reduceCtorEq, hn1d, hm1d]
                 repeat (with_reducible refine And.intro ?_ ?_; next => first | assumption | trivial | omega | decide | (constructor <;> first | assumption | omega) | (simp [Keep.ok, hp_cons_apply, hset_cons, hn1d, hm1d]; done))
                 refine hk _ _ _ ?_
                 refine xghost (D := []) ?_ ?_ ?_ ?_
                 ·exact (.cons (Sub.of_eq rfl) (.cons (Sub.of_eq rfl) (.cons (Sub.of_eq rfl) (.cons (Sub.of_eq rfl) (.cons (Sub.of_eq rfl) (.cons (Sub.of_eq rfl) .nil))))))
                 ·exact HpW.refl
                 ·exact (by intro p hp; cases hp)
                 ·omega
              ·rw [ite_f hc_2] at h
               obtain ⟨hq, hxe⟩ := mr_go h hx1
               clear h hx1
               subst hxe
               have h := hq
               clear hq
               refine LW_exitX (sl' := [(1, eS yGlaw04Op v_1), (5, .ptr (d, 0) 0), (6, .ptr (d, 1) 0), (7, .lit (.int .i64 t7)), (8, .lit (.int .i64 t8)), (39, .lit (.bool (decide (t8 < (v_1.length : Int)))))]) (S' := (hp [((d, 0), oGdiskDisk D), ((d, 1), oGdiskDisk D_1)] S)) (c' := 0) ?_ ?_
               ·refine xghost (D := []) ?_ ?_ ?_ ?_
                ·exact (.cons (Sub.of_eq rfl) (.cons (Sub.of_eq rfl) (.cons (Sub.of_eq rfl) (.cons (Sub.of_eq rfl) (.cons (Sub.of_eq rfl) (.cons (Sub.of_eq rfl) .nil))))))
                ·exact HpW.refl
                ·exact (by intro p hp; cases hp)
                ·omega
               ·show LW _ _ _ _ _ _ _ _
                refine LW_seq ?_
                refine xseq [(5, .ptr (d, 0) 0), (6, .ptr (d, 1) 0), (11, .lit (.int .i64 0))] (hp [((d, 0), oGdiskDisk D), ((d, 1), oGdiskDisk D_1)] S) 2 ?_ (fun k kp hk => ?_)
                ·refine LW_block ?_
                 refine LW_loopX (c := 2) (σ := Int) (s := 0) (fun zz => [(5, .ptr (d, 0) 0), (6, .ptr (d, 1) 0), (11, .lit (.int .i64 zz))]) (fun zz => (hp [((d, 0), oGdiskDisk D), ((d, 1), oGdiskDisk D_1)] S)) h ?_ ?_
                 ·clear h
                  rintro t11 x1 d1 hd1 hf1 h hx1
                  show LW _ _ _ _ [(5, .ptr (d, 0) 0), (6, .ptr (d, 1) 0), (11, .lit (.int .i64 t11))] (hp [((d, 0), oGdiskDisk D), ((d, 1), oGdiskDisk D_1)] S) 0 _
                  have hn1d : (d = d1) = False := by simp; omega
                  have hm1d : (d1 = d) = False := by simp; omega
                  rw [s_stanchionlaw04_DiskPower_b2] at h
                  refine LW_seq ?_
                  refine xseq [(5, .ptr (d, 0) 0), (6, .ptr (d, 1) 0), (11, .lit (.int .i64 t11)), (71, .lit (.bool (decide (t11 < 2))))] (hp [((d, 0), oGdiskDisk D), ((d, 1), oGdiskDisk D_1)] S) 0 ?_ (fun k kp hk => ?_)
                  ·refine xcond (decide (t11 < 2)) rfl (fun hc_9 => ?_) (fun hc_9 => ?_)
                   ·rw [ite_t hc_9] at h
                    refine LW_skip ?_
                    show LW _ _ _ _ _ _ _ _
                    refine LW_seq ?_
                    refine LW_block ?_
                    obtain ⟨v_7, hv_7, h⟩ := bd_some h
                    refine xseq [(5, .ptr (d, 0) 0), (6, .ptr (d, 1) 0), (11, .lit (.int .i64 t11)), (12, eS (lI .u8) v_7.1)] (hp [((d, 0), oGdiskDisk D), ((d, 1), oGdiskDisk D_1)] S) 0 ?_ (fun k kp hk => ?_)
                    ·obtain ⟨v_8, hv_8, h⟩ := bd_some h
                     refine xseq [(5, .ptr (d, 0) 0), (6, .ptr (d, 1) 0), (11, .lit (.int .i64 t11)), (12, eS (lI .u8) v_7.1), (14, eS (lI .u8) v_8.1)] (hp [((d, 0), oGdiskDisk D), ((d, 1), oGdiskDisk D_1)] S) 0 ?_ (fun k kp hk => ?_)
                     ·obtain ⟨v_9, hv_9, h⟩ := bd_some h
                      refine xseq [(5, .ptr (d, 0) 0), (6, .ptr (d, 1) 0), (11, .lit (.int .i64 t11)), (89, .lit (.bool (!v_9)))] (hp [((d, 0), oGdiskDisk D), ((d, 1), oGdiskDisk D_1)] S) 0 ?_ (fun k kp hk => ?_)
                      ·refine xcond (!v_9) rfl (fun hc_10 => ?_) (fun hc_10 => ?_)
                       ·rw [ite_t hc_10] at h
                        refine xseq [(4, .lit (.bool false)), (5, .ptr (d, 0) 0), (6, .ptr (d, 1) 0), (11, .lit (.int .i64 t11))] (hp [((d, 0), oGdiskDisk D), ((d, 1), oGdiskDisk D_1)] S) 0 ?_ (fun k kp hk => ?_)
                        ·obtain ⟨hq, hxe⟩ := mr_go h hx1
                         clear h hx1
                         subst hxe
                         have h := hq
                         clear hq
                         refine LW_retX (sl' := [(4, .lit (.bool false))]) (S' := (hp [((d, 0), oGdiskDisk D), ((d, 1), oGdiskDisk D_1)] S)) (c' := 0) ?_ ?_
                         ·refine xghost (D := []) ?_ ?_ ?_ ?_
                          ·exact (.cons (Sub.of_eq rfl) .nil)
                          ·exact HpW.refl
                          ·exact (by intro p hp; cases hp)
                          ·omega
                         ·obtain rfl := Option.some.inj h
                          show FPost _ _ _ _ _ _ _
                          exact ⟨_, hp_less (L := []) (D := [((d, 0), oGdiskDisk D), ((d, 1), oGdiskDisk D_1)]) (by intro p hp; simp only [List.mem_cons, List.not_mem_nil, or_false] at hp; rcases hp with rfl | rfl <;> first | exact hd _ (Nat.le_refl _)), rfl, rfl⟩
                        ·try simp (maxSteps := 4000000) only [go_sem, Prod.mk.injEq, reduceIte, Nat.reduceEqDiff, Nat.reduceAdd, Nat.reduceSub, Nat.reduceMul, Nat.reduceDiv, Nat.reducePow, Nat.reduceLT, Nat.reduceLeDiff, Nat.reduceBEq, Nat.reduceBneDiff, Int.reduceToNat, Int.reduceEq, Int.reduceLE, Int.reduceLT, reduceCtorEq, hn1d, hm1d, hn1d, hm1d]
                         repeat (with_reducible refine And.intro ?_ ?_; next => first | assumption | trivial | omega | decide | (constructor <;> first | assumption | omega) | (simp [Keep.ok, hp_cons_apply, hset_cons, hn1d, hm1d, hn1d, hm1d]; done))
                         refine hk _ _ _ ?_
                         refine xghost (D := []) ?_ ?_ ?_ ?_
                         ·exact (.cons (Sub.of_eq rfl) (.cons (Sub.of_eq rfl) (.cons (Sub.of_eq rfl) (.cons (Sub.of_eq rfl) .nil))))
                         ·exact HpW.refl
                         ·exact (by intro p hp; cases hp)
                         ·omega
                       ·rw [ite_f hc_10] at h
                        refine LW_skip ?_
                        show LW _ _ _ _ _ _ _ _
                        refine xreg [(5, .ptr (d, 0) 0), (6, .ptr (d, 1) 0), (11, .lit (.int .i64 (IntKind.i64.wrap (t11 + 1))))] (hp [((d, 0), oGdiskDisk D), ((d, 1), oGdiskDisk D_1)] S) 0 ?_ (fun k kp hk => ?_)
                        ·cases h
                         exact ⟨rfl, Less.refl _⟩
                        ·try simp (maxSteps := 4000000) only [go_sem, Prod.mk.injEq, reduceIte, Nat.reduceEqDiff, Nat.reduceAdd, Nat.reduceSub, Nat.reduceMul, Nat.reduceDiv, Nat.reducePow, Nat.reduceLT, Nat.reduceLeDiff, Nat.reduceBEq, Nat.reduceBneDiff, Int.reduceToNat, Int.reduceEq, Int.reduceLE, Int.reduceLT, reduceCtorEq, hn1d, hm1d, hn1d, hm1d]
                         repeat (with_reducible refine And.intro ?_ ?_; next => first | assumption | trivial | omega | decide | (constructor <;> first | assumption | omega) | (simp [Keep.ok, hp_cons_apply, hset_cons, hn1d, hm1d, hn1d, hm1d]; done))
                         refine hk _ _ _ ?_
                         refine xghost (D := []) ?_ ?_ ?_ ?_
                         ·exact (.cons (Sub.of_eq rfl) (.cons (Sub.of_eq rfl) (.cons (Sub.of_eq rfl) .nil)))
                         ·exact HpW.refl
                         ·exact (by intro p hp; cases hp)
                         ·omega
                      ·try simp (maxSteps := 4000000) only [go_sem, Prod.mk.injEq, reduceIte, Nat.reduceEqDiff, Nat.reduceAdd, Nat.reduceSub, Nat.reduceMul, Nat.reduceDiv, Nat.reducePow, Nat.reduceLT, Nat.reduceLeDiff, Nat.reduceBEq, Nat.reduceBneDiff, Int.reduceToNat, Int.reduceEq, Int.reduceLE, Int.reduceLT, reduceCtorEq, hn1d, hm1d, hn1d, hm1d]
                       repeat (with_reducible refine And.intro ?_ ?_; next => first | assumption | trivial | omega | decide | (constructor <;> first | assumption | omega) | (simp [Keep.ok, hp_cons_apply, hset_cons, hn1d, hm1d, hn1d, hm1d]; done))
                       have hcall := s_stanchionref00_SameBytes_ok (hp [((d, 0), oGdiskDisk D), ((d, 1), oGdiskDisk D_1)] S) v_7.1 v_8.1 hv_9
                       refine call1_x hcall rfl ?_ ?_
                       ·exact (.cons Sub.refl (.cons Sub.refl .nil))
                       clear hcall
                       rintro _ SS ⟨rfl, hSS⟩ -
                       rw [hSS]
                       clear hSS
                       try simp (maxSteps := 4000000) only [go_sem, Prod.mk.injEq, reduceIte, Nat.reduceEqDiff, Nat.reduceAdd, Nat.reduceSub, Nat.reduceMul, Nat.reduceDiv, Nat.reducePow, Nat.reduceLT, Nat.reduceLeDiff, Nat.reduceBEq, Nat.reduceBneDiff, Int.reduceToNat, Int.reduceEq, Int.reduceLE, Int.reduceLT, reduceCtorEq, hn1d, hm1d, hn1d, hm1d]
                       repeat (with_reducible refine And.intro ?_ ?_; next => first | assumption | trivial | omega | decide | (constructor <;> first | assumption | omega) | (simp [Keep.ok, hp_cons_apply, hset_cons, hn1d, hm1d, hn1d, hm1d]; done))
                       refine hk _ _ _ ?_
                       refine xghost (D := []) ?_ ?_ ?_ ?_
                       ·exact (.cons (Sub.of_eq rfl) (.cons (Sub.of_eq rfl) (.cons (Sub.of_eq rfl) (.cons (Sub.of_eq rfl) .nil))))
                       ·exact HpW.refl
                       ·exact (by intro p hp; cases hp)
                       ·omega
                     ·try simp (maxSteps := 4000000) only [go_sem, Prod.mk.injEq, reduceIte, Nat.reduceEqDiff, Nat.reduceAdd, Nat.reduceSub, Nat.reduceMul, Nat.reduceDiv, Nat.reducePow, Nat.reduceLT, Nat.reduceLeDiff, Nat.reduceBEq, Nat.reduceBneDiff, Int.reduceToNat, Int.reduceEq, Int.reduceLE, Int.reduceLT, reduceCtorEq, hn1d, hm1d, hn1d, hm1d]
                      repeat (with_reducible refine And.intro ?_ ?_; next => first | assumption | trivial | omega | decide | (constructor <;> first | assumption | omega) | (simp [Keep.ok, hp_cons_apply, hset_cons, hn1d, hm1d, hn1d, hm1d]; done))
                      have hcall := s_disk_Disk_Read_ok (n0 := (d, 1)) (hS0 := by simp only [hp_cons_apply, hp_nil_apply, reduceIte, Prod.mk.injEq, Nat.reduceEqDiff, and_true, and_false, true_and, false_and, hn1d, hm1d, hn1d, hm1d] <;> rfl) (hp [((d, 0), oGdiskDisk D), ((d, 1), oGdiskDisk D_1)] S) _ t11 (h := hv_8)
                      refine call1_x hcall rfl ?_ ?_
                      ·exact (.cons Sub.refl (.cons Sub.refl .nil))
                      clear hcall
                      rintro _ SS ⟨rfl, hSS⟩ -
                      rw [hSS]
                      clear hSS
                      try simp (maxSteps := 4000000) only [go_sem, Prod.mk.injEq, reduceIte, Nat.reduceEqDiff, Nat.reduceAdd, Nat.reduceSub, Nat.reduceMul, Nat.reduceDiv, Nat.reducePow, Nat.reduceLT, Nat.reduceLeDiff, Nat.reduceBEq, Nat.reduceBneDiff, Int.reduceToNat, Int.reduceEq, Int.reduceLE, Int.reduceLT, reduceCtorEq, hn1d, hm1d, hn1d, hm1d]
                      repeat (with_reducible refine And.intro ?_ ?_; next => first | assumption | trivial | omega | decide | (constructor <;> first | assumption | omega) | (simp [Keep.ok, hp_cons_apply, hset_cons, hn1d, hm1d, hn1d, hm1d]; done))
                      refine hk _ _ _ ?_
                      refine xghost (D := []) ?_ ?_ ?_ ?_
                      ·exact (.cons (Sub.of_eq rfl) (.cons (Sub.of_eq rfl) (.cons (Sub.of_eq rfl) (.cons (Sub.of_eq rfl) (.cons (Sub.of_eq rfl) .nil)))))
                      ·exact HpW.refl
                      ·exact (by intro p hp; cases hp)
                      ·omega
                    ·try simp (maxSteps := 4000000) only [go_sem, Prod.mk.injEq, reduceIte, Nat.reduceEqDiff, Nat.reduceAdd, Nat.reduceSub, Nat.reduceMul, Nat.reduceDiv, Nat.reducePow, Nat.reduceLT, Nat.reduceLeDiff, Nat.reduceBEq, Nat.reduceBneDiff, Int.reduceToNat, Int.reduceEq, Int.reduceLE, Int.reduceLT, reduceCtorEq, hn1d, hm1d, hn1d, hm1d]
                     repeat (with_reducible refine And.intro ?_ ?_; next => first | assumption | trivial | omega | decide | (constructor <;> first | assumption | omega) | (simp [Keep.ok, hp_cons_apply, hset_cons, hn1d, hm1d, hn1d, hm1d]; done))
                     have hcall := s_disk_Disk_Read_ok (n0 := (d, 0)) (hS0 := by simp only [hp_cons_apply, hp_nil_apply, reduceIte, Prod.mk.injEq, Nat.reduceEqDiff, and_true, and_false, true_and, false_and, hn1d, hm1d, hn1d, hm1d] <;> rfl) (hp [((d, 0), oGdiskDisk D), ((d, 1), oGdiskDisk D_1)] S) _ t11 (h := hv_7)
                     refine call1_x hcall rfl ?_ ?_
                     ·exact (.cons Sub.refl (.cons Sub.refl .nil))
                     clear hcall
                     rintro _ SS ⟨rfl, hSS⟩ -
                     rw [hSS]
                     clear hSS
                     try simp (maxSteps := 4000000) only [go_sem, Prod.mk.injEq, reduceIte, Nat.reduceEqDiff, Nat.reduceAdd, Nat.reduceSub, Nat.reduceMul, Nat.reduceDiv, Nat.reducePow, Nat.reduceLT, Nat.reduceLeDiff, Nat.reduceBEq, Nat.reduceBneDiff, Int.reduceToNat, Int.reduceEq, Int.reduceLE, Int.reduceLT, reduceCtorEq, hn1d, hm1d, hn1d, hm1d]
                     repeat (with_reducible refine And.intro ?_ ?_; next => first | assumption | trivial | omega | decide | (constructor <;> first | assumption | omega) | (simp [Keep.ok, hp_cons_apply, hset_cons, hn1d, hm1d, hn1d, hm1d]; done))
                     refine hk _ _ _ ?_
                     refine xghost (D := []) ?_ ?_ ?_ ?_
                     ·exact (.cons (Sub.of_eq rfl) (.cons (Sub.of_eq rfl) (.cons (Sub.of_eq rfl) (.cons (Sub.of_eq rfl) .nil))))
                     ·exact HpW.refl
                     ·exact (by intro p hp; cases hp)
                     ·omega
                   ·rw [ite_f hc_9] at h
                    obtain ⟨hq, hxe⟩ := mr_go h hx1
                    clear h hx1
                    subst hxe
                    have h := hq
                    clear hq
                    refine LW_exitX (sl' := [(5, .ptr (d, 0) 0), (6, .ptr (d, 1) 0), (11, .lit (.int .i64 t11)), (71, .lit (.bool (decide (t11 < 2))))]) (S' := (hp [((d, 0), oGdiskDisk D), ((d, 1), oGdiskDisk D_1)] S)) (c' := 0) ?_ ?_
                    ·refine xghost (D := []) ?_ ?_ ?_ ?_
                     ·exact (.cons (Sub.of_eq rfl) (.cons (Sub.of_eq rfl) (.cons (Sub.of_eq rfl) (.cons (Sub.of_eq rfl) .nil))))
                     ·exact HpW.refl
                     ·exact (by intro p hp; cases hp)
                     ·omega
                    ·show LW _ _ _ _ _ _ _ _
                     refine xseq [(4, .lit (.bool true))] (hp [((d, 0), oGdiskDisk D), ((d, 1), oGdiskDisk D_1)] S) 2 ?_ (fun k kp hk => ?_)
                     ·refine LW_ret ?_
                      obtain rfl := Option.some.inj h
                      show FPost _ _ _ _ _ _ _
                      exact ⟨_, hp_less (L := []) (D := [((d, 0), oGdiskDisk D), ((d, 1), oGdiskDisk D_1)]) (by intro p hp; simp only [List.mem_cons, List.not_mem_nil, or_false] at hp; rcases hp with rfl | rfl <;> first | exact hd _ (Nat.le_refl _)), rfl, rfl⟩
                     ·try simp (maxSteps := 4000000) only [go_sem, Prod.mk.injEq, reduceIte, Nat.reduceEqDiff, Nat.reduceAdd, Nat.reduceSub, Nat.reduceMul, Nat.reduceDiv, Nat.reducePow, Nat.reduceLT, Nat.reduceLeDiff, Nat.reduceBEq, Nat.reduceBneDiff, Int.reduceToNat, Int.reduceEq, Int.reduceLE, Int.reduceLT, reduceCtorEq, hn1d, hm1d, hn1d, hm1d]
                      repeat (with_reducible refine And.intro ?_ ?_; next => first | assumption | trivial | omega | decide | (constructor <;> first | assumption | omega) | (simp [Keep.ok, hp_cons_apply, hset_cons, hn1d, hm1d, hn1d, hm1d]; done))
                      refine hk _ _ _ ?_
                      refine xghost (D := []) ?_ ?_ ?_ ?_
                      ·exact (.cons (Sub.of_eq rfl) .nil)
                      ·exact HpW.refl
                      ·exact (by intro p hp; cases hp)
                      ·omega
                  ·try simp (maxSteps := 4000000) only [go_sem, Prod.mk.injEq, reduceIte, Nat.reduceEqDiff, Nat.reduceAdd, Nat.reduceSub, Nat.reduceMul, Nat.reduceDiv, Nat.reducePow, Nat.reduceLT, Nat.reduceLeDiff, Nat.reduceBEq, Nat.reduceBneDiff, Int.reduceToNat, Int.reduceEq, Int.reduceLE, Int.reduceLT, reduceCtorEq, hn1d, hm1d, hn1d, hm1d]
                   repeat (with_reducible refine And.intro ?_ ?_; next => first | assumption | trivial | omega | decide | (constructor <;> first | assumption | omega) | (simp [Keep.ok, hp_cons_apply, hset_cons, hn1d, hm1d, hn1d, hm1d]; done))
                   refine hk _ _ _ ?_
                   refine xghost (D := []) ?_ ?_ ?_ ?_
                   ·exact (.cons (Sub.of_eq rfl) (.cons (Sub.of_eq rfl) (.cons (Sub.of_eq rfl) (.cons (Sub.of_eq rfl) .nil))))
                   ·exact HpW.refl
                   ·exact (by intro p hp; cases hp)
                   ·omega
                 ·refine xghost (D := []) ?_ ?_ ?_ ?_
                  ·exact (.cons (Sub.of_eq rfl) (.cons (Sub.of_eq rfl) (.cons (Sub.of_eq rfl) .nil)))
                  ·exact HpW.refl
                  ·exact (by intro p hp; cases hp)
                  ·omega
                ·try simp (maxSteps := 4000000) only [go_sem, Prod.mk.injEq, reduceIte, Nat.reduceEqDiff, Nat.reduceAdd, Nat.reduceSub, Nat.reduceMul, Nat.reduceDiv, Nat.reducePow, Nat.reduceLT, Nat.reduceLeDiff, Nat.reduceBEq, Nat.reduceBneDiff, Int.reduceToNat, Int.reduceEq, Int.reduceLE, Int.reduceLT, reduceCtorEq, hn1d, hm1d]
                 repeat (with_reducible refine And.intro ?_ ?_; next => first | assumption | trivial | omega | decide | (constructor <;> first | assumption | omega) | (simp [Keep.ok, hp_cons_apply, hset_cons, hn1d, hm1d]; done))
                 refine hk _ _ _ ?_
                 refine xghost (D := []) ?_ ?_ ?_ ?_
                 ·exact (.cons (Sub.of_eq rfl) (.cons (Sub.of_eq rfl) (.cons (Sub.of_eq rfl) .nil)))
                 ·exact HpW.refl
                 ·exact (by intro p hp; cases hp)
                 ·omega
             ·try simp (maxSteps := 4000000) only [go_sem, Prod.mk.injEq, reduceIte, Nat.reduceEqDiff, Nat.reduceAdd, Nat.reduceSub, Nat.reduceMul, Nat.reduceDiv, Nat.reducePow, Nat.reduceLT, Nat.reduceLeDiff, Nat.reduceBEq, Nat.reduceBneDiff, Int.reduceToNat, Int.reduceEq, Int.reduceLE, Int.reduceLT, reduceCtorEq, hn1d, hm1d]
              repeat (with_reducible refine And.intro ?_ ?_; next => first | assumption | trivial | omega | decide | (constructor <;> first | assumption | omega) | (simp [Keep.ok, hp_cons_apply, hset_cons, hn1d, hm1d]; done))
              refine hk _ _ _ ?_
              refine xghost (D := []) ?_ ?_ ?_ ?_
              ·exact (.cons (Sub.of_eq rfl) (.cons (Sub.of_eq rfl) (.cons (Sub.of_eq rfl) (.cons (Sub.of_eq rfl) (.cons (Sub.of_eq rfl) (.cons (Sub.of_eq rfl) .nil))))))
              ·exact HpW.refl
              ·exact (by intro p hp; cases hp)
              ·omega
            ·refine xghost (D := []) ?_ ?_ ?_ ?_
             ·exact (.cons (Sub.of_eq rfl) (.cons (Sub.of_eq rfl) (.cons (Sub.of_eq rfl) (.cons (Sub.of_eq rfl) (.cons (Sub.of_eq rfl) .nil)))))
             ·exact HpW.refl
             ·exact (by intro p hp; cases hp)
             ·omega
           ·try simp (maxSteps := 4000000) only [go_sem, Prod.mk.injEq, reduceIte, Nat.reduceEqDiff, Nat.reduceAdd, Nat.reduceSub, Nat.reduceMul, Nat.reduceDiv, Nat.reducePow, Nat.reduceLT, Nat.reduceLeDiff, Nat.reduceBEq, Nat.reduceBneDiff, Int.reduceToNat, Int.reduceEq, Int.reduceLE, Int.reduceLT, reduceCtorEq]
            repeat (with_reducible refine And.intro ?_ ?_; next => first | assumption | trivial | omega | decide | (constructor <;> first | assumption | omega) | (simp [Keep.ok, hp_cons_apply, hset_cons]; done))
            refine hk _ _ _ ?_
            refine xghost (D := []) ?_ ?_ ?_ ?_
            ·exact (.cons (Sub.of_eq rfl) (.cons (Sub.of_eq rfl) (.cons (Sub.of_eq rfl) (.cons (Sub.of_eq rfl) (.cons (Sub.of_eq rfl) .nil)))))
            ·exact HpW.refl
            ·exact (by intro p hp; cases hp)
            ·omega
          ·try simp (maxSteps := 4000000) only [go_sem, Prod.mk.injEq, reduceIte, Nat.reduceEqDiff, Nat.reduceAdd, Nat.reduceSub, Nat.reduceMul, Nat.reduceDiv, Nat.reducePow, Nat.reduceLT, Nat.reduceLeDiff, Nat.reduceBEq, Nat.reduceBneDiff, Int.reduceToNat, Int.reduceEq, Int.reduceLE, Int.reduceLT, reduceCtorEq]
           repeat (with_reducible refine And.intro ?_ ?_; next => first | assumption | trivial | omega | decide | (constructor <;> first | assumption | omega) | (simp [Keep.ok, hp_cons_apply, hset_cons]; done))
           refine hk _ _ _ ?_
           refine xghost (D := []) ?_ ?_ ?_ ?_
           ·exact (.cons (Sub.of_eq rfl) (.cons (Sub.of_eq rfl) (.cons (Sub.of_eq rfl) (.cons (Sub.of_eq rfl) .nil))))
           ·exact HpW.refl
           ·exact (by intro p hp; cases hp)
           ·omega
         ·try simp (maxSteps := 4000000) only [go_sem, Prod.mk.injEq, reduceIte, Nat.reduceEqDiff, Nat.reduceAdd, Nat.reduceSub, Nat.reduceMul, Nat.reduceDiv, Nat.reducePow, Nat.reduceLT, Nat.reduceLeDiff, Nat.reduceBEq, Nat.reduceBneDiff, Int.reduceToNat, Int.reduceEq, Int.reduceLE, Int.reduceLT, reduceCtorEq]
          repeat (with_reducible refine And.intro ?_ ?_; next => first | assumption | trivial | omega | decide | (constructor <;> first | assumption | omega) | (simp [Keep.ok, hp_cons_apply, hset_cons]; done))
          refine hk _ _ _ ?_
          refine xghost (D := []) ?_ ?_ ?_ ?_
          ·exact (.cons (Sub.of_eq rfl) (.cons (Sub.of_eq rfl) (.cons (Sub.of_eq rfl) (.cons (Sub.of_eq rfl) (.cons (Sub.of_eq rfl) .nil)))))
          ·exact HpW.refl
          ·exact (by intro p hp; cases hp)
          ·omega
        ·try simp (maxSteps := 4000000) only [go_sem, Prod.mk.injEq, reduceIte, Nat.reduceEqDiff, Nat.reduceAdd, Nat.reduceSub, Nat.reduceMul, Nat.reduceDiv, Nat.reducePow, Nat.reduceLT, Nat.reduceLeDiff, Nat.reduceBEq, Nat.reduceBneDiff, Int.reduceToNat, Int.reduceEq, Int.reduceLE, Int.reduceLT, reduceCtorEq]
         repeat (with_reducible refine And.intro ?_ ?_; next => first | assumption | trivial | omega | decide | (constructor <;> first | assumption | omega) | (simp [Keep.ok, hp_cons_apply, hset_cons]; done))
         have hcall := s_disk_New_ok (hp [((d, 0), oGdiskDisk v_3)] S) (-1) hv_4
         refine call1_new hcall rfl rfl ?_ ?_
         ·exact (.cons Sub.refl .nil)
         clear hcall
         try simp (maxSteps := 4000000) only [go_sem, Prod.mk.injEq, reduceIte, Nat.reduceEqDiff, Nat.reduceAdd, Nat.reduceSub, Nat.reduceMul, Nat.reduceDiv, Nat.reducePow, Nat.reduceLT, Nat.reduceLeDiff, Nat.reduceBEq, Nat.reduceBneDiff, Int.reduceToNat, Int.reduceEq, Int.reduceLE, Int.reduceLT, reduceCtorEq]
         repeat (with_reducible refine And.intro ?_ ?_; next => first | assumption | trivial | omega | decide | (constructor <;> first | assumption | omega) | (simp [Keep.ok, hp_cons_apply, hset_cons]; done))
         refine hk _ _ _ ?_
         refine xghost (D := []) ?_ ?_ ?_ ?_
         ·exact (.cons (Sub.of_eq rfl) (.cons (Sub.of_eq rfl) (.cons (Sub.of_eq rfl) (.cons (Sub.of_eq rfl) .nil))))
         ·exact HpW.refl
         ·exact (by intro p hp; cases hp)
         ·omega
       ·try simp (maxSteps := 4000000) only [go_sem, Prod.mk.injEq, reduceIte, Nat.reduceEqDiff, Nat.reduceAdd, Nat.reduceSub, Nat.reduceMul, Nat.reduceDiv, Nat.reducePow, Nat.reduceLT, Nat.reduceLeDiff, Nat.reduceBEq, Nat.reduceBneDiff, Int.reduceToNat, Int.reduceEq, Int.reduceLE, Int.reduceLT, reduceCtorEq]
        repeat (with_reducible refine And.intro ?_ ?_; next => first | assumption | trivial | omega | decide | (constructor <;> first | assumption | omega) | (simp [Keep.ok, hp_cons_apply, hset_cons]; done))
        have hcall := s_disk_New_ok (hp [] S) t hv_3
        refine call1_new hcall rfl rfl ?_ ?_
        ·exact (.cons Sub.refl .nil)
        clear hcall
        try simp (maxSteps := 4000000) only [go_sem, Prod.mk.injEq, reduceIte, Nat.reduceEqDiff, Nat.reduceAdd, Nat.reduceSub, Nat.reduceMul, Nat.reduceDiv, Nat.reducePow, Nat.reduceLT, Nat.reduceLeDiff, Nat.reduceBEq, Nat.reduceBneDiff, Int.reduceToNat, Int.reduceEq, Int.reduceLE, Int.reduceLT, reduceCtorEq]
        repeat (with_reducible refine And.intro ?_ ?_; next => first | assumption | trivial | omega | decide | (constructor <;> first | assumption | omega) | (simp [Keep.ok, hp_cons_apply, hset_cons]; done))
        refine hk _ _ _ ?_
        refine xghost (D := []) ?_ ?_ ?_ ?_
        ·exact (.cons (Sub.of_eq rfl) (.cons (Sub.of_eq rfl) (.cons (Sub.of_eq rfl) .nil)))
        ·exact HpW.refl
        ·exact (by intro p hp; cases hp)
        ·omega
     ·try simp (maxSteps := 4000000) only [go_sem, Prod.mk.injEq, reduceIte, Nat.reduceEqDiff, Nat.reduceAdd, Nat.reduceSub, Nat.reduceMul, Nat.reduceDiv, Nat.reducePow, Nat.reduceLT, Nat.reduceLeDiff, Nat.reduceBEq, Nat.reduceBneDiff, Int.reduceToNat, Int.reduceEq, Int.reduceLE, Int.reduceLT, reduceCtorEq]
      repeat (with_reducible refine And.intro ?_ ?_; next => first | assumption | trivial | omega | decide | (constructor <;> first | assumption | omega) | (simp [Keep.ok, hp_cons_apply, hset_cons]; done))
      have hcall := s_stanchionlaw04_great_ok (hp [] S) v_1 hv_2
      refine call1_x hcall rfl ?_ ?_
      ·exact (.cons Sub.refl .nil)
      clear hcall
      rintro _ SS ⟨rfl, hSS⟩ -
      rw [hSS]
      clear hSS
      try simp (maxSteps := 4000000) only [go_sem, Prod.mk.injEq, reduceIte, Nat.reduceEqDiff, Nat.reduceAdd, Nat.reduceSub, Nat.reduceMul, Nat.reduceDiv, Nat.reducePow, Nat.reduceLT, Nat.reduceLeDiff, Nat.reduceBEq, Nat.reduceBneDiff, Int.reduceToNat, Int.reduceEq, Int.reduceLE, Int.reduceLT, reduceCtorEq]
      repeat (with_reducible refine And.intro ?_ ?_; next => first | assumption | trivial | omega | decide | (constructor <;> first | assumption | omega) | (simp [Keep.ok, hp_cons_apply, hset_cons]; done))
      refine xo_guard v_2 rfl (fun hc_11 => ?_) (fun hc_11 => ?_)
      ·try simp (maxSteps := 4000000) only [go_sem, Prod.mk.injEq, reduceIte, Nat.reduceEqDiff, Nat.reduceAdd, Nat.reduceSub, Nat.reduceMul, Nat.reduceDiv, Nat.reducePow, Nat.reduceLT, Nat.reduceLeDiff, Nat.reduceBEq, Nat.reduceBneDiff, Int.reduceToNat, Int.reduceEq, Int.reduceLE, Int.reduceLT, reduceCtorEq, hc_11]
       repeat (with_reducible refine And.intro ?_ ?_; next => first | assumption | trivial | omega | decide | (constructor <;> first | assumption | omega) | (simp [Keep.ok, hp_cons_apply, hset_cons]; done))
       refine hk _ _ _ ?_
       refine xghost (D := []) ?_ ?_ ?_ ?_
       ·exact (.cons (Sub.of_eq rfl) (.cons (Sub.of_eq rfl) (.cons (Sub.of_eq (by first | rfl | (simp only [sget_cons, reduceIte, Nat.reduceEqDiff, Bool.and_true, Bool.true_and, Bool.and_false, Bool.false_and, Bool.or_true, Bool.true_or, Bool.or_false, Bool.false_or, Bool.not_true, Bool.not_false, Bool.not_not, hc_11]; done))) .nil)))
       ·exact HpW.refl
       ·exact (by intro p hp; cases hp)
       ·omega
      ·try simp (maxSteps := 4000000) only [go_sem, Prod.mk.injEq, reduceIte, Nat.reduceEqDiff, Nat.reduceAdd, Nat.reduceSub, Nat.reduceMul, Nat.reduceDiv, Nat.reducePow, Nat.reduceLT, Nat.reduceLeDiff, Nat.reduceBEq, Nat.reduceBneDiff, Int.reduceToNat, Int.reduceEq, Int.reduceLE, Int.reduceLT, reduceCtorEq, hc_11]
       repeat (with_reducible refine And.intro ?_ ?_; next => first | assumption | trivial | omega | decide | (constructor <;> first | assumption | omega) | (simp [Keep.ok, hp_cons_apply, hset_cons]; done))
       refine hk _ _ _ ?_
       refine xghost (D := []) ?_ ?_ ?_ ?_
       ·exact (.cons (Sub.of_eq rfl) (.cons (Sub.of_eq rfl) (.cons (Sub.of_eq (by first | rfl | (simp only [sget_cons, reduceIte, Nat.reduceEqDiff, Bool.and_true, Bool.true_and, Bool.and_false, Bool.false_and, Bool.or_true, Bool.true_or, Bool.or_false, Bool.false_or, Bool.not_true, Bool.not_false, Bool.not_not, hc_11]; done))) .nil)))
       ·exact HpW.refl
       ·exact (by intro p hp; cases hp)
       ·omega
    ·try simp (maxSteps := 4000000) only [go_sem, Prod.mk.injEq, reduceIte, Nat.reduceEqDiff, Nat.reduceAdd, Nat.reduceSub, Nat.reduceMul, Nat.reduceDiv, Nat.reducePow, Nat.reduceLT, Nat.reduceLeDiff, Nat.reduceBEq, Nat.reduceBneDiff, Int.reduceToNat, Int.reduceEq, Int.reduceLE, Int.reduceLT, reduceCtorEq]
     repeat (with_reducible refine And.intro ?_ ?_; next => first | assumption | trivial | omega | decide | (constructor <;> first | assumption | omega) | (simp [Keep.ok, hp_cons_apply, hset_cons]; done))
     have hcall := s_stanchionlaw04_cut_ok (hp [] S) o hv_1
     refine call1_x hcall rfl ?_ ?_
     ·exact (.cons Sub.refl .nil)
     clear hcall
     rintro _ SS ⟨rfl, hSS⟩ -
     rw [hSS]
     clear hSS
     try simp (maxSteps := 4000000) only [go_sem, Prod.mk.injEq, reduceIte, Nat.reduceEqDiff, Nat.reduceAdd, Nat.reduceSub, Nat.reduceMul, Nat.reduceDiv, Nat.reducePow, Nat.reduceLT, Nat.reduceLeDiff, Nat.reduceBEq, Nat.reduceBneDiff, Int.reduceToNat, Int.reduceEq, Int.reduceLE, Int.reduceLT, reduceCtorEq]
     repeat (with_reducible refine And.intro ?_ ?_; next => first | assumption | trivial | omega | decide | (constructor <;> first | assumption | omega) | (simp [Keep.ok, hp_cons_apply, hset_cons]; done))
     refine hk _ _ _ ?_
     refine xghost (D := []) ?_ ?_ ?_ ?_
     ·exact (.cons (Sub.of_eq rfl) (.cons (Sub.of_eq rfl) .nil))
     ·exact HpW.refl
     ·exact (by intro p hp; cases hp)
     ·omega
  ·try simp (maxSteps := 4000000) only [go_sem, Prod.mk.injEq, reduceIte, Nat.reduceEqDiff, Nat.reduceAdd, Nat.reduceSub, Nat.reduceMul, Nat.reduceDiv, Nat.reducePow, Nat.reduceLT, Nat.reduceLeDiff, Nat.reduceBEq, Nat.reduceBneDiff, Int.reduceToNat, Int.reduceEq, Int.reduceLE, Int.reduceLT, reduceCtorEq]
   repeat (with_reducible refine And.intro ?_ ?_; next => first | assumption | trivial | omega | decide | (constructor <;> first | assumption | omega) | (simp [Keep.ok, hp_cons_apply, hset_cons]; done))
   have hcall := s_stanchionlaw04_alive_ok (hp [] S)  hv
   refine call1_x hcall rfl ?_ ?_
   ·exact .nil
   clear hcall
   rintro _ SS ⟨rfl, hSS⟩ -
   rw [hSS]
   clear hSS
   try simp (maxSteps := 4000000) only [go_sem, Prod.mk.injEq, reduceIte, Nat.reduceEqDiff, Nat.reduceAdd, Nat.reduceSub, Nat.reduceMul, Nat.reduceDiv, Nat.reducePow, Nat.reduceLT, Nat.reduceLeDiff, Nat.reduceBEq, Nat.reduceBneDiff, Int.reduceToNat, Int.reduceEq, Int.reduceLE, Int.reduceLT, reduceCtorEq]
   repeat (with_reducible refine And.intro ?_ ?_; next => first | assumption | trivial | omega | decide | (constructor <;> first | assumption | omega) | (simp [Keep.ok, hp_cons_apply, hset_cons]; done))
   refine hk _ _ _ ?_
   refine xghost (D := []) ?_ ?_ ?_ ?_
   ·exact (.cons (Sub.of_eq rfl) (.cons (Sub.of_eq rfl) (.cons (Sub.of_eq rfl) .nil)))
   ·exact HpW.refl
   ·exact (by intro p hp; cases hp)
   ·omega
 ·try simp (maxSteps := 4000000) only [go_sem, Prod.mk.injEq, reduceIte, Nat.reduceEqDiff, Nat.reduceAdd, Nat.reduceSub, Nat.reduceMul, Nat.reduceDiv, Nat.reducePow, Nat.reduceLT, Nat.reduceLeDiff, Nat.reduceBEq, Nat.reduceBneDiff, Int.reduceToNat, Int.reduceEq, Int.reduceLE, Int.reduceLT, reduceCtorEq]
  repeat (with_reducible refine And.intro ?_ ?_; next => first | assumption | trivial | omega | decide | (constructor <;> first | assumption | omega) | (simp [Keep.ok, hp_cons_apply, hset_cons]; done))
  refine hk _ _ _ ?_
  refine xghost (D := []) ?_ ?_ ?_ ?_
  ·exact (.cons (Sub.of_eq rfl) (.cons (Sub.of_eq rfl) .nil))
  ·exact HpW.refl
  ·exact (by intro p hp; cases hp)
  ·omega
end
end Go.Proofs.Ythdmpdagkccphaa
