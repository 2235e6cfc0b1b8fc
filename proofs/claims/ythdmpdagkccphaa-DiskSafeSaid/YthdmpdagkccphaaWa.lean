/- Go functions as Lean functions, and that their code does as these say. Printed by a program of this work. -/
import Derived.Test.YthdmpdagkccphaaWL
set_option linter.unusedVariables false
set_option linter.unusedSimpArgs false
set_option maxRecDepth 100000
set_option maxHeartbeats 4000000
namespace Go.Proofs.Ythdmpdagkccphaa
open Go Go.Al
noncomputable section
/-! stanchion/disk.New -/
def s_disk_New (power : Int) : Option GdiskDisk :=
 some (GdiskDisk.mk power (Ar2.mk (Gdiskarea.mk [] 0) (Gdiskarea.mk [] 0)))
theorem s_disk_New_ok (S : AHeap) (power : Int) {r : GdiskDisk} (h : s_disk_New power = some r) :
  AC Try.prog n_disk_New [.lit (.int .i64 power)] S fun r' S' => ∃ m : Name, S m = none ∧ r' = .ret (.ptr m 0) ∧ S' = S.set m (oGdiskDisk r) := by
 refine AC_of tok mixed fits_disk_New fun d hd => ?_
 unfold c_disk_New
 show LW _ _ _ _ [(0, .lit (.int .i64 power))] (hp [] S) 0 _
 rw [s_disk_New] at h
 refine xseq [(0, .lit (.int .i64 power))] (hp [] S) 0 ?_ (fun k kp hk => ?_)
 ·refine xseq [(2, .ptr (d, 0) 0)] (hp [((d, 0), .box [.lit (.int .i64 power), .lit (.slice none 0 0), .lit (.int .i64 0), .lit (.slice none 0 0), .lit (.int .i64 0)])] S) 1 ?_ (fun k kp hk => ?_)
  ·refine LW_retX (sl' := [(2, .ptr (d, 0) 0)]) (S' := (hp [((d, 0), .box [.lit (.int .i64 power), eO (lI .u8) [], .lit (.int .i64 0), eO (lI .u8) [], .lit (.int .i64 0)])] S)) (c' := 1) ?_ ?_
   ·refine Ghost.trans (Ghost.ownNilX (lI .u8) (n := (d, 0)) (i := 1) (cs := [.lit (.int .i64 power), .lit (.slice none 0 0), .lit (.int .i64 0), .lit (.slice none 0 0), .lit (.int .i64 0)]) (A' := [((d, 0), .box [.lit (.int .i64 power), eO (lI .u8) [], .lit (.int .i64 0), .lit (.slice none 0 0), .lit (.int .i64 0)])]) (by simp only [hp_cons_apply, hp_nil_apply, reduceIte, Prod.mk.injEq, Nat.reduceEqDiff, and_true, and_false, true_and, false_and, oGdiskDisk] <;> rfl) rfl Sub.nil_empt (by simp only [hset_cons, hset_nil, hrem_cons, hrem_nil, List.set_cons_zero, List.set_cons_succ, reduceIte, Prod.mk.injEq, Nat.reduceEqDiff, and_true, and_false, true_and, false_and, oGdiskDisk])) ?_
    refine Ghost.trans (Ghost.ownNilX (lI .u8) (n := (d, 0)) (i := 3) (cs := [.lit (.int .i64 power), eO (lI .u8) [], .lit (.int .i64 0), .lit (.slice none 0 0), .lit (.int .i64 0)]) (A' := [((d, 0), .box [.lit (.int .i64 power), eO (lI .u8) [], .lit (.int .i64 0), eO (lI .u8) [], .lit (.int .i64 0)])]) (by simp only [hp_cons_apply, hp_nil_apply, reduceIte, Prod.mk.injEq, Nat.reduceEqDiff, and_true, and_false, true_and, false_and, oGdiskDisk] <;> rfl) rfl Sub.nil_empt (by simp only [hset_cons, hset_nil, hrem_cons, hrem_nil, List.set_cons_zero, List.set_cons_succ, reduceIte, Prod.mk.injEq, Nat.reduceEqDiff, and_true, and_false, true_and, false_and, oGdiskDisk])) ?_
    refine xghost (D := []) ?_ ?_ ?_ ?_
    ·exact (.cons (Sub.of_eq rfl) .nil)
    ·exact HpW.refl
    ·exact (by intro p hp; cases hp)
    ·omega
   ·obtain rfl := Option.some.inj h
    show FPost _ _ _ _ _ _ _
    exact ⟨_, hp_less (L := [((d, 0), .box [.lit (.int .i64 power), eO (lI .u8) [], .lit (.int .i64 0), eO (lI .u8) [], .lit (.int .i64 0)])]) (D := []) (by intro p hp; cases hp), (d, 0), hd _ (Nat.le_refl _), rfl, rfl⟩
  ·try simp (maxSteps := 4000000) only [go_sem, Prod.mk.injEq, reduceIte, Nat.reduceEqDiff, Nat.reduceAdd, Nat.reduceSub, Nat.reduceMul, Nat.reduceDiv, Nat.reducePow, Nat.reduceLT, Nat.reduceLeDiff, Nat.reduceBEq, Nat.reduceBneDiff, Int.reduceToNat, Int.reduceEq, Int.reduceLE, Int.reduceLT, reduceCtorEq, oGdiskDisk]
   repeat (with_reducible refine And.intro ?_ ?_; next => first | assumption | trivial | omega | decide | (constructor <;> first | assumption | omega) | (simp [Keep.ok, hp_cons_apply, hset_cons, oGdiskDisk]; done))
   refine hk _ _ _ ?_
   refine xghost (D := []) ?_ ?_ ?_ ?_
   ·exact (.cons (Sub.of_eq rfl) .nil)
   ·exact HpW.refl
   ·exact (by intro p hp; cases hp)
   ·omega
 ·try simp (maxSteps := 4000000) only [go_sem, Prod.mk.injEq, reduceIte, Nat.reduceEqDiff, Nat.reduceAdd, Nat.reduceSub, Nat.reduceMul, Nat.reduceDiv, Nat.reducePow, Nat.reduceLT, Nat.reduceLeDiff, Nat.reduceBEq, Nat.reduceBneDiff, Int.reduceToNat, Int.reduceEq, Int.reduceLE, Int.reduceLT, reduceCtorEq, oGdiskDisk]
  repeat (with_reducible refine And.intro ?_ ?_; next => first | assumption | trivial | omega | decide | (constructor <;> first | assumption | omega) | (simp [Keep.ok, hp_cons_apply, hset_cons, oGdiskDisk]; done))
  refine hk _ _ _ ?_
  refine xghost (D := []) ?_ ?_ ?_ ?_
  ·exact (.cons (Sub.of_eq rfl) .nil)
  ·exact HpW.refl
  ·exact (by intro p hp; cases hp)
  ·omega
/-! slices.IndexFunc[[]int,int] -/
def s_slices_IndexFunc_int_int_b1 (s : List Int) (f : Int → Option Bool) : Int → Option ((Int) ⊕ Int)
 | t8 => if (decide (t8 < (s.length : Int))) = true then gd ((0 ≤ t8 ∧ Int.toNat t8 < s.length)) (bd (f (s.getD (Int.toNat t8) 0)) fun (v : Bool) => if v = true then mr (some t8) else some (.inl (IntKind.i64.wrap (t8 + 1)))) else mr (some (-1))
def s_slices_IndexFunc_int_int (s : List Int) (f : Int → Option Bool) : Option Int :=
 loop (s_slices_IndexFunc_int_int_b1 s f) 0
theorem s_slices_IndexFunc_int_int_ok (S : AHeap) (s : List Int) (f : Int → Option Bool) {g1 : FuncId} {fi1 ca1 : List AV} (hp1 : ∀ (S : AHeap) (a0 : Int) (r : Bool), f a0 = some r → AC Try.prog g1 (fi1 ++ [.lit (.int .i64 a0)] ++ ca1) S fun r' S' => r' = .ret (.lit (.bool r)) ∧ S' = S) {r : Int} (h : s_slices_IndexFunc_int_int s f = some r) :
  AC Try.prog n_slices_IndexFunc_int_int [eS (lI .i64) s, .fn (.func g1) fi1 ca1] S fun r' S' => r' = .ret (.lit (.int .i64 r)) ∧ S' = S := by
 refine AC_of tok mixed fits_slices_IndexFunc_int_int fun d hd => ?_
 unfold c_slices_IndexFunc_int_int
 show LW _ _ _ _ [(0, eS (lI .i64) s), (1, .fn (.func g1) fi1 ca1)] (hp [] S) 0 _
 rw [s_slices_IndexFunc_int_int] at h
 refine xseq [(0, eS (lI .i64) s), (1, .fn (.func g1) fi1 ca1)] (hp [] S) 0 ?_ (fun k kp hk => ?_)
 ·refine LW_seq ?_
  refine xseq [(0, eS (lI .i64) s), (1, .fn (.func g1) fi1 ca1), (7, .lit (.int .i64 (s.length : Int))), (8, .lit (.int .i64 0))] (hp [] S) 0 ?_ (fun k kp hk => ?_)
  ·refine LW_block ?_
   refine LW_loopX (c := 0) (σ := Int) (s := 0) (fun zz => [(0, eS (lI .i64) s), (1, .fn (.func g1) fi1 ca1), (7, .lit (.int .i64 (s.length : Int))), (8, .lit (.int .i64 zz))]) (fun zz => (hp [] S)) h ?_ ?_
   ·clear h
    rintro t8 x1 d1 hd1 hf1 h hx1
    show LW _ _ _ _ [(0, eS (lI .i64) s), (1, .fn (.func g1) fi1 ca1), (7, .lit (.int .i64 (s.length : Int))), (8, .lit (.int .i64 t8))] (hp [] S) 0 _
    have hn1d : (d = d1) = False := by simp; omega
    have hm1d : (d1 = d) = False := by simp; omega
    rw [s_slices_IndexFunc_int_int_b1] at h
    refine xseq [(0, eS (lI .i64) s), (1, .fn (.func g1) fi1 ca1), (7, .lit (.int .i64 (s.length : Int))), (8, .lit (.int .i64 t8)), (9, .lit (.bool (decide (t8 < (s.length : Int)))))] (hp [] S) 0 ?_ (fun k kp hk => ?_)
    ·refine LW_seq ?_
     refine xcond (decide (t8 < (s.length : Int))) rfl (fun hc => ?_) (fun hc => ?_)
     ·rw [ite_t hc] at h
      refine LW_skip ?_
      show LW _ _ _ _ _ _ _ _
      refine LW_seq ?_
      refine LW_block ?_
      refine xseq [(0, eS (lI .i64) s), (1, .fn (.func g1) fi1 ca1), (5, .lit (.int .i64 t8)), (7, .lit (.int .i64 (s.length : Int))), (8, .lit (.int .i64 t8))] (hp [] S) 0 ?_ (fun k kp hk => ?_)
      ·obtain ⟨hg, h⟩ := gd_some h
       obtain ⟨v, hv, h⟩ := bd_some h
       refine xseq [(0, eS (lI .i64) s), (1, .fn (.func g1) fi1 ca1), (5, .lit (.int .i64 t8)), (7, .lit (.int .i64 (s.length : Int))), (8, .lit (.int .i64 t8)), (16, .lit (.bool v))] (hp [] S) 0 ?_ (fun k kp hk => ?_)
       ·refine xcond v rfl (fun hc_1 => ?_) (fun hc_1 => ?_)
        ·rw [ite_t hc_1] at h
         refine xseq [(0, eS (lI .i64) s), (1, .fn (.func g1) fi1 ca1), (4, .lit (.int .i64 t8)), (7, .lit (.int .i64 (s.length : Int))), (8, .lit (.int .i64 t8))] (hp [] S) 0 ?_ (fun k kp hk => ?_)
         ·obtain ⟨hq, hxe⟩ := mr_go h hx1
          clear h hx1
          subst hxe
          have h := hq
          clear hq
          refine LW_retX (sl' := [(4, .lit (.int .i64 t8))]) (S' := (hp [] S)) (c' := 0) ?_ ?_
          ·refine xghost (D := []) ?_ ?_ ?_ ?_
           ·exact (.cons (Sub.of_eq rfl) .nil)
           ·exact HpW.refl
           ·exact (by intro p hp; cases hp)
           ·omega
          ·obtain rfl := Option.some.inj h
           show FPost _ _ _ _ _ _ _
           exact ⟨_, hp_less (L := []) (D := []) (by intro p hp; cases hp), rfl, rfl⟩
         ·try simp (maxSteps := 4000000) only [go_sem, Prod.mk.injEq, reduceIte, Nat.reduceEqDiff, Nat.reduceAdd, Nat.reduceSub, Nat.reduceMul, Nat.reduceDiv, Nat.reducePow, Nat.reduceLT, Nat.reduceLeDiff, Nat.reduceBEq, Nat.reduceBneDiff, Int.reduceToNat, Int.reduceEq, Int.reduceLE, Int.reduceLT, reduceCtorEq, hn1d, hm1d]
          repeat (with_reducible refine And.intro ?_ ?_; next => first | assumption | trivial | omega | decide | (constructor <;> first | assumption | omega) | (simp [Keep.ok, hp_cons_apply, hset_cons, hn1d, hm1d]; done))
          refine hk _ _ _ ?_
          refine xghost (D := []) ?_ ?_ ?_ ?_
          ·exact (.cons (Sub.of_eq rfl) (.cons (Sub.of_eq rfl) (.cons (Sub.of_eq rfl) (.cons (Sub.of_eq rfl) (.cons (Sub.of_eq rfl) .nil)))))
          ·exact HpW.refl
          ·exact (by intro p hp; cases hp)
          ·omega
        ·rw [ite_f hc_1] at h
         refine LW_skip ?_
         show LW _ _ _ _ _ _ _ _
         refine xreg [(0, eS (lI .i64) s), (1, .fn (.func g1) fi1 ca1), (7, .lit (.int .i64 (s.length : Int))), (8, .lit (.int .i64 (IntKind.i64.wrap (t8 + 1))))] (hp [] S) 0 ?_ (fun k kp hk => ?_)
         ·cases h
          exact ⟨rfl, Less.refl _⟩
         ·try simp (maxSteps := 4000000) only [go_sem, Prod.mk.injEq, reduceIte, Nat.reduceEqDiff, Nat.reduceAdd, Nat.reduceSub, Nat.reduceMul, Nat.reduceDiv, Nat.reducePow, Nat.reduceLT, Nat.reduceLeDiff, Nat.reduceBEq, Nat.reduceBneDiff, Int.reduceToNat, Int.reduceEq, Int.reduceLE, Int.reduceLT, reduceCtorEq, hn1d, hm1d]
          repeat (with_reducible refine And.intro ?_ ?_; next => first | assumption | trivial | omega | decide | (constructor <;> first | assumption | omega) | (simp [Keep.ok, hp_cons_apply, hset_cons, hn1d, hm1d]; done))
          refine hk _ _ _ ?_
          refine xghost (D := []) ?_ ?_ ?_ ?_
          ·exact (.cons (Sub.of_eq rfl) (.cons (Sub.of_eq rfl) (.cons (Sub.of_eq rfl) (.cons (Sub.of_eq rfl) .nil))))
          ·exact HpW.refl
          ·exact (by intro p hp; cases hp)
          ·omega
       ·try simp (maxSteps := 4000000) only [go_sem, Prod.mk.injEq, reduceIte, Nat.reduceEqDiff, Nat.reduceAdd, Nat.reduceSub, Nat.reduceMul, Nat.reduceDiv, Nat.reducePow, Nat.reduceLT, Nat.reduceLeDiff, Nat.reduceBEq, Nat.reduceBneDiff, Int.reduceToNat, Int.reduceEq, Int.reduceLE, Int.reduceLT, reduceCtorEq, hn1d, hm1d]
        repeat (with_reducible refine And.intro ?_ ?_; next => first | assumption | trivial | omega | decide | (constructor <;> first | assumption | omega) | (simp [Keep.ok, hp_cons_apply, hset_cons, hn1d, hm1d]; done))
        have hcall := hp1 (hp [] S) _ _ hv
        refine call1_x hcall rfl ?_ ?_
        ·first | exact SubL.refl | exact (.cons Sub.refl .nil)
        clear hcall
        rintro _ SS ⟨rfl, hSS⟩ -
        rw [hSS]
        clear hSS
        try simp (maxSteps := 4000000) only [go_sem, Prod.mk.injEq, reduceIte, Nat.reduceEqDiff, Nat.reduceAdd, Nat.reduceSub, Nat.reduceMul, Nat.reduceDiv, Nat.reducePow, Nat.reduceLT, Nat.reduceLeDiff, Nat.reduceBEq, Nat.reduceBneDiff, Int.reduceToNat, Int.reduceEq, Int.reduceLE, Int.reduceLT, reduceCtorEq, hn1d, hm1d]
        repeat (with_reducible refine And.intro ?_ ?_; next => first | assumption | trivial | omega | decide | (constructor <;> first | assumption | omega) | (simp [Keep.ok, hp_cons_apply, hset_cons, hn1d, hm1d]; done))
        refine hk _ _ _ ?_
        refine xghost (D := []) ?_ ?_ ?_ ?_
        ·exact (.cons (Sub.of_eq rfl) (.cons (Sub.of_eq rfl) (.cons (Sub.of_eq rfl) (.cons (Sub.of_eq rfl) (.cons (Sub.of_eq rfl) (.cons (Sub.of_eq rfl) .nil))))))
        ·exact HpW.refl
        ·exact (by intro p hp; cases hp)
        ·omega
      ·try simp (maxSteps := 4000000) only [go_sem, Prod.mk.injEq, reduceIte, Nat.reduceEqDiff, Nat.reduceAdd, Nat.reduceSub, Nat.reduceMul, Nat.reduceDiv, Nat.reducePow, Nat.reduceLT, Nat.reduceLeDiff, Nat.reduceBEq, Nat.reduceBneDiff, Int.reduceToNat, Int.reduceEq, Int.reduceLE, Int.reduceLT, reduceCtorEq, hn1d, hm1d]
       repeat (with_reducible refine And.intro ?_ ?_; next => first | assumption | trivial | omega | decide | (constructor <;> first | assumption | omega) | (simp [Keep.ok, hp_cons_apply, hset_cons, hn1d, hm1d]; done))
       refine hk _ _ _ ?_
       refine xghost (D := []) ?_ ?_ ?_ ?_
       ·exact (.cons (Sub.of_eq rfl) (.cons (Sub.of_eq rfl) (.cons (Sub.of_eq rfl) (.cons (Sub.of_eq rfl) (.cons (Sub.of_eq rfl) .nil)))))
       ·exact HpW.refl
       ·exact (by intro p hp; cases hp)
       ·omega
     ·rw [ite_f hc] at h
      obtain ⟨hq, hxe⟩ := mr_go h hx1
      clear h hx1
      subst hxe
      have h := hq
      clear hq
      refine LW_exitX (sl' := [(0, eS (lI .i64) s), (1, .fn (.func g1) fi1 ca1), (7, .lit (.int .i64 (s.length : Int))), (8, .lit (.int .i64 t8)), (9, .lit (.bool (decide (t8 < (s.length : Int)))))]) (S' := (hp [] S)) (c' := 0) ?_ ?_
      ·refine xghost (D := []) ?_ ?_ ?_ ?_
       ·exact (.cons (Sub.of_eq rfl) (.cons (Sub.of_eq rfl) (.cons (Sub.of_eq rfl) (.cons (Sub.of_eq rfl) (.cons (Sub.of_eq rfl) .nil)))))
       ·exact HpW.refl
       ·exact (by intro p hp; cases hp)
       ·omega
      ·show LW _ _ _ _ _ _ _ _
       refine xseq [(4, .lit (.int .i64 (-1)))] (hp [] S) 0 ?_ (fun k kp hk => ?_)
       ·refine LW_ret ?_
        obtain rfl := Option.some.inj h
        show FPost _ _ _ _ _ _ _
        exact ⟨_, hp_less (L := []) (D := []) (by intro p hp; cases hp), rfl, rfl⟩
       ·try simp (maxSteps := 4000000) only [go_sem, Prod.mk.injEq, reduceIte, Nat.reduceEqDiff, Nat.reduceAdd, Nat.reduceSub, Nat.reduceMul, Nat.reduceDiv, Nat.reducePow, Nat.reduceLT, Nat.reduceLeDiff, Nat.reduceBEq, Nat.reduceBneDiff, Int.reduceToNat, Int.reduceEq, Int.reduceLE, Int.reduceLT, reduceCtorEq, hn1d, hm1d]
        repeat (with_reducible refine And.intro ?_ ?_; next => first | assumption | trivial | omega | decide | (constructor <;> first | assumption | omega) | (simp [Keep.ok, hp_cons_apply, hset_cons, hn1d, hm1d]; done))
        refine hk _ _ _ ?_
        refine xghost (D := []) ?_ ?_ ?_ ?_
        ·exact (.cons (Sub.of_eq rfl) .nil)
        ·exact HpW.refl
        ·exact (by intro p hp; cases hp)
        ·omega
    ·try simp (maxSteps := 4000000) only [go_sem, Prod.mk.injEq, reduceIte, Nat.reduceEqDiff, Nat.reduceAdd, Nat.reduceSub, Nat.reduceMul, Nat.reduceDiv, Nat.reducePow, Nat.reduceLT, Nat.reduceLeDiff, Nat.reduceBEq, Nat.reduceBneDiff, Int.reduceToNat, Int.reduceEq, Int.reduceLE, Int.reduceLT, reduceCtorEq, hn1d, hm1d]
     repeat (with_reducible refine And.intro ?_ ?_; next => first | assumption | trivial | omega | decide | (constructor <;> first | assumption | omega) | (simp [Keep.ok, hp_cons_apply, hset_cons, hn1d, hm1d]; done))
     refine hk _ _ _ ?_
     refine xghost (D := []) ?_ ?_ ?_ ?_
     ·exact (.cons (Sub.of_eq rfl) (.cons (Sub.of_eq rfl) (.cons (Sub.of_eq rfl) (.cons (Sub.of_eq rfl) (.cons (Sub.of_eq rfl) .nil)))))
     ·exact HpW.refl
     ·exact (by intro p hp; cases hp)
     ·omega
   ·refine xghost (D := []) ?_ ?_ ?_ ?_
    ·exact (.cons (Sub.of_eq rfl) (.cons (Sub.of_eq rfl) (.cons (Sub.of_eq rfl) (.cons (Sub.of_eq rfl) .nil))))
    ·exact HpW.refl
    ·exact (by intro p hp; cases hp)
    ·omega
  ·try simp (maxSteps := 4000000) only [go_sem, Prod.mk.injEq, reduceIte, Nat.reduceEqDiff, Nat.reduceAdd, Nat.reduceSub, Nat.reduceMul, Nat.reduceDiv, Nat.reducePow, Nat.reduceLT, Nat.reduceLeDiff, Nat.reduceBEq, Nat.reduceBneDiff, Int.reduceToNat, Int.reduceEq, Int.reduceLE, Int.reduceLT, reduceCtorEq]
   repeat (with_reducible refine And.intro ?_ ?_; next => first | assumption | trivial | omega | decide | (constructor <;> first | assumption | omega) | (simp [Keep.ok, hp_cons_apply, hset_cons]; done))
   refine hk _ _ _ ?_
   refine xghost (D := []) ?_ ?_ ?_ ?_
   ·exact (.cons (Sub.of_eq rfl) (.cons (Sub.of_eq rfl) (.cons (Sub.of_eq rfl) (.cons (Sub.of_eq rfl) .nil))))
   ·exact HpW.refl
   ·exact (by intro p hp; cases hp)
   ·omega
 ·try simp (maxSteps := 4000000) only [go_sem, Prod.mk.injEq, reduceIte, Nat.reduceEqDiff, Nat.reduceAdd, Nat.reduceSub, Nat.reduceMul, Nat.reduceDiv, Nat.reducePow, Nat.reduceLT, Nat.reduceLeDiff, Nat.reduceBEq, Nat.reduceBneDiff, Int.reduceToNat, Int.reduceEq, Int.reduceLE, Int.reduceLT, reduceCtorEq]
  repeat (with_reducible refine And.intro ?_ ?_; next => first | assumption | trivial | omega | decide | (constructor <;> first | assumption | omega) | (simp [Keep.ok, hp_cons_apply, hset_cons]; done))
  refine hk _ _ _ ?_
  refine xghost (D := []) ?_ ?_ ?_ ?_
  ·exact (.cons (Sub.of_eq rfl) (.cons (Sub.of_eq rfl) .nil))
  ·exact HpW.refl
  ·exact (by intro p hp; cases hp)
  ·omega
/-! slices.ContainsFunc[[]int,int] -/
def s_slices_ContainsFunc_int_int (s : List Int) (f : Int → Option Bool) : Option Bool :=
 bd (s_slices_IndexFunc_int_int s f) fun (v : Int) => some (decide (0 ≤ v))
theorem s_slices_ContainsFunc_int_int_ok (S : AHeap) (s : List Int) (f : Int → Option Bool) {g1 : FuncId} {fi1 ca1 : List AV} (hp1 : ∀ (S : AHeap) (a0 : Int) (r : Bool), f a0 = some r → AC Try.prog g1 (fi1 ++ [.lit (.int .i64 a0)] ++ ca1) S fun r' S' => r' = .ret (.lit (.bool r)) ∧ S' = S) {r : Bool} (h : s_slices_ContainsFunc_int_int s f = some r) :
  AC Try.prog n_slices_ContainsFunc_int_int [eS (lI .i64) s, .fn (.func g1) fi1 ca1] S fun r' S' => r' = .ret (.lit (.bool r)) ∧ S' = S := by
 refine AC_of tok mixed fits_slices_ContainsFunc_int_int fun d hd => ?_
 unfold c_slices_ContainsFunc_int_int
 show LW _ _ _ _ [(0, eS (lI .i64) s), (1, .fn (.func g1) fi1 ca1)] (hp [] S) 0 _
 rw [s_slices_ContainsFunc_int_int] at h
 refine xseq [(0, eS (lI .i64) s), (1, .fn (.func g1) fi1 ca1)] (hp [] S) 0 ?_ (fun k kp hk => ?_)
 ·obtain ⟨v, hv, h⟩ := bd_some h
  refine xseq [(4, .lit (.bool (decide (0 ≤ v))))] (hp [] S) 0 ?_ (fun k kp hk => ?_)
  ·refine LW_ret ?_
   obtain rfl := Option.some.inj h
   show FPost _ _ _ _ _ _ _
   exact ⟨_, hp_less (L := []) (D := []) (by intro p hp; cases hp), rfl, rfl⟩
  ·try simp (maxSteps := 4000000) only [go_sem, Prod.mk.injEq, reduceIte, Nat.reduceEqDiff, Nat.reduceAdd, Nat.reduceSub, Nat.reduceMul, Nat.reduceDiv, Nat.reducePow, Nat.reduceLT, Nat.reduceLeDiff, Nat.reduceBEq, Nat.reduceBneDiff, Int.reduceToNat, Int.reduceEq, Int.reduceLE, Int.reduceLT, reduceCtorEq]
   repeat (with_reducible refine And.intro ?_ ?_; next => first | assumption | trivial | omega | decide | (constructor <;> first | assumption | omega) | (simp [Keep.ok, hp_cons_apply, hset_cons]; done))
   have hcall := s_slices_IndexFunc_int_int_ok (hp [] S) s f hp1 hv
   refine call1_x hcall rfl ?_ ?_
   ·exact (.cons Sub.refl (.cons Sub.refl .nil))
   clear hcall
   rintro _ SS ⟨rfl, hSS⟩ -
   rw [hSS]
   clear hSS
   try simp (maxSteps := 4000000) only [go_sem, Prod.mk.injEq, reduceIte, Nat.reduceEqDiff, Nat.reduceAdd, Nat.reduceSub, Nat.reduceMul, Nat.reduceDiv, Nat.reducePow, Nat.reduceLT, Nat.reduceLeDiff, Nat.reduceBEq, Nat.reduceBneDiff, Int.reduceToNat, Int.reduceEq, Int.reduceLE, Int.reduceLT, reduceCtorEq]
   repeat (with_reducible refine And.intro ?_ ?_; next => first | assumption | trivial | omega | decide | (constructor <;> first | assumption | omega) | (simp [Keep.ok, hp_cons_apply, hset_cons]; done))
   refine hk _ _ _ ?_
   refine xghost (D := []) ?_ ?_ ?_ ?_
   ·exact (.cons (Sub.of_eq rfl) .nil)
   ·exact HpW.refl
   ·exact (by intro p hp; cases hp)
   ·omega
 ·try simp (maxSteps := 4000000) only [go_sem, Prod.mk.injEq, reduceIte, Nat.reduceEqDiff, Nat.reduceAdd, Nat.reduceSub, Nat.reduceMul, Nat.reduceDiv, Nat.reducePow, Nat.reduceLT, Nat.reduceLeDiff, Nat.reduceBEq, Nat.reduceBneDiff, Int.reduceToNat, Int.reduceEq, Int.reduceLE, Int.reduceLT, reduceCtorEq]
  repeat (with_reducible refine And.intro ?_ ?_; next => first | assumption | trivial | omega | decide | (constructor <;> first | assumption | omega) | (simp [Keep.ok, hp_cons_apply, hset_cons]; done))
  refine hk _ _ _ ?_
  refine xghost (D := []) ?_ ?_ ?_ ?_
  ·exact (.cons (Sub.of_eq rfl) (.cons (Sub.of_eq rfl) .nil))
  ·exact HpW.refl
  ·exact (by intro p hp; cases hp)
  ·omega
/-! stanchion/disk.there$1 -/
def s_disk_there_1 (n : Int) : Option Bool :=
 some ((decide (n < 0)) || (decide (2 ≤ n)))
theorem s_disk_there_1_ok (S : AHeap) (n : Int) {r : Bool} (h : s_disk_there_1 n = some r) :
  AC Try.prog n_disk_there_1 [.lit (.int .i64 n)] S fun r' S' => r' = .ret (.lit (.bool r)) ∧ S' = S := by
 refine AC_of tok mixed fits_disk_there_1 fun d hd => ?_
 unfold c_disk_there_1
 show LW _ _ _ _ [(0, .lit (.int .i64 n))] (hp [] S) 0 _
 rw [s_disk_there_1] at h
 refine xseq [(0, .lit (.int .i64 n))] (hp [] S) 0 ?_ (fun k kp hk => ?_)
 ·refine xseq [(2, .lit (.bool ((decide (n < 0)) || (decide (2 ≤ n)))))] (hp [] S) 0 ?_ (fun k kp hk => ?_)
  ·refine LW_ret ?_
   obtain rfl := Option.some.inj h
   show FPost _ _ _ _ _ _ _
   exact ⟨_, hp_less (L := []) (D := []) (by intro p hp; cases hp), rfl, rfl⟩
  ·try simp (maxSteps := 4000000) only [go_sem, Prod.mk.injEq, reduceIte, Nat.reduceEqDiff, Nat.reduceAdd, Nat.reduceSub, Nat.reduceMul, Nat.reduceDiv, Nat.reducePow, Nat.reduceLT, Nat.reduceLeDiff, Nat.reduceBEq, Nat.reduceBneDiff, Int.reduceToNat, Int.reduceEq, Int.reduceLE, Int.reduceLT, reduceCtorEq]
   repeat (with_reducible refine And.intro ?_ ?_; next => first | assumption | trivial | omega | decide | (constructor <;> first | assumption | omega) | (simp [Keep.ok, hp_cons_apply, hset_cons]; done))
   refine xo_guard (decide (n < 0)) rfl (fun hc => ?_) (fun hc => ?_)
   ·try simp (maxSteps := 4000000) only [go_sem, Prod.mk.injEq, reduceIte, Nat.reduceEqDiff, Nat.reduceAdd, Nat.reduceSub, Nat.reduceMul, Nat.reduceDiv, Nat.reducePow, Nat.reduceLT, Nat.reduceLeDiff, Nat.reduceBEq, Nat.reduceBneDiff, Int.reduceToNat, Int.reduceEq, Int.reduceLE, Int.reduceLT, reduceCtorEq, hc]
    repeat (with_reducible refine And.intro ?_ ?_; next => first | assumption | trivial | omega | decide | (constructor <;> first | assumption | omega) | (simp [Keep.ok, hp_cons_apply, hset_cons]; done))
    refine hk _ _ _ ?_
    refine xghost (D := []) ?_ ?_ ?_ ?_
    ·exact (.cons (Sub.of_eq (by first | rfl | (simp only [sget_cons, reduceIte, Nat.reduceEqDiff, Bool.and_true, Bool.true_and, Bool.and_false, Bool.false_and, Bool.or_true, Bool.true_or, Bool.or_false, Bool.false_or, Bool.not_true, Bool.not_false, Bool.not_not, hc]; done))) .nil)
    ·exact HpW.refl
    ·exact (by intro p hp; cases hp)
    ·omega
   ·try simp (maxSteps := 4000000) only [go_sem, Prod.mk.injEq, reduceIte, Nat.reduceEqDiff, Nat.reduceAdd, Nat.reduceSub, Nat.reduceMul, Nat.reduceDiv, Nat.reducePow, Nat.reduceLT, Nat.reduceLeDiff, Nat.reduceBEq, Nat.reduceBneDiff, Int.reduceToNat, Int.reduceEq, Int.reduceLE, Int.reduceLT, reduceCtorEq, hc]
    repeat (with_reducible refine And.intro ?_ ?_; next => first | assumption | trivial | omega | decide | (constructor <;> first | assumption | omega) | (simp [Keep.ok, hp_cons_apply, hset_cons]; done))
    refine hk _ _ _ ?_
    refine xghost (D := []) ?_ ?_ ?_ ?_
    ·exact (.cons (Sub.of_eq (by first | rfl | (simp only [sget_cons, reduceIte, Nat.reduceEqDiff, Bool.and_true, Bool.true_and, Bool.and_false, Bool.false_and, Bool.or_true, Bool.true_or, Bool.or_false, Bool.false_or, Bool.not_true, Bool.not_false, Bool.not_not, hc]; done))) .nil)
    ·exact HpW.refl
    ·exact (by intro p hp; cases hp)
    ·omega
 ·try simp (maxSteps := 4000000) only [go_sem, Prod.mk.injEq, reduceIte, Nat.reduceEqDiff, Nat.reduceAdd, Nat.reduceSub, Nat.reduceMul, Nat.reduceDiv, Nat.reducePow, Nat.reduceLT, Nat.reduceLeDiff, Nat.reduceBEq, Nat.reduceBneDiff, Int.reduceToNat, Int.reduceEq, Int.reduceLE, Int.reduceLT, reduceCtorEq]
  repeat (with_reducible refine And.intro ?_ ?_; next => first | assumption | trivial | omega | decide | (constructor <;> first | assumption | omega) | (simp [Keep.ok, hp_cons_apply, hset_cons]; done))
  refine hk _ _ _ ?_
  refine xghost (D := []) ?_ ?_ ?_ ?_
  ·exact (.cons (Sub.of_eq rfl) .nil)
  ·exact HpW.refl
  ·exact (by intro p hp; cases hp)
  ·omega
/-! stanchion/disk.there -/
def s_disk_there (list : List Int) : Option Bool :=
 bd (s_slices_ContainsFunc_int_int list s_disk_there_1) fun (v : Bool) => some (!v)
theorem s_disk_there_ok (S : AHeap) (list : List Int) {r : Bool} (h : s_disk_there list = some r) :
  AC Try.prog n_disk_there [eS (lI .i64) list] S fun r' S' => r' = .ret (.lit (.bool r)) ∧ S' = S := by
 refine AC_of tok mixed fits_disk_there fun d hd => ?_
 unfold c_disk_there
 show LW _ _ _ _ [(0, eS (lI .i64) list)] (hp [] S) 0 _
 rw [s_disk_there] at h
 refine xseq [(0, eS (lI .i64) list)] (hp [] S) 0 ?_ (fun k kp hk => ?_)
 ·obtain ⟨v, hv, h⟩ := bd_some h
  refine xseq [(2, .lit (.bool (!v)))] (hp [] S) 0 ?_ (fun k kp hk => ?_)
  ·refine LW_ret ?_
   obtain rfl := Option.some.inj h
   show FPost _ _ _ _ _ _ _
   exact ⟨_, hp_less (L := []) (D := []) (by intro p hp; cases hp), rfl, rfl⟩
  ·try simp (maxSteps := 4000000) only [go_sem, Prod.mk.injEq, reduceIte, Nat.reduceEqDiff, Nat.reduceAdd, Nat.reduceSub, Nat.reduceMul, Nat.reduceDiv, Nat.reducePow, Nat.reduceLT, Nat.reduceLeDiff, Nat.reduceBEq, Nat.reduceBneDiff, Int.reduceToNat, Int.reduceEq, Int.reduceLE, Int.reduceLT, reduceCtorEq]
   repeat (with_reducible refine And.intro ?_ ?_; next => first | assumption | trivial | omega | decide | (constructor <;> first | assumption | omega) | (simp [Keep.ok, hp_cons_apply, hset_cons]; done))
   have hcall := s_slices_ContainsFunc_int_int_ok (hp [] S) list s_disk_there_1 (g1 := 36) (fi1 := []) (ca1 := []) (fun S x r h => s_disk_there_1_ok S x h) hv
   refine call1_x hcall rfl ?_ ?_
   ·exact (.cons Sub.refl (.cons Sub.refl .nil))
   clear hcall
   rintro _ SS ⟨rfl, hSS⟩ -
   rw [hSS]
   clear hSS
   try simp (maxSteps := 4000000) only [go_sem, Prod.mk.injEq, reduceIte, Nat.reduceEqDiff, Nat.reduceAdd, Nat.reduceSub, Nat.reduceMul, Nat.reduceDiv, Nat.reducePow, Nat.reduceLT, Nat.reduceLeDiff, Nat.reduceBEq, Nat.reduceBneDiff, Int.reduceToNat, Int.reduceEq, Int.reduceLE, Int.reduceLT, reduceCtorEq]
   repeat (with_reducible refine And.intro ?_ ?_; next => first | assumption | trivial | omega | decide | (constructor <;> first | assumption | omega) | (simp [Keep.ok, hp_cons_apply, hset_cons]; done))
   refine hk _ _ _ ?_
   refine xghost (D := []) ?_ ?_ ?_ ?_
   ·exact (.cons (Sub.of_eq rfl) .nil)
   ·exact HpW.refl
   ·exact (by intro p hp; cases hp)
   ·omega
 ·try simp (maxSteps := 4000000) only [go_sem, Prod.mk.injEq, reduceIte, Nat.reduceEqDiff, Nat.reduceAdd, Nat.reduceSub, Nat.reduceMul, Nat.reduceDiv, Nat.reducePow, Nat.reduceLT, Nat.reduceLeDiff, Nat.reduceBEq, Nat.reduceBneDiff, Int.reduceToNat, Int.reduceEq, Int.reduceLE, Int.reduceLT, reduceCtorEq]
  repeat (with_reducible refine And.intro ?_ ?_; next => first | assumption | trivial | omega | decide | (constructor <;> first | assumption | omega) | (simp [Keep.ok, hp_cons_apply, hset_cons]; done))
  refine hk _ _ _ ?_
  refine xghost (D := []) ?_ ?_ ?_ ?_
  ·exact (.cons (Sub.of_eq rfl) .nil)
  ·exact HpW.refl
  ·exact (by intro p hp; cases hp)
  ·omega
/-! (*stanchion/disk.Disk).draw -/
def s_disk_Disk_draw_j1 (dx : GdiskDisk) (m : Int) : Option (Int × GdiskDisk) :=
 some (0, (GdiskDisk.mk m dx.areas))
def s_disk_Disk_draw (dx : GdiskDisk) : Option (Int × GdiskDisk) :=
 if (dx.power == 0) = true then some (40, dx) else if (decide (0 < dx.power)) = true then s_disk_Disk_draw_j1 dx (IntKind.i64.wrap (dx.power - 1)) else s_disk_Disk_draw_j1 dx dx.power
theorem s_disk_Disk_draw_ok (S : AHeap) {n0 : Name} (dx : GdiskDisk) {r : Int × GdiskDisk} (hS0 : S n0 = some (oGdiskDisk dx)) (h : s_disk_Disk_draw dx = some r) :
  AC Try.prog n_disk_Disk_draw [.ptr n0 0] S fun r' S' => r' = .ret (.lit (.int .i64 r.1)) ∧ S' = S.set n0 (oGdiskDisk r.2) := by
 refine AC_of tok mixed fits_disk_Disk_draw fun d hd => ?_
 unfold c_disk_Disk_draw
 show LW _ _ _ _ [(0, .ptr n0 0)] S 0 _
 refine LW_heap (hp_in hS0) ?_
 have hl_n0 : n0.1 < d := lt_of_hd hd hS0
 have hq_n0 : ∀ k, (n0 = (d, k)) = False := fun k => ne_deep hl_n0
 have hr_n0 : ∀ k, ((d, k) = n0) = False := fun k => ne_deep' hl_n0
 show LW _ _ _ _ [(0, .ptr n0 0)] (hp [(n0, .box [.lit (.int .i64 dx.power), eO (lI .u8) dx.areas.x0.data, .lit (.int .i64 dx.areas.x0.safe), eO (lI .u8) dx.areas.x1.data, .lit (.int .i64 dx.areas.x1.safe)])] S) 0 _
 rw [s_disk_Disk_draw] at h
 refine xseq [(0, .ptr n0 0)] (hp [(n0, .box [.lit (.int .i64 dx.power), eO (lI .u8) dx.areas.x0.data, .lit (.int .i64 dx.areas.x0.safe), eO (lI .u8) dx.areas.x1.data, .lit (.int .i64 dx.areas.x1.safe)])] S) 0 ?_ (fun k kp hk => ?_)
 ·refine xjoin (J := Int) (fun jj => []) (fun jj => (hp [(n0, .box [.lit (.int .i64 jj), eO (lI .u8) dx.areas.x0.data, .lit (.int .i64 dx.areas.x0.safe), eO (lI .u8) dx.areas.x1.data, .lit (.int .i64 dx.areas.x1.safe)])] S)) 0 (fun jj => s_disk_Disk_draw_j1 dx jj = some r) ?_ (fun hj => ?_)
  ·rintro m h
   show LW _ _ _ _ [] (hp [(n0, .box [.lit (.int .i64 m), eO (lI .u8) dx.areas.x0.data, .lit (.int .i64 dx.areas.x0.safe), eO (lI .u8) dx.areas.x1.data, .lit (.int .i64 dx.areas.x1.safe)])] S) 0 _
   replace h : s_disk_Disk_draw_j1 dx m = some r := h
   rw [s_disk_Disk_draw_j1] at h
   refine xseq [(2, .lit (.int .i64 0))] (hp [(n0, .box [.lit (.int .i64 m), eO (lI .u8) dx.areas.x0.data, .lit (.int .i64 dx.areas.x0.safe), eO (lI .u8) dx.areas.x1.data, .lit (.int .i64 dx.areas.x1.safe)])] S) 0 ?_ (fun k kp hk => ?_)
   ·refine LW_ret ?_
    obtain rfl := Option.some.inj h
    show FPost _ _ _ _ _ _ _
    exact ⟨_, hp_less (L := [(n0, .box [.lit (.int .i64 m), eO (lI .u8) dx.areas.x0.data, .lit (.int .i64 dx.areas.x0.safe), eO (lI .u8) dx.areas.x1.data, .lit (.int .i64 dx.areas.x1.safe)])]) (D := []) (by intro p hp; cases hp), rfl, rfl⟩
   ·try simp (maxSteps := 4000000) only [go_sem, Prod.mk.injEq, reduceIte, Nat.reduceEqDiff, Nat.reduceAdd, Nat.reduceSub, Nat.reduceMul, Nat.reduceDiv, Nat.reducePow, Nat.reduceLT, Nat.reduceLeDiff, Nat.reduceBEq, Nat.reduceBneDiff, Int.reduceToNat, Int.reduceEq, Int.reduceLE, Int.reduceLT, reduceCtorEq, oGdiskDisk, hq_n0, hr_n0]
    repeat (with_reducible refine And.intro ?_ ?_; next => first | assumption | trivial | omega | decide | (constructor <;> first | assumption | omega) | (simp [Keep.ok, hp_cons_apply, hset_cons, oGdiskDisk, hq_n0, hr_n0]; done))
    refine hk _ _ _ ?_
    refine xghost (D := []) ?_ ?_ ?_ ?_
    ·exact (.cons (Sub.of_eq rfl) .nil)
    ·exact HpW.refl
    ·exact (by intro p hp; cases hp)
    ·omega
  ·refine LW_block ?_
   refine xseq [(0, .ptr n0 0), (3, .lit (.bool (dx.power == 0)))] (hp [(n0, .box [.lit (.int .i64 dx.power), eO (lI .u8) dx.areas.x0.data, .lit (.int .i64 dx.areas.x0.safe), eO (lI .u8) dx.areas.x1.data, .lit (.int .i64 dx.areas.x1.safe)])] S) 0 ?_ (fun k kp hk => ?_)
   ·refine xcond (dx.power == 0) rfl (fun hc => ?_) (fun hc => ?_)
    ·rw [ite_t hc] at h
     refine xseq [(2, .lit (.int .i64 40))] (hp [(n0, .box [.lit (.int .i64 dx.power), eO (lI .u8) dx.areas.x0.data, .lit (.int .i64 dx.areas.x0.safe), eO (lI .u8) dx.areas.x1.data, .lit (.int .i64 dx.areas.x1.safe)])] S) 0 ?_ (fun k kp hk => ?_)
     ·refine LW_ret ?_
      obtain rfl := Option.some.inj h
      show FPost _ _ _ _ _ _ _
      exact ⟨_, hp_less (L := [(n0, .box [.lit (.int .i64 dx.power), eO (lI .u8) dx.areas.x0.data, .lit (.int .i64 dx.areas.x0.safe), eO (lI .u8) dx.areas.x1.data, .lit (.int .i64 dx.areas.x1.safe)])]) (D := []) (by intro p hp; cases hp), rfl, rfl⟩
     ·try simp (maxSteps := 4000000) only [go_sem, Prod.mk.injEq, reduceIte, Nat.reduceEqDiff, Nat.reduceAdd, Nat.reduceSub, Nat.reduceMul, Nat.reduceDiv, Nat.reducePow, Nat.reduceLT, Nat.reduceLeDiff, Nat.reduceBEq, Nat.reduceBneDiff, Int.reduceToNat, Int.reduceEq, Int.reduceLE, Int.reduceLT, reduceCtorEq, oGdiskDisk, hq_n0, hr_n0]
      repeat (with_reducible refine And.intro ?_ ?_; next => first | assumption | trivial | omega | decide | (constructor <;> first | assumption | omega) | (simp [Keep.ok, hp_cons_apply, hset_cons, oGdiskDisk, hq_n0, hr_n0]; done))
      refine hk _ _ _ ?_
      refine xghost (D := []) ?_ ?_ ?_ ?_
      ·exact (.cons (Sub.of_eq rfl) .nil)
      ·exact HpW.refl
      ·exact (by intro p hp; cases hp)
      ·omega
    ·rw [ite_f hc] at h
     refine xseq [(0, .ptr n0 0), (9, .lit (.bool (decide (0 < dx.power))))] (hp [(n0, .box [.lit (.int .i64 dx.power), eO (lI .u8) dx.areas.x0.data, .lit (.int .i64 dx.areas.x0.safe), eO (lI .u8) dx.areas.x1.data, .lit (.int .i64 dx.areas.x1.safe)])] S) 0 ?_ (fun k kp hk => ?_)
     ·refine xcond (decide (0 < dx.power)) rfl (fun hc_1 => ?_) (fun hc_1 => ?_)
      ·rw [ite_t hc_1] at h
       refine xreg [] (hp [(n0, .box [.lit (.int .i64 (IntKind.i64.wrap (dx.power - 1))), eO (lI .u8) dx.areas.x0.data, .lit (.int .i64 dx.areas.x0.safe), eO (lI .u8) dx.areas.x1.data, .lit (.int .i64 dx.areas.x1.safe)])] S) 0 ?_ (fun k kp hk => ?_)
       ·exact hj (IntKind.i64.wrap (dx.power - 1)) h
       ·try simp (maxSteps := 4000000) only [go_sem, Prod.mk.injEq, reduceIte, Nat.reduceEqDiff, Nat.reduceAdd, Nat.reduceSub, Nat.reduceMul, Nat.reduceDiv, Nat.reducePow, Nat.reduceLT, Nat.reduceLeDiff, Nat.reduceBEq, Nat.reduceBneDiff, Int.reduceToNat, Int.reduceEq, Int.reduceLE, Int.reduceLT, reduceCtorEq, oGdiskDisk, hq_n0, hr_n0]
        repeat (with_reducible refine And.intro ?_ ?_; next => first | assumption | trivial | omega | decide | (constructor <;> first | assumption | omega) | (simp [Keep.ok, hp_cons_apply, hset_cons, oGdiskDisk, hq_n0, hr_n0]; done))
        refine hk _ _ _ ?_
        refine xghost (D := []) ?_ ?_ ?_ ?_
        ·exact .nil
        ·exact HpW.refl
        ·exact (by intro p hp; cases hp)
        ·omega
      ·rw [ite_f hc_1] at h
       refine LW_skipX (sl' := []) (S' := (hp [(n0, .box [.lit (.int .i64 dx.power), eO (lI .u8) dx.areas.x0.data, .lit (.int .i64 dx.areas.x0.safe), eO (lI .u8) dx.areas.x1.data, .lit (.int .i64 dx.areas.x1.safe)])] S)) (c' := 0) ?_ ?_
       ·refine xghost (D := []) ?_ ?_ ?_ ?_
        ·exact .nil
        ·exact HpW.refl
        ·exact (by intro p hp; cases hp)
        ·omega
       ·exact hj dx.power h
     ·try simp (maxSteps := 4000000) only [go_sem, Prod.mk.injEq, reduceIte, Nat.reduceEqDiff, Nat.reduceAdd, Nat.reduceSub, Nat.reduceMul, Nat.reduceDiv, Nat.reducePow, Nat.reduceLT, Nat.reduceLeDiff, Nat.reduceBEq, Nat.reduceBneDiff, Int.reduceToNat, Int.reduceEq, Int.reduceLE, Int.reduceLT, reduceCtorEq, oGdiskDisk, hq_n0, hr_n0]
      repeat (with_reducible refine And.intro ?_ ?_; next => first | assumption | trivial | omega | decide | (constructor <;> first | assumption | omega) | (simp [Keep.ok, hp_cons_apply, hset_cons, oGdiskDisk, hq_n0, hr_n0]; done))
      refine hk _ _ _ ?_
      refine xghost (D := []) ?_ ?_ ?_ ?_
      ·exact (.cons (Sub.of_eq rfl) (.cons (Sub.of_eq rfl) .nil))
      ·exact HpW.refl
      ·exact (by intro p hp; cases hp)
      ·omega
   ·try simp (maxSteps := 4000000) only [go_sem, Prod.mk.injEq, reduceIte, Nat.reduceEqDiff, Nat.reduceAdd, Nat.reduceSub, Nat.reduceMul, Nat.reduceDiv, Nat.reducePow, Nat.reduceLT, Nat.reduceLeDiff, Nat.reduceBEq, Nat.reduceBneDiff, Int.reduceToNat, Int.reduceEq, Int.reduceLE, Int.reduceLT, reduceCtorEq, oGdiskDisk, hq_n0, hr_n0]
    repeat (with_reducible refine And.intro ?_ ?_; next => first | assumption | trivial | omega | decide | (constructor <;> first | assumption | omega) | (simp [Keep.ok, hp_cons_apply, hset_cons, oGdiskDisk, hq_n0, hr_n0]; done))
    refine hk _ _ _ ?_
    refine xghost (D := []) ?_ ?_ ?_ ?_
    ·exact (.cons (Sub.of_eq rfl) (.cons (Sub.of_eq rfl) .nil))
    ·exact HpW.refl
    ·exact (by intro p hp; cases hp)
    ·omega
 ·try simp (maxSteps := 4000000) only [go_sem, Prod.mk.injEq, reduceIte, Nat.reduceEqDiff, Nat.reduceAdd, Nat.reduceSub, Nat.reduceMul, Nat.reduceDiv, Nat.reducePow, Nat.reduceLT, Nat.reduceLeDiff, Nat.reduceBEq, Nat.reduceBneDiff, Int.reduceToNat, Int.reduceEq, Int.reduceLE, Int.reduceLT, reduceCtorEq, oGdiskDisk, hq_n0, hr_n0]
  repeat (with_reducible refine And.intro ?_ ?_; next => first | assumption | trivial | omega | decide | (constructor <;> first | assumption | omega) | (simp [Keep.ok, hp_cons_apply, hset_cons, oGdiskDisk, hq_n0, hr_n0]; done))
  refine hk _ _ _ ?_
  refine xghost (D := []) ?_ ?_ ?_ ?_
  ·exact (.cons (Sub.of_eq rfl) .nil)
  ·exact HpW.refl
  ·exact (by intro p hp; cases hp)
  ·omega
/-! slices.Grow[[]byte,byte] -/
def s_slices_Grow_byte_byte (xs : List Int) (q : Int) : Option (List Int) := gd (0 ≤ q ∧ q ≤ 140737488355328) (some [])
theorem s_slices_Grow_byte_byte_ok (S : AHeap) (xs : List Int) (q : Int) {r : List Int} (h : s_slices_Grow_byte_byte xs q = some r) : AC Try.prog n_slices_Grow_byte_byte [.lit (.slice none 0 0), .lit (.int .i64 q)] S fun r' S' => ∃ m : Name, S m = none ∧ r' = .ret (eT (lI .u8) m r) ∧ S' = S.set m (oT (lI .u8) r) := by
 obtain ⟨⟨g0, g1⟩, h⟩ := gd_some h
 obtain rfl := Option.some.inj h
 have hlt : decide (q < 0) = false := decide_eq_false (by omega)
 have hw : IntKind.i64.wrap (q - IntKind.i64.wrap (((0 : Nat) : Int) - ((0 : Nat) : Int))) = q := by rw [IntKind.wrap_i64, IntKind.wrap_i64]; omega
 refine AC_of tok mixed fits_slices_Grow_byte_byte fun d hd => ?_
 have hnone : ∀ i, S (d, i) = none := fun i => hd _ (Nat.le_refl _)
 unfold c_slices_Grow_byte_byte
 show LW _ _ _ _ [(0, .lit (.slice none 0 0)), (1, .lit (.int .i64 q))] (hp [] S) 0 _
 refine xseq [(0, .lit (.slice none 0 0)), (1, .lit (.int .i64 q))] (hp [] S) 0 ?_ (fun k kp hk => ?_)
 ·refine LW_seq ?_
  refine xseq [(0, .lit (.slice none 0 0)), (1, .lit (.int .i64 q)), (6, .lit (.bool false))] (hp [] S) 0 ?_ (fun k kp hk => ?_)
  ·refine xcond false rfl (fun h0 => by cases h0) (fun _ => ?_)
   refine LW_skip ?_
   show LW _ _ _ _ _ _ _ _
   refine LW_seq ?_
   refine xseq [(0, .lit (.slice none 0 0)), (1, .lit (.int .i64 q))] (hp [] S) 0 ?_ (fun k kp hk => ?_)
   ·refine LW_seq ?_
    refine xseq [(0, .lit (.slice none 0 0)), (1, .lit (.int .i64 q)), (16, .lit (.bool (decide (0 < q))))] (hp [] S) 0 ?_ (fun k kp hk => ?_)
    ·refine xcond (decide (0 < q)) rfl (fun h0 => ?_) (fun h0 => ?_)
     ·have hq : 0 < q := of_decide_eq_true h0
      refine xseq [(0, eT (lI .u8) (d, 1) [])] (hp [((d, 1), oT (lI .u8) [])] S) 2 ?_ (fun k kp hk => ?_)
      ·refine xseq [(4, eT (lI .u8) (d, 1) [])] (hp [((d, 1), oT (lI .u8) [])] S) 2 ?_ (fun k kp hk => ?_)
       ·refine LW_ret ?_
        show FPost _ _ _ _ _ _ _
        exact ⟨_, hp_less (L := [((d, 1), oT (lI .u8) [])]) (D := []) (by intro p hp; cases hp), (d, 1), hnone _, rfl, rfl⟩
       ·try simp (maxSteps := 4000000) only [go_sem, Prod.mk.injEq, reduceIte, Nat.reduceEqDiff, Nat.reduceAdd, Nat.reduceSub, Nat.reduceMul, Nat.reduceDiv, Nat.reducePow, Nat.reduceLT, Nat.reduceLeDiff, Nat.reduceBEq, Nat.reduceBneDiff, Int.reduceToNat, Int.reduceEq, Int.reduceLE, Int.reduceLT, reduceCtorEq]
        repeat (with_reducible refine And.intro ?_ ?_; next => first | assumption | trivial | omega | decide | (constructor <;> first | assumption | omega) | (simp [Keep.ok, hp_cons_apply, hset_cons]; done))
        refine hk _ _ _ ?_
        refine xghost (D := []) ?_ ?_ ?_ ?_
        ·repeat (first | exact SlAll.nil | refine SlAll.cons (by first | exact Sub.refl | exact Sub.of_eq rfl | exact Sub.tip | exact Sub.nil | exact Sub.empt | exact Sub.young) ?_)
        ·exact HpW.refl
        ·intro p hp; cases hp
        ·omega
      ·try simp (maxSteps := 4000000) only [go_sem, Prod.mk.injEq, reduceIte, Nat.reduceEqDiff, Nat.reduceAdd, Nat.reduceSub, Nat.reduceMul, Nat.reduceDiv, Nat.reducePow, Nat.reduceLT, Nat.reduceLeDiff, Nat.reduceBEq, Nat.reduceBneDiff, Int.reduceToNat, Int.reduceEq, Int.reduceLE, Int.reduceLT, reduceCtorEq]
       repeat (with_reducible refine And.intro ?_ ?_; next => first | assumption | trivial | omega | decide | (constructor <;> first | assumption | omega) | (simp [Keep.ok, hp_cons_apply, hset_cons]; done))
       refine append1_zeros (L := (lI .u8)) (ys := List.replicate q.toNat 0) T22 T3 T5 rfl rfl (zlist_u8 rfl _) (by simp) hq (by omega) (by show q.toNat * 1 ≤ 2 ^ 47; omega) ?_
       try simp (maxSteps := 4000000) only [go_sem, Prod.mk.injEq, reduceIte, Nat.reduceEqDiff, Nat.reduceAdd, Nat.reduceSub, Nat.reduceMul, Nat.reduceDiv, Nat.reducePow, Nat.reduceLT, Nat.reduceLeDiff, Nat.reduceBEq, Nat.reduceBneDiff, Int.reduceToNat, Int.reduceEq, Int.reduceLE, Int.reduceLT, reduceCtorEq]
       repeat (with_reducible refine And.intro ?_ ?_; next => first | assumption | trivial | omega | decide | (constructor <;> first | assumption | omega) | (simp [Keep.ok, hp_cons_apply, hset_cons]; done))
       refine hk _ _ _ ?_
       refine Ghost.trans (Ghost.cutB (L := (lI .u8)) (xs := List.replicate q.toNat 0) (m := (d, 0)) (i := 0) (j := 22) (h := 0) (sl' := sset _ 0 (eB (lI .u8) (d, 1) [])) (Nat.zero_le _) ?_ rfl (by simp only [hp_cons_apply, reduceIte]) (fun k hk' => by rw [sget_sset, if_neg hk']) (by rw [sget_sset, if_pos rfl]; rfl)) ?_
       ·rfl
       ·rw [hp_del (hnone 0), hp_set]
        simp only [hrem_cons, hrem_nil, hset_nil, reduceIte]
        refine xghost (D := []) ?_ ?_ ?_ ?_
        ·exact (.cons Sub.bufTip .nil)
        ·exact HpW.refl
        ·intro p hp; cases hp
        ·omega
     ·refine LW_skip ?_
      show LW _ _ _ _ _ _ _ _
      refine xseq [(4, .lit (.slice none 0 0))] (hp [] S) 0 ?_ (fun k kp hk => ?_)
      ·refine LW_retX (xname (lI .u8) 4 Sub.nil_empt) ?_
       show FPost _ _ _ _ _ _ _
       exact ⟨_, hp_less (L := [((d, 0), oT (lI .u8) [])]) (D := []) (by intro p hp; cases hp), (d, 0), hnone _, rfl, rfl⟩
      ·try simp (maxSteps := 4000000) only [go_sem, Prod.mk.injEq, reduceIte, Nat.reduceEqDiff, Nat.reduceAdd, Nat.reduceSub, Nat.reduceMul, Nat.reduceDiv, Nat.reducePow, Nat.reduceLT, Nat.reduceLeDiff, Nat.reduceBEq, Nat.reduceBneDiff, Int.reduceToNat, Int.reduceEq, Int.reduceLE, Int.reduceLT, reduceCtorEq]
       repeat (with_reducible refine And.intro ?_ ?_; next => first | assumption | trivial | omega | decide | (constructor <;> first | assumption | omega) | (simp [Keep.ok, hp_cons_apply, hset_cons]; done))
       refine hk _ _ _ ?_
       refine xghost (D := []) ?_ ?_ ?_ ?_
       ·repeat (first | exact SlAll.nil | refine SlAll.cons (by first | exact Sub.refl | exact Sub.of_eq rfl | exact Sub.tip | exact Sub.nil | exact Sub.empt | exact Sub.young) ?_)
       ·exact HpW.refl
       ·intro p hp; cases hp
       ·omega
    ·try simp (maxSteps := 4000000) only [go_sem, Prod.mk.injEq, reduceIte, Nat.reduceEqDiff, Nat.reduceAdd, Nat.reduceSub, Nat.reduceMul, Nat.reduceDiv, Nat.reducePow, Nat.reduceLT, Nat.reduceLeDiff, Nat.reduceBEq, Nat.reduceBneDiff, Int.reduceToNat, Int.reduceEq, Int.reduceLE, Int.reduceLT, reduceCtorEq]
     repeat (with_reducible refine And.intro ?_ ?_; next => first | assumption | trivial | omega | decide | (constructor <;> first | assumption | omega) | (simp [Keep.ok, hp_cons_apply, hset_cons]; done))
     refine hk _ _ _ ?_
     refine xghost (D := []) ?_ ?_ ?_ ?_
     ·repeat (first | exact SlAll.nil | refine SlAll.cons (by first | exact Sub.refl | exact Sub.of_eq rfl | exact Sub.tip | exact Sub.nil | exact Sub.empt | exact Sub.young) ?_)
     ·exact HpW.refl
     ·intro p hp; cases hp
     ·omega
   ·try simp (maxSteps := 4000000) only [go_sem, Prod.mk.injEq, reduceIte, Nat.reduceEqDiff, Nat.reduceAdd, Nat.reduceSub, Nat.reduceMul, Nat.reduceDiv, Nat.reducePow, Nat.reduceLT, Nat.reduceLeDiff, Nat.reduceBEq, Nat.reduceBneDiff, Int.reduceToNat, Int.reduceEq, Int.reduceLE, Int.reduceLT, reduceCtorEq, hw]
    repeat (with_reducible refine And.intro ?_ ?_; next => first | assumption | trivial | omega | decide | (constructor <;> first | assumption | omega) | (simp [Keep.ok, hp_cons_apply, hset_cons, hw]; done))
    refine hk _ _ _ ?_
    refine xghost (D := []) ?_ ?_ ?_ ?_
    ·repeat (first | exact SlAll.nil | refine SlAll.cons (by first | exact Sub.refl | exact Sub.of_eq rfl | exact Sub.tip | exact Sub.nil | exact Sub.empt | exact Sub.young) ?_)
    ·exact HpW.refl
    ·intro p hp; cases hp
    ·omega
  ·try simp (maxSteps := 4000000) only [go_sem, Prod.mk.injEq, reduceIte, Nat.reduceEqDiff, Nat.reduceAdd, Nat.reduceSub, Nat.reduceMul, Nat.reduceDiv, Nat.reducePow, Nat.reduceLT, Nat.reduceLeDiff, Nat.reduceBEq, Nat.reduceBneDiff, Int.reduceToNat, Int.reduceEq, Int.reduceLE, Int.reduceLT, reduceCtorEq, hlt]
   repeat (with_reducible refine And.intro ?_ ?_; next => first | assumption | trivial | omega | decide | (constructor <;> first | assumption | omega) | (simp [Keep.ok, hp_cons_apply, hset_cons, hlt]; done))
   refine hk _ _ _ ?_
   refine xghost (D := []) ?_ ?_ ?_ ?_
   ·repeat (first | exact SlAll.nil | refine SlAll.cons (by first | exact Sub.refl | exact Sub.of_eq rfl | exact Sub.tip | exact Sub.nil | exact Sub.empt | exact Sub.young) ?_)
   ·exact HpW.refl
   ·intro p hp; cases hp
   ·omega
 ·try simp (maxSteps := 4000000) only [go_sem, Prod.mk.injEq, reduceIte, Nat.reduceEqDiff, Nat.reduceAdd, Nat.reduceSub, Nat.reduceMul, Nat.reduceDiv, Nat.reducePow, Nat.reduceLT, Nat.reduceLeDiff, Nat.reduceBEq, Nat.reduceBneDiff, Int.reduceToNat, Int.reduceEq, Int.reduceLE, Int.reduceLT, reduceCtorEq]
  repeat (with_reducible refine And.intro ?_ ?_; next => first | assumption | trivial | omega | decide | (constructor <;> first | assumption | omega) | (simp [Keep.ok, hp_cons_apply, hset_cons]; done))
  refine hk _ _ _ ?_
  refine xghost (D := []) ?_ ?_ ?_ ?_
  ·repeat (first | exact SlAll.nil | refine SlAll.cons (by first | exact Sub.refl | exact Sub.of_eq rfl | exact Sub.tip | exact Sub.nil | exact Sub.empt | exact Sub.young) ?_)
  ·exact HpW.refl
  ·intro p hp; cases hp
  ·omega
/-! slices.Concat[[]byte,byte] -/
def s_slices_Concat_byte_byte_b2 (slices : List (List Int)) : (List Int × Int) → Option ((List Int × Int) ⊕ (List Int))
 | (newslice, t27) => if (decide (t27 < (slices.length : Int))) = true then gd ((0 ≤ t27 ∧ Int.toNat t27 < slices.length)) (gd (((newslice.length + (slices.getD (Int.toNat t27) []).length) * 1 ≤ 140737488355328 ∧ newslice.length + (slices.getD (Int.toNat t27) []).length < 9223372036854775808)) (some (.inl ((newslice ++ (slices.getD (Int.toNat t27) [])), (IntKind.i64.wrap (t27 + 1)))))) else mr (some newslice)
def s_slices_Concat_byte_byte_b1 (slices : List (List Int)) : (Int × Int) → Option ((Int × Int) ⊕ (List Int))
 | (size, t11) => if (decide (t11 < (slices.length : Int))) = true then gd ((0 ≤ t11 ∧ Int.toNat t11 < slices.length)) (if (decide ((IntKind.i64.wrap (size + ((slices.getD (Int.toNat t11) []).length : Int))) < 0)) = true then none else some (.inl ((IntKind.i64.wrap (size + ((slices.getD (Int.toNat t11) []).length : Int))), (IntKind.i64.wrap (t11 + 1))))) else mr (bd (s_slices_Grow_byte_byte [] size) fun (v : List Int) => loop (s_slices_Concat_byte_byte_b2 slices) (v, 0))
def s_slices_Concat_byte_byte (slices : List (List Int)) : Option (List Int) :=
 loop (s_slices_Concat_byte_byte_b1 slices) (0, 0)
theorem s_slices_Concat_byte_byte_ok (S : AHeap) (slices : List (List Int)) {r : List Int} (h : s_slices_Concat_byte_byte slices = some r) :
  AC Try.prog n_slices_Concat_byte_byte [eS (lS (lI .u8)) slices] S fun r' S' => r' = .ret (eS (lI .u8) r) ∧ S' = S := by
 refine AC_of tok mixed fits_slices_Concat_byte_byte fun d hd => ?_
 unfold c_slices_Concat_byte_byte
 show LW _ _ _ _ [(0, eS (lS (lI .u8)) slices)] (hp [] S) 0 _
 rw [s_slices_Concat_byte_byte] at h
 refine xseq [(0, eS (lS (lI .u8)) slices)] (hp [] S) 0 ?_ (fun k kp hk => ?_)
 ·refine xseq [(0, eS (lS (lI .u8)) slices), (3, .lit (.int .i64 0))] (hp [] S) 0 ?_ (fun k kp hk => ?_)
  ·refine LW_seq ?_
   refine xseq [(0, eS (lS (lI .u8)) slices), (3, .lit (.int .i64 0)), (9, eS (lS (lI .u8)) slices), (10, .lit (.int .i64 (slices.length : Int))), (11, .lit (.int .i64 0))] (hp [] S) 0 ?_ (fun k kp hk => ?_)
   ·refine LW_block ?_
    refine LW_loopX (c := 0) (σ := Int × Int) (s := (0, 0)) (fun zz => [(0, eS (lS (lI .u8)) slices), (3, .lit (.int .i64 zz.1)), (9, eS (lS (lI .u8)) slices), (10, .lit (.int .i64 (slices.length : Int))), (11, .lit (.int .i64 zz.2))]) (fun zz => (hp [] S)) h ?_ ?_
    ·clear h
     rintro ⟨size, t11⟩ x1 d1 hd1 hf1 h hx1
     show LW _ _ _ _ [(0, eS (lS (lI .u8)) slices), (3, .lit (.int .i64 size)), (9, eS (lS (lI .u8)) slices), (10, .lit (.int .i64 (slices.length : Int))), (11, .lit (.int .i64 t11))] (hp [] S) 0 _
     have hn1d : (d = d1) = False := by simp; omega
     have hm1d : (d1 = d) = False := by simp; omega
     rw [s_slices_Concat_byte_byte_b1] at h
     refine xseq [(0, eS (lS (lI .u8)) slices), (3, .lit (.int .i64 size)), (9, eS (lS (lI .u8)) slices), (10, .lit (.int .i64 (slices.length : Int))), (11, .lit (.int .i64 t11)), (12, .lit (.bool (decide (t11 < (slices.length : Int)))))] (hp [] S) 0 ?_ (fun k kp hk => ?_)
     ·refine LW_seq ?_
      refine xcond (decide (t11 < (slices.length : Int))) rfl (fun hc => ?_) (fun hc => ?_)
      ·rw [ite_t hc] at h
       refine LW_skip ?_
       show LW _ _ _ _ _ _ _ _
       refine LW_seq ?_
       refine LW_block ?_
       obtain ⟨hg, h⟩ := gd_some h
       refine xseq [(0, eS (lS (lI .u8)) slices), (3, .lit (.int .i64 size)), (5, eS (lI .u8) (slices.getD (Int.toNat t11) [])), (9, eS (lS (lI .u8)) slices), (10, .lit (.int .i64 (slices.length : Int))), (11, .lit (.int .i64 t11))] (hp [] S) 0 ?_ (fun k kp hk => ?_)
       ·refine xseq [(0, eS (lS (lI .u8)) slices), (3, .lit (.int .i64 (IntKind.i64.wrap (size + ((slices.getD (Int.toNat t11) []).length : Int))))), (9, eS (lS (lI .u8)) slices), (10, .lit (.int .i64 (slices.length : Int))), (11, .lit (.int .i64 t11))] (hp [] S) 0 ?_ (fun k kp hk => ?_)
        ·refine xseq [(0, eS (lS (lI .u8)) slices), (3, .lit (.int .i64 (IntKind.i64.wrap (size + ((slices.getD (Int.toNat t11) []).length : Int))))), (9, eS (lS (lI .u8)) slices), (10, .lit (.int .i64 (slices.length : Int))), (11, .lit (.int .i64 t11)), (20, .lit (.bool (decide ((IntKind.i64.wrap (size + ((slices.getD (Int.toNat t11) []).length : Int))) < 0))))] (hp [] S) 0 ?_ (fun k kp hk => ?_)
         ·refine xcond (decide ((IntKind.i64.wrap (size + ((slices.getD (Int.toNat t11) []).length : Int))) < 0)) rfl (fun hc_1 => ?_) (fun hc_1 => ?_)
          ·rw [ite_t hc_1] at h
           cases h
          ·rw [ite_f hc_1] at h
           refine LW_skip ?_
           show LW _ _ _ _ _ _ _ _
           refine xreg [(0, eS (lS (lI .u8)) slices), (3, .lit (.int .i64 (IntKind.i64.wrap (size + ((slices.getD (Int.toNat t11) []).length : Int))))), (9, eS (lS (lI .u8)) slices), (10, .lit (.int .i64 (slices.length : Int))), (11, .lit (.int .i64 (IntKind.i64.wrap (t11 + 1))))] (hp [] S) 0 ?_ (fun k kp hk => ?_)
           ·cases h
            exact ⟨rfl, Less.refl _⟩
           ·try simp (maxSteps := 4000000) only [go_sem, Prod.mk.injEq, reduceIte, Nat.reduceEqDiff, Nat.reduceAdd, Nat.reduceSub, Nat.reduceMul, Nat.reduceDiv, Nat.reducePow, Nat.reduceLT, Nat.reduceLeDiff, Nat.reduceBEq, Nat.reduceBneDiff, Int.reduceToNat, Int.reduceEq, Int.reduceLE, Int.reduceLT, reduceCtorEq, hn1d, hm1d]
            repeat (with_reducible refine And.intro ?_ ?_; next => first | assumption | trivial | omega | decide | (constructor <;> first | assumption | omega) | (simp [Keep.ok, hp_cons_apply, hset_cons, hn1d, hm1d]; done))
            refine hk _ _ _ ?_
            refine xghost (D := []) ?_ ?_ ?_ ?_
            ·exact (.cons (Sub.of_eq rfl) (.cons (Sub.of_eq rfl) (.cons (Sub.of_eq rfl) (.cons (Sub.of_eq rfl) (.cons (Sub.of_eq rfl) .nil)))))
            ·exact HpW.refl
            ·exact (by intro p hp; cases hp)
            ·omega
         ·try simp (maxSteps := 4000000) only [go_sem, Prod.mk.injEq, reduceIte, Nat.reduceEqDiff, Nat.reduceAdd, Nat.reduceSub, Nat.reduceMul, Nat.reduceDiv, Nat.reducePow, Nat.reduceLT, Nat.reduceLeDiff, Nat.reduceBEq, Nat.reduceBneDiff, Int.reduceToNat, Int.reduceEq, Int.reduceLE, Int.reduceLT, reduceCtorEq, hn1d, hm1d]
          repeat (with_reducible refine And.intro ?_ ?_; next => first | assumption | trivial | omega | decide | (constructor <;> first | assumption | omega) | (simp [Keep.ok, hp_cons_apply, hset_cons, hn1d, hm1d]; done))
          refine hk _ _ _ ?_
          refine xghost (D := []) ?_ ?_ ?_ ?_
          ·exact (.cons (Sub.of_eq rfl) (.cons (Sub.of_eq rfl) (.cons (Sub.of_eq rfl) (.cons (Sub.of_eq rfl) (.cons (Sub.of_eq rfl) (.cons (Sub.of_eq rfl) .nil))))))
          ·exact HpW.refl
          ·exact (by intro p hp; cases hp)
          ·omega
        ·try simp (maxSteps := 4000000) only [go_sem, Prod.mk.injEq, reduceIte, Nat.reduceEqDiff, Nat.reduceAdd, Nat.reduceSub, Nat.reduceMul, Nat.reduceDiv, Nat.reducePow, Nat.reduceLT, Nat.reduceLeDiff, Nat.reduceBEq, Nat.reduceBneDiff, Int.reduceToNat, Int.reduceEq, Int.reduceLE, Int.reduceLT, reduceCtorEq, hn1d, hm1d]
         repeat (with_reducible refine And.intro ?_ ?_; next => first | assumption | trivial | omega | decide | (constructor <;> first | assumption | omega) | (simp [Keep.ok, hp_cons_apply, hset_cons, hn1d, hm1d]; done))
         refine hk _ _ _ ?_
         refine xghost (D := []) ?_ ?_ ?_ ?_
         ·exact (.cons (Sub.of_eq rfl) (.cons (Sub.of_eq rfl) (.cons (Sub.of_eq rfl) (.cons (Sub.of_eq rfl) (.cons (Sub.of_eq rfl) .nil)))))
         ·exact HpW.refl
         ·exact (by intro p hp; cases hp)
         ·omega
       ·try simp (maxSteps := 4000000) only [go_sem, Prod.mk.injEq, reduceIte, Nat.reduceEqDiff, Nat.reduceAdd, Nat.reduceSub, Nat.reduceMul, Nat.reduceDiv, Nat.reducePow, Nat.reduceLT, Nat.reduceLeDiff, Nat.reduceBEq, Nat.reduceBneDiff, Int.reduceToNat, Int.reduceEq, Int.reduceLE, Int.reduceLT, reduceCtorEq, hn1d, hm1d]
        repeat (with_reducible refine And.intro ?_ ?_; next => first | assumption | trivial | omega | decide | (constructor <;> first | assumption | omega) | (simp [Keep.ok, hp_cons_apply, hset_cons, hn1d, hm1d]; done))
        refine hk _ _ _ ?_
        refine xghost (D := []) ?_ ?_ ?_ ?_
        ·exact (.cons (Sub.of_eq rfl) (.cons (Sub.of_eq rfl) (.cons (Sub.of_eq rfl) (.cons (Sub.of_eq rfl) (.cons (Sub.of_eq rfl) (.cons (Sub.of_eq rfl) .nil))))))
        ·exact HpW.refl
        ·exact (by intro p hp; cases hp)
        ·omega
      ·rw [ite_f hc] at h
       obtain ⟨hq, hxe⟩ := mr_go h hx1
       clear h hx1
       subst hxe
       have h := hq
       clear hq
       refine LW_exitX (sl' := [(0, eS (lS (lI .u8)) slices), (3, .lit (.int .i64 size)), (9, eS (lS (lI .u8)) slices), (10, .lit (.int .i64 (slices.length : Int))), (11, .lit (.int .i64 t11)), (12, .lit (.bool (decide (t11 < (slices.length : Int)))))]) (S' := (hp [] S)) (c' := 0) ?_ ?_
       ·refine xghost (D := []) ?_ ?_ ?_ ?_
        ·exact (.cons (Sub.of_eq rfl) (.cons (Sub.of_eq rfl) (.cons (Sub.of_eq rfl) (.cons (Sub.of_eq rfl) (.cons (Sub.of_eq rfl) (.cons (Sub.of_eq rfl) .nil))))))
        ·exact HpW.refl
        ·exact (by intro p hp; cases hp)
        ·omega
       ·show LW _ _ _ _ _ _ _ _
        obtain ⟨v, hv, h⟩ := bd_some h
        refine xseq [(0, eS (lS (lI .u8)) slices), (6, eT (lI .u8) (d, 0) v)] (hp [((d, 0), oT (lI .u8) v)] S) 1 ?_ (fun k kp hk => ?_)
        ·refine LW_seq ?_
         refine xseq [(6, eT (lI .u8) (d, 0) v), (25, eS (lS (lI .u8)) slices), (26, .lit (.int .i64 (slices.length : Int))), (27, .lit (.int .i64 0))] (hp [((d, 0), oT (lI .u8) v)] S) 1 ?_ (fun k kp hk => ?_)
         ·refine LW_block ?_
          refine LW_loopX (c := 1) (σ := List Int × Int) (s := (v, 0)) (fun zz => [(6, eT (lI .u8) (d, 0) zz.1), (25, eS (lS (lI .u8)) slices), (26, .lit (.int .i64 (slices.length : Int))), (27, .lit (.int .i64 zz.2))]) (fun zz => (hp [((d, 0), oT (lI .u8) zz.1)] S)) h ?_ ?_
          ·clear h
           rintro ⟨newslice, t27⟩ x1 d1 hd1 hf1 h hx1
           show LW _ _ _ _ [(6, eT (lI .u8) (d, 0) newslice), (25, eS (lS (lI .u8)) slices), (26, .lit (.int .i64 (slices.length : Int))), (27, .lit (.int .i64 t27))] (hp [((d, 0), oT (lI .u8) newslice)] S) 0 _
           have hn1d : (d = d1) = False := by simp; omega
           have hm1d : (d1 = d) = False := by simp; omega
           rw [s_slices_Concat_byte_byte_b2] at h
           refine xseq [(6, eT (lI .u8) (d, 0) newslice), (25, eS (lS (lI .u8)) slices), (26, .lit (.int .i64 (slices.length : Int))), (27, .lit (.int .i64 t27)), (28, .lit (.bool (decide (t27 < (slices.length : Int)))))] (hp [((d, 0), oT (lI .u8) newslice)] S) 0 ?_ (fun k kp hk => ?_)
           ·refine LW_seq ?_
            refine xcond (decide (t27 < (slices.length : Int))) rfl (fun hc_2 => ?_) (fun hc_2 => ?_)
            ·rw [ite_t hc_2] at h
             refine LW_skip ?_
             show LW _ _ _ _ _ _ _ _
             refine LW_seq ?_
             refine LW_block ?_
             obtain ⟨hg_1, h⟩ := gd_some h
             refine xseq [(6, eT (lI .u8) (d, 0) newslice), (8, eS (lI .u8) (slices.getD (Int.toNat t27) [])), (25, eS (lS (lI .u8)) slices), (26, .lit (.int .i64 (slices.length : Int))), (27, .lit (.int .i64 t27))] (hp [((d, 0), oT (lI .u8) newslice)] S) 0 ?_ (fun k kp hk => ?_)
             ·obtain ⟨hg_2, h⟩ := gd_some h
              refine xreg [(6, eT (lI .u8) (d, 0) (newslice ++ (slices.getD (Int.toNat t27) []))), (25, eS (lS (lI .u8)) slices), (26, .lit (.int .i64 (slices.length : Int))), (27, .lit (.int .i64 t27))] (hp [((d, 0), oT (lI .u8) (newslice ++ (slices.getD (Int.toNat t27) [])))] S) 0 ?_ (fun k kp hk => ?_)
              ·show LW _ _ _ _ _ _ _ _
               refine xreg [(6, eT (lI .u8) (d, 0) (newslice ++ (slices.getD (Int.toNat t27) []))), (25, eS (lS (lI .u8)) slices), (26, .lit (.int .i64 (slices.length : Int))), (27, .lit (.int .i64 (IntKind.i64.wrap (t27 + 1))))] (hp [((d, 0), oT (lI .u8) (newslice ++ (slices.getD (Int.toNat t27) [])))] S) 0 ?_ (fun k kp hk => ?_)
               ·cases h
                exact ⟨rfl, Less.refl _⟩
               ·try simp (maxSteps := 4000000) only [go_sem, Prod.mk.injEq, reduceIte, Nat.reduceEqDiff, Nat.reduceAdd, Nat.reduceSub, Nat.reduceMul, Nat.reduceDiv, Nat.reducePow, Nat.reduceLT, Nat.reduceLeDiff, Nat.reduceBEq, Nat.reduceBneDiff, Int.reduceToNat, Int.reduceEq, Int.reduceLE, Int.reduceLT, reduceCtorEq, hn1d, hm1d, hn1d, hm1d]
                repeat (with_reducible refine And.intro ?_ ?_; next => first | assumption | trivial | omega | decide | (constructor <;> first | assumption | omega) | (simp [Keep.ok, hp_cons_apply, hset_cons, hn1d, hm1d, hn1d, hm1d]; done))
                refine hk _ _ _ ?_
                refine xghost (D := []) ?_ ?_ ?_ ?_
                ·exact (.cons (Sub.of_eq rfl) (.cons (Sub.of_eq rfl) (.cons (Sub.of_eq rfl) (.cons (Sub.of_eq rfl) .nil))))
                ·exact HpW.refl
                ·exact (by intro p hp; cases hp)
                ·omega
              ·try simp (maxSteps := 4000000) only [go_sem, Prod.mk.injEq, reduceIte, Nat.reduceEqDiff, Nat.reduceAdd, Nat.reduceSub, Nat.reduceMul, Nat.reduceDiv, Nat.reducePow, Nat.reduceLT, Nat.reduceLeDiff, Nat.reduceBEq, Nat.reduceBneDiff, Int.reduceToNat, Int.reduceEq, Int.reduceLE, Int.reduceLT, reduceCtorEq, hn1d, hm1d, hn1d, hm1d]
               repeat (with_reducible refine And.intro ?_ ?_; next => first | assumption | trivial | omega | decide | (constructor <;> first | assumption | omega) | (simp [Keep.ok, hp_cons_apply, hset_cons, hn1d, hm1d, hn1d, hm1d]; done))
               refine append1_eT (L := (lI .u8)) (n := (d, 0)) (xs := newslice) (ys := (slices.getD (Int.toNat t27) [])) T22 T22 T5 ?_ rfl ?_ asrc_eS ?_ rfl ?_ ?_
               ·first | exact .inl rfl | exact .inr rfl
               ·try simp (maxSteps := 4000000) only [go_sem, Prod.mk.injEq, reduceIte, Nat.reduceEqDiff, Nat.reduceAdd, Nat.reduceSub, Nat.reduceMul, Nat.reduceDiv, Nat.reducePow, Nat.reduceLT, Nat.reduceLeDiff, Nat.reduceBEq, Nat.reduceBneDiff, Int.reduceToNat, Int.reduceEq, Int.reduceLE, Int.reduceLT, reduceCtorEq, hn1d, hm1d, hn1d, hm1d]
               ·exact ⟨trivial, rfl⟩
               ·dsimp only [List.length]; omega
               try simp (maxSteps := 4000000) only [go_sem, Prod.mk.injEq, reduceIte, Nat.reduceEqDiff, Nat.reduceAdd, Nat.reduceSub, Nat.reduceMul, Nat.reduceDiv, Nat.reducePow, Nat.reduceLT, Nat.reduceLeDiff, Nat.reduceBEq, Nat.reduceBneDiff, Int.reduceToNat, Int.reduceEq, Int.reduceLE, Int.reduceLT, reduceCtorEq, hn1d, hm1d, hn1d, hm1d]
               repeat (with_reducible refine And.intro ?_ ?_; next => first | assumption | trivial | omega | decide | (constructor <;> first | assumption | omega) | (simp [Keep.ok, hp_cons_apply, hset_cons, hn1d, hm1d, hn1d, hm1d]; done))
               refine hk _ _ _ ?_
               refine xghost (D := []) ?_ ?_ ?_ ?_
               ·exact (.cons (Sub.of_eq rfl) (.cons (Sub.of_eq rfl) (.cons (Sub.of_eq rfl) (.cons (Sub.of_eq rfl) .nil))))
               ·exact HpW.refl
               ·exact (by intro p hp; cases hp)
               ·omega
             ·try simp (maxSteps := 4000000) only [go_sem, Prod.mk.injEq, reduceIte, Nat.reduceEqDiff, Nat.reduceAdd, Nat.reduceSub, Nat.reduceMul, Nat.reduceDiv, Nat.reducePow, Nat.reduceLT, Nat.reduceLeDiff, Nat.reduceBEq, Nat.reduceBneDiff, Int.reduceToNat, Int.reduceEq, Int.reduceLE, Int.reduceLT, reduceCtorEq, hn1d, hm1d, hn1d, hm1d]
              repeat (with_reducible refine And.intro ?_ ?_; next => first | assumption | trivial | omega | decide | (constructor <;> first | assumption | omega) | (simp [Keep.ok, hp_cons_apply, hset_cons, hn1d, hm1d, hn1d, hm1d]; done))
              refine hk _ _ _ ?_
              refine xghost (D := []) ?_ ?_ ?_ ?_
              ·exact (.cons (Sub.of_eq rfl) (.cons (Sub.of_eq rfl) (.cons (Sub.of_eq rfl) (.cons (Sub.of_eq rfl) (.cons (Sub.of_eq rfl) .nil)))))
              ·exact HpW.refl
              ·exact (by intro p hp; cases hp)
              ·omega
            ·rw [ite_f hc_2] at h
             obtain ⟨hq, hxe⟩ := mr_go h hx1
             clear h hx1
             subst hxe
             have h := hq
             clear hq
             refine LW_exitX (sl' := [(6, eT (lI .u8) (d, 0) newslice), (25, eS (lS (lI .u8)) slices), (26, .lit (.int .i64 (slices.length : Int))), (27, .lit (.int .i64 t27)), (28, .lit (.bool (decide (t27 < (slices.length : Int)))))]) (S' := (hp [((d, 0), oT (lI .u8) newslice)] S)) (c' := 0) ?_ ?_
             ·refine xghost (D := []) ?_ ?_ ?_ ?_
              ·exact (.cons (Sub.of_eq rfl) (.cons (Sub.of_eq rfl) (.cons (Sub.of_eq rfl) (.cons (Sub.of_eq rfl) (.cons (Sub.of_eq rfl) .nil)))))
              ·exact HpW.refl
              ·exact (by intro p hp; cases hp)
              ·omega
             ·show LW _ _ _ _ _ _ _ _
              refine xseq [(2, eS (lI .u8) newslice)] (hp [((d, 0), oT (lI .u8) newslice)] S) 1 ?_ (fun k kp hk => ?_)
              ·refine LW_ret ?_
               obtain rfl := Option.some.inj h
               show FPost _ _ _ _ _ _ _
               exact ⟨_, hp_less (L := []) (D := [((d, 0), oT (lI .u8) newslice)]) (by intro p hp; simp only [List.mem_cons, List.not_mem_nil, or_false] at hp; rcases hp with rfl <;> first | exact hd _ (Nat.le_refl _)), rfl, rfl⟩
              ·try simp (maxSteps := 4000000) only [go_sem, Prod.mk.injEq, reduceIte, Nat.reduceEqDiff, Nat.reduceAdd, Nat.reduceSub, Nat.reduceMul, Nat.reduceDiv, Nat.reducePow, Nat.reduceLT, Nat.reduceLeDiff, Nat.reduceBEq, Nat.reduceBneDiff, Int.reduceToNat, Int.reduceEq, Int.reduceLE, Int.reduceLT, reduceCtorEq, hn1d, hm1d, hn1d, hm1d]
               repeat (with_reducible refine And.intro ?_ ?_; next => first | assumption | trivial | omega | decide | (constructor <;> first | assumption | omega) | (simp [Keep.ok, hp_cons_apply, hset_cons, hn1d, hm1d, hn1d, hm1d]; done))
               refine hk _ _ _ ?_
               refine xghost (D := []) ?_ ?_ ?_ ?_
               ·exact (.cons Sub.tip .nil)
               ·exact HpW.refl
               ·exact (by intro p hp; cases hp)
               ·omega
           ·try simp (maxSteps := 4000000) only [go_sem, Prod.mk.injEq, reduceIte, Nat.reduceEqDiff, Nat.reduceAdd, Nat.reduceSub, Nat.reduceMul, Nat.reduceDiv, Nat.reducePow, Nat.reduceLT, Nat.reduceLeDiff, Nat.reduceBEq, Nat.reduceBneDiff, Int.reduceToNat, Int.reduceEq, Int.reduceLE, Int.reduceLT, reduceCtorEq, hn1d, hm1d, hn1d, hm1d]
            repeat (with_reducible refine And.intro ?_ ?_; next => first | assumption | trivial | omega | decide | (constructor <;> first | assumption | omega) | (simp [Keep.ok, hp_cons_apply, hset_cons, hn1d, hm1d, hn1d, hm1d]; done))
            refine hk _ _ _ ?_
            refine xghost (D := []) ?_ ?_ ?_ ?_
            ·exact (.cons (Sub.of_eq rfl) (.cons (Sub.of_eq rfl) (.cons (Sub.of_eq rfl) (.cons (Sub.of_eq rfl) (.cons (Sub.of_eq rfl) .nil)))))
            ·exact HpW.refl
            ·exact (by intro p hp; cases hp)
            ·omega
          ·refine xghost (D := []) ?_ ?_ ?_ ?_
           ·exact (.cons (Sub.of_eq rfl) (.cons (Sub.of_eq rfl) (.cons (Sub.of_eq rfl) (.cons (Sub.of_eq rfl) .nil))))
           ·exact HpW.refl
           ·exact (by intro p hp; cases hp)
           ·omega
         ·try simp (maxSteps := 4000000) only [go_sem, Prod.mk.injEq, reduceIte, Nat.reduceEqDiff, Nat.reduceAdd, Nat.reduceSub, Nat.reduceMul, Nat.reduceDiv, Nat.reducePow, Nat.reduceLT, Nat.reduceLeDiff, Nat.reduceBEq, Nat.reduceBneDiff, Int.reduceToNat, Int.reduceEq, Int.reduceLE, Int.reduceLT, reduceCtorEq, hn1d, hm1d]
          repeat (with_reducible refine And.intro ?_ ?_; next => first | assumption | trivial | omega | decide | (constructor <;> first | assumption | omega) | (simp [Keep.ok, hp_cons_apply, hset_cons, hn1d, hm1d]; done))
          refine hk _ _ _ ?_
          refine xghost (D := []) ?_ ?_ ?_ ?_
          ·exact (.cons (Sub.of_eq rfl) (.cons (Sub.of_eq rfl) (.cons (Sub.of_eq rfl) (.cons (Sub.of_eq rfl) .nil))))
          ·exact HpW.refl
          ·exact (by intro p hp; cases hp)
          ·omega
        ·try simp (maxSteps := 4000000) only [go_sem, Prod.mk.injEq, reduceIte, Nat.reduceEqDiff, Nat.reduceAdd, Nat.reduceSub, Nat.reduceMul, Nat.reduceDiv, Nat.reducePow, Nat.reduceLT, Nat.reduceLeDiff, Nat.reduceBEq, Nat.reduceBneDiff, Int.reduceToNat, Int.reduceEq, Int.reduceLE, Int.reduceLT, reduceCtorEq, hn1d, hm1d]
         repeat (with_reducible refine And.intro ?_ ?_; next => first | assumption | trivial | omega | decide | (constructor <;> first | assumption | omega) | (simp [Keep.ok, hp_cons_apply, hset_cons, hn1d, hm1d]; done))
         have hcall := s_slices_Grow_byte_byte_ok (hp [] S) [] size hv
         refine call1_tip hcall rfl ?_ ?_
         ·exact (.cons Sub.refl (.cons Sub.refl .nil))
         clear hcall
         try simp (maxSteps := 4000000) only [go_sem, Prod.mk.injEq, reduceIte, Nat.reduceEqDiff, Nat.reduceAdd, Nat.reduceSub, Nat.reduceMul, Nat.reduceDiv, Nat.reducePow, Nat.reduceLT, Nat.reduceLeDiff, Nat.reduceBEq, Nat.reduceBneDiff, Int.reduceToNat, Int.reduceEq, Int.reduceLE, Int.reduceLT, reduceCtorEq, hn1d, hm1d]
         repeat (with_reducible refine And.intro ?_ ?_; next => first | assumption | trivial | omega | decide | (constructor <;> first | assumption | omega) | (simp [Keep.ok, hp_cons_apply, hset_cons, hn1d, hm1d]; done))
         refine hk _ _ _ ?_
         refine xghost (D := []) ?_ ?_ ?_ ?_
         ·exact (.cons (Sub.of_eq rfl) (.cons (Sub.of_eq rfl) .nil))
         ·exact HpW.refl
         ·exact (by intro p hp; cases hp)
         ·omega
     ·try simp (maxSteps := 4000000) only [go_sem, Prod.mk.injEq, reduceIte, Nat.reduceEqDiff, Nat.reduceAdd, Nat.reduceSub, Nat.reduceMul, Nat.reduceDiv, Nat.reducePow, Nat.reduceLT, Nat.reduceLeDiff, Nat.reduceBEq, Nat.reduceBneDiff, Int.reduceToNat, Int.reduceEq, Int.reduceLE, Int.reduceLT, reduceCtorEq, hn1d, hm1d]
      repeat (with_reducible refine And.intro ?_ ?_; next => first | assumption | trivial | omega | decide | (constructor <;> first | assumption | omega) | (simp [Keep.ok, hp_cons_apply, hset_cons, hn1d, hm1d]; done))
      refine hk _ _ _ ?_
      refine xghost (D := []) ?_ ?_ ?_ ?_
      ·exact (.cons (Sub.of_eq rfl) (.cons (Sub.of_eq rfl) (.cons (Sub.of_eq rfl) (.cons (Sub.of_eq rfl) (.cons (Sub.of_eq rfl) (.cons (Sub.of_eq rfl) .nil))))))
      ·exact HpW.refl
      ·exact (by intro p hp; cases hp)
      ·omega
    ·refine xghost (D := []) ?_ ?_ ?_ ?_
     ·exact (.cons (Sub.of_eq rfl) (.cons (Sub.of_eq rfl) (.cons (Sub.of_eq rfl) (.cons (Sub.of_eq rfl) (.cons (Sub.of_eq rfl) .nil)))))
     ·exact HpW.refl
     ·exact (by intro p hp; cases hp)
     ·omega
   ·try simp (maxSteps := 4000000) only [go_sem, Prod.mk.injEq, reduceIte, Nat.reduceEqDiff, Nat.reduceAdd, Nat.reduceSub, Nat.reduceMul, Nat.reduceDiv, Nat.reducePow, Nat.reduceLT, Nat.reduceLeDiff, Nat.reduceBEq, Nat.reduceBneDiff, Int.reduceToNat, Int.reduceEq, Int.reduceLE, Int.reduceLT, reduceCtorEq]
    repeat (with_reducible refine And.intro ?_ ?_; next => first | assumption | trivial | omega | decide | (constructor <;> first | assumption | omega) | (simp [Keep.ok, hp_cons_apply, hset_cons]; done))
    refine hk _ _ _ ?_
    refine xghost (D := []) ?_ ?_ ?_ ?_
    ·exact (.cons (Sub.of_eq rfl) (.cons (Sub.of_eq rfl) (.cons (Sub.of_eq rfl) (.cons (Sub.of_eq rfl) (.cons (Sub.of_eq rfl) .nil)))))
    ·exact HpW.refl
    ·exact (by intro p hp; cases hp)
    ·omega
  ·try simp (maxSteps := 4000000) only [go_sem, Prod.mk.injEq, reduceIte, Nat.reduceEqDiff, Nat.reduceAdd, Nat.reduceSub, Nat.reduceMul, Nat.reduceDiv, Nat.reducePow, Nat.reduceLT, Nat.reduceLeDiff, Nat.reduceBEq, Nat.reduceBneDiff, Int.reduceToNat, Int.reduceEq, Int.reduceLE, Int.reduceLT, reduceCtorEq]
   repeat (with_reducible refine And.intro ?_ ?_; next => first | assumption | trivial | omega | decide | (constructor <;> first | assumption | omega) | (simp [Keep.ok, hp_cons_apply, hset_cons]; done))
   refine hk _ _ _ ?_
   refine xghost (D := []) ?_ ?_ ?_ ?_
   ·exact (.cons (Sub.of_eq rfl) (.cons (Sub.of_eq rfl) .nil))
   ·exact HpW.refl
   ·exact (by intro p hp; cases hp)
   ·omega
 ·try simp (maxSteps := 4000000) only [go_sem, Prod.mk.injEq, reduceIte, Nat.reduceEqDiff, Nat.reduceAdd, Nat.reduceSub, Nat.reduceMul, Nat.reduceDiv, Nat.reducePow, Nat.reduceLT, Nat.reduceLeDiff, Nat.reduceBEq, Nat.reduceBneDiff, Int.reduceToNat, Int.reduceEq, Int.reduceLE, Int.reduceLT, reduceCtorEq]
  repeat (with_reducible refine And.intro ?_ ?_; next => first | assumption | trivial | omega | decide | (constructor <;> first | assumption | omega) | (simp [Keep.ok, hp_cons_apply, hset_cons]; done))
  refine hk _ _ _ ?_
  refine xghost (D := []) ?_ ?_ ?_ ?_
  ·exact (.cons (Sub.of_eq rfl) .nil)
  ·exact HpW.refl
  ·exact (by intro p hp; cases hp)
  ·omega
/-! (*stanchion/disk.Disk).Append -/
def s_disk_Disk_Append_j1 (v_1 : Int × GdiskDisk) (m : List Int) (m_1 : List Int) : Option (Int × GdiskDisk) :=
 some (v_1.1, (GdiskDisk.mk v_1.2.power (Ar2.mk (Gdiskarea.mk m v_1.2.areas.x0.safe) (Gdiskarea.mk m_1 v_1.2.areas.x1.safe))))
def s_disk_Disk_Append (dx : GdiskDisk) (n : Int) (parts : List (List Int)) : Option (Int × GdiskDisk) :=
 bd (s_disk_there ([n])) fun (v : Bool) => if (!v) = true then some (41, dx) else bd (s_disk_Disk_draw dx) fun (v_1 : Int × GdiskDisk) => if (v_1.1 == 0) = true then if n = 0 then bd (s_slices_Concat_byte_byte parts) fun (v_3 : List Int) => gd (((v_1.2.areas.x0.data.length + v_3.length) * 1 ≤ 140737488355328 ∧ v_1.2.areas.x0.data.length + v_3.length < 9223372036854775808)) (s_disk_Disk_Append_j1 v_1 (v_1.2.areas.x0.data ++ v_3) v_1.2.areas.x1.data) else if n = 1 then bd (s_slices_Concat_byte_byte parts) fun (v_2 : List Int) => gd (((v_1.2.areas.x1.data.length + v_2.length) * 1 ≤ 140737488355328 ∧ v_1.2.areas.x1.data.length + v_2.length < 9223372036854775808)) (s_disk_Disk_Append_j1 v_1 v_1.2.areas.x0.data (v_1.2.areas.x1.data ++ v_2)) else none else s_disk_Disk_Append_j1 v_1 v_1.2.areas.x0.data v_1.2.areas.x1.data
theorem s_disk_Disk_Append_ok (S : AHeap) {n0 : Name} (dx : GdiskDisk) (n : Int) (parts : List (List Int)) {r : Int × GdiskDisk} (hS0 : S n0 = some (oGdiskDisk dx)) (h : s_disk_Disk_Append dx n parts = some r) :
  AC Try.prog n_disk_Disk_Append [.ptr n0 0, .lit (.int .i64 n), eS (lS (lI .u8)) parts] S fun r' S' => r' = .ret (.lit (.int .i64 r.1)) ∧ S' = S.set n0 (oGdiskDisk r.2) := by
 refine AC_of tok mixed fits_disk_Disk_Append fun d hd => ?_
 unfold c_disk_Disk_Append
 show LW _ _ _ _ [(0, .ptr n0 0), (1, .lit (.int .i64 n)), (2, eS (lS (lI .u8)) parts)] S 0 _
 refine LW_heap (hp_in hS0) ?_
 have hl_n0 : n0.1 < d := lt_of_hd hd hS0
 have hq_n0 : ∀ k, (n0 = (d, k)) = False := fun k => ne_deep hl_n0
 have hr_n0 : ∀ k, ((d, k) = n0) = False := fun k => ne_deep' hl_n0
 show LW _ _ _ _ [(0, .ptr n0 0), (1, .lit (.int .i64 n)), (2, eS (lS (lI .u8)) parts)] (hp [(n0, .box [.lit (.int .i64 dx.power), eO (lI .u8) dx.areas.x0.data, .lit (.int .i64 dx.areas.x0.safe), eO (lI .u8) dx.areas.x1.data, .lit (.int .i64 dx.areas.x1.safe)])] S) 0 _
 rw [s_disk_Disk_Append] at h
 refine xseq [(0, .ptr n0 0), (1, .lit (.int .i64 n)), (2, eS (lS (lI .u8)) parts)] (hp [(n0, .box [.lit (.int .i64 dx.power), eO (lI .u8) dx.areas.x0.data, .lit (.int .i64 dx.areas.x0.safe), eO (lI .u8) dx.areas.x1.data, .lit (.int .i64 dx.areas.x1.safe)])] S) 0 ?_ (fun k kp hk => ?_)
 ·refine LW_seq ?_
  obtain ⟨v, hv, h⟩ := bd_some h
  refine xseq [(0, .ptr n0 0), (1, .lit (.int .i64 n)), (2, eS (lS (lI .u8)) parts), (12, .lit (.bool (!v)))] (hp [(n0, .box [.lit (.int .i64 dx.power), eO (lI .u8) dx.areas.x0.data, .lit (.int .i64 dx.areas.x0.safe), eO (lI .u8) dx.areas.x1.data, .lit (.int .i64 dx.areas.x1.safe)])] S) 0 ?_ (fun k kp hk => ?_)
  ·refine xcond (!v) rfl (fun hc => ?_) (fun hc => ?_)
   ·rw [ite_t hc] at h
    refine xseq [(6, .lit (.int .i64 41))] (hp [(n0, .box [.lit (.int .i64 dx.power), eO (lI .u8) dx.areas.x0.data, .lit (.int .i64 dx.areas.x0.safe), eO (lI .u8) dx.areas.x1.data, .lit (.int .i64 dx.areas.x1.safe)])] S) 0 ?_ (fun k kp hk => ?_)
    ·refine LW_ret ?_
     obtain rfl := Option.some.inj h
     show FPost _ _ _ _ _ _ _
     exact ⟨_, hp_less (L := [(n0, .box [.lit (.int .i64 dx.power), eO (lI .u8) dx.areas.x0.data, .lit (.int .i64 dx.areas.x0.safe), eO (lI .u8) dx.areas.x1.data, .lit (.int .i64 dx.areas.x1.safe)])]) (D := []) (by intro p hp; cases hp), rfl, rfl⟩
    ·try simp (maxSteps := 4000000) only [go_sem, Prod.mk.injEq, reduceIte, Nat.reduceEqDiff, Nat.reduceAdd, Nat.reduceSub, Nat.reduceMul, Nat.reduceDiv, Nat.reducePow, Nat.reduceLT, Nat.reduceLeDiff, Nat.reduceBEq, Nat.reduceBneDiff, Int.reduceToNat, Int.reduceEq, Int.reduceLE, Int.reduceLT, reduceCtorEq, oGdiskDisk, hq_n0, hr_n0]
     repeat (with_reducible refine And.intro ?_ ?_; next => first | assumption | trivial | omega | decide | (constructor <;> first | assumption | omega) | (simp [Keep.ok, hp_cons_apply, hset_cons, oGdiskDisk, hq_n0, hr_n0]; done))
     refine hk _ _ _ ?_
     refine xghost (D := []) ?_ ?_ ?_ ?_
     ·exact (.cons (Sub.of_eq rfl) .nil)
     ·exact HpW.refl
     ·exact (by intro p hp; cases hp)
     ·omega
   ·rw [ite_f hc] at h
    refine LW_skip ?_
    show LW _ _ _ _ _ _ _ _
    obtain ⟨v_1, hv_1, h⟩ := bd_some h
    refine xseq [(0, .ptr n0 0), (1, .lit (.int .i64 n)), (2, eS (lS (lI .u8)) parts), (7, .lit (.int .i64 v_1.1))] (hp [(n0, .box [.lit (.int .i64 v_1.2.power), eO (lI .u8) v_1.2.areas.x0.data, .lit (.int .i64 v_1.2.areas.x0.safe), eO (lI .u8) v_1.2.areas.x1.data, .lit (.int .i64 v_1.2.areas.x1.safe)])] S) 0 ?_ (fun k kp hk => ?_)
    ·refine xjoin (J := List Int × List Int) (fun jj => [(7, .lit (.int .i64 v_1.1))]) (fun jj => (hp [(n0, .box [.lit (.int .i64 v_1.2.power), eO (lI .u8) jj.1, .lit (.int .i64 v_1.2.areas.x0.safe), eO (lI .u8) jj.2, .lit (.int .i64 v_1.2.areas.x1.safe)])] S)) 1 (fun jj => s_disk_Disk_Append_j1 v_1 jj.1 jj.2 = some r) ?_ (fun hj => ?_)
     ·rintro ⟨m, m_1⟩ h
      show LW _ _ _ _ [(7, .lit (.int .i64 v_1.1))] (hp [(n0, .box [.lit (.int .i64 v_1.2.power), eO (lI .u8) m, .lit (.int .i64 v_1.2.areas.x0.safe), eO (lI .u8) m_1, .lit (.int .i64 v_1.2.areas.x1.safe)])] S) 1 _
      replace h : s_disk_Disk_Append_j1 v_1 m m_1 = some r := h
      rw [s_disk_Disk_Append_j1] at h
      refine xseq [(6, .lit (.int .i64 v_1.1))] (hp [(n0, .box [.lit (.int .i64 v_1.2.power), eO (lI .u8) m, .lit (.int .i64 v_1.2.areas.x0.safe), eO (lI .u8) m_1, .lit (.int .i64 v_1.2.areas.x1.safe)])] S) 1 ?_ (fun k kp hk => ?_)
      ·refine LW_ret ?_
       obtain rfl := Option.some.inj h
       show FPost _ _ _ _ _ _ _
       exact ⟨_, hp_less (L := [(n0, .box [.lit (.int .i64 v_1.2.power), eO (lI .u8) m, .lit (.int .i64 v_1.2.areas.x0.safe), eO (lI .u8) m_1, .lit (.int .i64 v_1.2.areas.x1.safe)])]) (D := []) (by intro p hp; cases hp), rfl, rfl⟩
      ·try simp (maxSteps := 4000000) only [go_sem, Prod.mk.injEq, reduceIte, Nat.reduceEqDiff, Nat.reduceAdd, Nat.reduceSub, Nat.reduceMul, Nat.reduceDiv, Nat.reducePow, Nat.reduceLT, Nat.reduceLeDiff, Nat.reduceBEq, Nat.reduceBneDiff, Int.reduceToNat, Int.reduceEq, Int.reduceLE, Int.reduceLT, reduceCtorEq, oGdiskDisk, hq_n0, hr_n0]
       repeat (with_reducible refine And.intro ?_ ?_; next => first | assumption | trivial | omega | decide | (constructor <;> first | assumption | omega) | (simp [Keep.ok, hp_cons_apply, hset_cons, oGdiskDisk, hq_n0, hr_n0]; done))
       refine hk _ _ _ ?_
       refine xghost (D := []) ?_ ?_ ?_ ?_
       ·exact (.cons (Sub.of_eq rfl) .nil)
       ·exact HpW.refl
       ·exact (by intro p hp; cases hp)
       ·omega
     ·refine xseq [(0, .ptr n0 0), (1, .lit (.int .i64 n)), (2, eS (lS (lI .u8)) parts), (7, .lit (.int .i64 v_1.1)), (16, .lit (.bool (v_1.1 == 0)))] (hp [(n0, .box [.lit (.int .i64 v_1.2.power), eO (lI .u8) v_1.2.areas.x0.data, .lit (.int .i64 v_1.2.areas.x0.safe), eO (lI .u8) v_1.2.areas.x1.data, .lit (.int .i64 v_1.2.areas.x1.safe)])] S) 0 ?_ (fun k kp hk => ?_)
      ·refine xcond (v_1.1 == 0) rfl (fun hc_1 => ?_) (fun hc_1 => ?_)
       ·rw [ite_t hc_1] at h
        by_cases hs_1 : n = 0
        ·subst hs_1
         rw [if_pos rfl] at h
         refine xseq [(2, eS (lS (lI .u8)) parts), (7, .lit (.int .i64 v_1.1)), (8, .ptr n0 1)] (hp [(n0, .box [.lit (.int .i64 v_1.2.power), eO (lI .u8) v_1.2.areas.x0.data, .lit (.int .i64 v_1.2.areas.x0.safe), eO (lI .u8) v_1.2.areas.x1.data, .lit (.int .i64 v_1.2.areas.x1.safe)])] S) 0 ?_ (fun k kp hk => ?_)
         ·refine LW_gh (Ghost.openX (L := (lI .u8)) (xs := v_1.2.areas.x0.data) (n := n0) (i := 1) (cs := [.lit (.int .i64 v_1.2.power), eO (lI .u8) v_1.2.areas.x0.data, .lit (.int .i64 v_1.2.areas.x0.safe), eO (lI .u8) v_1.2.areas.x1.data, .lit (.int .i64 v_1.2.areas.x1.safe)]) (A' := [(n0, .box [.lit (.int .i64 v_1.2.power), eB (lI .u8) (d, 0) v_1.2.areas.x0.data, .lit (.int .i64 v_1.2.areas.x0.safe), eO (lI .u8) v_1.2.areas.x1.data, .lit (.int .i64 v_1.2.areas.x1.safe)]), ((d, 0), oT (lI .u8) v_1.2.areas.x0.data)]) (by simp only [hp_cons_apply, hp_nil_apply, reduceIte, Prod.mk.injEq, Nat.reduceEqDiff, and_true, and_false, true_and, false_and, oGdiskDisk, hq_n0, hr_n0] <;> rfl) rfl (by simp only [hset_cons, hset_nil, hrem_cons, hrem_nil, List.set_cons_zero, List.set_cons_succ, reduceIte, Prod.mk.injEq, Nat.reduceEqDiff, and_true, and_false, true_and, false_and, oGdiskDisk, hq_n0, hr_n0])) ?_
          obtain ⟨v_3, hv_3, h⟩ := bd_some h
          obtain ⟨hg_1, h⟩ := gd_some h
          refine xregd [(7, .lit (.int .i64 v_1.1))] (hp [(n0, .box [.lit (.int .i64 v_1.2.power), eO (lI .u8) (v_1.2.areas.x0.data ++ v_3), .lit (.int .i64 v_1.2.areas.x0.safe), eO (lI .u8) v_1.2.areas.x1.data, .lit (.int .i64 v_1.2.areas.x1.safe)])] S) 1 ?_ (fun k kp hk => ?_)
          ·exact hj ((v_1.2.areas.x0.data ++ v_3), v_1.2.areas.x1.data) h
          ·try simp (maxSteps := 4000000) only [go_sem, Prod.mk.injEq, reduceIte, Nat.reduceEqDiff, Nat.reduceAdd, Nat.reduceSub, Nat.reduceMul, Nat.reduceDiv, Nat.reducePow, Nat.reduceLT, Nat.reduceLeDiff, Nat.reduceBEq, Nat.reduceBneDiff, Int.reduceToNat, Int.reduceEq, Int.reduceLE, Int.reduceLT, reduceCtorEq, oGdiskDisk, hq_n0, hr_n0]
           repeat (with_reducible refine And.intro ?_ ?_; next => first | assumption | trivial | omega | decide | (constructor <;> first | assumption | omega) | (simp [Keep.ok, hp_cons_apply, hset_cons, oGdiskDisk, hq_n0, hr_n0]; done))
           have hcall := s_slices_Concat_byte_byte_ok (hp [(n0, .box [.lit (.int .i64 v_1.2.power), eB (lI .u8) (d, 0) v_1.2.areas.x0.data, .lit (.int .i64 v_1.2.areas.x0.safe), eO (lI .u8) v_1.2.areas.x1.data, .lit (.int .i64 v_1.2.areas.x1.safe)]), ((d, 0), oT (lI .u8) v_1.2.areas.x0.data)] S) parts hv_3
           refine call1_x hcall rfl ?_ ?_
           ·exact (.cons Sub.refl .nil)
           clear hcall
           rintro _ SS ⟨rfl, hSS⟩ -
           rw [hSS]
           clear hSS
           try simp (maxSteps := 4000000) only [go_sem, Prod.mk.injEq, reduceIte, Nat.reduceEqDiff, Nat.reduceAdd, Nat.reduceSub, Nat.reduceMul, Nat.reduceDiv, Nat.reducePow, Nat.reduceLT, Nat.reduceLeDiff, Nat.reduceBEq, Nat.reduceBneDiff, Int.reduceToNat, Int.reduceEq, Int.reduceLE, Int.reduceLT, reduceCtorEq, oGdiskDisk, hq_n0, hr_n0]
           repeat (with_reducible refine And.intro ?_ ?_; next => first | assumption | trivial | omega | decide | (constructor <;> first | assumption | omega) | (simp [Keep.ok, hp_cons_apply, hset_cons, oGdiskDisk, hq_n0, hr_n0]; done))
           try simp (maxSteps := 4000000) only [go_sem, Prod.mk.injEq, reduceIte, Nat.reduceEqDiff, Nat.reduceAdd, Nat.reduceSub, Nat.reduceMul, Nat.reduceDiv, Nat.reducePow, Nat.reduceLT, Nat.reduceLeDiff, Nat.reduceBEq, Nat.reduceBneDiff, Int.reduceToNat, Int.reduceEq, Int.reduceLE, Int.reduceLT, reduceCtorEq, oGdiskDisk, hq_n0, hr_n0]
           repeat (with_reducible refine And.intro ?_ ?_; next => first | assumption | trivial | omega | decide | (constructor <;> first | assumption | omega) | (simp [Keep.ok, hp_cons_apply, hset_cons, oGdiskDisk, hq_n0, hr_n0]; done))
           refine append1_eB (L := (lI .u8)) (n := (d, 0)) (xs := v_1.2.areas.x0.data) (ys := v_3) T22 T22 T5 ?_ rfl ?_ asrc_eS ?_ rfl ?_ ?_
           ·first | exact .inl rfl | exact .inr rfl
           ·try simp (maxSteps := 4000000) only [go_sem, Prod.mk.injEq, reduceIte, Nat.reduceEqDiff, Nat.reduceAdd, Nat.reduceSub, Nat.reduceMul, Nat.reduceDiv, Nat.reducePow, Nat.reduceLT, Nat.reduceLeDiff, Nat.reduceBEq, Nat.reduceBneDiff, Int.reduceToNat, Int.reduceEq, Int.reduceLE, Int.reduceLT, reduceCtorEq, oGdiskDisk, hq_n0, hr_n0]
           ·exact ⟨trivial, rfl⟩
           ·dsimp only [List.length]; omega
           try simp (maxSteps := 4000000) only [go_sem, Prod.mk.injEq, reduceIte, Nat.reduceEqDiff, Nat.reduceAdd, Nat.reduceSub, Nat.reduceMul, Nat.reduceDiv, Nat.reducePow, Nat.reduceLT, Nat.reduceLeDiff, Nat.reduceBEq, Nat.reduceBneDiff, Int.reduceToNat, Int.reduceEq, Int.reduceLE, Int.reduceLT, reduceCtorEq, oGdiskDisk, hq_n0, hr_n0]
           repeat (with_reducible refine And.intro ?_ ?_; next => first | assumption | trivial | omega | decide | (constructor <;> first | assumption | omega) | (simp [Keep.ok, hp_cons_apply, hset_cons, oGdiskDisk, hq_n0, hr_n0]; done))
           try simp (maxSteps := 4000000) only [go_sem, Prod.mk.injEq, reduceIte, Nat.reduceEqDiff, Nat.reduceAdd, Nat.reduceSub, Nat.reduceMul, Nat.reduceDiv, Nat.reducePow, Nat.reduceLT, Nat.reduceLeDiff, Nat.reduceBEq, Nat.reduceBneDiff, Int.reduceToNat, Int.reduceEq, Int.reduceLE, Int.reduceLT, reduceCtorEq, oGdiskDisk, hq_n0, hr_n0]
           repeat (with_reducible refine And.intro ?_ ?_; next => first | assumption | trivial | omega | decide | (constructor <;> first | assumption | omega) | (simp [Keep.ok, hp_cons_apply, hset_cons, oGdiskDisk, hq_n0, hr_n0]; done))
           refine hk _ _ _ ?_
           refine Ghost.trans (Ghost.closeX (L := (lI .u8)) (xs := (v_1.2.areas.x0.data ++ v_3)) (n := n0) (m := (d, 0)) (i := 1) (cs := [.lit (.int .i64 v_1.2.power), eB (lI .u8) (d, 0) (v_1.2.areas.x0.data ++ v_3), .lit (.int .i64 v_1.2.areas.x0.safe), eO (lI .u8) v_1.2.areas.x1.data, .lit (.int .i64 v_1.2.areas.x1.safe)]) (A' := [(n0, .box [.lit (.int .i64 v_1.2.power), eO (lI .u8) (v_1.2.areas.x0.data ++ v_3), .lit (.int .i64 v_1.2.areas.x0.safe), eO (lI .u8) v_1.2.areas.x1.data, .lit (.int .i64 v_1.2.areas.x1.safe)])]) (by simp only [hp_cons_apply, hp_nil_apply, reduceIte, Prod.mk.injEq, Nat.reduceEqDiff, and_true, and_false, true_and, false_and, oGdiskDisk, hq_n0, hr_n0] <;> rfl) rfl (by simp only [hp_cons_apply, hp_nil_apply, reduceIte, Prod.mk.injEq, Nat.reduceEqDiff, and_true, and_false, true_and, false_and, oGdiskDisk, hq_n0, hr_n0] <;> rfl) (hd _ (Nat.le_refl _)) (by simp only [hset_cons, hset_nil, hrem_cons, hrem_nil, List.set_cons_zero, List.set_cons_succ, reduceIte, Prod.mk.injEq, Nat.reduceEqDiff, and_true, and_false, true_and, false_and, oGdiskDisk, hq_n0, hr_n0])) ?_
           refine xghost (D := []) ?_ ?_ ?_ ?_
           ·exact (.cons (Sub.of_eq rfl) .nil)
           ·exact HpW.refl
           ·exact (by intro p hp; cases hp)
           ·omega
         ·try simp (maxSteps := 4000000) only [go_sem, Prod.mk.injEq, reduceIte, Nat.reduceEqDiff, Nat.reduceAdd, Nat.reduceSub, Nat.reduceMul, Nat.reduceDiv, Nat.reducePow, Nat.reduceLT, Nat.reduceLeDiff, Nat.reduceBEq, Nat.reduceBneDiff, Int.reduceToNat, Int.reduceEq, Int.reduceLE, Int.reduceLT, reduceCtorEq, oGdiskDisk, hq_n0, hr_n0, vptr_0, vptr_1]
          repeat (with_reducible refine And.intro ?_ ?_; next => first | assumption | trivial | omega | decide | (constructor <;> first | assumption | omega) | (simp [Keep.ok, hp_cons_apply, hset_cons, oGdiskDisk, hq_n0, hr_n0, vptr_0, vptr_1]; done))
          refine hk _ _ _ ?_
          refine xghost (D := []) ?_ ?_ ?_ ?_
          ·exact (.cons (Sub.of_eq rfl) (.cons (Sub.of_eq rfl) (.cons (Sub.of_eq rfl) .nil)))
          ·exact HpW.refl
          ·exact (by intro p hp; cases hp)
          ·omega
        ·rw [if_neg hs_1] at h
         by_cases hs : n = 1
         ·subst hs
          rw [if_pos rfl] at h
          refine xseq [(2, eS (lS (lI .u8)) parts), (7, .lit (.int .i64 v_1.1)), (8, .ptr n0 3)] (hp [(n0, .box [.lit (.int .i64 v_1.2.power), eO (lI .u8) v_1.2.areas.x0.data, .lit (.int .i64 v_1.2.areas.x0.safe), eO (lI .u8) v_1.2.areas.x1.data, .lit (.int .i64 v_1.2.areas.x1.safe)])] S) 0 ?_ (fun k kp hk => ?_)
          ·refine LW_gh (Ghost.openX (L := (lI .u8)) (xs := v_1.2.areas.x1.data) (n := n0) (i := 3) (cs := [.lit (.int .i64 v_1.2.power), eO (lI .u8) v_1.2.areas.x0.data, .lit (.int .i64 v_1.2.areas.x0.safe), eO (lI .u8) v_1.2.areas.x1.data, .lit (.int .i64 v_1.2.areas.x1.safe)]) (A' := [(n0, .box [.lit (.int .i64 v_1.2.power), eO (lI .u8) v_1.2.areas.x0.data, .lit (.int .i64 v_1.2.areas.x0.safe), eB (lI .u8) (d, 0) v_1.2.areas.x1.data, .lit (.int .i64 v_1.2.areas.x1.safe)]), ((d, 0), oT (lI .u8) v_1.2.areas.x1.data)]) (by simp only [hp_cons_apply, hp_nil_apply, reduceIte, Prod.mk.injEq, Nat.reduceEqDiff, and_true, and_false, true_and, false_and, oGdiskDisk, hq_n0, hr_n0] <;> rfl) rfl (by simp only [hset_cons, hset_nil, hrem_cons, hrem_nil, List.set_cons_zero, List.set_cons_succ, reduceIte, Prod.mk.injEq, Nat.reduceEqDiff, and_true, and_false, true_and, false_and, oGdiskDisk, hq_n0, hr_n0])) ?_
           obtain ⟨v_2, hv_2, h⟩ := bd_some h
           obtain ⟨hg, h⟩ := gd_some h
           refine xregd [(7, .lit (.int .i64 v_1.1))] (hp [(n0, .box [.lit (.int .i64 v_1.2.power), eO (lI .u8) v_1.2.areas.x0.data, .lit (.int .i64 v_1.2.areas.x0.safe), eO (lI .u8) (v_1.2.areas.x1.data ++ v_2), .lit (.int .i64 v_1.2.areas.x1.safe)])] S) 1 ?_ (fun k kp hk => ?_)
           ·exact hj (v_1.2.areas.x0.data, (v_1.2.areas.x1.data ++ v_2)) h
           ·try simp (maxSteps := 4000000) only [go_sem, Prod.mk.injEq, reduceIte, Nat.reduceEqDiff, Nat.reduceAdd, Nat.reduceSub, Nat.reduceMul, Nat.reduceDiv, Nat.reducePow, Nat.reduceLT, Nat.reduceLeDiff, Nat.reduceBEq, Nat.reduceBneDiff, Int.reduceToNat, Int.reduceEq, Int.reduceLE, Int.reduceLT, reduceCtorEq, oGdiskDisk, hq_n0, hr_n0]
            repeat (with_reducible refine And.intro ?_ ?_; next => first | assumption | trivial | omega | decide | (constructor <;> first | assumption | omega) | (simp [Keep.ok, hp_cons_apply, hset_cons, oGdiskDisk, hq_n0, hr_n0]; done))
            have hcall := s_slices_Concat_byte_byte_ok (hp [(n0, .box [.lit (.int .i64 v_1.2.power), eO (lI .u8) v_1.2.areas.x0.data, .lit (.int .i64 v_1.2.areas.x0.safe), eB (lI .u8) (d, 0) v_1.2.areas.x1.data, .lit (.int .i64 v_1.2.areas.x1.safe)]), ((d, 0), oT (lI .u8) v_1.2.areas.x1.data)] S) parts hv_2
            refine call1_x hcall rfl ?_ ?_
            ·exact (.cons Sub.refl .nil)
            clear hcall
            rintro _ SS ⟨rfl, hSS⟩ -
            rw [hSS]
            clear hSS
            try simp (maxSteps := 4000000) only [go_sem, Prod.mk.injEq, reduceIte, Nat.reduceEqDiff, Nat.reduceAdd, Nat.reduceSub, Nat.reduceMul, Nat.reduceDiv, Nat.reducePow, Nat.reduceLT, Nat.reduceLeDiff, Nat.reduceBEq, Nat.reduceBneDiff, Int.reduceToNat, Int.reduceEq, Int.reduceLE, Int.reduceLT, reduceCtorEq, oGdiskDisk, hq_n0, hr_n0]
            repeat (with_reducible refine And.intro ?_ ?_; next => first | assumption | trivial | omega | decide | (constructor <;> first | assumption | omega) | (simp [Keep.ok, hp_cons_apply, hset_cons, oGdiskDisk, hq_n0, hr_n0]; done))
            try simp (maxSteps := 4000000) only [go_sem, Prod.mk.injEq, reduceIte, Nat.reduceEqDiff, Nat.reduceAdd, Nat.reduceSub, Nat.reduceMul, Nat.reduceDiv, Nat.reducePow, Nat.reduceLT, Nat.reduceLeDiff, Nat.reduceBEq, Nat.reduceBneDiff, Int.reduceToNat, Int.reduceEq, Int.reduceLE, Int.reduceLT, reduceCtorEq, oGdiskDisk, hq_n0, hr_n0]
            repeat (with_reducible refine And.intro ?_ ?_; next => first | assumption | trivial | omega | decide | (constructor <;> first | assumption | omega) | (simp [Keep.ok, hp_cons_apply, hset_cons, oGdiskDisk, hq_n0, hr_n0]; done))
            refine append1_eB (L := (lI .u8)) (n := (d, 0)) (xs := v_1.2.areas.x1.data) (ys := v_2) T22 T22 T5 ?_ rfl ?_ asrc_eS ?_ rfl ?_ ?_
            ·first | exact .inl rfl | exact .inr rfl
            ·try simp (maxSteps := 4000000) only [go_sem, Prod.mk.injEq, reduceIte, Nat.reduceEqDiff, Nat.reduceAdd, Nat.reduceSub, Nat.reduceMul, Nat.reduceDiv, Nat.reducePow, Nat.reduceLT, Nat.reduceLeDiff, Nat.reduceBEq, Nat.reduceBneDiff, Int.reduceToNat, Int.reduceEq, Int.reduceLE, Int.reduceLT, reduceCtorEq, oGdiskDisk, hq_n0, hr_n0]
            ·exact ⟨trivial, rfl⟩
            ·dsimp only [List.length]; omega
            try simp (maxSteps := 4000000) only [go_sem, Prod.mk.injEq, reduceIte, Nat.reduceEqDiff, Nat.reduceAdd, Nat.reduceSub, Nat.reduceMul, Nat.reduceDiv, Nat.reducePow, Nat.reduceLT, Nat.reduceLeDiff, Nat.reduceBEq, Nat.reduceBneDiff, Int.reduceToNat, Int.reduceEq, Int.reduceLE, Int.reduceLT, reduceCtorEq, oGdiskDisk, hq_n0, hr_n0]
            repeat (with_reducible refine And.intro ?_ ?_; next => first | assumption | trivial | omega | decide | (constructor <;> first | assumption | omega) | (simp [Keep.ok, hp_cons_apply, hset_cons, oGdiskDisk, hq_n0, hr_n0]; done))
            try simp (maxSteps := 4000000) only [go_sem, Prod.mk.injEq, reduceIte, Nat.reduceEqDiff, Nat.reduceAdd, Nat.reduceSub, Nat.reduceMul, Nat.reduceDiv, Nat.reducePow, Nat.reduceLT, Nat.reduceLeDiff, Nat.reduceBEq, Nat.reduceBneDiff, Int.reduceToNat, Int.reduceEq, Int.reduceLE, Int.reduceLT, reduceCtorEq, oGdiskDisk, hq_n0, hr_n0]
            repeat (with_reducible refine And.intro ?_ ?_; next => first | assumption | trivial | omega | decide | (constructor <;> first | assumption | omega) | (simp [Keep.ok, hp_cons_apply, hset_cons, oGdiskDisk, hq_n0, hr_n0]; done))
            refine hk _ _ _ ?_
            refine Ghost.trans (Ghost.closeX (L := (lI .u8)) (xs := (v_1.2.areas.x1.data ++ v_2)) (n := n0) (m := (d, 0)) (i := 3) (cs := [.lit (.int .i64 v_1.2.power), eO (lI .u8) v_1.2.areas.x0.data, .lit (.int .i64 v_1.2.areas.x0.safe), eB (lI .u8) (d, 0) (v_1.2.areas.x1.data ++ v_2), .lit (.int .i64 v_1.2.areas.x1.safe)]) (A' := [(n0, .box [.lit (.int .i64 v_1.2.power), eO (lI .u8) v_1.2.areas.x0.data, .lit (.int .i64 v_1.2.areas.x0.safe), eO (lI .u8) (v_1.2.areas.x1.data ++ v_2), .lit (.int .i64 v_1.2.areas.x1.safe)])]) (by simp only [hp_cons_apply, hp_nil_apply, reduceIte, Prod.mk.injEq, Nat.reduceEqDiff, and_true, and_false, true_and, false_and, oGdiskDisk, hq_n0, hr_n0] <;> rfl) rfl (by simp only [hp_cons_apply, hp_nil_apply, reduceIte, Prod.mk.injEq, Nat.reduceEqDiff, and_true, and_false, true_and, false_and, oGdiskDisk, hq_n0, hr_n0] <;> rfl) (hd _ (Nat.le_refl _)) (by simp only [hset_cons, hset_nil, hrem_cons, hrem_nil, List.set_cons_zero, List.set_cons_succ, reduceIte, Prod.mk.injEq, Nat.reduceEqDiff, and_true, and_false, true_and, false_and, oGdiskDisk, hq_n0, hr_n0])) ?_
            refine xghost (D := []) ?_ ?_ ?_ ?_
            ·exact (.cons (Sub.of_eq rfl) .nil)
            ·exact HpW.refl
            ·exact (by intro p hp; cases hp)
            ·omega
          ·try simp (maxSteps := 4000000) only [go_sem, Prod.mk.injEq, reduceIte, Nat.reduceEqDiff, Nat.reduceAdd, Nat.reduceSub, Nat.reduceMul, Nat.reduceDiv, Nat.reducePow, Nat.reduceLT, Nat.reduceLeDiff, Nat.reduceBEq, Nat.reduceBneDiff, Int.reduceToNat, Int.reduceEq, Int.reduceLE, Int.reduceLT, reduceCtorEq, oGdiskDisk, hq_n0, hr_n0, vptr_0, vptr_1]
           repeat (with_reducible refine And.intro ?_ ?_; next => first | assumption | trivial | omega | decide | (constructor <;> first | assumption | omega) | (simp [Keep.ok, hp_cons_apply, hset_cons, oGdiskDisk, hq_n0, hr_n0, vptr_0, vptr_1]; done))
           refine hk _ _ _ ?_
           refine xghost (D := []) ?_ ?_ ?_ ?_
           ·exact (.cons (Sub.of_eq rfl) (.cons (Sub.of_eq rfl) (.cons (Sub.of_eq rfl) .nil)))
           ·exact HpW.refl
           ·exact (by intro p hp; cases hp)
           ·omega
         ·rw [if_neg hs] at h
          cases h
       ·rw [ite_f hc_1] at h
        refine LW_skipX (sl' := [(7, .lit (.int .i64 v_1.1))]) (S' := (hp [(n0, .box [.lit (.int .i64 v_1.2.power), eO (lI .u8) v_1.2.areas.x0.data, .lit (.int .i64 v_1.2.areas.x0.safe), eO (lI .u8) v_1.2.areas.x1.data, .lit (.int .i64 v_1.2.areas.x1.safe)])] S)) (c' := 1) ?_ ?_
        ·refine xghost (D := []) ?_ ?_ ?_ ?_
         ·exact (.cons (Sub.of_eq rfl) .nil)
         ·exact HpW.refl
         ·exact (by intro p hp; cases hp)
         ·omega
        ·exact hj (v_1.2.areas.x0.data, v_1.2.areas.x1.data) h
      ·try simp (maxSteps := 4000000) only [go_sem, Prod.mk.injEq, reduceIte, Nat.reduceEqDiff, Nat.reduceAdd, Nat.reduceSub, Nat.reduceMul, Nat.reduceDiv, Nat.reducePow, Nat.reduceLT, Nat.reduceLeDiff, Nat.reduceBEq, Nat.reduceBneDiff, Int.reduceToNat, Int.reduceEq, Int.reduceLE, Int.reduceLT, reduceCtorEq, oGdiskDisk, hq_n0, hr_n0]
       repeat (with_reducible refine And.intro ?_ ?_; next => first | assumption | trivial | omega | decide | (constructor <;> first | assumption | omega) | (simp [Keep.ok, hp_cons_apply, hset_cons, oGdiskDisk, hq_n0, hr_n0]; done))
       refine hk _ _ _ ?_
       refine xghost (D := []) ?_ ?_ ?_ ?_
       ·exact (.cons (Sub.of_eq rfl) (.cons (Sub.of_eq rfl) (.cons (Sub.of_eq rfl) (.cons (Sub.of_eq rfl) (.cons (Sub.of_eq rfl) .nil)))))
       ·exact HpW.refl
       ·exact (by intro p hp; cases hp)
       ·omega
    ·try simp (maxSteps := 4000000) only [go_sem, Prod.mk.injEq, reduceIte, Nat.reduceEqDiff, Nat.reduceAdd, Nat.reduceSub, Nat.reduceMul, Nat.reduceDiv, Nat.reducePow, Nat.reduceLT, Nat.reduceLeDiff, Nat.reduceBEq, Nat.reduceBneDiff, Int.reduceToNat, Int.reduceEq, Int.reduceLE, Int.reduceLT, reduceCtorEq, oGdiskDisk, hq_n0, hr_n0]
     repeat (with_reducible refine And.intro ?_ ?_; next => first | assumption | trivial | omega | decide | (constructor <;> first | assumption | omega) | (simp [Keep.ok, hp_cons_apply, hset_cons, oGdiskDisk, hq_n0, hr_n0]; done))
     have hcall := s_disk_Disk_draw_ok (n0 := n0) (hS0 := by simp only [hp_cons_apply, hp_nil_apply, reduceIte, Prod.mk.injEq, Nat.reduceEqDiff, and_true, and_false, true_and, false_and, oGdiskDisk, hq_n0, hr_n0] <;> rfl) (hp [(n0, .box [.lit (.int .i64 dx.power), eO (lI .u8) dx.areas.x0.data, .lit (.int .i64 dx.areas.x0.safe), eO (lI .u8) dx.areas.x1.data, .lit (.int .i64 dx.areas.x1.safe)])] S) _ (h := hv_1)
     refine call1_x hcall rfl ?_ ?_
     ·exact (.cons Sub.refl .nil)
     clear hcall
     rintro _ SS ⟨rfl, hSS⟩ -
     rw [hSS]
     clear hSS
     try simp (maxSteps := 4000000) only [go_sem, Prod.mk.injEq, reduceIte, Nat.reduceEqDiff, Nat.reduceAdd, Nat.reduceSub, Nat.reduceMul, Nat.reduceDiv, Nat.reducePow, Nat.reduceLT, Nat.reduceLeDiff, Nat.reduceBEq, Nat.reduceBneDiff, Int.reduceToNat, Int.reduceEq, Int.reduceLE, Int.reduceLT, reduceCtorEq, oGdiskDisk, hq_n0, hr_n0]
     repeat (with_reducible refine And.intro ?_ ?_; next => first | assumption | trivial | omega | decide | (constructor <;> first | assumption | omega) | (simp [Keep.ok, hp_cons_apply, hset_cons, oGdiskDisk, hq_n0, hr_n0]; done))
     refine hk _ _ _ ?_
     refine xghost (D := []) ?_ ?_ ?_ ?_
     ·exact (.cons (Sub.of_eq rfl) (.cons (Sub.of_eq rfl) (.cons (Sub.of_eq rfl) (.cons (Sub.of_eq rfl) .nil))))
     ·exact HpW.refl
     ·exact (by intro p hp; cases hp)
     ·omega
  ·try simp (maxSteps := 4000000) only [go_sem, Prod.mk.injEq, reduceIte, Nat.reduceEqDiff, Nat.reduceAdd, Nat.reduceSub, Nat.reduceMul, Nat.reduceDiv, Nat.reducePow, Nat.reduceLT, Nat.reduceLeDiff, Nat.reduceBEq, Nat.reduceBneDiff, Int.reduceToNat, Int.reduceEq, Int.reduceLE, Int.reduceLT, reduceCtorEq, oGdiskDisk, hq_n0, hr_n0]
   repeat (with_reducible refine And.intro ?_ ?_; next => first | assumption | trivial | omega | decide | (constructor <;> first | assumption | omega) | (simp [Keep.ok, hp_cons_apply, hset_cons, oGdiskDisk, hq_n0, hr_n0]; done))
   have hcall := s_disk_there_ok (hp [(n0, .box [.lit (.int .i64 dx.power), eO (lI .u8) dx.areas.x0.data, .lit (.int .i64 dx.areas.x0.safe), eO (lI .u8) dx.areas.x1.data, .lit (.int .i64 dx.areas.x1.safe)])] S) ([n]) hv
   refine call1_x hcall rfl ?_ ?_
   ·exact (.cons (Sub.young (L := (lI .i64)) (xs := [n])) .nil)
   clear hcall
   rintro _ SS ⟨rfl, hSS⟩ -
   rw [hSS]
   clear hSS
   try simp (maxSteps := 4000000) only [go_sem, Prod.mk.injEq, reduceIte, Nat.reduceEqDiff, Nat.reduceAdd, Nat.reduceSub, Nat.reduceMul, Nat.reduceDiv, Nat.reducePow, Nat.reduceLT, Nat.reduceLeDiff, Nat.reduceBEq, Nat.reduceBneDiff, Int.reduceToNat, Int.reduceEq, Int.reduceLE, Int.reduceLT, reduceCtorEq, oGdiskDisk, hq_n0, hr_n0]
   repeat (with_reducible refine And.intro ?_ ?_; next => first | assumption | trivial | omega | decide | (constructor <;> first | assumption | omega) | (simp [Keep.ok, hp_cons_apply, hset_cons, oGdiskDisk, hq_n0, hr_n0]; done))
   refine hk _ _ _ ?_
   refine xghost (D := []) ?_ ?_ ?_ ?_
   ·exact (.cons (Sub.of_eq rfl) (.cons (Sub.of_eq rfl) (.cons (Sub.of_eq rfl) (.cons (Sub.of_eq rfl) .nil))))
   ·exact HpW.refl
   ·exact (by intro p hp; cases hp)
   ·omega
 ·try simp (maxSteps := 4000000) only [go_sem, Prod.mk.injEq, reduceIte, Nat.reduceEqDiff, Nat.reduceAdd, Nat.reduceSub, Nat.reduceMul, Nat.reduceDiv, Nat.reducePow, Nat.reduceLT, Nat.reduceLeDiff, Nat.reduceBEq, Nat.reduceBneDiff, Int.reduceToNat, Int.reduceEq, Int.reduceLE, Int.reduceLT, reduceCtorEq, oGdiskDisk, hq_n0, hr_n0]
  repeat (with_reducible refine And.intro ?_ ?_; next => first | assumption | trivial | omega | decide | (constructor <;> first | assumption | omega) | (simp [Keep.ok, hp_cons_apply, hset_cons, oGdiskDisk, hq_n0, hr_n0]; done))
  refine hk _ _ _ ?_
  refine xghost (D := []) ?_ ?_ ?_ ?_
  ·exact (.cons (Sub.of_eq rfl) (.cons (Sub.of_eq rfl) (.cons (Sub.of_eq rfl) .nil)))
  ·exact HpW.refl
  ·exact (by intro p hp; cases hp)
  ·omega
/-! slices.Clone[[]byte,byte] -/
def s_slices_Clone_byte_byte (xs : List Int) : Option (List Int) := gd (xs.length * 1 ≤ 140737488355328 ∧ xs.length < 9223372036854775808) (some xs)
theorem s_slices_Clone_byte_byte_W_ok (S : AHeap) {o : Own} (ho : o.alive S) (xs : List Int) {r : List Int} (h : s_slices_Clone_byte_byte xs = some r) : AC Try.prog n_slices_Clone_byte_byte [eW (lI .u8) o xs] S fun r' S' => r' = .ret (eS (lI .u8) r) ∧ S' = S := by
 obtain ⟨hg, h⟩ := gd_some h
 obtain rfl := Option.some.inj h
 refine AC.slice (fun e => ?_) (fun e a c => ?_) (fun e => ?_)
 ·subst e
  refine AC_of tok mixed fits_slices_Clone_byte_byte fun d hd => ?_
  unfold c_slices_Clone_byte_byte
  show LW _ _ _ _ [(0, .lit (.slice none 0 0))] (hp [] S) 0 _
  refine xseq [(0, .lit (.slice none 0 0))] (hp [] S) 0 ?_ (fun k kp hk => ?_)
  ·refine LW_seq ?_
   refine xseq [(0, .lit (.slice none 0 0)), (4, .lit (.bool true))] (hp [] S) 0 ?_ (fun k kp hk => ?_)
   ·refine xcond true rfl (fun _ => ?_) (fun h0 => by cases h0)
    refine xseq [(2, eS (lI .u8) [])] (hp [] S) 0 ?_ (fun k kp hk => ?_)
    ·refine LW_ret ?_
     show FPost _ _ _ _ _ _ _
     exact ⟨_, hp_less (L := []) (D := []) (by intro p hp; cases hp), rfl, rfl⟩
    ·try simp (maxSteps := 4000000) only [go_sem, Prod.mk.injEq, reduceIte, Nat.reduceEqDiff, Nat.reduceAdd, Nat.reduceSub, Nat.reduceMul, Nat.reduceDiv, Nat.reducePow, Nat.reduceLT, Nat.reduceLeDiff, Nat.reduceBEq, Nat.reduceBneDiff, Int.reduceToNat, Int.reduceEq, Int.reduceLE, Int.reduceLT, reduceCtorEq]
     repeat (with_reducible refine And.intro ?_ ?_; next => first | assumption | trivial | omega | decide | (constructor <;> first | assumption | omega) | (simp [Keep.ok, hp_cons_apply, hset_cons]; done))
     refine hk _ _ _ ?_
     refine xghost (D := []) ?_ ?_ ?_ ?_
     ·repeat (first | exact SlAll.nil | refine SlAll.cons (by first | exact Sub.refl | exact Sub.of_eq rfl | exact Sub.tip | exact Sub.nil | exact Sub.empt | exact Sub.young) ?_)
     ·exact HpW.refl
     ·intro p hp; cases hp
     ·omega
   ·try simp (maxSteps := 4000000) only [go_sem, Prod.mk.injEq, reduceIte, Nat.reduceEqDiff, Nat.reduceAdd, Nat.reduceSub, Nat.reduceMul, Nat.reduceDiv, Nat.reducePow, Nat.reduceLT, Nat.reduceLeDiff, Nat.reduceBEq, Nat.reduceBneDiff, Int.reduceToNat, Int.reduceEq, Int.reduceLE, Int.reduceLT, reduceCtorEq]
    repeat (with_reducible refine And.intro ?_ ?_; next => first | assumption | trivial | omega | decide | (constructor <;> first | assumption | omega) | (simp [Keep.ok, hp_cons_apply, hset_cons]; done))
    refine hk _ _ _ ?_
    refine xghost (D := []) ?_ ?_ ?_ ?_
    ·repeat (first | exact SlAll.nil | refine SlAll.cons (by first | exact Sub.refl | exact Sub.of_eq rfl | exact Sub.tip | exact Sub.nil | exact Sub.empt | exact Sub.young) ?_)
    ·exact HpW.refl
    ·intro p hp; cases hp
    ·omega
  ·try simp (maxSteps := 4000000) only [go_sem, Prod.mk.injEq, reduceIte, Nat.reduceEqDiff, Nat.reduceAdd, Nat.reduceSub, Nat.reduceMul, Nat.reduceDiv, Nat.reducePow, Nat.reduceLT, Nat.reduceLeDiff, Nat.reduceBEq, Nat.reduceBneDiff, Int.reduceToNat, Int.reduceEq, Int.reduceLE, Int.reduceLT, reduceCtorEq]
   repeat (with_reducible refine And.intro ?_ ?_; next => first | assumption | trivial | omega | decide | (constructor <;> first | assumption | omega) | (simp [Keep.ok, hp_cons_apply, hset_cons]; done))
   refine hk _ _ _ ?_
   refine xghost (D := []) ?_ ?_ ?_ ?_
   ·repeat (first | exact SlAll.nil | refine SlAll.cons (by first | exact Sub.refl | exact Sub.of_eq rfl | exact Sub.tip | exact Sub.nil | exact Sub.empt | exact Sub.young) ?_)
   ·exact HpW.refl
   ·intro p hp; cases hp
   ·omega
 ·subst e
  refine AC_of tok mixed fits_slices_Clone_byte_byte fun d hd => ?_
  unfold c_slices_Clone_byte_byte
  show LW _ _ _ _ [(0, .lit (.slice (some a) 0 c))] (hp [] S) 0 _
  refine xseq [(0, .lit (.slice (some a) 0 c))] (hp [] S) 0 ?_ (fun k kp hk => ?_)
  ·refine LW_seq ?_
   refine xseq [(0, .lit (.slice (some a) 0 c)), (4, .lit (.bool false))] (hp [] S) 0 ?_ (fun k kp hk => ?_)
   ·refine xcond false rfl (fun h0 => by cases h0) (fun _ => ?_)
    refine LW_skip ?_
    show LW _ _ _ _ _ _ _ _
    refine xseq [(2, eS (lI .u8) [])] (hp [((d, 0), oT (lI .u8) [])] S) 1 ?_ (fun k kp hk => ?_)
    ·refine LW_ret ?_
     show FPost _ _ _ _ _ _ _
     exact ⟨_, hp_less (L := []) (D := [((d, 0), oT (lI .u8) [])]) (by intro p hp; simp only [List.mem_cons, List.not_mem_nil, or_false] at hp; subst hp; exact hd _ (Nat.le_refl _)), rfl, rfl⟩
    ·try simp (maxSteps := 4000000) only [go_sem, Prod.mk.injEq, reduceIte, Nat.reduceEqDiff, Nat.reduceAdd, Nat.reduceSub, Nat.reduceMul, Nat.reduceDiv, Nat.reducePow, Nat.reduceLT, Nat.reduceLeDiff, Nat.reduceBEq, Nat.reduceBneDiff, Int.reduceToNat, Int.reduceEq, Int.reduceLE, Int.reduceLT, reduceCtorEq]
     repeat (with_reducible refine And.intro ?_ ?_; next => first | assumption | trivial | omega | decide | (constructor <;> first | assumption | omega) | (simp [Keep.ok, hp_cons_apply, hset_cons]; done))
     refine append1_new (L := (lI .u8)) (ys := []) T22 T22 T5 ?_ rfl rfl trivial rfl ?_ ?_
     ·first | exact .inl rfl | exact .inr rfl
     ·simp
     try simp (maxSteps := 4000000) only [go_sem, Prod.mk.injEq, reduceIte, Nat.reduceEqDiff, Nat.reduceAdd, Nat.reduceSub, Nat.reduceMul, Nat.reduceDiv, Nat.reducePow, Nat.reduceLT, Nat.reduceLeDiff, Nat.reduceBEq, Nat.reduceBneDiff, Int.reduceToNat, Int.reduceEq, Int.reduceLE, Int.reduceLT, reduceCtorEq]
     repeat (with_reducible refine And.intro ?_ ?_; next => first | assumption | trivial | omega | decide | (constructor <;> first | assumption | omega) | (simp [Keep.ok, hp_cons_apply, hset_cons]; done))
     refine hk _ _ _ ?_
     refine xghost (D := []) ?_ ?_ ?_ ?_
     ·repeat (first | exact SlAll.nil | refine SlAll.cons (by first | exact Sub.refl | exact Sub.of_eq rfl | exact Sub.tip | exact Sub.nil | exact Sub.empt | exact Sub.young) ?_)
     ·exact HpW.refl
     ·intro p hp; cases hp
     ·omega
   ·try simp (maxSteps := 4000000) only [go_sem, Prod.mk.injEq, reduceIte, Nat.reduceEqDiff, Nat.reduceAdd, Nat.reduceSub, Nat.reduceMul, Nat.reduceDiv, Nat.reducePow, Nat.reduceLT, Nat.reduceLeDiff, Nat.reduceBEq, Nat.reduceBneDiff, Int.reduceToNat, Int.reduceEq, Int.reduceLE, Int.reduceLT, reduceCtorEq]
    repeat (with_reducible refine And.intro ?_ ?_; next => first | assumption | trivial | omega | decide | (constructor <;> first | assumption | omega) | (simp [Keep.ok, hp_cons_apply, hset_cons]; done))
    refine hk _ _ _ ?_
    refine xghost (D := []) ?_ ?_ ?_ ?_
    ·repeat (first | exact SlAll.nil | refine SlAll.cons (by first | exact Sub.refl | exact Sub.of_eq rfl | exact Sub.tip | exact Sub.nil | exact Sub.empt | exact Sub.young) ?_)
    ·exact HpW.refl
    ·intro p hp; cases hp
    ·omega
  ·try simp (maxSteps := 4000000) only [go_sem, Prod.mk.injEq, reduceIte, Nat.reduceEqDiff, Nat.reduceAdd, Nat.reduceSub, Nat.reduceMul, Nat.reduceDiv, Nat.reducePow, Nat.reduceLT, Nat.reduceLeDiff, Nat.reduceBEq, Nat.reduceBneDiff, Int.reduceToNat, Int.reduceEq, Int.reduceLE, Int.reduceLT, reduceCtorEq]
   repeat (with_reducible refine And.intro ?_ ?_; next => first | assumption | trivial | omega | decide | (constructor <;> first | assumption | omega) | (simp [Keep.ok, hp_cons_apply, hset_cons]; done))
   refine hk _ _ _ ?_
   refine xghost (D := []) ?_ ?_ ?_ ?_
   ·repeat (first | exact SlAll.nil | refine SlAll.cons (by first | exact Sub.refl | exact Sub.of_eq rfl | exact Sub.tip | exact Sub.nil | exact Sub.empt | exact Sub.young) ?_)
   ·exact HpW.refl
   ·intro p hp; cases hp
   ·omega
 ·refine AC_of tok mixed fits_slices_Clone_byte_byte fun d hd => ?_
  have hne : flat (lI .u8) xs ≠ [] := flat_ne e
  unfold c_slices_Clone_byte_byte
  show LW _ _ _ _ [(0, eW (lI .u8) o xs)] (hp [] S) 0 _
  refine xseq [(0, eW (lI .u8) o xs)] (hp [] S) 0 ?_ (fun k kp hk => ?_)
  ·refine LW_seq ?_
   refine xseq [(0, eW (lI .u8) o xs), (4, .lit (.bool false))] (hp [] S) 0 ?_ (fun k kp hk => ?_)
   ·refine xcond false rfl (fun h0 => by cases h0) (fun _ => ?_)
    refine LW_skip ?_
    show LW _ _ _ _ _ _ _ _
    refine xseq [(2, eS (lI .u8) xs)] (hp [((d, 0), oT (lI .u8) xs)] S) 1 ?_ (fun k kp hk => ?_)
    ·refine LW_ret ?_
     show FPost _ _ _ _ _ _ _
     exact ⟨_, hp_less (L := []) (D := [((d, 0), oT (lI .u8) xs)]) (by intro p hp; simp only [List.mem_cons, List.not_mem_nil, or_false] at hp; subst hp; exact hd _ (Nat.le_refl _)), rfl, rfl⟩
    ·try simp (maxSteps := 4000000) only [go_sem, Prod.mk.injEq, reduceIte, Nat.reduceEqDiff, Nat.reduceAdd, Nat.reduceSub, Nat.reduceMul, Nat.reduceDiv, Nat.reducePow, Nat.reduceLT, Nat.reduceLeDiff, Nat.reduceBEq, Nat.reduceBneDiff, Int.reduceToNat, Int.reduceEq, Int.reduceLE, Int.reduceLT, reduceCtorEq]
     repeat (with_reducible refine And.intro ?_ ?_; next => first | assumption | trivial | omega | decide | (constructor <;> first | assumption | omega) | (simp [Keep.ok, hp_cons_apply, hset_cons]; done))
     refine append1_new (L := (lI .u8)) (ys := xs) T22 T22 T5 ?_ rfl asrc_eW ⟨ho, rfl⟩ rfl ?_ ?_
     ·first | exact .inl rfl | exact .inr rfl
     ·exact hg
     try simp (maxSteps := 4000000) only [go_sem, Prod.mk.injEq, reduceIte, Nat.reduceEqDiff, Nat.reduceAdd, Nat.reduceSub, Nat.reduceMul, Nat.reduceDiv, Nat.reducePow, Nat.reduceLT, Nat.reduceLeDiff, Nat.reduceBEq, Nat.reduceBneDiff, Int.reduceToNat, Int.reduceEq, Int.reduceLE, Int.reduceLT, reduceCtorEq]
     repeat (with_reducible refine And.intro ?_ ?_; next => first | assumption | trivial | omega | decide | (constructor <;> first | assumption | omega) | (simp [Keep.ok, hp_cons_apply, hset_cons]; done))
     refine hk _ _ _ ?_
     refine xghost (D := []) ?_ ?_ ?_ ?_
     ·repeat (first | exact SlAll.nil | refine SlAll.cons (by first | exact Sub.refl | exact Sub.of_eq rfl | exact Sub.tip | exact Sub.nil | exact Sub.empt | exact Sub.young) ?_)
     ·exact HpW.refl
     ·intro p hp; cases hp
     ·omega
   ·try simp (maxSteps := 4000000) only [go_sem, Prod.mk.injEq, reduceIte, Nat.reduceEqDiff, Nat.reduceAdd, Nat.reduceSub, Nat.reduceMul, Nat.reduceDiv, Nat.reducePow, Nat.reduceLT, Nat.reduceLeDiff, Nat.reduceBEq, Nat.reduceBneDiff, Int.reduceToNat, Int.reduceEq, Int.reduceLE, Int.reduceLT, reduceCtorEq]
    repeat (with_reducible refine And.intro ?_ ?_; next => first | assumption | trivial | omega | decide | (constructor <;> first | assumption | omega) | (simp [Keep.ok, hp_cons_apply, hset_cons]; done))
    refine hk _ _ _ ?_
    refine xghost (D := []) ?_ ?_ ?_ ?_
    ·repeat (first | exact SlAll.nil | refine SlAll.cons (by first | exact Sub.refl | exact Sub.of_eq rfl | exact Sub.tip | exact Sub.nil | exact Sub.empt | exact Sub.young) ?_)
    ·exact HpW.refl
    ·intro p hp; cases hp
    ·omega
  ·try simp (maxSteps := 4000000) only [go_sem, Prod.mk.injEq, reduceIte, Nat.reduceEqDiff, Nat.reduceAdd, Nat.reduceSub, Nat.reduceMul, Nat.reduceDiv, Nat.reducePow, Nat.reduceLT, Nat.reduceLeDiff, Nat.reduceBEq, Nat.reduceBneDiff, Int.reduceToNat, Int.reduceEq, Int.reduceLE, Int.reduceLT, reduceCtorEq]
   repeat (with_reducible refine And.intro ?_ ?_; next => first | assumption | trivial | omega | decide | (constructor <;> first | assumption | omega) | (simp [Keep.ok, hp_cons_apply, hset_cons]; done))
   refine hk _ _ _ ?_
   refine xghost (D := []) ?_ ?_ ?_ ?_
   ·repeat (first | exact SlAll.nil | refine SlAll.cons (by first | exact Sub.refl | exact Sub.of_eq rfl | exact Sub.tip | exact Sub.nil | exact Sub.empt | exact Sub.young) ?_)
   ·exact HpW.refl
   ·intro p hp; cases hp
   ·omega
theorem s_slices_Clone_byte_byte_B_ok (S : AHeap) {o : Own} (ho : o.alive S) (xs : List Int) {r : List Int} (h : s_slices_Clone_byte_byte xs = some r) : AC Try.prog n_slices_Clone_byte_byte [eW (lI .u8) o xs] S fun r' S' => ∃ m : Name, S m = none ∧ r' = .ret (eB (lI .u8) m r) ∧ S' = S.set m (oT (lI .u8) r) := by
 obtain ⟨hg, h⟩ := gd_some h
 obtain rfl := Option.some.inj h
 refine AC.slice (fun e => ?_) (fun e a c => ?_) (fun e => ?_)
 ·subst e
  refine AC_of tok mixed fits_slices_Clone_byte_byte fun d hd => ?_
  unfold c_slices_Clone_byte_byte
  show LW _ _ _ _ [(0, .lit (.slice none 0 0))] (hp [] S) 0 _
  refine xseq [(0, .lit (.slice none 0 0))] (hp [] S) 0 ?_ (fun k kp hk => ?_)
  ·refine LW_seq ?_
   refine xseq [(0, .lit (.slice none 0 0)), (4, .lit (.bool true))] (hp [] S) 0 ?_ (fun k kp hk => ?_)
   ·refine xcond true rfl (fun _ => ?_) (fun h0 => by cases h0)
    refine xseq [(2, .lit (.slice none 0 0))] (hp [] S) 0 ?_ (fun k kp hk => ?_)
    ·refine LW_retX (xnameB (lI .u8) 2 Sub.nil_empt) ?_
     show FPost _ _ _ _ _ _ _
     exact ⟨_, hp_less (L := [((d, 0), oT (lI .u8) [])]) (D := []) (by intro p hp; cases hp), (d, 0), hd _ (Nat.le_refl _), rfl, rfl⟩
    ·try simp (maxSteps := 4000000) only [go_sem, Prod.mk.injEq, reduceIte, Nat.reduceEqDiff, Nat.reduceAdd, Nat.reduceSub, Nat.reduceMul, Nat.reduceDiv, Nat.reducePow, Nat.reduceLT, Nat.reduceLeDiff, Nat.reduceBEq, Nat.reduceBneDiff, Int.reduceToNat, Int.reduceEq, Int.reduceLE, Int.reduceLT, reduceCtorEq]
     repeat (with_reducible refine And.intro ?_ ?_; next => first | assumption | trivial | omega | decide | (constructor <;> first | assumption | omega) | (simp [Keep.ok, hp_cons_apply, hset_cons]; done))
     refine hk _ _ _ ?_
     refine xghost (D := []) ?_ ?_ ?_ ?_
     ·repeat (first | exact SlAll.nil | refine SlAll.cons (by first | exact Sub.refl | exact Sub.of_eq rfl | exact Sub.tip | exact Sub.nil | exact Sub.empt | exact Sub.young) ?_)
     ·exact HpW.refl
     ·intro p hp; cases hp
     ·omega
   ·try simp (maxSteps := 4000000) only [go_sem, Prod.mk.injEq, reduceIte, Nat.reduceEqDiff, Nat.reduceAdd, Nat.reduceSub, Nat.reduceMul, Nat.reduceDiv, Nat.reducePow, Nat.reduceLT, Nat.reduceLeDiff, Nat.reduceBEq, Nat.reduceBneDiff, Int.reduceToNat, Int.reduceEq, Int.reduceLE, Int.reduceLT, reduceCtorEq]
    repeat (with_reducible refine And.intro ?_ ?_; next => first | assumption | trivial | omega | decide | (constructor <;> first | assumption | omega) | (simp [Keep.ok, hp_cons_apply, hset_cons]; done))
    refine hk _ _ _ ?_
    refine xghost (D := []) ?_ ?_ ?_ ?_
    ·repeat (first | exact SlAll.nil | refine SlAll.cons (by first | exact Sub.refl | exact Sub.of_eq rfl | exact Sub.tip | exact Sub.nil | exact Sub.empt | exact Sub.young) ?_)
    ·exact HpW.refl
    ·intro p hp; cases hp
    ·omega
  ·try simp (maxSteps := 4000000) only [go_sem, Prod.mk.injEq, reduceIte, Nat.reduceEqDiff, Nat.reduceAdd, Nat.reduceSub, Nat.reduceMul, Nat.reduceDiv, Nat.reducePow, Nat.reduceLT, Nat.reduceLeDiff, Nat.reduceBEq, Nat.reduceBneDiff, Int.reduceToNat, Int.reduceEq, Int.reduceLE, Int.reduceLT, reduceCtorEq]
   repeat (with_reducible refine And.intro ?_ ?_; next => first | assumption | trivial | omega | decide | (constructor <;> first | assumption | omega) | (simp [Keep.ok, hp_cons_apply, hset_cons]; done))
   refine hk _ _ _ ?_
   refine xghost (D := []) ?_ ?_ ?_ ?_
   ·repeat (first | exact SlAll.nil | refine SlAll.cons (by first | exact Sub.refl | exact Sub.of_eq rfl | exact Sub.tip | exact Sub.nil | exact Sub.empt | exact Sub.young) ?_)
   ·exact HpW.refl
   ·intro p hp; cases hp
   ·omega
 ·subst e
  refine AC_of tok mixed fits_slices_Clone_byte_byte fun d hd => ?_
  unfold c_slices_Clone_byte_byte
  show LW _ _ _ _ [(0, .lit (.slice (some a) 0 c))] (hp [] S) 0 _
  refine xseq [(0, .lit (.slice (some a) 0 c))] (hp [] S) 0 ?_ (fun k kp hk => ?_)
  ·refine LW_seq ?_
   refine xseq [(0, .lit (.slice (some a) 0 c)), (4, .lit (.bool false))] (hp [] S) 0 ?_ (fun k kp hk => ?_)
   ·refine xcond false rfl (fun h0 => by cases h0) (fun _ => ?_)
    refine LW_skip ?_
    show LW _ _ _ _ _ _ _ _
    refine xseq [(2, eB (lI .u8) (d, 0) [])] (hp [((d, 0), oT (lI .u8) [])] S) 1 ?_ (fun k kp hk => ?_)
    ·refine LW_ret ?_
     show FPost _ _ _ _ _ _ _
     exact ⟨_, hp_less (L := [((d, 0), oT (lI .u8) [])]) (D := []) (by intro p hp; cases hp), (d, 0), hd _ (Nat.le_refl _), rfl, rfl⟩
    ·try simp (maxSteps := 4000000) only [go_sem, Prod.mk.injEq, reduceIte, Nat.reduceEqDiff, Nat.reduceAdd, Nat.reduceSub, Nat.reduceMul, Nat.reduceDiv, Nat.reducePow, Nat.reduceLT, Nat.reduceLeDiff, Nat.reduceBEq, Nat.reduceBneDiff, Int.reduceToNat, Int.reduceEq, Int.reduceLE, Int.reduceLT, reduceCtorEq]
     repeat (with_reducible refine And.intro ?_ ?_; next => first | assumption | trivial | omega | decide | (constructor <;> first | assumption | omega) | (simp [Keep.ok, hp_cons_apply, hset_cons]; done))
     refine append1_newB (L := (lI .u8)) (ys := []) T22 T22 T5 ?_ rfl rfl trivial rfl ?_ ?_
     ·first | exact .inl rfl | exact .inr rfl
     ·simp
     try simp (maxSteps := 4000000) only [go_sem, Prod.mk.injEq, reduceIte, Nat.reduceEqDiff, Nat.reduceAdd, Nat.reduceSub, Nat.reduceMul, Nat.reduceDiv, Nat.reducePow, Nat.reduceLT, Nat.reduceLeDiff, Nat.reduceBEq, Nat.reduceBneDiff, Int.reduceToNat, Int.reduceEq, Int.reduceLE, Int.reduceLT, reduceCtorEq]
     repeat (with_reducible refine And.intro ?_ ?_; next => first | assumption | trivial | omega | decide | (constructor <;> first | assumption | omega) | (simp [Keep.ok, hp_cons_apply, hset_cons]; done))
     refine hk _ _ _ ?_
     refine xghost (D := []) ?_ ?_ ?_ ?_
     ·repeat (first | exact SlAll.nil | refine SlAll.cons (by first | exact Sub.refl | exact Sub.of_eq rfl | exact Sub.tip | exact Sub.nil | exact Sub.empt | exact Sub.young) ?_)
     ·exact HpW.refl
     ·intro p hp; cases hp
     ·omega
   ·try simp (maxSteps := 4000000) only [go_sem, Prod.mk.injEq, reduceIte, Nat.reduceEqDiff, Nat.reduceAdd, Nat.reduceSub, Nat.reduceMul, Nat.reduceDiv, Nat.reducePow, Nat.reduceLT, Nat.reduceLeDiff, Nat.reduceBEq, Nat.reduceBneDiff, Int.reduceToNat, Int.reduceEq, Int.reduceLE, Int.reduceLT, reduceCtorEq]
    repeat (with_reducible refine And.intro ?_ ?_; next => first | assumption | trivial | omega | decide | (constructor <;> first | assumption | omega) | (simp [Keep.ok, hp_cons_apply, hset_cons]; done))
    refine hk _ _ _ ?_
    refine xghost (D := []) ?_ ?_ ?_ ?_
    ·repeat (first | exact SlAll.nil | refine SlAll.cons (by first | exact Sub.refl | exact Sub.of_eq rfl | exact Sub.tip | exact Sub.nil | exact Sub.empt | exact Sub.young) ?_)
    ·exact HpW.refl
    ·intro p hp; cases hp
    ·omega
  ·try simp (maxSteps := 4000000) only [go_sem, Prod.mk.injEq, reduceIte, Nat.reduceEqDiff, Nat.reduceAdd, Nat.reduceSub, Nat.reduceMul, Nat.reduceDiv, Nat.reducePow, Nat.reduceLT, Nat.reduceLeDiff, Nat.reduceBEq, Nat.reduceBneDiff, Int.reduceToNat, Int.reduceEq, Int.reduceLE, Int.reduceLT, reduceCtorEq]
   repeat (with_reducible refine And.intro ?_ ?_; next => first | assumption | trivial | omega | decide | (constructor <;> first | assumption | omega) | (simp [Keep.ok, hp_cons_apply, hset_cons]; done))
   refine hk _ _ _ ?_
   refine xghost (D := []) ?_ ?_ ?_ ?_
   ·repeat (first | exact SlAll.nil | refine SlAll.cons (by first | exact Sub.refl | exact Sub.of_eq rfl | exact Sub.tip | exact Sub.nil | exact Sub.empt | exact Sub.young) ?_)
   ·exact HpW.refl
   ·intro p hp; cases hp
   ·omega
 ·refine AC_of tok mixed fits_slices_Clone_byte_byte fun d hd => ?_
  have hne : flat (lI .u8) xs ≠ [] := flat_ne e
  unfold c_slices_Clone_byte_byte
  show LW _ _ _ _ [(0, eW (lI .u8) o xs)] (hp [] S) 0 _
  refine xseq [(0, eW (lI .u8) o xs)] (hp [] S) 0 ?_ (fun k kp hk => ?_)
  ·refine LW_seq ?_
   refine xseq [(0, eW (lI .u8) o xs), (4, .lit (.bool false))] (hp [] S) 0 ?_ (fun k kp hk => ?_)
   ·refine xcond false rfl (fun h0 => by cases h0) (fun _ => ?_)
    refine LW_skip ?_
    show LW _ _ _ _ _ _ _ _
    refine xseq [(2, eB (lI .u8) (d, 0) xs)] (hp [((d, 0), oT (lI .u8) xs)] S) 1 ?_ (fun k kp hk => ?_)
    ·refine LW_ret ?_
     show FPost _ _ _ _ _ _ _
     exact ⟨_, hp_less (L := [((d, 0), oT (lI .u8) xs)]) (D := []) (by intro p hp; cases hp), (d, 0), hd _ (Nat.le_refl _), rfl, rfl⟩
    ·try simp (maxSteps := 4000000) only [go_sem, Prod.mk.injEq, reduceIte, Nat.reduceEqDiff, Nat.reduceAdd, Nat.reduceSub, Nat.reduceMul, Nat.reduceDiv, Nat.reducePow, Nat.reduceLT, Nat.reduceLeDiff, Nat.reduceBEq, Nat.reduceBneDiff, Int.reduceToNat, Int.reduceEq, Int.reduceLE, Int.reduceLT, reduceCtorEq]
     repeat (with_reducible refine And.intro ?_ ?_; next => first | assumption | trivial | omega | decide | (constructor <;> first | assumption | omega) | (simp [Keep.ok, hp_cons_apply, hset_cons]; done))
     refine append1_newB (L := (lI .u8)) (ys := xs) T22 T22 T5 ?_ rfl asrc_eW ⟨ho, rfl⟩ rfl ?_ ?_
     ·first | exact .inl rfl | exact .inr rfl
     ·exact hg
     try simp (maxSteps := 4000000) only [go_sem, Prod.mk.injEq, reduceIte, Nat.reduceEqDiff, Nat.reduceAdd, Nat.reduceSub, Nat.reduceMul, Nat.reduceDiv, Nat.reducePow, Nat.reduceLT, Nat.reduceLeDiff, Nat.reduceBEq, Nat.reduceBneDiff, Int.reduceToNat, Int.reduceEq, Int.reduceLE, Int.reduceLT, reduceCtorEq]
     repeat (with_reducible refine And.intro ?_ ?_; next => first | assumption | trivial | omega | decide | (constructor <;> first | assumption | omega) | (simp [Keep.ok, hp_cons_apply, hset_cons]; done))
     refine hk _ _ _ ?_
     refine xghost (D := []) ?_ ?_ ?_ ?_
     ·repeat (first | exact SlAll.nil | refine SlAll.cons (by first | exact Sub.refl | exact Sub.of_eq rfl | exact Sub.tip | exact Sub.nil | exact Sub.empt | exact Sub.young) ?_)
     ·exact HpW.refl
     ·intro p hp; cases hp
     ·omega
   ·try simp (maxSteps := 4000000) only [go_sem, Prod.mk.injEq, reduceIte, Nat.reduceEqDiff, Nat.reduceAdd, Nat.reduceSub, Nat.reduceMul, Nat.reduceDiv, Nat.reducePow, Nat.reduceLT, Nat.reduceLeDiff, Nat.reduceBEq, Nat.reduceBneDiff, Int.reduceToNat, Int.reduceEq, Int.reduceLE, Int.reduceLT, reduceCtorEq]
    repeat (with_reducible refine And.intro ?_ ?_; next => first | assumption | trivial | omega | decide | (constructor <;> first | assumption | omega) | (simp [Keep.ok, hp_cons_apply, hset_cons]; done))
    refine hk _ _ _ ?_
    refine xghost (D := []) ?_ ?_ ?_ ?_
    ·repeat (first | exact SlAll.nil | refine SlAll.cons (by first | exact Sub.refl | exact Sub.of_eq rfl | exact Sub.tip | exact Sub.nil | exact Sub.empt | exact Sub.young) ?_)
    ·exact HpW.refl
    ·intro p hp; cases hp
    ·omega
  ·try simp (maxSteps := 4000000) only [go_sem, Prod.mk.injEq, reduceIte, Nat.reduceEqDiff, Nat.reduceAdd, Nat.reduceSub, Nat.reduceMul, Nat.reduceDiv, Nat.reducePow, Nat.reduceLT, Nat.reduceLeDiff, Nat.reduceBEq, Nat.reduceBneDiff, Int.reduceToNat, Int.reduceEq, Int.reduceLE, Int.reduceLT, reduceCtorEq]
   repeat (with_reducible refine And.intro ?_ ?_; next => first | assumption | trivial | omega | decide | (constructor <;> first | assumption | omega) | (simp [Keep.ok, hp_cons_apply, hset_cons]; done))
   refine hk _ _ _ ?_
   refine xghost (D := []) ?_ ?_ ?_ ?_
   ·repeat (first | exact SlAll.nil | refine SlAll.cons (by first | exact Sub.refl | exact Sub.of_eq rfl | exact Sub.tip | exact Sub.nil | exact Sub.empt | exact Sub.young) ?_)
   ·exact HpW.refl
   ·intro p hp; cases hp
   ·omega
theorem s_slices_Clone_byte_byte_ok (S : AHeap) (xs : List Int) {r : List Int} (h : s_slices_Clone_byte_byte xs = some r) : AC Try.prog n_slices_Clone_byte_byte [eS (lI .u8) xs] S fun r' S' => r' = .ret (eS (lI .u8) r) ∧ S' = S :=
 s_slices_Clone_byte_byte_W_ok S (o := .perm) trivial xs h
/-! (stanchion/disk.area).left -/
def dleftN (a : Gdiskarea) (keep : Int) : Int :=
 IntKind.i64.wrap (a.safe + (if 0 < (if IntKind.i64.wrap ((a.data.length : Int) - a.safe) < keep then IntKind.i64.wrap ((a.data.length : Int) - a.safe) else keep) then (if IntKind.i64.wrap ((a.data.length : Int) - a.safe) < keep then IntKind.i64.wrap ((a.data.length : Int) - a.safe) else keep) else 0))
def s_disk_area_left (a : Gdiskarea) (keep : Int) : Option Gdiskarea :=
 gd (0 ≤ dleftN a keep ∧ (dleftN a keep).toNat ≤ a.data.length ∧ a.data.length * 1 ≤ 140737488355328) (some ⟨a.data.take (dleftN a keep).toNat, dleftN a keep⟩)
theorem s_disk_area_left_ok (S : AHeap) {o : Own} (ho : o.alive S) (a : Gdiskarea) (keep : Int) {r : Gdiskarea} (h : s_disk_area_left a keep = some r) :
  AC Try.prog n_disk_area_left [.agg [eW (lI .u8) o a.data, .lit (.int .i64 a.safe)], .lit (.int .i64 keep)] S fun r' S' => ∃ m : Name, S m = none ∧ r' = .ret (.agg [eB (lI .u8) m r.data, .lit (.int .i64 r.safe)]) ∧ S' = S.set m (oT (lI .u8) r.data) := by
 obtain ⟨⟨g0, g1, g2⟩, h⟩ := gd_some h
 obtain rfl := Option.some.inj h
 refine AC_of tok mixed fits_disk_area_left fun d hd => ?_
 have hnone : ∀ i, S (d, i) = none := fun i => hd _ (Nat.le_refl _)
 have hv_1 : s_slices_Clone_byte_byte (a.data.take (dleftN a keep).toNat) = some (a.data.take (dleftN a keep).toNat) := by
  unfold s_slices_Clone_byte_byte
  rw [gd, if_pos]
  rw [List.length_take]; omega
 unfold c_disk_area_left
 show LW _ _ _ _ [(0, .agg [eW (lI .u8) o a.data, .lit (.int .i64 a.safe)]), (1, .lit (.int .i64 keep))] (hp [] S) 0 _
 refine xseq [(1, .lit (.int .i64 keep)), (2, .ptr (d, 0) 0), (4, .ptr (d, 1) 0)] (hp [((d, 0), .box [eW (lI .u8) o a.data, .lit (.int .i64 a.safe)]), ((d, 1), .box [.lit (.slice none 0 0), .lit (.int .i64 0)])] S) 2 ?_ (fun k kp hk => ?_)
 ·refine xseq [(2, .ptr (d, 0) 0), (4, .ptr (d, 1) 0), (5, .lit (.int .i64 (dleftN a keep)))] (hp [((d, 0), .box [eW (lI .u8) o a.data, .lit (.int .i64 a.safe)]), ((d, 1), .box [.lit (.slice none 0 0), .lit (.int .i64 0)])] S) 2 ?_ (fun k kp hk => ?_)
  ·refine xseq [(4, .ptr (d, 1) 0)] (hp [((d, 2), oT (lI .u8) (a.data.take (dleftN a keep).toNat)), ((d, 1), .box [eB (lI .u8) (d, 2) (a.data.take (dleftN a keep).toNat), .lit (.int .i64 (dleftN a keep))])] S) 3 ?_ (fun k kp hk => ?_)
   ·refine LW_ret ?_
    show FPost _ _ _ _ _ _ _
    simp only [FPost, ares, one1, go_sem, Prod.mk.injEq, reduceIte, Nat.reduceEqDiff, Nat.reduceAdd, Nat.reduceSub, Nat.reduceMul, Nat.reduceDiv, Nat.reducePow, Nat.reduceLT, Nat.reduceLeDiff, Nat.reduceBEq, Nat.reduceBneDiff, Int.reduceToNat, Int.reduceEq, Int.reduceLE, Int.reduceLT, reduceCtorEq]
    repeat (with_reducible refine And.intro ?_ ?_; next => first | trivial | assumption)
    exact ⟨_, hp_less (L := [((d, 2), oT (lI .u8) (a.data.take (dleftN a keep).toNat))]) (D := [((d, 1), .box [eB (lI .u8) (d, 2) (a.data.take (dleftN a keep).toNat), .lit (.int .i64 (dleftN a keep))])]) (by intro q hq; simp only [List.mem_cons, List.not_mem_nil, or_false] at hq; subst hq; exact hnone _), (d, 2), hnone _, rfl, rfl⟩
   ·try simp (maxSteps := 4000000) only [go_sem, Prod.mk.injEq, reduceIte, Nat.reduceEqDiff, Nat.reduceAdd, Nat.reduceSub, Nat.reduceMul, Nat.reduceDiv, Nat.reducePow, Nat.reduceLT, Nat.reduceLeDiff, Nat.reduceBEq, Nat.reduceBneDiff, Int.reduceToNat, Int.reduceEq, Int.reduceLE, Int.reduceLT, reduceCtorEq]
    repeat (with_reducible refine And.intro ?_ ?_; next => first | assumption | trivial | omega | decide | (constructor <;> first | assumption | omega) | (simp [Keep.ok, hp_cons_apply, hset_cons]; done))
    have hcall := s_slices_Clone_byte_byte_B_ok (hp [((d, 0), .box [eW (lI .u8) o a.data, .lit (.int .i64 a.safe)]), ((d, 1), .box [.lit (.slice none 0 0), .lit (.int .i64 0)])] S) (o := (o.sub (Int.toNat 0 * (lI .u8).sz) ((dleftN a keep).toNat * (lI .u8).sz) (flat (lI .u8) a.data).length)) (alive_sub (alive_hp ho (by intro q hq; simp only [List.mem_cons, List.not_mem_nil, or_false] at hq; rcases hq with rfl | rfl <;> exact hnone _))) _ hv_1
    refine call1_buf hcall HasB.self rfl ?_ ?_
    ·exact (.cons Sub.refl .nil)
    clear hcall
    try simp (maxSteps := 4000000) only [go_sem, Prod.mk.injEq, reduceIte, Nat.reduceEqDiff, Nat.reduceAdd, Nat.reduceSub, Nat.reduceMul, Nat.reduceDiv, Nat.reducePow, Nat.reduceLT, Nat.reduceLeDiff, Nat.reduceBEq, Nat.reduceBneDiff, Int.reduceToNat, Int.reduceEq, Int.reduceLE, Int.reduceLT, reduceCtorEq]
    repeat (with_reducible refine And.intro ?_ ?_; next => first | assumption | trivial | omega | decide | (constructor <;> first | assumption | omega) | (simp [Keep.ok, hp_cons_apply, hset_cons]; done))
    refine hk _ _ _ ?_
    refine Ghost.trans (Ghost.perm (hp_last (by intro q hq; simp only [List.mem_cons, List.not_mem_nil, or_false] at hq; rcases hq with rfl | rfl <;> simp))) ?_
    refine Ghost.trans (Ghost.perm (hp_last (by intro q hq; change q ∈ [_, _] at hq; simp only [List.mem_cons, List.not_mem_nil, or_false] at hq; rcases hq with rfl | rfl <;> simp))) ?_
    refine Ghost.trans (Ghost.perm (hp_pre (hp_last (by intro q hq; change q ∈ [_] at hq; simp only [List.mem_cons, List.not_mem_nil, or_false] at hq; subst hq; simp)))) ?_
    refine xghost (D := [((d, 0), .box [eW (lI .u8) o a.data, .lit (.int .i64 a.safe)])]) ?_ ?_ ?_ ?_
    ·exact (.cons (Sub.of_eq rfl) .nil)
    ·exact HpW.refl
    ·intro q hq; simp only [List.mem_cons, List.not_mem_nil, or_false] at hq; subst hq; exact hnone _
    ·omega
  ·try simp (maxSteps := 4000000) only [go_sem, Prod.mk.injEq, reduceIte, Nat.reduceEqDiff, Nat.reduceAdd, Nat.reduceSub, Nat.reduceMul, Nat.reduceDiv, Nat.reducePow, Nat.reduceLT, Nat.reduceLeDiff, Nat.reduceBEq, Nat.reduceBneDiff, Int.reduceToNat, Int.reduceEq, Int.reduceLE, Int.reduceLT, reduceCtorEq]
   repeat (with_reducible refine And.intro ?_ ?_; next => first | assumption | trivial | omega | decide | (constructor <;> first | assumption | omega) | (simp [Keep.ok, hp_cons_apply, hset_cons]; done))
   refine hk _ _ _ ?_
   refine xghost (D := []) ?_ ?_ ?_ ?_
   ·repeat (first | exact SlAll.nil | refine SlAll.cons (by first | exact Sub.refl | exact Sub.of_eq rfl | exact Sub.tip | exact Sub.nil | exact Sub.empt | exact Sub.young) ?_)
   ·exact HpW.refl
   ·intro p hp; cases hp
   ·omega
 ·try simp (maxSteps := 4000000) only [go_sem, Prod.mk.injEq, reduceIte, Nat.reduceEqDiff, Nat.reduceAdd, Nat.reduceSub, Nat.reduceMul, Nat.reduceDiv, Nat.reducePow, Nat.reduceLT, Nat.reduceLeDiff, Nat.reduceBEq, Nat.reduceBneDiff, Int.reduceToNat, Int.reduceEq, Int.reduceLE, Int.reduceLT, reduceCtorEq]
  repeat (with_reducible refine And.intro ?_ ?_; next => first | assumption | trivial | omega | decide | (constructor <;> first | assumption | omega) | (simp [Keep.ok, hp_cons_apply, hset_cons]; done))
  refine hk _ _ _ ?_
  refine xghost (D := []) ?_ ?_ ?_ ?_
  ·repeat (first | exact SlAll.nil | refine SlAll.cons (by first | exact Sub.refl | exact Sub.of_eq rfl | exact Sub.tip | exact Sub.nil | exact Sub.empt | exact Sub.young) ?_)
  ·exact HpW.refl
  ·intro p hp; cases hp
  ·omega
/-! (*stanchion/disk.Disk).Crash -/
def s_disk_Disk_Crash_j1 (t17_1 : Int) (m_1 : List Int) (m_2 : Int) (m_3 : List Int) (m_4 : Int) : Option ((Int × List Int × Int × List Int × Int) ⊕ GdiskDisk) :=
 some (.inl ((IntKind.i64.wrap (t17_1 + 1)), m_1, m_2, m_3, m_4))
def s_disk_Disk_Crash_j2 (dx : GdiskDisk) (m : List Int) (m_1 : Int) (keep : Int) : Option ((Int × List Int × Int × List Int × Int) ⊕ GdiskDisk) :=
 bd (s_disk_area_left (Gdiskarea.mk dx.areas.x1.data dx.areas.x1.safe) keep) fun (v_1 : Gdiskarea) => s_disk_Disk_Crash_j1  1 m m_1 v_1.data v_1.safe
def s_disk_Disk_Crash_j3 (dx : GdiskDisk) (m_2 : List Int) (m_3 : Int) (keep_1 : Int) : Option ((Int × List Int × Int × List Int × Int) ⊕ GdiskDisk) :=
 bd (s_disk_area_left (Gdiskarea.mk dx.areas.x0.data dx.areas.x0.safe) keep_1) fun (v_2 : Gdiskarea) => s_disk_Disk_Crash_j1  0 v_2.data v_2.safe m_2 m_3
def s_disk_Disk_Crash_b1 (dx : GdiskDisk) (keeps : List Int) (power : Int) (v : GdiskDisk) : (Int × List Int × Int × List Int × Int) → Option ((Int × List Int × Int × List Int × Int) ⊕ GdiskDisk)
 | (t17, m, m_1, m_2, m_3) => if (decide (t17 < 2)) = true then if t17 = 0 then if (decide (0 < (keeps.length : Int))) = true then gd ((0 ≤ 0 ∧ Int.toNat 0 < keeps.length)) (s_disk_Disk_Crash_j3 dx m_2 m_3 (keeps.getD (Int.toNat 0) 0)) else s_disk_Disk_Crash_j3 dx m_2 m_3 0 else if t17 = 1 then if (decide (1 < (keeps.length : Int))) = true then gd ((0 ≤ 1 ∧ Int.toNat 1 < keeps.length)) (s_disk_Disk_Crash_j2 dx m m_1 (keeps.getD (Int.toNat 1) 0)) else s_disk_Disk_Crash_j2 dx m m_1 0 else none else mr (some (GdiskDisk.mk v.power (Ar2.mk (Gdiskarea.mk m m_1) (Gdiskarea.mk m_2 m_3))))
def s_disk_Disk_Crash (dx : GdiskDisk) (keeps : List Int) (power : Int) : Option GdiskDisk :=
 bd (s_disk_New power) fun (v : GdiskDisk) => loop (s_disk_Disk_Crash_b1 dx keeps power v) (0, v.areas.x0.data, v.areas.x0.safe, v.areas.x1.data, v.areas.x1.safe)
theorem s_disk_Disk_Crash_ok (S : AHeap) {n0 : Name} (dx : GdiskDisk) (keeps : List Int) (power : Int) {r : GdiskDisk} (hS0 : S n0 = some (oGdiskDisk dx)) (h : s_disk_Disk_Crash dx keeps power = some r) :
  AC Try.prog n_disk_Disk_Crash [.ptr n0 0, eS (lI .i64) keeps, .lit (.int .i64 power)] S fun r' S' => ∃ m : Name, S m = none ∧ r' = .ret (.ptr m 0) ∧ S' = S.set m (oGdiskDisk r) := by
 refine AC_of tok mixed fits_disk_Disk_Crash fun d hd => ?_
 unfold c_disk_Disk_Crash
 show LW _ _ _ _ [(0, .ptr n0 0), (1, eS (lI .i64) keeps), (2, .lit (.int .i64 power))] S 0 _
 refine LW_heap (hp_in hS0) ?_
 have hl_n0 : n0.1 < d := lt_of_hd hd hS0
 have hq_n0 : ∀ k, (n0 = (d, k)) = False := fun k => ne_deep hl_n0
 have hr_n0 : ∀ k, ((d, k) = n0) = False := fun k => ne_deep' hl_n0
 show LW _ _ _ _ [(0, .ptr n0 0), (1, eS (lI .i64) keeps), (2, .lit (.int .i64 power))] (hp [(n0, .box [.lit (.int .i64 dx.power), eO (lI .u8) dx.areas.x0.data, .lit (.int .i64 dx.areas.x0.safe), eO (lI .u8) dx.areas.x1.data, .lit (.int .i64 dx.areas.x1.safe)])] S) 0 _
 rw [s_disk_Disk_Crash] at h
 refine xseq [(0, .ptr n0 0), (1, eS (lI .i64) keeps), (2, .lit (.int .i64 power))] (hp [(n0, .box [.lit (.int .i64 dx.power), eO (lI .u8) dx.areas.x0.data, .lit (.int .i64 dx.areas.x0.safe), eO (lI .u8) dx.areas.x1.data, .lit (.int .i64 dx.areas.x1.safe)])] S) 0 ?_ (fun k kp hk => ?_)
 ·obtain ⟨v, hv, h⟩ := bd_some h
  refine xseq [(0, .ptr n0 0), (1, eS (lI .i64) keeps), (7, .ptr (d, 0) 0)] (hp [(n0, .box [.lit (.int .i64 dx.power), eO (lI .u8) dx.areas.x0.data, .lit (.int .i64 dx.areas.x0.safe), eO (lI .u8) dx.areas.x1.data, .lit (.int .i64 dx.areas.x1.safe)]), ((d, 0), .box [.lit (.int .i64 v.power), eO (lI .u8) v.areas.x0.data, .lit (.int .i64 v.areas.x0.safe), eO (lI .u8) v.areas.x1.data, .lit (.int .i64 v.areas.x1.safe)])] S) 1 ?_ (fun k kp hk => ?_)
  ·refine LW_seq ?_
   refine LW_gh (Ghost.openX (L := (lI .u8)) (xs := dx.areas.x0.data) (n := n0) (i := 1) (cs := [.lit (.int .i64 dx.power), eO (lI .u8) dx.areas.x0.data, .lit (.int .i64 dx.areas.x0.safe), eO (lI .u8) dx.areas.x1.data, .lit (.int .i64 dx.areas.x1.safe)]) (A' := [(n0, .box [.lit (.int .i64 dx.power), eB (lI .u8) (d, 1) dx.areas.x0.data, .lit (.int .i64 dx.areas.x0.safe), eO (lI .u8) dx.areas.x1.data, .lit (.int .i64 dx.areas.x1.safe)]), ((d, 0), .box [.lit (.int .i64 v.power), eO (lI .u8) v.areas.x0.data, .lit (.int .i64 v.areas.x0.safe), eO (lI .u8) v.areas.x1.data, .lit (.int .i64 v.areas.x1.safe)]), ((d, 1), oT (lI .u8) dx.areas.x0.data)]) (by simp only [hp_cons_apply, hp_nil_apply, reduceIte, Prod.mk.injEq, Nat.reduceEqDiff, and_true, and_false, true_and, false_and, oGdiskDisk, hq_n0, hr_n0] <;> rfl) rfl (by simp only [hset_cons, hset_nil, hrem_cons, hrem_nil, List.set_cons_zero, List.set_cons_succ, reduceIte, Prod.mk.injEq, Nat.reduceEqDiff, and_true, and_false, true_and, false_and, oGdiskDisk, hq_n0, hr_n0])) ?_
   refine LW_gh (Ghost.openX (L := (lI .u8)) (xs := dx.areas.x1.data) (n := n0) (i := 3) (cs := [.lit (.int .i64 dx.power), eB (lI .u8) (d, 1) dx.areas.x0.data, .lit (.int .i64 dx.areas.x0.safe), eO (lI .u8) dx.areas.x1.data, .lit (.int .i64 dx.areas.x1.safe)]) (A' := [(n0, .box [.lit (.int .i64 dx.power), eB (lI .u8) (d, 1) dx.areas.x0.data, .lit (.int .i64 dx.areas.x0.safe), eB (lI .u8) (d, 2) dx.areas.x1.data, .lit (.int .i64 dx.areas.x1.safe)]), ((d, 0), .box [.lit (.int .i64 v.power), eO (lI .u8) v.areas.x0.data, .lit (.int .i64 v.areas.x0.safe), eO (lI .u8) v.areas.x1.data, .lit (.int .i64 v.areas.x1.safe)]), ((d, 1), oT (lI .u8) dx.areas.x0.data), ((d, 2), oT (lI .u8) dx.areas.x1.data)]) (by simp only [hp_cons_apply, hp_nil_apply, reduceIte, Prod.mk.injEq, Nat.reduceEqDiff, and_true, and_false, true_and, false_and, oGdiskDisk, hq_n0, hr_n0] <;> rfl) rfl (by simp only [hset_cons, hset_nil, hrem_cons, hrem_nil, List.set_cons_zero, List.set_cons_succ, reduceIte, Prod.mk.injEq, Nat.reduceEqDiff, and_true, and_false, true_and, false_and, oGdiskDisk, hq_n0, hr_n0])) ?_
   refine xseq [(1, eS (lI .i64) keeps), (7, .ptr (d, 0) 0), (16, .agg [eB (lI .u8) (d, 1) dx.areas.x0.data, .lit (.int .i64 dx.areas.x0.safe), eB (lI .u8) (d, 2) dx.areas.x1.data, .lit (.int .i64 dx.areas.x1.safe)]), (17, .lit (.int .i64 0))] (hp [(n0, .box [.lit (.int .i64 dx.power), eB (lI .u8) (d, 1) dx.areas.x0.data, .lit (.int .i64 dx.areas.x0.safe), eB (lI .u8) (d, 2) dx.areas.x1.data, .lit (.int .i64 dx.areas.x1.safe)]), ((d, 0), .box [.lit (.int .i64 v.power), eO (lI .u8) v.areas.x0.data, .lit (.int .i64 v.areas.x0.safe), eO (lI .u8) v.areas.x1.data, .lit (.int .i64 v.areas.x1.safe)]), ((d, 1), oT (lI .u8) dx.areas.x0.data), ((d, 2), oT (lI .u8) dx.areas.x1.data)] S) 3 ?_ (fun k kp hk => ?_)
   ·refine LW_block ?_
    refine LW_loopX (c := 3) (σ := Int × List Int × Int × List Int × Int) (s := (0, v.areas.x0.data, v.areas.x0.safe, v.areas.x1.data, v.areas.x1.safe)) (fun zz => [(1, eS (lI .i64) keeps), (7, .ptr (d, 0) 0), (16, .agg [eB (lI .u8) (d, 1) dx.areas.x0.data, .lit (.int .i64 dx.areas.x0.safe), eB (lI .u8) (d, 2) dx.areas.x1.data, .lit (.int .i64 dx.areas.x1.safe)]), (17, .lit (.int .i64 zz.1))]) (fun zz => (hp [(n0, .box [.lit (.int .i64 dx.power), eB (lI .u8) (d, 1) dx.areas.x0.data, .lit (.int .i64 dx.areas.x0.safe), eB (lI .u8) (d, 2) dx.areas.x1.data, .lit (.int .i64 dx.areas.x1.safe)]), ((d, 0), .box [.lit (.int .i64 v.power), eO (lI .u8) zz.2.1, .lit (.int .i64 zz.2.2.1), eO (lI .u8) zz.2.2.2.1, .lit (.int .i64 zz.2.2.2.2)]), ((d, 1), oT (lI .u8) dx.areas.x0.data), ((d, 2), oT (lI .u8) dx.areas.x1.data)] S)) h ?_ ?_
    ·clear h
     rintro ⟨t17, m, m_1, m_2, m_3⟩ x1 d1 hd1 hf1 h hx1
     show LW _ _ _ _ [(1, eS (lI .i64) keeps), (7, .ptr (d, 0) 0), (16, .agg [eB (lI .u8) (d, 1) dx.areas.x0.data, .lit (.int .i64 dx.areas.x0.safe), eB (lI .u8) (d, 2) dx.areas.x1.data, .lit (.int .i64 dx.areas.x1.safe)]), (17, .lit (.int .i64 t17))] (hp [(n0, .box [.lit (.int .i64 dx.power), eB (lI .u8) (d, 1) dx.areas.x0.data, .lit (.int .i64 dx.areas.x0.safe), eB (lI .u8) (d, 2) dx.areas.x1.data, .lit (.int .i64 dx.areas.x1.safe)]), ((d, 0), .box [.lit (.int .i64 v.power), eO (lI .u8) m, .lit (.int .i64 m_1), eO (lI .u8) m_2, .lit (.int .i64 m_3)]), ((d, 1), oT (lI .u8) dx.areas.x0.data), ((d, 2), oT (lI .u8) dx.areas.x1.data)] S) 0 _
     have hn1d : (d = d1) = False := by simp; omega
     have hm1d : (d1 = d) = False := by simp; omega
     have hl1_n0 : n0.1 < d1 := by omega
     have hu1n0 : ∀ k, (n0 = (d1, k)) = False := fun k => ne_deep hl1_n0
     have hw1n0 : ∀ k, ((d1, k) = n0) = False := fun k => ne_deep' hl1_n0
     rw [s_disk_Disk_Crash_b1] at h
     refine xseq [(1, eS (lI .i64) keeps), (7, .ptr (d, 0) 0), (16, .agg [eB (lI .u8) (d, 1) dx.areas.x0.data, .lit (.int .i64 dx.areas.x0.safe), eB (lI .u8) (d, 2) dx.areas.x1.data, .lit (.int .i64 dx.areas.x1.safe)]), (17, .lit (.int .i64 t17)), (18, .lit (.bool (decide (t17 < 2))))] (hp [(n0, .box [.lit (.int .i64 dx.power), eB (lI .u8) (d, 1) dx.areas.x0.data, .lit (.int .i64 dx.areas.x0.safe), eB (lI .u8) (d, 2) dx.areas.x1.data, .lit (.int .i64 dx.areas.x1.safe)]), ((d, 0), .box [.lit (.int .i64 v.power), eO (lI .u8) m, .lit (.int .i64 m_1), eO (lI .u8) m_2, .lit (.int .i64 m_3)]), ((d, 1), oT (lI .u8) dx.areas.x0.data), ((d, 2), oT (lI .u8) dx.areas.x1.data)] S) 0 ?_ (fun k kp hk => ?_)
     ·refine LW_seq ?_
      refine xcond (decide (t17 < 2)) rfl (fun hc => ?_) (fun hc => ?_)
      ·rw [ite_t hc] at h
       refine LW_skip ?_
       show LW _ _ _ _ _ _ _ _
       refine xjoin (J := Int × List Int × Int × List Int × Int) (fun jj => [(1, eS (lI .i64) keeps), (7, .ptr (d, 0) 0), (16, .agg [eB (lI .u8) (d, 1) dx.areas.x0.data, .lit (.int .i64 dx.areas.x0.safe), eB (lI .u8) (d, 2) dx.areas.x1.data, .lit (.int .i64 dx.areas.x1.safe)]), (17, .lit (.int .i64 jj.1))]) (fun jj => (hp [(n0, .box [.lit (.int .i64 dx.power), eB (lI .u8) (d, 1) dx.areas.x0.data, .lit (.int .i64 dx.areas.x0.safe), eB (lI .u8) (d, 2) dx.areas.x1.data, .lit (.int .i64 dx.areas.x1.safe)]), ((d, 0), .box [.lit (.int .i64 v.power), eO (lI .u8) jj.2.1, .lit (.int .i64 jj.2.2.1), eO (lI .u8) jj.2.2.2.1, .lit (.int .i64 jj.2.2.2.2)]), ((d, 1), oT (lI .u8) dx.areas.x0.data), ((d, 2), oT (lI .u8) dx.areas.x1.data)] S)) 2 (fun jj => s_disk_Disk_Crash_j1  jj.1 jj.2.1 jj.2.2.1 jj.2.2.2.1 jj.2.2.2.2 = some x1) ?_ (fun hj_2 => ?_)
       ·rintro ⟨t17_1, m_1, m_2, m_3, m_4⟩ h
        show LW _ _ _ _ [(1, eS (lI .i64) keeps), (7, .ptr (d, 0) 0), (16, .agg [eB (lI .u8) (d, 1) dx.areas.x0.data, .lit (.int .i64 dx.areas.x0.safe), eB (lI .u8) (d, 2) dx.areas.x1.data, .lit (.int .i64 dx.areas.x1.safe)]), (17, .lit (.int .i64 t17_1))] (hp [(n0, .box [.lit (.int .i64 dx.power), eB (lI .u8) (d, 1) dx.areas.x0.data, .lit (.int .i64 dx.areas.x0.safe), eB (lI .u8) (d, 2) dx.areas.x1.data, .lit (.int .i64 dx.areas.x1.safe)]), ((d, 0), .box [.lit (.int .i64 v.power), eO (lI .u8) m_1, .lit (.int .i64 m_2), eO (lI .u8) m_3, .lit (.int .i64 m_4)]), ((d, 1), oT (lI .u8) dx.areas.x0.data), ((d, 2), oT (lI .u8) dx.areas.x1.data)] S) 2 _
        replace h : s_disk_Disk_Crash_j1  t17_1 m_1 m_2 m_3 m_4 = some x1 := h
        rw [s_disk_Disk_Crash_j1] at h
        refine xreg [(1, eS (lI .i64) keeps), (7, .ptr (d, 0) 0), (16, .agg [eB (lI .u8) (d, 1) dx.areas.x0.data, .lit (.int .i64 dx.areas.x0.safe), eB (lI .u8) (d, 2) dx.areas.x1.data, .lit (.int .i64 dx.areas.x1.safe)]), (17, .lit (.int .i64 (IntKind.i64.wrap (t17_1 + 1))))] (hp [(n0, .box [.lit (.int .i64 dx.power), eB (lI .u8) (d, 1) dx.areas.x0.data, .lit (.int .i64 dx.areas.x0.safe), eB (lI .u8) (d, 2) dx.areas.x1.data, .lit (.int .i64 dx.areas.x1.safe)]), ((d, 0), .box [.lit (.int .i64 v.power), eO (lI .u8) m_1, .lit (.int .i64 m_2), eO (lI .u8) m_3, .lit (.int .i64 m_4)]), ((d, 1), oT (lI .u8) dx.areas.x0.data), ((d, 2), oT (lI .u8) dx.areas.x1.data)] S) 2 ?_ (fun k kp hk => ?_)
        ·cases h
         exact ⟨rfl, Less.refl _⟩
        ·try simp (maxSteps := 4000000) only [go_sem, Prod.mk.injEq, reduceIte, Nat.reduceEqDiff, Nat.reduceAdd, Nat.reduceSub, Nat.reduceMul, Nat.reduceDiv, Nat.reducePow, Nat.reduceLT, Nat.reduceLeDiff, Nat.reduceBEq, Nat.reduceBneDiff, Int.reduceToNat, Int.reduceEq, Int.reduceLE, Int.reduceLT, reduceCtorEq, oGdiskDisk, hq_n0, hr_n0, hn1d, hm1d, hu1n0, hw1n0]
         repeat (with_reducible refine And.intro ?_ ?_; next => first | assumption | trivial | omega | decide | (constructor <;> first | assumption | omega) | (simp [Keep.ok, hp_cons_apply, hset_cons, oGdiskDisk, hq_n0, hr_n0, hn1d, hm1d, hu1n0, hw1n0]; done))
         refine hk _ _ _ ?_
         refine xghost (D := []) ?_ ?_ ?_ ?_
         ·exact (.cons (Sub.of_eq rfl) (.cons (Sub.of_eq rfl) (.cons (Sub.of_eq rfl) (.cons (Sub.of_eq rfl) .nil))))
         ·exact HpW.refl
         ·exact (by intro p hp; cases hp)
         ·omega
       ·refine LW_block ?_
        by_cases hs_1 : t17 = 0
        ·subst hs_1
         rw [if_pos rfl] at h
         refine xseq [(1, eS (lI .i64) keeps), (7, .ptr (d, 0) 0), (8, .lit (.int .i64 0)), (9, .ptr (d1, 0) 0), (16, .agg [eB (lI .u8) (d, 1) dx.areas.x0.data, .lit (.int .i64 dx.areas.x0.safe), eB (lI .u8) (d, 2) dx.areas.x1.data, .lit (.int .i64 dx.areas.x1.safe)]), (17, .lit (.int .i64 0))] (hp [(n0, .box [.lit (.int .i64 dx.power), eB (lI .u8) (d, 1) dx.areas.x0.data, .lit (.int .i64 dx.areas.x0.safe), eB (lI .u8) (d, 2) dx.areas.x1.data, .lit (.int .i64 dx.areas.x1.safe)]), ((d, 0), .box [.lit (.int .i64 v.power), eO (lI .u8) m, .lit (.int .i64 m_1), eO (lI .u8) m_2, .lit (.int .i64 m_3)]), ((d, 1), oT (lI .u8) dx.areas.x0.data), ((d, 2), oT (lI .u8) dx.areas.x1.data), ((d1, 0), .box [eB (lI .u8) (d, 1) dx.areas.x0.data, .lit (.int .i64 dx.areas.x0.safe)])] S) 1 ?_ (fun k kp hk => ?_)
         ·refine xseq [(1, eS (lI .i64) keeps), (7, .ptr (d, 0) 0), (8, .lit (.int .i64 0)), (9, .ptr (d1, 0) 0), (10, .lit (.int .i64 0)), (16, .agg [eB (lI .u8) (d, 1) dx.areas.x0.data, .lit (.int .i64 dx.areas.x0.safe), eB (lI .u8) (d, 2) dx.areas.x1.data, .lit (.int .i64 dx.areas.x1.safe)]), (17, .lit (.int .i64 0))] (hp [(n0, .box [.lit (.int .i64 dx.power), eB (lI .u8) (d, 1) dx.areas.x0.data, .lit (.int .i64 dx.areas.x0.safe), eB (lI .u8) (d, 2) dx.areas.x1.data, .lit (.int .i64 dx.areas.x1.safe)]), ((d, 0), .box [.lit (.int .i64 v.power), eO (lI .u8) m, .lit (.int .i64 m_1), eO (lI .u8) m_2, .lit (.int .i64 m_3)]), ((d, 1), oT (lI .u8) dx.areas.x0.data), ((d, 2), oT (lI .u8) dx.areas.x1.data), ((d1, 0), .box [eB (lI .u8) (d, 1) dx.areas.x0.data, .lit (.int .i64 dx.areas.x0.safe)])] S) 1 ?_ (fun k kp hk => ?_)
          ·refine xjoin (J := Int) (fun jj => [(1, eS (lI .i64) keeps), (7, .ptr (d, 0) 0), (8, .lit (.int .i64 0)), (9, .ptr (d1, 0) 0), (10, .lit (.int .i64 jj)), (16, .agg [eB (lI .u8) (d, 1) dx.areas.x0.data, .lit (.int .i64 dx.areas.x0.safe), eB (lI .u8) (d, 2) dx.areas.x1.data, .lit (.int .i64 dx.areas.x1.safe)]), (17, .lit (.int .i64 0))]) (fun jj => (hp [(n0, .box [.lit (.int .i64 dx.power), eB (lI .u8) (d, 1) dx.areas.x0.data, .lit (.int .i64 dx.areas.x0.safe), eB (lI .u8) (d, 2) dx.areas.x1.data, .lit (.int .i64 dx.areas.x1.safe)]), ((d, 0), .box [.lit (.int .i64 v.power), eO (lI .u8) m, .lit (.int .i64 m_1), eO (lI .u8) m_2, .lit (.int .i64 m_3)]), ((d, 1), oT (lI .u8) dx.areas.x0.data), ((d, 2), oT (lI .u8) dx.areas.x1.data), ((d1, 0), .box [eB (lI .u8) (d, 1) dx.areas.x0.data, .lit (.int .i64 dx.areas.x0.safe)])] S)) 1 (fun jj => s_disk_Disk_Crash_j3 dx m_2 m_3 jj = some x1) ?_ (fun hj_1 => ?_)
           ·rintro keep_1 h
            show LW _ _ _ _ [(1, eS (lI .i64) keeps), (7, .ptr (d, 0) 0), (8, .lit (.int .i64 0)), (9, .ptr (d1, 0) 0), (10, .lit (.int .i64 keep_1)), (16, .agg [eB (lI .u8) (d, 1) dx.areas.x0.data, .lit (.int .i64 dx.areas.x0.safe), eB (lI .u8) (d, 2) dx.areas.x1.data, .lit (.int .i64 dx.areas.x1.safe)]), (17, .lit (.int .i64 0))] (hp [(n0, .box [.lit (.int .i64 dx.power), eB (lI .u8) (d, 1) dx.areas.x0.data, .lit (.int .i64 dx.areas.x0.safe), eB (lI .u8) (d, 2) dx.areas.x1.data, .lit (.int .i64 dx.areas.x1.safe)]), ((d, 0), .box [.lit (.int .i64 v.power), eO (lI .u8) m, .lit (.int .i64 m_1), eO (lI .u8) m_2, .lit (.int .i64 m_3)]), ((d, 1), oT (lI .u8) dx.areas.x0.data), ((d, 2), oT (lI .u8) dx.areas.x1.data), ((d1, 0), .box [eB (lI .u8) (d, 1) dx.areas.x0.data, .lit (.int .i64 dx.areas.x0.safe)])] S) 1 _
            replace h : s_disk_Disk_Crash_j3 dx m_2 m_3 keep_1 = some x1 := h
            rw [s_disk_Disk_Crash_j3] at h
            obtain ⟨v_2, hv_2, h⟩ := bd_some h
            refine xregd [(1, eS (lI .i64) keeps), (7, .ptr (d, 0) 0), (16, .agg [eB (lI .u8) (d, 1) dx.areas.x0.data, .lit (.int .i64 dx.areas.x0.safe), eB (lI .u8) (d, 2) dx.areas.x1.data, .lit (.int .i64 dx.areas.x1.safe)]), (17, .lit (.int .i64 0))] (hp [(n0, .box [.lit (.int .i64 dx.power), eB (lI .u8) (d, 1) dx.areas.x0.data, .lit (.int .i64 dx.areas.x0.safe), eB (lI .u8) (d, 2) dx.areas.x1.data, .lit (.int .i64 dx.areas.x1.safe)]), ((d, 0), .box [.lit (.int .i64 v.power), eO (lI .u8) v_2.data, .lit (.int .i64 v_2.safe), eO (lI .u8) m_2, .lit (.int .i64 m_3)]), ((d, 1), oT (lI .u8) dx.areas.x0.data), ((d, 2), oT (lI .u8) dx.areas.x1.data)] S) 2 ?_ (fun k kp hk => ?_)
            ·exact hj_2 (0, v_2.data, v_2.safe, m_2, m_3) h
            ·try simp (maxSteps := 4000000) only [go_sem, Prod.mk.injEq, reduceIte, Nat.reduceEqDiff, Nat.reduceAdd, Nat.reduceSub, Nat.reduceMul, Nat.reduceDiv, Nat.reducePow, Nat.reduceLT, Nat.reduceLeDiff, Nat.reduceBEq, Nat.reduceBneDiff, Int.reduceToNat, Int.reduceEq, Int.reduceLE, Int.reduceLT, reduceCtorEq, oGdiskDisk, hq_n0, hr_n0, hn1d, hm1d, hu1n0, hw1n0, vptr_0, vptr_1]
             repeat (with_reducible refine And.intro ?_ ?_; next => first | assumption | trivial | omega | decide | (constructor <;> first | assumption | omega) | (simp [Keep.ok, hp_cons_apply, hset_cons, oGdiskDisk, hq_n0, hr_n0, hn1d, hm1d, hu1n0, hw1n0, vptr_0, vptr_1]; done))
             have hcall := s_disk_area_left_ok (hp [(n0, .box [.lit (.int .i64 dx.power), eB (lI .u8) (d, 1) dx.areas.x0.data, .lit (.int .i64 dx.areas.x0.safe), eB (lI .u8) (d, 2) dx.areas.x1.data, .lit (.int .i64 dx.areas.x1.safe)]), ((d, 0), .box [.lit (.int .i64 v.power), eO (lI .u8) m, .lit (.int .i64 m_1), eO (lI .u8) m_2, .lit (.int .i64 m_3)]), ((d, 1), oT (lI .u8) dx.areas.x0.data), ((d, 2), oT (lI .u8) dx.areas.x1.data), ((d1, 0), .box [eB (lI .u8) (d, 1) dx.areas.x0.data, .lit (.int .i64 dx.areas.x0.safe)])] S) (o := (Own.buf (d, 1) (dx.areas.x0.data.length * ((lI .u8)).sz))) (ho := ⟨dx.areas.x0.data.length * ((lI .u8)).sz, (by simp only [hp_cons_apply, hp_nil_apply, reduceIte, Prod.mk.injEq, Nat.reduceEqDiff, and_true, and_false, true_and, false_and, oGdiskDisk, hq_n0, hr_n0, hn1d, hm1d, hu1n0, hw1n0, vptr_0, vptr_1] <;> rfl)⟩) (Gdiskarea.mk dx.areas.x0.data dx.areas.x0.safe) keep_1 hv_2
             refine call1_buf hcall HasB.agg rfl ?_ ?_
             ·exact (.cons Sub.refl (.cons Sub.refl .nil))
             clear hcall
             try simp (maxSteps := 4000000) only [go_sem, Prod.mk.injEq, reduceIte, Nat.reduceEqDiff, Nat.reduceAdd, Nat.reduceSub, Nat.reduceMul, Nat.reduceDiv, Nat.reducePow, Nat.reduceLT, Nat.reduceLeDiff, Nat.reduceBEq, Nat.reduceBneDiff, Int.reduceToNat, Int.reduceEq, Int.reduceLE, Int.reduceLT, reduceCtorEq, oGdiskDisk, hq_n0, hr_n0, hn1d, hm1d, hu1n0, hw1n0, vptr_0, vptr_1]
             repeat (with_reducible refine And.intro ?_ ?_; next => first | assumption | trivial | omega | decide | (constructor <;> first | assumption | omega) | (simp [Keep.ok, hp_cons_apply, hset_cons, oGdiskDisk, hq_n0, hr_n0, hn1d, hm1d, hu1n0, hw1n0, vptr_0, vptr_1]; done))
             try simp (maxSteps := 4000000) only [go_sem, Prod.mk.injEq, reduceIte, Nat.reduceEqDiff, Nat.reduceAdd, Nat.reduceSub, Nat.reduceMul, Nat.reduceDiv, Nat.reducePow, Nat.reduceLT, Nat.reduceLeDiff, Nat.reduceBEq, Nat.reduceBneDiff, Int.reduceToNat, Int.reduceEq, Int.reduceLE, Int.reduceLT, reduceCtorEq, oGdiskDisk, hq_n0, hr_n0, hn1d, hm1d, hu1n0, hw1n0, vptr_0, vptr_1]
             repeat (with_reducible refine And.intro ?_ ?_; next => first | assumption | trivial | omega | decide | (constructor <;> first | assumption | omega) | (simp [Keep.ok, hp_cons_apply, hset_cons, oGdiskDisk, hq_n0, hr_n0, hn1d, hm1d, hu1n0, hw1n0, vptr_0, vptr_1]; done))
             refine hk _ _ _ ?_
             refine Ghost.trans (Ghost.closeX (L := (lI .u8)) (xs := v_2.data) (n := (d, 0)) (m := (d1, 1)) (i := 1) (cs := [.lit (.int .i64 v.power), eB (lI .u8) (d1, 1) v_2.data, .lit (.int .i64 v_2.safe), eO (lI .u8) m_2, .lit (.int .i64 m_3)]) (A' := [(n0, .box [.lit (.int .i64 dx.power), eB (lI .u8) (d, 1) dx.areas.x0.data, .lit (.int .i64 dx.areas.x0.safe), eB (lI .u8) (d, 2) dx.areas.x1.data, .lit (.int .i64 dx.areas.x1.safe)]), ((d, 0), .box [.lit (.int .i64 v.power), eO (lI .u8) v_2.data, .lit (.int .i64 v_2.safe), eO (lI .u8) m_2, .lit (.int .i64 m_3)]), ((d, 1), oT (lI .u8) dx.areas.x0.data), ((d, 2), oT (lI .u8) dx.areas.x1.data), ((d1, 0), .box [eB (lI .u8) (d, 1) dx.areas.x0.data, .lit (.int .i64 dx.areas.x0.safe)])]) (by simp only [hp_cons_apply, hp_nil_apply, reduceIte, Prod.mk.injEq, Nat.reduceEqDiff, and_true, and_false, true_and, false_and, oGdiskDisk, hq_n0, hr_n0, hn1d, hm1d, hu1n0, hw1n0] <;> rfl) rfl (by simp only [hp_cons_apply, hp_nil_apply, reduceIte, Prod.mk.injEq, Nat.reduceEqDiff, and_true, and_false, true_and, false_and, oGdiskDisk, hq_n0, hr_n0, hn1d, hm1d, hu1n0, hw1n0] <;> rfl) (hd _ (show d ≤ d1 by omega)) (by simp only [hset_cons, hset_nil, hrem_cons, hrem_nil, List.set_cons_zero, List.set_cons_succ, reduceIte, Prod.mk.injEq, Nat.reduceEqDiff, and_true, and_false, true_and, false_and, oGdiskDisk, hq_n0, hr_n0, hn1d, hm1d, hu1n0, hw1n0])) ?_
             refine xghost (D := [((d1, 0), .box [eB (lI .u8) (d, 1) dx.areas.x0.data, .lit (.int .i64 dx.areas.x0.safe)])]) ?_ ?_ ?_ ?_
             ·exact (.cons (Sub.of_eq rfl) (.cons (Sub.of_eq rfl) (.cons (Sub.of_eq rfl) (.cons (Sub.of_eq rfl) .nil))))
             ·exact (.cons .refl (.cons .refl (.cons .refl (.cons .refl (.cons .refl .nil)))))
             ·exact (by intro p hp; simp only [List.mem_cons, List.not_mem_nil, or_false] at hp; rcases hp with rfl <;> first | exact hd _ (show d ≤ d1 by omega))
             ·omega
           ·refine xseq [(1, eS (lI .i64) keeps), (7, .ptr (d, 0) 0), (8, .lit (.int .i64 0)), (9, .ptr (d1, 0) 0), (10, .lit (.int .i64 0)), (16, .agg [eB (lI .u8) (d, 1) dx.areas.x0.data, .lit (.int .i64 dx.areas.x0.safe), eB (lI .u8) (d, 2) dx.areas.x1.data, .lit (.int .i64 dx.areas.x1.safe)]), (17, .lit (.int .i64 0)), (24, .lit (.bool (decide (0 < (keeps.length : Int)))))] (hp [(n0, .box [.lit (.int .i64 dx.power), eB (lI .u8) (d, 1) dx.areas.x0.data, .lit (.int .i64 dx.areas.x0.safe), eB (lI .u8) (d, 2) dx.areas.x1.data, .lit (.int .i64 dx.areas.x1.safe)]), ((d, 0), .box [.lit (.int .i64 v.power), eO (lI .u8) m, .lit (.int .i64 m_1), eO (lI .u8) m_2, .lit (.int .i64 m_3)]), ((d, 1), oT (lI .u8) dx.areas.x0.data), ((d, 2), oT (lI .u8) dx.areas.x1.data), ((d1, 0), .box [eB (lI .u8) (d, 1) dx.areas.x0.data, .lit (.int .i64 dx.areas.x0.safe)])] S) 1 ?_ (fun k kp hk => ?_)
            ·refine xcond (decide (0 < (keeps.length : Int))) rfl (fun hc_2 => ?_) (fun hc_2 => ?_)
             ·rw [ite_t hc_2] at h
              obtain ⟨hg_1, h⟩ := gd_some h
              refine xreg [(1, eS (lI .i64) keeps), (7, .ptr (d, 0) 0), (8, .lit (.int .i64 0)), (9, .ptr (d1, 0) 0), (10, .lit (.int .i64 (keeps.getD (Int.toNat 0) 0))), (16, .agg [eB (lI .u8) (d, 1) dx.areas.x0.data, .lit (.int .i64 dx.areas.x0.safe), eB (lI .u8) (d, 2) dx.areas.x1.data, .lit (.int .i64 dx.areas.x1.safe)]), (17, .lit (.int .i64 0))] (hp [(n0, .box [.lit (.int .i64 dx.power), eB (lI .u8) (d, 1) dx.areas.x0.data, .lit (.int .i64 dx.areas.x0.safe), eB (lI .u8) (d, 2) dx.areas.x1.data, .lit (.int .i64 dx.areas.x1.safe)]), ((d, 0), .box [.lit (.int .i64 v.power), eO (lI .u8) m, .lit (.int .i64 m_1), eO (lI .u8) m_2, .lit (.int .i64 m_3)]), ((d, 1), oT (lI .u8) dx.areas.x0.data), ((d, 2), oT (lI .u8) dx.areas.x1.data), ((d1, 0), .box [eB (lI .u8) (d, 1) dx.areas.x0.data, .lit (.int .i64 dx.areas.x0.safe)])] S) 1 ?_ (fun k kp hk => ?_)
              ·exact hj_1 (keeps.getD (Int.toNat 0) 0) h
              ·try simp (maxSteps := 4000000) only [go_sem, Prod.mk.injEq, reduceIte, Nat.reduceEqDiff, Nat.reduceAdd, Nat.reduceSub, Nat.reduceMul, Nat.reduceDiv, Nat.reducePow, Nat.reduceLT, Nat.reduceLeDiff, Nat.reduceBEq, Nat.reduceBneDiff, Int.reduceToNat, Int.reduceEq, Int.reduceLE, Int.reduceLT, reduceCtorEq, oGdiskDisk, hq_n0, hr_n0, hn1d, hm1d, hu1n0, hw1n0]
               repeat (with_reducible refine And.intro ?_ ?_; next => first | assumption | trivial | omega | decide | (constructor <;> first | assumption | omega) | (simp [Keep.ok, hp_cons_apply, hset_cons, oGdiskDisk, hq_n0, hr_n0, hn1d, hm1d, hu1n0, hw1n0]; done))
               refine hk _ _ _ ?_
               refine xghost (D := []) ?_ ?_ ?_ ?_
               ·exact (.cons (Sub.of_eq rfl) (.cons (Sub.of_eq rfl) (.cons (Sub.of_eq rfl) (.cons (Sub.of_eq rfl) (.cons (Sub.of_eq rfl) (.cons (Sub.of_eq rfl) (.cons (Sub.of_eq rfl) .nil)))))))
               ·exact HpW.refl
               ·exact (by intro p hp; cases hp)
               ·omega
             ·rw [ite_f hc_2] at h
              refine LW_skipX (sl' := [(1, eS (lI .i64) keeps), (7, .ptr (d, 0) 0), (8, .lit (.int .i64 0)), (9, .ptr (d1, 0) 0), (10, .lit (.int .i64 0)), (16, .agg [eB (lI .u8) (d, 1) dx.areas.x0.data, .lit (.int .i64 dx.areas.x0.safe), eB (lI .u8) (d, 2) dx.areas.x1.data, .lit (.int .i64 dx.areas.x1.safe)]), (17, .lit (.int .i64 0))]) (S' := (hp [(n0, .box [.lit (.int .i64 dx.power), eB (lI .u8) (d, 1) dx.areas.x0.data, .lit (.int .i64 dx.areas.x0.safe), eB (lI .u8) (d, 2) dx.areas.x1.data, .lit (.int .i64 dx.areas.x1.safe)]), ((d, 0), .box [.lit (.int .i64 v.power), eO (lI .u8) m, .lit (.int .i64 m_1), eO (lI .u8) m_2, .lit (.int .i64 m_3)]), ((d, 1), oT (lI .u8) dx.areas.x0.data), ((d, 2), oT (lI .u8) dx.areas.x1.data), ((d1, 0), .box [eB (lI .u8) (d, 1) dx.areas.x0.data, .lit (.int .i64 dx.areas.x0.safe)])] S)) (c' := 1) ?_ ?_
              ·refine xghost (D := []) ?_ ?_ ?_ ?_
               ·exact (.cons (Sub.of_eq rfl) (.cons (Sub.of_eq rfl) (.cons (Sub.of_eq rfl) (.cons (Sub.of_eq rfl) (.cons (Sub.of_eq rfl) (.cons (Sub.of_eq rfl) (.cons (Sub.of_eq rfl) .nil)))))))
               ·exact HpW.refl
               ·exact (by intro p hp; cases hp)
               ·omega
              ·exact hj_1 0 h
            ·try simp (maxSteps := 4000000) only [go_sem, Prod.mk.injEq, reduceIte, Nat.reduceEqDiff, Nat.reduceAdd, Nat.reduceSub, Nat.reduceMul, Nat.reduceDiv, Nat.reducePow, Nat.reduceLT, Nat.reduceLeDiff, Nat.reduceBEq, Nat.reduceBneDiff, Int.reduceToNat, Int.reduceEq, Int.reduceLE, Int.reduceLT, reduceCtorEq, oGdiskDisk, hq_n0, hr_n0, hn1d, hm1d, hu1n0, hw1n0]
             repeat (with_reducible refine And.intro ?_ ?_; next => first | assumption | trivial | omega | decide | (constructor <;> first | assumption | omega) | (simp [Keep.ok, hp_cons_apply, hset_cons, oGdiskDisk, hq_n0, hr_n0, hn1d, hm1d, hu1n0, hw1n0]; done))
             refine hk _ _ _ ?_
             refine xghost (D := []) ?_ ?_ ?_ ?_
             ·exact (.cons (Sub.of_eq rfl) (.cons (Sub.of_eq rfl) (.cons (Sub.of_eq rfl) (.cons (Sub.of_eq rfl) (.cons (Sub.of_eq rfl) (.cons (Sub.of_eq rfl) (.cons (Sub.of_eq rfl) (.cons (Sub.of_eq rfl) .nil))))))))
             ·exact HpW.refl
             ·exact (by intro p hp; cases hp)
             ·omega
          ·try simp (maxSteps := 4000000) only [go_sem, Prod.mk.injEq, reduceIte, Nat.reduceEqDiff, Nat.reduceAdd, Nat.reduceSub, Nat.reduceMul, Nat.reduceDiv, Nat.reducePow, Nat.reduceLT, Nat.reduceLeDiff, Nat.reduceBEq, Nat.reduceBneDiff, Int.reduceToNat, Int.reduceEq, Int.reduceLE, Int.reduceLT, reduceCtorEq, oGdiskDisk, hq_n0, hr_n0, hn1d, hm1d, hu1n0, hw1n0]
           repeat (with_reducible refine And.intro ?_ ?_; next => first | assumption | trivial | omega | decide | (constructor <;> first | assumption | omega) | (simp [Keep.ok, hp_cons_apply, hset_cons, oGdiskDisk, hq_n0, hr_n0, hn1d, hm1d, hu1n0, hw1n0]; done))
           refine hk _ _ _ ?_
           refine xghost (D := []) ?_ ?_ ?_ ?_
           ·exact (.cons (Sub.of_eq rfl) (.cons (Sub.of_eq rfl) (.cons (Sub.of_eq rfl) (.cons (Sub.of_eq rfl) (.cons (Sub.of_eq rfl) (.cons (Sub.of_eq rfl) (.cons (Sub.of_eq rfl) .nil)))))))
           ·exact HpW.refl
           ·exact (by intro p hp; cases hp)
           ·omega
         ·try simp (maxSteps := 4000000) only [go_sem, Prod.mk.injEq, reduceIte, Nat.reduceEqDiff, Nat.reduceAdd, Nat.reduceSub, Nat.reduceMul, Nat.reduceDiv, Nat.reducePow, Nat.reduceLT, Nat.reduceLeDiff, Nat.reduceBEq, Nat.reduceBneDiff, Int.reduceToNat, Int.reduceEq, Int.reduceLE, Int.reduceLT, reduceCtorEq, oGdiskDisk, hq_n0, hr_n0, hn1d, hm1d, hu1n0, hw1n0]
          repeat (with_reducible refine And.intro ?_ ?_; next => first | assumption | trivial | omega | decide | (constructor <;> first | assumption | omega) | (simp [Keep.ok, hp_cons_apply, hset_cons, oGdiskDisk, hq_n0, hr_n0, hn1d, hm1d, hu1n0, hw1n0]; done))
          refine hk _ _ _ ?_
          refine xghost (D := []) ?_ ?_ ?_ ?_
          ·exact (.cons (Sub.of_eq rfl) (.cons (Sub.of_eq rfl) (.cons (Sub.of_eq rfl) (.cons (Sub.of_eq rfl) (.cons (Sub.of_eq rfl) (.cons (Sub.of_eq rfl) .nil))))))
          ·exact HpW.refl
          ·exact (by intro p hp; cases hp)
          ·omega
        ·rw [if_neg hs_1] at h
         by_cases hs : t17 = 1
         ·subst hs
          rw [if_pos rfl] at h
          refine xseq [(1, eS (lI .i64) keeps), (7, .ptr (d, 0) 0), (8, .lit (.int .i64 1)), (9, .ptr (d1, 0) 0), (16, .agg [eB (lI .u8) (d, 1) dx.areas.x0.data, .lit (.int .i64 dx.areas.x0.safe), eB (lI .u8) (d, 2) dx.areas.x1.data, .lit (.int .i64 dx.areas.x1.safe)]), (17, .lit (.int .i64 1))] (hp [(n0, .box [.lit (.int .i64 dx.power), eB (lI .u8) (d, 1) dx.areas.x0.data, .lit (.int .i64 dx.areas.x0.safe), eB (lI .u8) (d, 2) dx.areas.x1.data, .lit (.int .i64 dx.areas.x1.safe)]), ((d, 0), .box [.lit (.int .i64 v.power), eO (lI .u8) m, .lit (.int .i64 m_1), eO (lI .u8) m_2, .lit (.int .i64 m_3)]), ((d, 1), oT (lI .u8) dx.areas.x0.data), ((d, 2), oT (lI .u8) dx.areas.x1.data), ((d1, 0), .box [eB (lI .u8) (d, 2) dx.areas.x1.data, .lit (.int .i64 dx.areas.x1.safe)])] S) 1 ?_ (fun k kp hk => ?_)
          ·refine xseq [(1, eS (lI .i64) keeps), (7, .ptr (d, 0) 0), (8, .lit (.int .i64 1)), (9, .ptr (d1, 0) 0), (10, .lit (.int .i64 0)), (16, .agg [eB (lI .u8) (d, 1) dx.areas.x0.data, .lit (.int .i64 dx.areas.x0.safe), eB (lI .u8) (d, 2) dx.areas.x1.data, .lit (.int .i64 dx.areas.x1.safe)]), (17, .lit (.int .i64 1))] (hp [(n0, .box [.lit (.int .i64 dx.power), eB (lI .u8) (d, 1) dx.areas.x0.data, .lit (.int .i64 dx.areas.x0.safe), eB (lI .u8) (d, 2) dx.areas.x1.data, .lit (.int .i64 dx.areas.x1.safe)]), ((d, 0), .box [.lit (.int .i64 v.power), eO (lI .u8) m, .lit (.int .i64 m_1), eO (lI .u8) m_2, .lit (.int .i64 m_3)]), ((d, 1), oT (lI .u8) dx.areas.x0.data), ((d, 2), oT (lI .u8) dx.areas.x1.data), ((d1, 0), .box [eB (lI .u8) (d, 2) dx.areas.x1.data, .lit (.int .i64 dx.areas.x1.safe)])] S) 1 ?_ (fun k kp hk => ?_)
           ·refine xjoin (J := Int) (fun jj => [(1, eS (lI .i64) keeps), (7, .ptr (d, 0) 0), (8, .lit (.int .i64 1)), (9, .ptr (d1, 0) 0), (10, .lit (.int .i64 jj)), (16, .agg [eB (lI .u8) (d, 1) dx.areas.x0.data, .lit (.int .i64 dx.areas.x0.safe), eB (lI .u8) (d, 2) dx.areas.x1.data, .lit (.int .i64 dx.areas.x1.safe)]), (17, .lit (.int .i64 1))]) (fun jj => (hp [(n0, .box [.lit (.int .i64 dx.power), eB (lI .u8) (d, 1) dx.areas.x0.data, .lit (.int .i64 dx.areas.x0.safe), eB (lI .u8) (d, 2) dx.areas.x1.data, .lit (.int .i64 dx.areas.x1.safe)]), ((d, 0), .box [.lit (.int .i64 v.power), eO (lI .u8) m, .lit (.int .i64 m_1), eO (lI .u8) m_2, .lit (.int .i64 m_3)]), ((d, 1), oT (lI .u8) dx.areas.x0.data), ((d, 2), oT (lI .u8) dx.areas.x1.data), ((d1, 0), .box [eB (lI .u8) (d, 2) dx.areas.x1.data, .lit (.int .i64 dx.areas.x1.safe)])] S)) 1 (fun jj => s_disk_Disk_Crash_j2 dx m m_1 jj = some x1) ?_ (fun hj => ?_)
            ·rintro keep h
             show LW _ _ _ _ [(1, eS (lI .i64) keeps), (7, .ptr (d, 0) 0), (8, .lit (.int .i64 1)), (9, .ptr (d1, 0) 0), (10, .lit (.int .i64 keep)), (16, .agg [eB (lI .u8) (d, 1) dx.areas.x0.data, .lit (.int .i64 dx.areas.x0.safe), eB (lI .u8) (d, 2) dx.areas.x1.data, .lit (.int .i64 dx.areas.x1.safe)]), (17, .lit (.int .i64 1))] (hp [(n0, .box [.lit (.int .i64 dx.power), eB (lI .u8) (d, 1) dx.areas.x0.data, .lit (.int .i64 dx.areas.x0.safe), eB (lI .u8) (d, 2) dx.areas.x1.data, .lit (.int .i64 dx.areas.x1.safe)]), ((d, 0), .box [.lit (.int .i64 v.power), eO (lI .u8) m, .lit (.int .i64 m_1), eO (lI .u8) m_2, .lit (.int .i64 m_3)]), ((d, 1), oT (lI .u8) dx.areas.x0.data), ((d, 2), oT (lI .u8) dx.areas.x1.data), ((d1, 0), .box [eB (lI .u8) (d, 2) dx.areas.x1.data, .lit (.int .i64 dx.areas.x1.safe)])] S) 1 _
             replace h : s_disk_Disk_Crash_j2 dx m m_1 keep = some x1 := h
             rw [s_disk_Disk_Crash_j2] at h
             obtain ⟨v_1, hv_1, h⟩ := bd_some h
             refine xregd [(1, eS (lI .i64) keeps), (7, .ptr (d, 0) 0), (16, .agg [eB (lI .u8) (d, 1) dx.areas.x0.data, .lit (.int .i64 dx.areas.x0.safe), eB (lI .u8) (d, 2) dx.areas.x1.data, .lit (.int .i64 dx.areas.x1.safe)]), (17, .lit (.int .i64 1))] (hp [(n0, .box [.lit (.int .i64 dx.power), eB (lI .u8) (d, 1) dx.areas.x0.data, .lit (.int .i64 dx.areas.x0.safe), eB (lI .u8) (d, 2) dx.areas.x1.data, .lit (.int .i64 dx.areas.x1.safe)]), ((d, 0), .box [.lit (.int .i64 v.power), eO (lI .u8) m, .lit (.int .i64 m_1), eO (lI .u8) v_1.data, .lit (.int .i64 v_1.safe)]), ((d, 1), oT (lI .u8) dx.areas.x0.data), ((d, 2), oT (lI .u8) dx.areas.x1.data)] S) 2 ?_ (fun k kp hk => ?_)
             ·exact hj_2 (1, m, m_1, v_1.data, v_1.safe) h
             ·try simp (maxSteps := 4000000) only [go_sem, Prod.mk.injEq, reduceIte, Nat.reduceEqDiff, Nat.reduceAdd, Nat.reduceSub, Nat.reduceMul, Nat.reduceDiv, Nat.reducePow, Nat.reduceLT, Nat.reduceLeDiff, Nat.reduceBEq, Nat.reduceBneDiff, Int.reduceToNat, Int.reduceEq, Int.reduceLE, Int.reduceLT, reduceCtorEq, oGdiskDisk, hq_n0, hr_n0, hn1d, hm1d, hu1n0, hw1n0, vptr_0, vptr_1]
              repeat (with_reducible refine And.intro ?_ ?_; next => first | assumption | trivial | omega | decide | (constructor <;> first | assumption | omega) | (simp [Keep.ok, hp_cons_apply, hset_cons, oGdiskDisk, hq_n0, hr_n0, hn1d, hm1d, hu1n0, hw1n0, vptr_0, vptr_1]; done))
              have hcall := s_disk_area_left_ok (hp [(n0, .box [.lit (.int .i64 dx.power), eB (lI .u8) (d, 1) dx.areas.x0.data, .lit (.int .i64 dx.areas.x0.safe), eB (lI .u8) (d, 2) dx.areas.x1.data, .lit (.int .i64 dx.areas.x1.safe)]), ((d, 0), .box [.lit (.int .i64 v.power), eO (lI .u8) m, .lit (.int .i64 m_1), eO (lI .u8) m_2, .lit (.int .i64 m_3)]), ((d, 1), oT (lI .u8) dx.areas.x0.data), ((d, 2), oT (lI .u8) dx.areas.x1.data), ((d1, 0), .box [eB (lI .u8) (d, 2) dx.areas.x1.data, .lit (.int .i64 dx.areas.x1.safe)])] S) (o := (Own.buf (d, 2) (dx.areas.x1.data.length * ((lI .u8)).sz))) (ho := ⟨dx.areas.x1.data.length * ((lI .u8)).sz, (by simp only [hp_cons_apply, hp_nil_apply, reduceIte, Prod.mk.injEq, Nat.reduceEqDiff, and_true, and_false, true_and, false_and, oGdiskDisk, hq_n0, hr_n0, hn1d, hm1d, hu1n0, hw1n0, vptr_0, vptr_1] <;> rfl)⟩) (Gdiskarea.mk dx.areas.x1.data dx.areas.x1.safe) keep hv_1
              refine call1_buf hcall HasB.agg rfl ?_ ?_
              ·exact (.cons Sub.refl (.cons Sub.refl .nil))
              clear hcall
              try simp (maxSteps := 4000000) only [go_sem, Prod.mk.injEq, reduceIte, Nat.reduceEqDiff, Nat.reduceAdd, Nat.reduceSub, Nat.reduceMul, Nat.reduceDiv, Nat.reducePow, Nat.reduceLT, Nat.reduceLeDiff, Nat.reduceBEq, Nat.reduceBneDiff, Int.reduceToNat, Int.reduceEq, Int.reduceLE, Int.reduceLT, reduceCtorEq, oGdiskDisk, hq_n0, hr_n0, hn1d, hm1d, hu1n0, hw1n0, vptr_0, vptr_1]
              repeat (with_reducible refine And.intro ?_ ?_; next => first | assumption | trivial | omega | decide | (constructor <;> first | assumption | omega) | (simp [Keep.ok, hp_cons_apply, hset_cons, oGdiskDisk, hq_n0, hr_n0, hn1d, hm1d, hu1n0, hw1n0, vptr_0, vptr_1]; done))
              try simp (maxSteps := 4000000) only [go_sem, Prod.mk.injEq, reduceIte, Nat.reduceEqDiff, Nat.reduceAdd, Nat.reduceSub, Nat.reduceMul, Nat.reduceDiv, Nat.reducePow, Nat.reduceLT, Nat.reduceLeDiff, Nat.reduceBEq, Nat.reduceBneDiff, Int.reduceToNat, Int.reduceEq, Int.reduceLE, Int.reduceLT, reduceCtorEq, oGdiskDisk, hq_n0, hr_n0, hn1d, hm1d, hu1n0, hw1n0, vptr_0, vptr_1]
              repeat (with_reducible refine And.intro ?_ ?_; next => first | assumption | trivial | omega | decide | (constructor <;> first | assumption | omega) | (simp [Keep.ok, hp_cons_apply, hset_cons, oGdiskDisk, hq_n0, hr_n0, hn1d, hm1d, hu1n0, hw1n0, vptr_0, vptr_1]; done))
              refine hk _ _ _ ?_
              refine Ghost.trans (Ghost.closeX (L := (lI .u8)) (xs := v_1.data) (n := (d, 0)) (m := (d1, 1)) (i := 3) (cs := [.lit (.int .i64 v.power), eO (lI .u8) m, .lit (.int .i64 m_1), eB (lI .u8) (d1, 1) v_1.data, .lit (.int .i64 v_1.safe)]) (A' := [(n0, .box [.lit (.int .i64 dx.power), eB (lI .u8) (d, 1) dx.areas.x0.data, .lit (.int .i64 dx.areas.x0.safe), eB (lI .u8) (d, 2) dx.areas.x1.data, .lit (.int .i64 dx.areas.x1.safe)]), ((d, 0), .box [.lit (.int .i64 v.power), eO (lI .u8) m, .lit (.int .i64 m_1), eO (lI .u8) v_1.data, .lit (.int .i64 v_1.safe)]), ((d, 1), oT (lI .u8) dx.areas.x0.data), ((d, 2), oT (lI .u8) dx.areas.x1.data), ((d1, 0), .box [eB (lI .u8) (d, 2) dx.areas.x1.data, .lit (.int .i64 dx.areas.x1.safe)])]) (by simp only [hp_cons_apply, hp_nil_apply, reduceIte, Prod.mk.injEq, Nat.reduceEqDiff, and_true, and_false, true_and, false_and, oGdiskDisk, hq_n0, hr_n0, hn1d, hm1d, hu1n0, hw1n0] <;> rfl) rfl (by simp only [hp_cons_apply, hp_nil_apply, reduceIte, Prod.mk.injEq, Nat.reduceEqDiff, and_true, and_false, true_and, false_and, oGdiskDisk, hq_n0, hr_n0, hn1d, hm1d, hu1n0, hw1n0] <;> rfl) (hd _ (show d ≤ d1 by omega)) (by simp only [hset_cons, hset_nil, hrem_cons, hrem_nil, List.set_cons_zero, List.set_cons_succ, reduceIte, Prod.mk.injEq, Nat.reduceEqDiff, and_true, and_false, true_and, false_and, oGdiskDisk, hq_n0, hr_n0, hn1d, hm1d, hu1n0, hw1n0])) ?_
              refine xghost (D := [((d1, 0), .box [eB (lI .u8) (d, 2) dx.areas.x1.data, .lit (.int .i64 dx.areas.x1.safe)])]) ?_ ?_ ?_ ?_
              ·exact (.cons (Sub.of_eq rfl) (.cons (Sub.of_eq rfl) (.cons (Sub.of_eq rfl) (.cons (Sub.of_eq rfl) .nil))))
              ·exact (.cons .refl (.cons .refl (.cons .refl (.cons .refl (.cons .refl .nil)))))
              ·exact (by intro p hp; simp only [List.mem_cons, List.not_mem_nil, or_false] at hp; rcases hp with rfl <;> first | exact hd _ (show d ≤ d1 by omega))
              ·omega
            ·refine xseq [(1, eS (lI .i64) keeps), (7, .ptr (d, 0) 0), (8, .lit (.int .i64 1)), (9, .ptr (d1, 0) 0), (10, .lit (.int .i64 0)), (16, .agg [eB (lI .u8) (d, 1) dx.areas.x0.data, .lit (.int .i64 dx.areas.x0.safe), eB (lI .u8) (d, 2) dx.areas.x1.data, .lit (.int .i64 dx.areas.x1.safe)]), (17, .lit (.int .i64 1)), (24, .lit (.bool (decide (1 < (keeps.length : Int)))))] (hp [(n0, .box [.lit (.int .i64 dx.power), eB (lI .u8) (d, 1) dx.areas.x0.data, .lit (.int .i64 dx.areas.x0.safe), eB (lI .u8) (d, 2) dx.areas.x1.data, .lit (.int .i64 dx.areas.x1.safe)]), ((d, 0), .box [.lit (.int .i64 v.power), eO (lI .u8) m, .lit (.int .i64 m_1), eO (lI .u8) m_2, .lit (.int .i64 m_3)]), ((d, 1), oT (lI .u8) dx.areas.x0.data), ((d, 2), oT (lI .u8) dx.areas.x1.data), ((d1, 0), .box [eB (lI .u8) (d, 2) dx.areas.x1.data, .lit (.int .i64 dx.areas.x1.safe)])] S) 1 ?_ (fun k kp hk => ?_)
             ·refine xcond (decide (1 < (keeps.length : Int))) rfl (fun hc_1 => ?_) (fun hc_1 => ?_)
              ·rw [ite_t hc_1] at h
               obtain ⟨hg, h⟩ := gd_some h
               refine xreg [(1, eS (lI .i64) keeps), (7, .ptr (d, 0) 0), (8, .lit (.int .i64 1)), (9, .ptr (d1, 0) 0), (10, .lit (.int .i64 (keeps.getD (Int.toNat 1) 0))), (16, .agg [eB (lI .u8) (d, 1) dx.areas.x0.data, .lit (.int .i64 dx.areas.x0.safe), eB (lI .u8) (d, 2) dx.areas.x1.data, .lit (.int .i64 dx.areas.x1.safe)]), (17, .lit (.int .i64 1))] (hp [(n0, .box [.lit (.int .i64 dx.power), eB (lI .u8) (d, 1) dx.areas.x0.data, .lit (.int .i64 dx.areas.x0.safe), eB (lI .u8) (d, 2) dx.areas.x1.data, .lit (.int .i64 dx.areas.x1.safe)]), ((d, 0), .box [.lit (.int .i64 v.power), eO (lI .u8) m, .lit (.int .i64 m_1), eO (lI .u8) m_2, .lit (.int .i64 m_3)]), ((d, 1), oT (lI .u8) dx.areas.x0.data), ((d, 2), oT (lI .u8) dx.areas.x1.data), ((d1, 0), .box [eB (lI .u8) (d, 2) dx.areas.x1.data, .lit (.int .i64 dx.areas.x1.safe)])] S) 1 ?_ (fun k kp hk => ?_)
               ·exact hj (keeps.getD (Int.toNat 1) 0) h
               ·try simp (maxSteps := 4000000) only [go_sem, Prod.mk.injEq, reduceIte, Nat.reduceEqDiff, Nat.reduceAdd, Nat.reduceSub, Nat.reduceMul, Nat.reduceDiv, Nat.reducePow, Nat.reduceLT, Nat.reduceLeDiff, Nat.reduceBEq, Nat.reduceBneDiff, Int.reduceToNat, Int.reduceEq, Int.reduceLE, Int.reduceLT, reduceCtorEq, oGdiskDisk, hq_n0, hr_n0, hn1d, hm1d, hu1n0, hw1n0]
                repeat (with_reducible refine And.intro ?_ ?_; next => first | assumption | trivial | omega | decide | (constructor <;> first | assumption | omega) | (simp [Keep.ok, hp_cons_apply, hset_cons, oGdiskDisk, hq_n0, hr_n0, hn1d, hm1d, hu1n0, hw1n0]; done))
                refine hk _ _ _ ?_
                refine xghost (D := []) ?_ ?_ ?_ ?_
                ·exact (.cons (Sub.of_eq rfl) (.cons (Sub.of_eq rfl) (.cons (Sub.of_eq rfl) (.cons (Sub.of_eq rfl) (.cons (Sub.of_eq rfl) (.cons (Sub.of_eq rfl) (.cons (Sub.of_eq rfl) .nil)))))))
                ·exact HpW.refl
                ·exact (by intro p hp; cases hp)
                ·omega
              ·rw [ite_f hc_1] at h
               refine LW_skipX (sl' := [(1, eS (lI .i64) keeps), (7, .ptr (d, 0) 0), (8, .lit (.int .i64 1)), (9, .ptr (d1, 0) 0), (10, .lit (.int .i64 0)), (16, .agg [eB (lI .u8) (d, 1) dx.areas.x0.data, .lit (.int .i64 dx.areas.x0.safe), eB (lI .u8) (d, 2) dx.areas.x1.data, .lit (.int .i64 dx.areas.x1.safe)]), (17, .lit (.int .i64 1))]) (S' := (hp [(n0, .box [.lit (.int .i64 dx.power), eB (lI .u8) (d, 1) dx.areas.x0.data, .lit (.int .i64 dx.areas.x0.safe), eB (lI .u8) (d, 2) dx.areas.x1.data, .lit (.int .i64 dx.areas.x1.safe)]), ((d, 0), .box [.lit (.int .i64 v.power), eO (lI .u8) m, .lit (.int .i64 m_1), eO (lI .u8) m_2, .lit (.int .i64 m_3)]), ((d, 1), oT (lI .u8) dx.areas.x0.data), ((d, 2), oT (lI .u8) dx.areas.x1.data), ((d1, 0), .box [eB (lI .u8) (d, 2) dx.areas.x1.data, .lit (.int .i64 dx.areas.x1.safe)])] S)) (c' := 1) ?_ ?_
               ·refine xghost (D := []) ?_ ?_ ?_ ?_
                ·exact (.cons (Sub.of_eq rfl) (.cons (Sub.of_eq rfl) (.cons (Sub.of_eq rfl) (.cons (Sub.of_eq rfl) (.cons (Sub.of_eq rfl) (.cons (Sub.of_eq rfl) (.cons (Sub.of_eq rfl) .nil)))))))
                ·exact HpW.refl
                ·exact (by intro p hp; cases hp)
                ·omega
               ·exact hj 0 h
             ·try simp (maxSteps := 4000000) only [go_sem, Prod.mk.injEq, reduceIte, Nat.reduceEqDiff, Nat.reduceAdd, Nat.reduceSub, Nat.reduceMul, Nat.reduceDiv, Nat.reducePow, Nat.reduceLT, Nat.reduceLeDiff, Nat.reduceBEq, Nat.reduceBneDiff, Int.reduceToNat, Int.reduceEq, Int.reduceLE, Int.reduceLT, reduceCtorEq, oGdiskDisk, hq_n0, hr_n0, hn1d, hm1d, hu1n0, hw1n0]
              repeat (with_reducible refine And.intro ?_ ?_; next => first | assumption | trivial | omega | decide | (constructor <;> first | assumption | omega) | (simp [Keep.ok, hp_cons_apply, hset_cons, oGdiskDisk, hq_n0, hr_n0, hn1d, hm1d, hu1n0, hw1n0]; done))
              refine hk _ _ _ ?_
              refine xghost (D := []) ?_ ?_ ?_ ?_
              ·exact (.cons (Sub.of_eq rfl) (.cons (Sub.of_eq rfl) (.cons (Sub.of_eq rfl) (.cons (Sub.of_eq rfl) (.cons (Sub.of_eq rfl) (.cons (Sub.of_eq rfl) (.cons (Sub.of_eq rfl) (.cons (Sub.of_eq rfl) .nil))))))))
              ·exact HpW.refl
              ·exact (by intro p hp; cases hp)
              ·omega
           ·try simp (maxSteps := 4000000) only [go_sem, Prod.mk.injEq, reduceIte, Nat.reduceEqDiff, Nat.reduceAdd, Nat.reduceSub, Nat.reduceMul, Nat.reduceDiv, Nat.reducePow, Nat.reduceLT, Nat.reduceLeDiff, Nat.reduceBEq, Nat.reduceBneDiff, Int.reduceToNat, Int.reduceEq, Int.reduceLE, Int.reduceLT, reduceCtorEq, oGdiskDisk, hq_n0, hr_n0, hn1d, hm1d, hu1n0, hw1n0]
            repeat (with_reducible refine And.intro ?_ ?_; next => first | assumption | trivial | omega | decide | (constructor <;> first | assumption | omega) | (simp [Keep.ok, hp_cons_apply, hset_cons, oGdiskDisk, hq_n0, hr_n0, hn1d, hm1d, hu1n0, hw1n0]; done))
            refine hk _ _ _ ?_
            refine xghost (D := []) ?_ ?_ ?_ ?_
            ·exact (.cons (Sub.of_eq rfl) (.cons (Sub.of_eq rfl) (.cons (Sub.of_eq rfl) (.cons (Sub.of_eq rfl) (.cons (Sub.of_eq rfl) (.cons (Sub.of_eq rfl) (.cons (Sub.of_eq rfl) .nil)))))))
            ·exact HpW.refl
            ·exact (by intro p hp; cases hp)
            ·omega
          ·try simp (maxSteps := 4000000) only [go_sem, Prod.mk.injEq, reduceIte, Nat.reduceEqDiff, Nat.reduceAdd, Nat.reduceSub, Nat.reduceMul, Nat.reduceDiv, Nat.reducePow, Nat.reduceLT, Nat.reduceLeDiff, Nat.reduceBEq, Nat.reduceBneDiff, Int.reduceToNat, Int.reduceEq, Int.reduceLE, Int.reduceLT, reduceCtorEq, oGdiskDisk, hq_n0, hr_n0, hn1d, hm1d, hu1n0, hw1n0]
           repeat (with_reducible refine And.intro ?_ ?_; next => first | assumption | trivial | omega | decide | (constructor <;> first | assumption | omega) | (simp [Keep.ok, hp_cons_apply, hset_cons, oGdiskDisk, hq_n0, hr_n0, hn1d, hm1d, hu1n0, hw1n0]; done))
           refine hk _ _ _ ?_
           refine xghost (D := []) ?_ ?_ ?_ ?_
           ·exact (.cons (Sub.of_eq rfl) (.cons (Sub.of_eq rfl) (.cons (Sub.of_eq rfl) (.cons (Sub.of_eq rfl) (.cons (Sub.of_eq rfl) (.cons (Sub.of_eq rfl) .nil))))))
           ·exact HpW.refl
           ·exact (by intro p hp; cases hp)
           ·omega
         ·rw [if_neg hs] at h
          cases h
      ·rw [ite_f hc] at h
       obtain ⟨hq, hxe⟩ := mr_go h hx1
       clear h hx1
       subst hxe
       have h := hq
       clear hq
       refine LW_exitX (sl' := [(1, eS (lI .i64) keeps), (7, .ptr (d, 0) 0), (16, .agg [eB (lI .u8) (d, 1) dx.areas.x0.data, .lit (.int .i64 dx.areas.x0.safe), eB (lI .u8) (d, 2) dx.areas.x1.data, .lit (.int .i64 dx.areas.x1.safe)]), (17, .lit (.int .i64 t17)), (18, .lit (.bool (decide (t17 < 2))))]) (S' := (hp [(n0, .box [.lit (.int .i64 dx.power), eB (lI .u8) (d, 1) dx.areas.x0.data, .lit (.int .i64 dx.areas.x0.safe), eB (lI .u8) (d, 2) dx.areas.x1.data, .lit (.int .i64 dx.areas.x1.safe)]), ((d, 0), .box [.lit (.int .i64 v.power), eO (lI .u8) m, .lit (.int .i64 m_1), eO (lI .u8) m_2, .lit (.int .i64 m_3)]), ((d, 1), oT (lI .u8) dx.areas.x0.data), ((d, 2), oT (lI .u8) dx.areas.x1.data)] S)) (c' := 0) ?_ ?_
       ·refine xghost (D := []) ?_ ?_ ?_ ?_
        ·exact (.cons (Sub.of_eq rfl) (.cons (Sub.of_eq rfl) (.cons (Sub.of_eq rfl) (.cons (Sub.of_eq rfl) (.cons (Sub.of_eq rfl) .nil)))))
        ·exact HpW.refl
        ·exact (by intro p hp; cases hp)
        ·omega
       ·show LW _ _ _ _ _ _ _ _
        refine xseq [(6, .ptr (d, 0) 0)] (hp [(n0, .box [.lit (.int .i64 dx.power), eB (lI .u8) (d, 1) dx.areas.x0.data, .lit (.int .i64 dx.areas.x0.safe), eB (lI .u8) (d, 2) dx.areas.x1.data, .lit (.int .i64 dx.areas.x1.safe)]), ((d, 0), .box [.lit (.int .i64 v.power), eO (lI .u8) m, .lit (.int .i64 m_1), eO (lI .u8) m_2, .lit (.int .i64 m_3)]), ((d, 1), oT (lI .u8) dx.areas.x0.data), ((d, 2), oT (lI .u8) dx.areas.x1.data)] S) 3 ?_ (fun k kp hk => ?_)
        ·refine LW_retX (sl' := [(6, .ptr (d, 0) 0)]) (S' := (hp [(n0, .box [.lit (.int .i64 dx.power), eO (lI .u8) dx.areas.x0.data, .lit (.int .i64 dx.areas.x0.safe), eO (lI .u8) dx.areas.x1.data, .lit (.int .i64 dx.areas.x1.safe)]), ((d, 0), .box [.lit (.int .i64 v.power), eO (lI .u8) m, .lit (.int .i64 m_1), eO (lI .u8) m_2, .lit (.int .i64 m_3)])] S)) (c' := 3) ?_ ?_
         ·refine Ghost.trans (Ghost.closeX (L := (lI .u8)) (xs := dx.areas.x0.data) (n := n0) (m := (d, 1)) (i := 1) (cs := [.lit (.int .i64 dx.power), eB (lI .u8) (d, 1) dx.areas.x0.data, .lit (.int .i64 dx.areas.x0.safe), eB (lI .u8) (d, 2) dx.areas.x1.data, .lit (.int .i64 dx.areas.x1.safe)]) (A' := [(n0, .box [.lit (.int .i64 dx.power), eO (lI .u8) dx.areas.x0.data, .lit (.int .i64 dx.areas.x0.safe), eB (lI .u8) (d, 2) dx.areas.x1.data, .lit (.int .i64 dx.areas.x1.safe)]), ((d, 0), .box [.lit (.int .i64 v.power), eO (lI .u8) m, .lit (.int .i64 m_1), eO (lI .u8) m_2, .lit (.int .i64 m_3)]), ((d, 2), oT (lI .u8) dx.areas.x1.data)]) (by simp only [hp_cons_apply, hp_nil_apply, reduceIte, Prod.mk.injEq, Nat.reduceEqDiff, and_true, and_false, true_and, false_and, oGdiskDisk, hq_n0, hr_n0, hn1d, hm1d, hu1n0, hw1n0] <;> rfl) rfl (by simp only [hp_cons_apply, hp_nil_apply, reduceIte, Prod.mk.injEq, Nat.reduceEqDiff, and_true, and_false, true_and, false_and, oGdiskDisk, hq_n0, hr_n0, hn1d, hm1d, hu1n0, hw1n0] <;> rfl) (hd _ (Nat.le_refl _)) (by simp only [hset_cons, hset_nil, hrem_cons, hrem_nil, List.set_cons_zero, List.set_cons_succ, reduceIte, Prod.mk.injEq, Nat.reduceEqDiff, and_true, and_false, true_and, false_and, oGdiskDisk, hq_n0, hr_n0, hn1d, hm1d, hu1n0, hw1n0])) ?_
          refine Ghost.trans (Ghost.closeX (L := (lI .u8)) (xs := dx.areas.x1.data) (n := n0) (m := (d, 2)) (i := 3) (cs := [.lit (.int .i64 dx.power), eO (lI .u8) dx.areas.x0.data, .lit (.int .i64 dx.areas.x0.safe), eB (lI .u8) (d, 2) dx.areas.x1.data, .lit (.int .i64 dx.areas.x1.safe)]) (A' := [(n0, .box [.lit (.int .i64 dx.power), eO (lI .u8) dx.areas.x0.data, .lit (.int .i64 dx.areas.x0.safe), eO (lI .u8) dx.areas.x1.data, .lit (.int .i64 dx.areas.x1.safe)]), ((d, 0), .box [.lit (.int .i64 v.power), eO (lI .u8) m, .lit (.int .i64 m_1), eO (lI .u8) m_2, .lit (.int .i64 m_3)])]) (by simp only [hp_cons_apply, hp_nil_apply, reduceIte, Prod.mk.injEq, Nat.reduceEqDiff, and_true, and_false, true_and, false_and, oGdiskDisk, hq_n0, hr_n0, hn1d, hm1d, hu1n0, hw1n0] <;> rfl) rfl (by simp only [hp_cons_apply, hp_nil_apply, reduceIte, Prod.mk.injEq, Nat.reduceEqDiff, and_true, and_false, true_and, false_and, oGdiskDisk, hq_n0, hr_n0, hn1d, hm1d, hu1n0, hw1n0] <;> rfl) (hd _ (Nat.le_refl _)) (by simp only [hset_cons, hset_nil, hrem_cons, hrem_nil, List.set_cons_zero, List.set_cons_succ, reduceIte, Prod.mk.injEq, Nat.reduceEqDiff, and_true, and_false, true_and, false_and, oGdiskDisk, hq_n0, hr_n0, hn1d, hm1d, hu1n0, hw1n0])) ?_
          refine xghost (D := []) ?_ ?_ ?_ ?_
          ·exact (.cons (Sub.of_eq rfl) .nil)
          ·exact HpW.refl
          ·exact (by intro p hp; cases hp)
          ·omega
         ·obtain rfl := Option.some.inj h
          show FPost _ _ _ _ _ _ _
          exact ⟨_, hp_less (L := [(n0, .box [.lit (.int .i64 dx.power), eO (lI .u8) dx.areas.x0.data, .lit (.int .i64 dx.areas.x0.safe), eO (lI .u8) dx.areas.x1.data, .lit (.int .i64 dx.areas.x1.safe)]), ((d, 0), .box [.lit (.int .i64 v.power), eO (lI .u8) m, .lit (.int .i64 m_1), eO (lI .u8) m_2, .lit (.int .i64 m_3)])]) (D := []) (by intro p hp; cases hp), (d, 0), hd _ (Nat.le_refl _), rfl, (by first | rfl | exact hp_new hS0 (by simp [oGdiskDisk, hq_n0, hr_n0, hn1d, hm1d, hu1n0, hw1n0]))⟩
        ·try simp (maxSteps := 4000000) only [go_sem, Prod.mk.injEq, reduceIte, Nat.reduceEqDiff, Nat.reduceAdd, Nat.reduceSub, Nat.reduceMul, Nat.reduceDiv, Nat.reducePow, Nat.reduceLT, Nat.reduceLeDiff, Nat.reduceBEq, Nat.reduceBneDiff, Int.reduceToNat, Int.reduceEq, Int.reduceLE, Int.reduceLT, reduceCtorEq, oGdiskDisk, hq_n0, hr_n0, hn1d, hm1d, hu1n0, hw1n0]
         repeat (with_reducible refine And.intro ?_ ?_; next => first | assumption | trivial | omega | decide | (constructor <;> first | assumption | omega) | (simp [Keep.ok, hp_cons_apply, hset_cons, oGdiskDisk, hq_n0, hr_n0, hn1d, hm1d, hu1n0, hw1n0]; done))
         refine hk _ _ _ ?_
         refine xghost (D := []) ?_ ?_ ?_ ?_
         ·exact (.cons (Sub.of_eq rfl) .nil)
         ·exact HpW.refl
         ·exact (by intro p hp; cases hp)
         ·omega
     ·try simp (maxSteps := 4000000) only [go_sem, Prod.mk.injEq, reduceIte, Nat.reduceEqDiff, Nat.reduceAdd, Nat.reduceSub, Nat.reduceMul, Nat.reduceDiv, Nat.reducePow, Nat.reduceLT, Nat.reduceLeDiff, Nat.reduceBEq, Nat.reduceBneDiff, Int.reduceToNat, Int.reduceEq, Int.reduceLE, Int.reduceLT, reduceCtorEq, oGdiskDisk, hq_n0, hr_n0, hn1d, hm1d, hu1n0, hw1n0]
      repeat (with_reducible refine And.intro ?_ ?_; next => first | assumption | trivial | omega | decide | (constructor <;> first | assumption | omega) | (simp [Keep.ok, hp_cons_apply, hset_cons, oGdiskDisk, hq_n0, hr_n0, hn1d, hm1d, hu1n0, hw1n0]; done))
      refine hk _ _ _ ?_
      refine xghost (D := []) ?_ ?_ ?_ ?_
      ·exact (.cons (Sub.of_eq rfl) (.cons (Sub.of_eq rfl) (.cons (Sub.of_eq rfl) (.cons (Sub.of_eq rfl) (.cons (Sub.of_eq rfl) .nil)))))
      ·exact HpW.refl
      ·exact (by intro p hp; cases hp)
      ·omega
    ·refine xghost (D := []) ?_ ?_ ?_ ?_
     ·exact (.cons (Sub.of_eq rfl) (.cons (Sub.of_eq rfl) (.cons (Sub.of_eq rfl) (.cons (Sub.of_eq rfl) .nil))))
     ·exact HpW.refl
     ·exact (by intro p hp; cases hp)
     ·omega
   ·try simp (maxSteps := 4000000) only [go_sem, Prod.mk.injEq, reduceIte, Nat.reduceEqDiff, Nat.reduceAdd, Nat.reduceSub, Nat.reduceMul, Nat.reduceDiv, Nat.reducePow, Nat.reduceLT, Nat.reduceLeDiff, Nat.reduceBEq, Nat.reduceBneDiff, Int.reduceToNat, Int.reduceEq, Int.reduceLE, Int.reduceLT, reduceCtorEq, oGdiskDisk, hq_n0, hr_n0]
    repeat (with_reducible refine And.intro ?_ ?_; next => first | assumption | trivial | omega | decide | (constructor <;> first | assumption | omega) | (simp [Keep.ok, hp_cons_apply, hset_cons, oGdiskDisk, hq_n0, hr_n0]; done))
    refine hk _ _ _ ?_
    refine xghost (D := []) ?_ ?_ ?_ ?_
    ·exact (.cons (Sub.of_eq rfl) (.cons (Sub.of_eq rfl) (.cons (Sub.of_eq rfl) (.cons (Sub.of_eq rfl) .nil))))
    ·exact HpW.refl
    ·exact (by intro p hp; cases hp)
    ·omega
  ·try simp (maxSteps := 4000000) only [go_sem, Prod.mk.injEq, reduceIte, Nat.reduceEqDiff, Nat.reduceAdd, Nat.reduceSub, Nat.reduceMul, Nat.reduceDiv, Nat.reducePow, Nat.reduceLT, Nat.reduceLeDiff, Nat.reduceBEq, Nat.reduceBneDiff, Int.reduceToNat, Int.reduceEq, Int.reduceLE, Int.reduceLT, reduceCtorEq, oGdiskDisk, hq_n0, hr_n0]
   repeat (with_reducible refine And.intro ?_ ?_; next => first | assumption | trivial | omega | decide | (constructor <;> first | assumption | omega) | (simp [Keep.ok, hp_cons_apply, hset_cons, oGdiskDisk, hq_n0, hr_n0]; done))
   have hcall := s_disk_New_ok (hp [(n0, .box [.lit (.int .i64 dx.power), eO (lI .u8) dx.areas.x0.data, .lit (.int .i64 dx.areas.x0.safe), eO (lI .u8) dx.areas.x1.data, .lit (.int .i64 dx.areas.x1.safe)])] S) power hv
   refine call1_new hcall rfl rfl ?_ ?_
   ·exact (.cons Sub.refl .nil)
   clear hcall
   try simp (maxSteps := 4000000) only [go_sem, Prod.mk.injEq, reduceIte, Nat.reduceEqDiff, Nat.reduceAdd, Nat.reduceSub, Nat.reduceMul, Nat.reduceDiv, Nat.reducePow, Nat.reduceLT, Nat.reduceLeDiff, Nat.reduceBEq, Nat.reduceBneDiff, Int.reduceToNat, Int.reduceEq, Int.reduceLE, Int.reduceLT, reduceCtorEq, oGdiskDisk, hq_n0, hr_n0]
   repeat (with_reducible refine And.intro ?_ ?_; next => first | assumption | trivial | omega | decide | (constructor <;> first | assumption | omega) | (simp [Keep.ok, hp_cons_apply, hset_cons, oGdiskDisk, hq_n0, hr_n0]; done))
   refine hk _ _ _ ?_
   refine xghost (D := []) ?_ ?_ ?_ ?_
   ·exact (.cons (Sub.of_eq rfl) (.cons (Sub.of_eq rfl) (.cons (Sub.of_eq rfl) .nil)))
   ·exact HpW.refl
   ·exact (by intro p hp; cases hp)
   ·omega
 ·try simp (maxSteps := 4000000) only [go_sem, Prod.mk.injEq, reduceIte, Nat.reduceEqDiff, Nat.reduceAdd, Nat.reduceSub, Nat.reduceMul, Nat.reduceDiv, Nat.reducePow, Nat.reduceLT, Nat.reduceLeDiff, Nat.reduceBEq, Nat.reduceBneDiff, Int.reduceToNat, Int.reduceEq, Int.reduceLE, Int.reduceLT, reduceCtorEq, oGdiskDisk, hq_n0, hr_n0]
  repeat (with_reducible refine And.intro ?_ ?_; next => first | assumption | trivial | omega | decide | (constructor <;> first | assumption | omega) | (simp [Keep.ok, hp_cons_apply, hset_cons, oGdiskDisk, hq_n0, hr_n0]; done))
  refine hk _ _ _ ?_
  refine xghost (D := []) ?_ ?_ ?_ ?_
  ·exact (.cons (Sub.of_eq rfl) (.cons (Sub.of_eq rfl) (.cons (Sub.of_eq rfl) .nil)))
  ·exact HpW.refl
  ·exact (by intro p hp; cases hp)
  ·omega
end
end Go.Proofs.Ythdmpdagkccphaa
