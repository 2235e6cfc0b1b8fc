/- The contract of conf.Check; conditions: none. -/
import Derived.Test.YtejlgalnkblndaaPr2
namespace Go.Proofs.Ytejlgalnkblndaa
open Go Go.Al
set_option maxRecDepth 10000
set_option linter.unusedSimpArgs false
structure Cf where
  u : Int
  r : Int
  p : Int
  w : Int
  e : Int
  t : Int
  s : List Int
def Cf.av (c : Cf) (own : Own) : AV := .agg [I c.u, I c.r, I c.p, I c.w, I c.e, I c.t, .slice own 1 (c.s.map fun b => .lit (.int .u8 b))]
def Cf.nums (c : Cf) : List Int := [0, c.u, 2, 0, c.r, c.u, 1, c.p, 8, 1, c.w, 8, 1, c.e, c.w, 1, c.t, 1000, 0, c.s.length, 64]
def Cf.ok (c : Cf) : Bool := btw c.nums
theorem check_ac (S : AHeap) (own : Own) (c : Cf) (ha : own.alive S) :
    AC Try.prog n_conf_Check [c.av own] S fun r S' => r = .ret (I (if c.ok then 0 else 60)) ∧ S' = S := by
  refine AC_of tok mixed fits_conf_Check fun d hd => ?_
  unfold c_conf_Check
  have h0 : S (d, 0) = none := hd _ (Nat.le_refl _)
  have h1 : S (d, 1) = none := hd _ (Nat.le_refl _)
  simp [go_sem, Cf.av]
  refine LW_seq_reg fun k hk => ?_
  simp [go_sem]
  refine hk _ _ _ ?_
  clear hk k
  simp [go_sem]
  refine LW_seq (LW_seq_reg fun k hk => ?_)
  simp [go_sem]
  refine (between_ac _ _ _ c.nums (by simp [Cf.nums]) (by simp [go_sem]) (by simp [Cf.nums])).mono ?_
  rintro _ _ ⟨rfl, rfl⟩
  simp [go_sem]
  refine hk _ _ _ ?_
  clear hk k
  simp [go_sem]
  have hb : btw c.nums = c.ok := rfl
  rw [hb]
  have hL : ∀ (x y : AObj), Less S ((S.set (d, 0) x).set (d, 1) y) := fun x y => ((Less.refl S).set h0 x).set (by simp [go_sem, h1]) y
  refine LW_cond (b := !c.ok) (by simp [go_sem]) (fun h => ?_) (fun h => ?_)
  · refine LW_seq_reg fun k hk => ?_
    simp [go_sem]
    refine hk _ _ _ (LW_ret ?_)
    clear hk k
    simp [go_sem, FPost]
    have h : c.ok = false := by simpa using h
    exact ⟨hL _ _, by simp [h]⟩
  · refine LW_skip ?_
    simp [go_sem]
    refine LW_seq_reg fun k hk => ?_
    simp [go_sem]
    refine hk _ _ _ (LW_ret ?_)
    clear hk k
    simp [go_sem, FPost]
    have h : c.ok = true := by simpa using h
    exact ⟨hL _ _, by simp [h]⟩
end Go.Proofs.Ytejlgalnkblndaa
