/- The contract of conf.between: it says whether each middle number lies between its neighbours; conditions: fewer than 2^40 numbers. -/
import Derived.Test.YtejlgalnkblndaaCo0
namespace Go.Proofs.Ytejlgalnkblndaa
open Go Go.Al
set_option linter.unusedSimpArgs false
set_option maxRecDepth 10000
theorem wrap64 {n : Int} (h : -2^63 ≤ n) (h' : n < 2^63) : IntKind.i64.wrap n = n := by
  rw [IntKind.wrap_i64]; omega
theorem hd1 {xs : List Int} {i : Nat} (h : i < xs.length) : (List.take 1 (List.drop i (List.map I xs))).head?.getD AV.any = I (xs.getD i 0) := by
  rw [List.head?_take, List.head?_drop]; simp [h]
def btw : List Int → Bool
  | a :: b :: c :: r => if b < a ∨ b > c then false else btw r
  | _ => true
theorem drop3 {xs : List Int} {i : Nat} (h : i + 2 < xs.length) : xs.drop i = xs.getD i 0 :: xs.getD (i + 1) 0 :: xs.getD (i + 2) 0 :: xs.drop (i + 3) := by
  rw [List.drop_eq_getElem_cons (by omega), List.drop_eq_getElem_cons (by omega), List.drop_eq_getElem_cons (by omega)]
  simp [List.getD, show i < xs.length by omega, show i + 1 < xs.length by omega, h]
theorem btw_short : ∀ {xs : List Int}, xs.length ≤ 2 → btw xs = true
  | [], _ => rfl
  | [_], _ => rfl
  | [_, _], _ => rfl
  | _ :: _ :: _ :: _, h => by simp at h
theorem between_ac (S : AHeap) (own : Own) (cs : List AV) (xs : List Int) (hcs : cs = xs.map I) (ha : own.alive S) (hlen : xs.length < 2 ^ 40) :
    AC Try.prog n_conf_between [.slice own 1 cs] S fun r S' => r = .ret (B (btw xs)) ∧ S' = S := by
  subst hcs
  refine AC_of tok mixed fits_conf_between fun d hd => ?_
  unfold c_conf_between
  simp [go_sem]
  refine LW_seq_reg fun k hk => ?_
  simp [go_sem]
  refine hk _ _ _ ?_
  clear hk k
  simp [go_sem]
  refine LW_seq (LW_seq_reg fun k hk => ?_)
  simp [go_sem]
  refine hk _ _ _ ?_
  clear hk k
  simp [go_sem]
  refine LW_block (LW_loop (fun n sl S' => ∃ i : Nat, n = xs.length - i ∧ i ≤ xs.length + 2 ∧ sl = [(0, .slice own 1 (xs.map I)), (3, I i)] ∧ S' = S ∧ btw xs = btw (xs.drop i)) _ ⟨0, rfl, by omega, rfl, rfl, rfl⟩ ?_)
  rintro n sl S' d' hd' hf ⟨i, rfl, hi0, rfl, rfl, hi⟩
  refine LW_seq (LW_seq_reg fun k hk => ?_)
  simp [go_sem]
  refine hk _ _ _ ?_
  clear hk k
  simp [go_sem]
  have w2 : IntKind.i64.wrap (↑i + 2) = ((i + 2 : Nat) : Int) := by rw [wrap64 (by omega) (by omega)]; rfl
  rw [w2]
  refine LW_cond (by simp [go_sem]; rfl) (fun hc => ?_) (fun hc => ?_)
  · have hc : i + 2 < xs.length := by simp at hc; omega
    refine LW_skip ?_
    simp [go_sem]
    refine LW_seq (LW_block (LW_seq_drw fun k hk => ?_))
    have w1 : IntKind.i64.wrap (↑i + 1) = ((i + 1 : Nat) : Int) := by rw [wrap64 (by omega) (by omega)]; rfl
    have e0 := hd1 (xs := xs) (i := i) (by omega)
    have e1 := hd1 (xs := xs) (i := i + 1) (by omega)
    have e2 := hd1 (xs := xs) (i := i + 2) (by omega)
    simp (maxSteps := 1000000) [go_sem, w1, w2, e0, e1, e2, ha]
    refine ⟨by omega, by omega, by omega, by omega, fun h1 => ⟨by omega, by omega, by omega, by omega, hk _ _ _ ?_⟩, fun h1 => hk _ _ _ ?_⟩ <;> clear hk k <;> simp [go_sem]
    · refine LW_cond (by simp [go_sem]; rfl) (fun h => ?_) (fun h => ?_)
      · refine LW_seq_reg fun k hk => ?_
        simp [go_sem]
        refine hk _ _ _ (LW_ret ?_)
        clear hk k
        simp [go_sem, FPost]
        refine ⟨Less.refl _, ?_⟩
        rw [hi, drop3 hc]
        simp only [btw, List.getD_eq_getElem?_getD]
        rw [if_pos (.inr (by simpa using h))]
      · refine LW_skip ?_
        simp [go_sem]
        refine LW_reg fun k hk => ?_
        simp [go_sem]
        refine hk _ _ _ ?_
        clear hk k
        simp [go_sem]
        refine ⟨_, ?_, _, Less.refl _, i + 3, rfl, by omega, ?_, rfl, ?_⟩
        · omega
        · rw [wrap64 (by omega) (by omega)]; rfl
        · rw [hi, drop3 hc]
          simp only [btw, List.getD_eq_getElem?_getD]
          have h := of_decide_eq_false h
          rw [if_neg (by omega)]
    · refine LW_cond (by simp [go_sem]; rfl) (fun h => ?_) (fun h => by simp at h)
      refine LW_seq_reg fun k hk => ?_
      simp [go_sem]
      refine hk _ _ _ (LW_ret ?_)
      clear hk k
      simp [go_sem, FPost]
      refine ⟨Less.refl _, ?_⟩
      rw [hi, drop3 hc]
      simp only [btw, List.getD_eq_getElem?_getD]
      rw [if_pos (.inl (by omega))]
  · refine LW_exit ?_
    simp [go_sem]
    refine LW_seq_reg fun k hk => ?_
    simp [go_sem]
    refine hk _ _ _ (LW_ret ?_)
    clear hk k
    simp [go_sem, FPost]
    have hc := of_decide_eq_false hc
    exact ⟨Less.refl _, by rw [hi, btw_short (by simp; omega)]⟩
end Go.Proofs.Ytejlgalnkblndaa
