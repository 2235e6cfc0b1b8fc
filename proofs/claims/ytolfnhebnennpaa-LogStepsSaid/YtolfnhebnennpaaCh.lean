import Derived.Test.YtolfnhebnennpaaG
import Derived.RangeFuncBox
import Derived.RangeFuncLeaves
import Derived.Shelf.Abstract
import Derived.WalkKit
import Derived.OwnWalkIn
import Derived.TacticsInMore
import Derived.LoopNIn
import Derived.LoopIn
import Derived.RegionIn
set_option linter.unusedVariables false
set_option linter.unusedSimpArgs false
namespace Go.Proofs.Ytolfnhebnennpaa
open Go Go.Al Go.RowKit Go.Shelf
attribute [local go_sem] Oper.semAt_some
theorem cdiv (len n k : Nat) (hn : 0 < n) : k < (len + n - 1) / n ↔ k * n < len := by
 rw [Nat.lt_div_iff_mul_lt hn]
 constructor
 ·intro h
  by_cases h2 : k * n < len
  ·exact h2
  ·exfalso
   have : n * k = k * n := Nat.mul_comm _ _
   omega
 ·intro h
  have : n * k = k * n := Nat.mul_comm _ _
  omega
set_option maxRecDepth 100000 in
set_option maxHeartbeats 4000000 in
theorem chunk_in (l Bs Bn os on b off len cap n : Nat) (ad : Option Addr) (had : 0 < len → ad = some ⟨b, off, none⟩) (hn : 0 < n) (hn2 : n < 2 ^ 32) (hlen : len < 2 ^ 62) (hcap : len ≤ cap) {Kp : World → World → Prop} (J Jx : List Nat → World → Prop)
  (hY : ∀ pre x W, J pre W → pre.length < (len + n - 1) / n → x < (len + n - 1) / n → YieldAt Fence.wide 0 Try.prog l #[.slice (some ⟨b, off + x * n, none⟩) (min n (len - x * n)) (min n (len - x * n))] W fun e W' =>
   (e = .returned (.bool true) ∧ J (pre ++ [x]) W' ∧ Kp W W') ∨ (e = .returned (.bool false) ∧ Jx (pre ++ [x]) W'))
  (W : World) (hKs : ∀ A, Kp W A → A.cell? ⟨Bs, os, none⟩ = some (.slice ad len cap) ∧ A.cell? ⟨Bn, on, none⟩ = some (.int .i64 n)) (hKt : ∀ A B, Kp W A → Kp A B → Kp W B) (hKd : ∀ A : World, Kp A A.drew) (hJd : ∀ s A, J s A → J s A.drew) (hK0 : Kp W W) (h0 : J [] W) :
  CallsIn Fence.wide 1 Try.prog 86 #[.func (.yield l) #[] #[], .pointer (some ⟨Bs, os, none⟩), .pointer (some ⟨Bn, on, none⟩)] W fun e W' => (∃ v, e = .returned v) ∧
   (J (List.range ((len + n - 1) / n)) W' ∨ ∃ pre, Jx pre W') := by
 refine callsIn_of_wp Try.func86 rfl trivial ?_ rfl
 simp only [Try.ntmps86, List.size_toArray, List.length_cons, List.length_nil, Nat.reduceAdd, Nat.reduceSub, Array.replicate_succ, Array.replicate_zero, List.push_toArray, List.append_toArray, List.nil_append, List.cons_append]
 gi_wp2
 gi_loopw [4] (fun i wr => ∃ k : Nat, k ≤ (len + n - 1) / n ∧ i = .int .i64 ((k * n : Nat) : Int) ∧ J (List.range k) wr ∧ Kp W wr)
  (fun i _ => len + n - (intOf i).toNat)
 case atStart => exact ⟨0, Nat.zero_le _, by simp, h0, hK0⟩
 case round =>
  obtain ⟨k, hk, rfl, hJs, hnx⟩ := hrel
  obtain ⟨hc1, hc2⟩ := hKs _ hnx
  by_cases hlt : k * n < len
  ·have hk2 := (cdiv len n k hn).2 hlt
   obtain rfl := had (by omega)
   have hlti : ((k * n : Nat) : Int) < (len : Int) := by exact_mod_cast hlt
   gi_wp2
   gi_region
   have hm : (if len - k * n < n then ((len - k * n : Nat) : Int) else (n : Int)) = ((min n (len - k * n) : Nat) : Int) := by
    split
    ·rw [Nat.min_eq_right (by omega)]
    ·rw [Nat.min_eq_left (by omega)]
   rw [hm]
   have he1 : min n (len - k * n) ≤ n := Nat.min_le_left _ _
   have he2 : k * n + min n (len - k * n) ≤ len := by have := Nat.min_le_right n (len - k * n); omega
   have hnx2 : Kp W wr.drew := hKt _ _ hnx (hKd _)
   obtain ⟨hd1, hd2⟩ := hKs _ hnx2
   obtain ⟨fn, tmps, assign, body, hy, hR⟩ := hY _ k wr.drew (hJd _ _ hJs) (by simpa using hk2) hk2
   generalize hE : min n (len - k * n) = E at *
   have hEi : ((k * n : Nat) : Int) + (E : Int) = ((k * n + E : Nat) : Int) := by simp
   gi_wp2
   refine hR.mono ?_
   rintro e W3 (⟨rfl, hJ3, hk3⟩ | ⟨rfl, hJx3⟩)
   ·obtain ⟨hc3, hc4⟩ := hKs _ (hKt _ _ hnx2 hk3)
    gi_wp2
    go_roundw
    case rel => exact ⟨k + 1, hk2, by push_cast; rw [Int.add_mul, Int.one_mul], by rw [List.range_succ]; exact hJ3, hKt _ _ hnx2 hk3⟩
    case measure => simp [intOf]; omega
   ·gi_wp2
    refine bodyPost_ret (results_none rfl _ _ _) rfl ?_
    exact ⟨⟨_, rfl⟩, .inr ⟨_, hJx3⟩⟩
  ·obtain rfl : k = (len + n - 1) / n := by
    have := (cdiv len n k hn)
    omega
   have hlti : ¬ (((((len + n - 1) / n) * n : Nat) : Int) < (len : Int)) := by exact_mod_cast hlt
   gi_wp2
   go_end0
   exact ⟨⟨_, rfl⟩, .inl hJs⟩
theorem chunks_len {α : Type} (n : Nat) (xs : List α) : (chunks n xs).length = (xs.length + n - 1) / n := by simp [chunks]
theorem chunks_get {α : Type} (n : Nat) (xs : List α) (i : Nat) (h : i < (chunks n xs).length) : (chunks n xs)[i] = (xs.drop (i * n)).take n := by simp [chunks]
def chΩ : FuncId → Option Ty := fun f => if f = 86 then some (.int .u8) else none
theorem chok : ChOk Try.prog chΩ := by
 intro f e he n xs hn0 hn1 hlen
 simp only [chΩ] at he
 split at he <;> try (cases he; done)
 rename_i hf
 subst hf
 cases he
 intro K S w v hs hv
 simp only [SimV] at hv
 obtain ⟨v1, v2, rfl, h1, h2⟩ := hv
 obtain ⟨m, hm⟩ : ∃ m : Nat, n = m := ⟨n.toNat, by omega⟩
 subst hm
 have hm0 : 0 < m := by omega
 have hm1 : m < 2 ^ 32 := by omega
 obtain ⟨l1⟩ := v1
 obtain ⟨l2⟩ := v2
 cases l1 with
 | cons => simp [SimL] at h1
 | nil =>
 cases l2 with
 | nil => simp [SimL] at h2
 | cons p1 l2 =>
 cases l2 with
 | nil => simp [SimL] at h2
 | cons p2 l2 =>
 cases l2 with
 | cons => simp [SimL] at h2
 | nil =>
 simp only [SimL, SimV, SimC, and_true, Own.tag, eS] at h2
 obtain ⟨⟨b1, o1, rfl, u1, k1, s1⟩, b2, o2, rfl, u2, k2, rfl⟩ := h2
 obtain ⟨ad, len, cap, rfl, g1, g2, g3, g4⟩ := s1
 have hsz : (Ty.int IntKind.u8).lay.sz = 1 := rfl
 have hfl : (flat (Ty.int IntKind.u8).lay xs).length = xs.length := by rw [flat_length, hsz, Nat.mul_one]
 have hlx : len = xs.length := by rw [hfl, hsz, Nat.mul_one] at g1; exact g1
 subst hlx
 have hel : ((chunks ((m : Int).toNat) xs).map (eS (Ty.int IntKind.u8).lay)).length = (xs.length + m - 1) / m := by rw [List.length_map, chunks_len]; rfl
 have hm' : (m : Int).toNat = m := rfl
 obtain ⟨b, off, had, hsim⟩ : ∃ b off, (0 < xs.length → ad = some ⟨b, off, none⟩) ∧ SimC K .perm b off (flat (Ty.int IntKind.u8).lay xs) := by
  rcases g4 with ⟨g4, -⟩ | ⟨b, off, g4, g5, -⟩
  ·have : xs.length = 0 := by rw [g4] at hfl; exact hfl.symm
   exact ⟨0, 0, fun h => by omega, by rw [g4]; simp [SimC]⟩
  ·exact ⟨b, off, fun _ => g4, g5⟩
 refine ⟨86, _, fun i => .slice (some ⟨b, off + i.val * m, none⟩) (min m (xs.length - i.val * m)) (min m (xs.length - i.val * m)), rfl, by kernel_rfl, fun i => ?_, ?_⟩
 ·have hi : i.val < (xs.length + m - 1) / m := Nat.lt_of_lt_of_eq i.isLt hel
  have hlt := (cdiv xs.length m i.val hm0).1 hi
  have hg : ((chunks ((m : Int).toNat) xs).map (eS (Ty.int IntKind.u8).lay))[i] = eS (Ty.int IntKind.u8).lay ((xs.drop (i.val * m)).take m) := by
   show ((chunks ((m : Int).toNat) xs).map (eS (Ty.int IntKind.u8).lay))[i.val] = _
   rw [List.getElem_map, chunks_get]; rfl
  rw [hg]
  have hle : ((xs.drop (i.val * m)).take m).length = min m (xs.length - i.val * m) := by simp
  simp only [eS, SimV]
  refine ⟨_, _, _, rfl, ?_, Nat.le_refl _, by rw [hsz]; decide, .inr ⟨b, off + i.val * m, rfl, ?_, trivial⟩⟩
  ·rw [flat_length, hle]
  ·have h1 := flat_drop (L := (Ty.int IntKind.u8).lay) (xs := xs) (i.val * m)
   have h2 := flat_take (L := (Ty.int IntKind.u8).lay) (xs := xs.drop (i.val * m)) m
   rw [hsz, Nat.mul_one] at h1 h2
   rw [← h2, ← h1]
   exact SimC_take (SimC_drop hsim (i.val * m) (by rw [hfl]; omega)) m
 ·intro l J Jx W hW hJ hJx hY h0
  have hper : ∀ b o v, K.known b o .perm v → W.cell? ⟨b, o, none⟩ = some v := by
   intro b o v hk
   have := hs.perm b o v hk
   have hlt : b < w.heap.size := by
    refine Nat.lt_of_not_le fun hge => ?_
    simp only [World.cell?] at this
    rw [Array.getElem?_eq_none hge] at this
    simp at this
   exact (hW.cell (p := ⟨b, o, none⟩) hlt).trans this
  let nat : List (Fin ((chunks ((m : Int).toNat) xs).map (eS (Ty.int IntKind.u8).lay)).length) → List Nat := fun l => l.map (·.val)
  have hgd : ∀ A : World, A.grownBy A.drew none := fun A => ⟨rfl, rfl, rfl, Nat.le_refl _, fun _ _ _ => rfl⟩
  refine (chunk_in l b1 b2 o1 o2 b off xs.length cap m ad had hm0 hm1 hlen g2 (Kp := KpP K) (fun pre A => ∃ pre', nat pre' = pre ∧ J pre' A) (fun pre A => ∃ pre', nat pre' = pre ∧ Jx pre' A) ?_ W
   (fun A hA => ⟨hA b1 o1 _ k1 (hper _ _ _ k1), hA b2 o2 _ k2 (hper _ _ _ k2)⟩) (fun A B h k b o v q r => k b o v q (h b o v q r)) (fun A b o v q r => r) ?_ (fun b o v q r => r) ⟨[], rfl, h0⟩).mono ?_
  ·rintro pre x A ⟨pre', rfl, hj⟩ hl hx
   have hx' : x < ((chunks ((m : Int).toNat) xs).map (eS (Ty.int IntKind.u8).lay)).length := by rw [hel]; exact hx
   obtain ⟨fn, tmps, assign, body, hy, hR⟩ := hY pre' ⟨x, hx'⟩ A hj (Nat.lt_of_lt_of_eq (by simpa [nat] using hl) hel.symm)
   refine ⟨fn, tmps, assign, body, hy, hR.mono ?_⟩
   rintro e B (⟨rfl, g5, g6⟩ | ⟨rfl, g5⟩)
   ·exact .inl ⟨rfl, ⟨_, by simp [nat], g5⟩, g6⟩
   ·exact .inr ⟨rfl, ⟨_, by simp [nat], g5⟩⟩
  ·rintro s A ⟨pre', rfl, hj⟩
   exact ⟨pre', rfl, hJ _ _ _ none hj (hgd A) (fun r e => nomatch e)⟩
  ·rintro e A ⟨he, h⟩
   refine ⟨he, ?_⟩
   rcases h with ⟨pre', h3, h4⟩ | ⟨pre, pre', rfl, h4⟩
   ·refine .inl ⟨pre', ?_, h4⟩
    apply List.ext_getElem
    ·have := congrArg List.length h3
     simpa [nat, hel, chunks_len] using this
    ·intro i h5 h6
     have h7 : (nat pre')[i]'(by simpa [nat] using h5) = i := by simp [h3]
     apply Fin.ext
     simpa [nat] using h7
   ·exact .inr ⟨pre', trivial, h4⟩
set_option maxHeartbeats 1000000 in
theorem chunk_run : ChunkOk Try.prog 84 86 37 3 := ⟨by kernel_rfl, fun a len cap n w hn => by
 have hn1 : ¬ n < 1 := by omega
 go_enter Try.func84, Try.ntmps84
 go_wp2
 go_ret
 exact ⟨rfl, rfl⟩⟩
def c_84 (Φ : Nat → FuncId × List AV × List AV) : Cal Try.prog Φ 84 id := calChunk chunk_run (.int .u8)
end Go.Proofs.Ytolfnhebnennpaa
