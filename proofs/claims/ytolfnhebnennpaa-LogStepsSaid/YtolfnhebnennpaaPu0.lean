/- Plain laws. -/
import Derived.Test.YtolfnhebnennpaaW
import Derived.Test.YtolfnhebnennpaaY0
set_option linter.unusedVariables false
set_option linter.unusedSimpArgs false
set_option maxRecDepth 100000
noncomputable section
namespace Go.Proofs.Ytolfnhebnennpaa
open Go Go.Al
def itn {σ : Type} (f : Nat → σ → σ) : Nat → σ → σ
 | 0, s => s
 | n + 1, s => f n (itn f n s)
def rot (v n : Int) : Int := bitOr .u32 (shrI .u32 v n) (shlI .u32 v (32 - n))
def xr (a b : Int) : Int := bitXor .u32 a b
def an (a b : Int) : Int := bitAnd .u32 a b
def ad (a b : Int) : Int := IntKind.u32.wrap (a + b)
def wd (b : List Int) (i : Nat) : Int :=
 bitOr .u32 (bitOr .u32 (bitOr .u32 (shlI .u32 (IntKind.u32.wrap (b.getD (4 * i) 0)) 24) (shlI .u32 (IntKind.u32.wrap (b.getD (4 * i + 1) 0)) 16)) (shlI .u32 (IntKind.u32.wrap (b.getD (4 * i + 2) 0)) 8)) (IntKind.u32.wrap (b.getD (4 * i + 3) 0))
def sg (v : Int) (a b c : Int) : Int := xr (xr (rot v a) (rot v b)) (rot v c)
def sc (v : Int) (a b c : Int) : Int := xr (xr (rot v a) (rot v b)) (shrI .u32 v c)
abbrev gv {n : Nat} (w : Vector Int n) (i : Nat) : Int := w.toList.getD i 0
def sched (b : List Int) : Vector Int 64 :=
 itn (fun i w => vset w (i + 16) (ad (ad (ad (gv w i) (sc (gv w (i + 1)) 7 18 3)) (gv w (i + 9))) (sc (gv w (i + 14)) 17 19 10))) 48 (itn (fun i w => vset w i (wd b i)) 16 (Vector.replicate 64 0))
def kk : Vector Int 64 := match s_88 () with
 | some (v, _) => v
 | none => Vector.replicate 64 0
def rnd (w : Vector Int 64) (i : Nat) (v : Vector Int 8) : Vector Int 8 :=
 let x := ad (ad (ad (ad (gv v 7) (sg (gv v 4) 6 11 25)) (xr (an (gv v 4) (gv v 5)) (an (xr (gv v 4) 4294967295) (gv v 6)))) (gv kk i)) (gv w i)
 let y := ad (sg (gv v 0) 2 13 22) (xr (xr (an (gv v 0) (gv v 1)) (an (gv v 0) (gv v 2))) (an (gv v 1) (gv v 2)))
 vofl 7 0 [ad x y, gv v 0, gv v 1, gv v 2, ad (gv v 3) x, gv v 4, gv v 5, gv v 6]
def take (b : List Int) (s : Vector Int 8) : Vector Int 8 :=
 let v := itn (rnd (sched b)) 64 s
 itn (fun i t => vset t i (ad (gv t i) (gv v i))) 8 s
def iv : Vector Int 8 := vofl 7 0 [1779033703, 3144134277, 1013904242, 2773480762, 1359893119, 2600822924, 528734635, 1541459225]
def zs (n : Nat) : Nat := (119 - n % 64) % 64
def be8 (n : Nat) : List Int := (List.range 8).map fun i => ((8 * n / 2 ^ (56 - 8 * i) % 256 : Nat) : Int)
def padd (m : List Int) : List Int := m ++ [128] ++ List.replicate (zs m.length) 0 ++ be8 m.length
def b4 (n : Int) : List Int := [IntKind.u8.wrap (shrI .u32 n 24), IntKind.u8.wrap (shrI .u32 n 16), IntKind.u8.wrap (shrI .u32 n 8), IntKind.u8.wrap n]
def outb (s : Vector Int 8) : List Int := s.toList.flatMap b4
def sha (m : List Int) : List Int := outb ((chunks 64 (padd m)).foldl (fun s b => take b s) iv)
theorem gg_t {α : Type} {p : Prop} {_ : Decidable p} {m : Option α} (h : p) : gg p m = m := gg_eq.trans (gd_eq h)
theorem bd_s {α β : Type} {v : α} {f : α → Option β} : bd (some v) f = f v := rfl
theorem mr_s {σ A : Type} {a : A} : (mr (some a) : Option (σ ⊕ A)) = some (.inr a) := rfl
theorem lp_upto {σ A : Type} {body : σ → Option (σ ⊕ A)} (f : Nat → σ) (n : Nat) {a : A} {s : σ} (h0 : s = f 0) (hs : ∀ i, i < n → body (f i) = some (.inl (f (i + 1)))) (he : body (f n) = some (.inr a)) : lp s body = some a := by
 subst h0; exact loop_upto f n hs he 0 (Nat.zero_le _)
theorem w64 {n : Int} {m : Nat} (h : n = (m : Int)) (h' : m < 2 ^ 62) : IntKind.i64.wrap n = (m : Int) := by rw [h]; exact wrap64 (by omega) (by omega)
theorem itn_succ {σ : Type} (f : Nat → σ → σ) (n : Nat) (s : σ) : itn f (n + 1) s = f n (itn f n s) := rfl
theorem bitOr_comm (k : IntKind) (a b : Int) : bitOr k a b = bitOr k b a := by unfold bitOr; rw [BitVec.or_comm]
def Trn (n : Int) : Prop := n ∈ [(7 : Int), 18, 17, 19, 6, 11, 25, 2, 13, 22]
theorem s28_eq (x n : Int) (h : Trn n) : s_91 (x, IntKind.i64.wrap (0 - n), ()) = some (rot x n, ()) := by
 simp only [Trn, List.mem_cons, List.not_mem_nil, or_false] at h
 unfold s_91 rot
 rw [bitOr_comm]
 rcases h with rfl | rfl | rfl | rfl | rfl | rfl | rfl | rfl | rfl | rfl <;> kernel_rfl
theorem s21_eq (x n : Int) (h : Trn n) : s_82 (x, n, ()) = some (rot x n, ()) := by
 simp only [Trn, List.mem_cons, List.not_mem_nil, or_false] at h
 unfold s_82 rot
 rcases h with rfl | rfl | rfl | rfl | rfl | rfl | rfl | rfl | rfl | rfl <;> kernel_rfl
theorem s26_eq (x : Int) (l : List Int) (h : ∀ n ∈ l, Trn n) (hl : l.length < 100) : s_89 (x, l, ()) = some (l.foldl (fun s n => bitXor .u32 s (rot x n)) 0, ()) := by
 unfold s_89
 try simp only [nl]
 refine lp_upto (fun i => ((l.take i).foldl (fun s n => bitXor .u32 s (rot x n)) 0, (i : Int), ())) l.length rfl (fun i hi => ?_) ?_
 ·have hg : l.getD i 0 = l[i] := by simp [List.getD, hi]
  have ht : l.take (i + 1) = l.take i ++ [l[i]] := by rw [List.take_succ_eq_append_getElem hi]
  have hlt : decide ((i : Int) < (l.length : Int)) = true := by simpa using hi
  simp only [hlt, if_true, Int.toNat_natCast]
  rw [gg_t (by omega), hg, s28_eq x _ (h _ (List.getElem_mem hi)), bd_s, w64 (m := i + 1) (by omega) (by omega), ht, List.foldl_append]
  rfl
 ·have hlt : decide ((l.length : Int) < (l.length : Int)) = false := by simp
  simp only [hlt]
  rw [List.take_length]
  rfl
theorem u32_wrap (n : Nat) (h : n < 2 ^ 32) : IntKind.u32.wrap (n : Int) = n := by
 rw [IntKind.wrap_u32]; omega
theorem xor0 {n : Int} (h : 0 ≤ n) (h' : n < 2 ^ 32) : bitXor .u32 0 n = n := by
 obtain ⟨m, rfl⟩ := Int.eq_ofNat_of_zero_le h
 unfold bitXor
 have h1 : BitVec.ofInt IntKind.u32.bits (0 : Int) ^^^ BitVec.ofInt IntKind.u32.bits (m : Int) = BitVec.ofNat 32 m := by
  show BitVec.ofInt 32 (0 : Int) ^^^ BitVec.ofInt 32 (m : Int) = _
  rw [BitVec.ofInt_natCast]
  simp
 have h2 : (BitVec.ofInt IntKind.u32.bits (0 : Int) ^^^ BitVec.ofInt IntKind.u32.bits (m : Int)).toNat = m := by
  have := congrArg BitVec.toNat h1
  rw [this]
  show (BitVec.ofNat 32 m).toNat = m
  rw [BitVec.toNat_ofNat, Nat.mod_eq_of_lt (by omega)]
 rw [h2]
 exact u32_wrap m (by omega)
theorem bitOr_rng (a b : Int) : 0 ≤ bitOr .u32 a b ∧ bitOr .u32 a b < 2 ^ 32 := by
 unfold bitOr
 have := (BitVec.ofInt IntKind.u32.bits a ||| BitVec.ofInt IntKind.u32.bits b).isLt
 have h2 : (BitVec.ofInt IntKind.u32.bits a ||| BitVec.ofInt IntKind.u32.bits b).toNat < 2 ^ 32 := this
 rw [u32_wrap _ h2]
 omega
theorem xor0_rot (x n : Int) : bitXor .u32 0 (rot x n) = rot x n := xor0 (bitOr_rng _ _).1 (bitOr_rng _ _).2
theorem turned2 (x a b : Int) (ha : Trn a) (hb : Trn b) : s_89 (x, [a, b], ()) = some (xr (rot x a) (rot x b), ()) := by
 rw [s26_eq x _ (by simp [ha, hb]) (by simp)]
 simp only [List.foldl_cons, List.foldl_nil, xor0_rot, xr]
theorem turned3 (x a b c : Int) (ha : Trn a) (hb : Trn b) (hc : Trn c) : s_89 (x, [a, b, c], ()) = some (sg x a b c, ()) := by
 rw [s26_eq x _ (by simp [ha, hb, hc]) (by simp)]
 simp only [List.foldl_cons, List.foldl_nil, xor0_rot, xr, sg]
theorem trn (n : Int) (h : [(7 : Int), 18, 17, 19, 6, 11, 25, 2, 13, 22].contains n = true) : Trn n := by simpa [Trn] using h
theorem s27_eq (b : List Int) (i : Nat) (h : 4 * i + 4 ≤ b.length) : s_90 (b.drop (4 * i), ()) = some (wd b i, ()) := by
 unfold s_90 wd
 have h1 : (b.drop (4 * i)).length = b.length - 4 * i := List.length_drop
 have hg : ∀ j, (b.drop (4 * i)).getD j 0 = b.getD (4 * i + j) 0 := fun j => by simp [List.getD, List.getElem?_drop]
 simp only [h1, hg]
 rw [gg_t (by omega), gg_t (by omega), gg_t (by omega), gg_t (by omega)]
 rfl
theorem s24_eq (b : List Int) (h : 64 ≤ b.length) : s_87 (b, ()) = some (sched b, ()) := by
 unfold s_87
 try simp only [nl]
 refine lp_upto (fun i => ((i : Int), itn (fun i w => vset w i (wd b i)) i (Vector.replicate 64 0), ())) 16 rfl (fun i hi => ?_) ?_
 ·have hlt : decide ((i : Int) < 16) = true := by simp; omega
  have e1 : IntKind.i64.wrap (4 * (i : Int)) = ((4 * i : Nat) : Int) := w64 (by omega) (by omega)
  simp only [hlt, if_true, e1, Int.toNat_natCast]
  rw [gg_t (by omega), s27_eq b i (by omega), bd_s, gg_t (by omega), gg_t (by omega), w64 (m := i + 1) (by omega) (by omega)]
  rfl
 ·have hlt : decide (((16 : Nat) : Int) < 16) = false := rfl
  simp only [hlt]
  refine congrArg mr (a₂ := some (sched b, ())) (lp_upto (fun i => (((i + 16 : Nat) : Int), itn (fun i w => vset w (i + 16) (ad (ad (ad (gv w i) (sc (gv w (i + 1)) 7 18 3)) (gv w (i + 9))) (sc (gv w (i + 14)) 17 19 10))) i (itn (fun i w => vset w i (wd b i)) 16 (Vector.replicate 64 0)), ())) 48 rfl (fun i hi => ?_) ?_)
  ·have hlt : decide (((i + 16 : Nat) : Int) < 64) = true := by simp; omega
   have e1 : IntKind.i64.wrap (((i + 16 : Nat) : Int) - 15) = ((i + 1 : Nat) : Int) := w64 (by omega) (by omega)
   have e2 : IntKind.i64.wrap (((i + 16 : Nat) : Int) - 2) = ((i + 14 : Nat) : Int) := w64 (by omega) (by omega)
   have e3 : IntKind.i64.wrap (((i + 16 : Nat) : Int) - 16) = ((i : Nat) : Int) := w64 (by omega) (by omega)
   have e4 : IntKind.i64.wrap (((i + 16 : Nat) : Int) - 7) = ((i + 9 : Nat) : Int) := w64 (by omega) (by omega)
   simp only [hlt, if_true, e1, e2, Int.toNat_natCast, Vector.length_toList]
   rw [gg_t (by omega), gg_t (by omega), gg_t (by omega), gg_t (by omega), bd_s]
   simp only [e3, e4, Int.toNat_natCast, Vector.length_toList]
   rw [gg_t (by omega), gg_t (by omega), gg_t (by omega), gg_t (by omega), turned2 _ _ _ (trn _ rfl) (trn _ rfl), bd_s, turned2 _ _ _ (trn _ rfl) (trn _ rfl), bd_s, gg_t (by omega), gg_t (by omega), w64 (m := i + 1 + 16) (by omega) (by omega)]
   rfl
  ·have hlt : decide (((48 + 16 : Nat) : Int) < 64) = false := rfl
   simp only [hlt]
   rfl
theorem bitNot_eq (a : Int) : bitNot .u32 a = xr a 4294967295 := by
 unfold bitNot xr bitXor
 rw [BitVec.xor_comm]
 rfl
theorem eight (v : Vector Int 8) : v.toList = [gv v 0, gv v 1, gv v 2, gv v 3, gv v 4, gv v 5, gv v 6, gv v 7] := by
 have hl : v.toList.length = 8 := Vector.length_toList
 simp only [gv]
 generalize v.toList = l at *
 match l, hl with
 | [a, b, c, d, e, f, g, h], _ => rfl
theorem vofl_toList {n : Nat} (l : List Int) (h : l.length = n + 1) : (vofl n 0 l).toList = l := by
 apply List.ext_getElem
 ·simp [h]
 ·intro i h1 h2
  simp [vofl, List.getD, h2]
theorem shift (v : Vector Int 8) (a b : Int) : vset (vset (vofl (nat_lit 7) 0 (spl 1 (List.take 7 (List.take 7 (List.drop 0 v.toList))) v.toList)) 4 (IntKind.u32.wrap (a))) 0 b = vofl 7 0 [b, gv v 0, gv v 1, gv v 2, IntKind.u32.wrap a, gv v 4, gv v 5, gv v 6] := by
 apply Vector.toList_inj.1
 have e := eight v
 rw [vset_toList, vset_toList, vofl_toList _ (by rw [e]; rfl), vofl_toList _ rfl, e]
 rfl
theorem s25_eq : s_88 () = some (kk, ()) := rfl
theorem s20_eq : s_81 () = some (kk, ()) := rfl
theorem s19_eq (b : List Int) (s : Vector Int 8) (h : 64 ≤ b.length) : s_85 (b, s, ()) = some (take b s, ()) := by
 unfold s_85
 try simp only [nl]
 rw [s24_eq b h, bd_s, s25_eq, bd_s]
 refine lp_upto (fun i => ((i : Int), itn (rnd (sched b)) i s, ())) 64 rfl (fun i hi => ?_) ?_
 ·have hlt : decide ((i : Int) < 64) = true := by simp; omega
  generalize hv : itn (rnd (sched b)) i s = v
  simp only [hlt, if_true, Vector.length_toList]
  rw [gg_t (by omega), gg_t (by omega), bd_s]
  simp only [Vector.length_toList, Int.toNat_natCast]
  rw [gg_t (by omega), gg_t (by omega), gg_t (by omega), gg_t (by omega), gg_t (by omega), gg_t (by omega), gg_t (by omega), turned3 _ _ _ _ (trn _ rfl) (trn _ rfl) (trn _ rfl), bd_s, bd_s]
  simp only [Vector.length_toList]
  rw [gg_t (by omega), gg_t (by omega), gg_t (by omega), gg_t (by omega)]
  rw [turned3 _ _ _ _ (trn _ rfl) (trn _ rfl) (trn _ rfl), bd_s, bd_s, gg_t (by omega)]
  dsimp only
  rw [w64 (m := i + 1) (by omega) (by omega), itn_succ, hv, bitNot_eq, shift]
  rw [eight v]
  rfl
 ·have hlt : decide (((64 : Nat) : Int) < 64) = false := rfl
  simp only [hlt]
  refine congrArg mr (a₂ := some (take b s, ())) (lp_upto (fun i => ((i : Int), itn (fun i t => vset t i (ad (gv t i) (gv (itn (rnd (sched b)) 64 s) i))) i s, ())) 8 rfl (fun i hi => ?_) ?_)
  ·have hlt : decide ((i : Int) < 8) = true := by simp; omega
   simp only [hlt, if_true, Vector.length_toList, Int.toNat_natCast]
   rw [gg_t (by omega), gg_t (by omega), gg_t (by omega), gg_t (by omega), gg_t (by omega), gg_t (by omega), w64 (m := i + 1) (by omega) (by omega)]
   rfl
  ·have hlt : decide (((8 : Nat) : Int) < 8) = false := rfl
   simp only [hlt]
   rfl
theorem take_flat {α : Type} (l : List (List α)) {i : Nat} (h : i < l.length) : (l.take (i + 1)).flatten = (l.take i).flatten ++ l.getD i [] := by
 have hg : l.getD i [] = l[i] := by simp [List.getD, h]
 rw [List.take_succ_eq_append_getElem h, List.flatten_append, hg]; simp
theorem flat_le {α : Type} (l : List (List α)) (i : Nat) : (l.take i).flatten.length ≤ l.flatten.length := by
 have := congrArg (fun l => l.flatten.length) (List.take_append_drop i l)
 simp only [List.flatten_append, List.length_append] at this
 omega
theorem s17g_eq (p : List (List Int)) (h : p.flatten.length ≤ 2 ^ 40) (h' : p.length ≤ 2 ^ 44) : s_44g (p, ()) = some (p.flatten, ()) := by
 unfold s_44g
 try simp only [nl]
 refine lp_upto (fun i => (((p.take i).flatten.length : Int), (i : Int), ())) p.length rfl (fun i hi => ?_) ?_
 ·have hlt : decide ((i : Int) < (p.length : Int)) = true := by simpa using hi
  have h1 := flat_le p (i + 1)
  have h2 := congrArg List.length (take_flat p hi)
  rw [List.length_append] at h2
  simp only [hlt, if_true, Int.toNat_natCast]
  have e1 : IntKind.i64.wrap (((p.take i).flatten.length : Int) + ((p.getD i []).length : Int)) = ((p.take (i + 1)).flatten.length : Int) := w64 (by omega) (by omega)
  have hn : decide (((p.take (i + 1)).flatten.length : Int) < 0) = false := by simp
  rw [gg_t (by omega)]
  simp only [e1, hn]
  rw [w64 (m := i + 1) (by omega) (by omega)]
  rfl
 ·have hlt : decide ((p.length : Int) < (p.length : Int)) = false := by simp
  simp only [hlt, List.take_length]
  show mr (gg _ _) = _
  rw [gg_t (by omega)]
  refine congrArg mr (a₂ := some (p.flatten, ())) (lp_upto (fun i => ((i : Int), (p.take i).flatten, ())) p.length rfl (fun i hi => ?_) ?_)
  ·have hlt : decide ((i : Int) < (p.length : Int)) = true := by simpa using hi
   have h1 := flat_le p (i + 1)
   have h2 := congrArg List.length (take_flat p hi)
   rw [List.length_append] at h2
   simp only [hlt, if_true, Int.toNat_natCast]
   rw [gg_t (by omega), gg_t (by omega), w64 (m := i + 1) (by omega) (by omega), take_flat p hi]
  ·have hlt : decide ((p.length : Int) < (p.length : Int)) = false := by simp
   simp only [hlt, List.take_length]
   rfl
theorem tm64 (n : Nat) : ((n : Int).tmod (64 : Int) != 56) = !decide (n % 64 = 56) := by
 rw [Int.tmod_eq_emod_of_nonneg (by omega)]
 by_cases h : n % 64 = 56
 ·have : ((n : Int) % 64) = 56 := by omega
  simp [h, this]
 ·have : ((n : Int) % 64) ≠ 56 := by omega
  simp [h, this]
theorem len_be8 (n : Nat) : (be8 n).length = 8 := by simp [be8]
theorem len_padd (m : List Int) : (padd m).length % 64 = 0 ∧ (padd m).length ≤ m.length + 100 := by
 simp only [padd, List.length_append, List.length_cons, List.length_nil, List.length_replicate, len_be8, zs]
 omega
theorem be8_get (n i : Nat) (h : i < 8) : (be8 n).take (i + 1) = (be8 n).take i ++ [((8 * n / 2 ^ (56 - 8 * i) % 256 : Nat) : Int)] := by
 rw [List.take_succ_eq_append_getElem (by simpa [be8] using h)]
 simp [be8]
theorem shr_nat (k : IntKind) (n s : Nat) (h : s ≤ k.bits) : shrI k (n : Int) (s : Int) = ((n / 2 ^ s : Nat) : Int) := by
 unfold shrI
 rw [Int.toNat_natCast, Nat.min_eq_left h]
 have : (2 : Int) ^ s = ((2 ^ s : Nat) : Int) := by simp
 rw [this, Int.fdiv_eq_ediv_of_nonneg _ (Int.natCast_nonneg _)]
 rfl
theorem u8_nat (n : Nat) : IntKind.u8.wrap (n : Int) = ((n % 256 : Nat) : Int) := by rw [IntKind.wrap_u8]; omega
theorem u64_8 (n : Nat) (h : n < 2 ^ 60) : IntKind.u64.wrap (IntKind.u64.wrap (n : Int) * 8) = ((8 * n : Nat) : Int) := by
 rw [IntKind.wrap_u64, IntKind.wrap_u64]; omega
theorem rgl_eq {D X : Type} {b : D → X → Option D} {f : D → X → D} {cs : List X} {s : D} (h : ∀ x ∈ cs, ∀ s, b s x = some (f s x)) : rgl b cs s = some (cs.foldl f s) := by
 have h1 : ∀ x ∈ cs, ∀ s, (b s x).isSome = true := fun x hx s => by rw [h x hx s]; rfl
 unfold rgl
 rw [if_pos h1]
 clear h1
 induction cs generalizing s with
 | nil => rfl
 | cons x cs ih =>
  rw [List.foldlM_cons, h x (by simp) s]
  exact ih fun y hy s => h y (by simp [hy]) s
theorem chunk_len {m : List Int} (h : m.length % 64 = 0) {c : List Int} (hc : c ∈ chunks 64 m) : c.length = 64 := by
 simp only [chunks, List.mem_map, List.mem_range] at hc
 obtain ⟨i, hi, rfl⟩ := hc
 rw [List.length_take, List.length_drop]
 omega
theorem fold_fst (cs : List (List Int)) (s : Vector Int 8) : cs.foldl (fun (s : Vector Int 8 × PUnit) ch => (take ch s.1, ())) (s, ()) = (cs.foldl (fun s b => take b s) s, ()) := by
 induction cs generalizing s with
 | nil => rfl
 | cons c cs ih => simp only [List.foldl_cons]; exact ih _
theorem flatMap_b4 (l : List Int) (i : Nat) (h : i < l.length) : (l.take (i + 1)).flatMap b4 = (l.take i).flatMap b4 ++ b4 (l.getD i 0) := by
 have hg : l.getD i 0 = l[i] := by simp [List.getD, h]
 rw [List.take_succ_eq_append_getElem h, List.flatMap_append, hg]; simp
theorem len_fm (l : List Int) : (l.flatMap b4).length = 4 * l.length := by
 induction l with
 | nil => rfl
 | cons x l ih => simp only [List.flatMap_cons, List.length_append, ih, List.length_cons]; simp [b4]; omega
theorem s11_eq (p : List (List Int)) (h : p.flatten.length ≤ 2 ^ 40) (h' : p.length ≤ 2 ^ 44) : s_78 (p, ()) = some (sha p.flatten, ()) := by
 unfold s_78
 try simp only [nl]
 rw [s17g_eq p h h', bd_s]
 generalize p.flatten = m at h
 simp only [bd_s]
 rw [gg_t (by omega)]
 refine lp_upto (fun i => (m ++ [128] ++ List.replicate i 0, ())) (zs m.length) (by simp) (fun i hi => ?_) ?_
 ·have hl : (m ++ [128] ++ List.replicate i (0 : Int)).length = m.length + 1 + i := by simp; omega
  simp only [hl, tm64]
  have hz : ¬ (m.length + 1 + i) % 64 = 56 := by unfold zs at hi; omega
  have hz' : zs m.length ≤ 64 := by unfold zs; omega
  simp only [hz, decide_false, Bool.not_false, if_true]
  rw [gg_t (by omega)]
  simp [List.replicate_succ']
 ·have hl : (m ++ [128] ++ List.replicate (zs m.length) (0 : Int)).length = m.length + 1 + zs m.length := by simp; omega
  have hz : (m.length + 1 + zs m.length) % 64 = 56 := by unfold zs; omega
  have hz' : zs m.length ≤ 64 := by unfold zs; omega
  simp only [hl, tm64, hz, decide_true, Bool.not_true, Bool.false_eq_true, if_false]
  refine congrArg mr (a₂ := some (sha m, ())) (lp_upto (fun i => ((i : Int), m ++ [128] ++ List.replicate (zs m.length) (0 : Int) ++ (be8 m.length).take i, ())) 8 (by simp) (fun i hi => ?_) ?_)
  ·have hlt : decide ((i : Int) < 8) = true := by simp; omega
   have hl2 : (m ++ [128] ++ List.replicate (zs m.length) (0 : Int) ++ (be8 m.length).take i).length = m.length + 1 + zs m.length + i := by
    rw [List.length_append, hl, List.length_take, len_be8]; omega
   have e1 : IntKind.i64.wrap (56 - IntKind.i64.wrap (8 * (i : Int))) = ((56 - 8 * i : Nat) : Int) := by
    rw [w64 (n := 8 * (i : Int)) (m := 8 * i) (by omega) (by omega)]
    exact w64 (by omega) (by omega)
   simp only [hlt, if_true, e1, hl2]
   rw [gg_t (by omega), gg_t (by omega), w64 (m := i + 1) (by omega) (by omega), u64_8 _ (by omega), shr_nat _ _ _ (by show _ ≤ 64; omega), u8_nat, be8_get _ _ hi]
   simp
  ·have hlt : decide (((8 : Nat) : Int) < 8) = false := rfl
   have hb : (be8 m.length).take 8 = be8 m.length := by rw [List.take_of_length_le]; rw [len_be8]; omega
   simp only [hlt, hb]
   have hp : m ++ [128] ++ List.replicate (zs m.length) (0 : Int) ++ be8 m.length = padd m := rfl
   obtain ⟨q1, q2⟩ := len_padd m
   rw [hp]
   show mr (gg _ _) = _
   rw [gg_t (by omega), rgl_eq (f := fun s ch => (take ch s.1, ())) (fun c hc s => by rw [s19_eq c s.1 (by have := chunk_len q1 hc; omega), bd_s]), bd_s, fold_fst]
   generalize hs : (chunks 64 (padd m)).foldl (fun s b => take b s) iv = st
   have hs' : (chunks 64 (padd m)).foldl (fun s b => take b s) (vofl (nat_lit 7) 0 [1779033703, (3144134277 : Int), (1013904242 : Int), (2773480762 : Int), (1359893119 : Int), (2600822924 : Int), (528734635 : Int), (1541459225 : Int)]) = st := hs
   rw [hs']
   have hsl : st.toList.length = 8 := Vector.length_toList
   refine congrArg mr (a₂ := some (sha m, ())) (lp_upto (fun i => ((i : Int), (st.toList.take i).flatMap b4, ())) 8 rfl (fun i hi => ?_) ?_)
   ·have hlt : decide ((i : Int) < 8) = true := by simp; omega
    have hl3 : ((st.toList.take i).flatMap b4).length = 4 * i := by rw [len_fm, List.length_take, hsl]; omega
    simp only [hlt, if_true, Int.toNat_natCast]
    rw [gg_t (by omega), bd_s]
    simp only [hl3]
    rw [gg_t (by omega), w64 (m := i + 1) (by omega) (by omega), flatMap_b4 _ _ (by omega)]
    rfl
   ·have hlt : decide (((8 : Nat) : Int) < 8) = false := rfl
    simp only [hlt]
    rw [show (st.toList.take 8) = st.toList from List.take_of_length_le (by omega)]
    show mr (some _) = mr (some _)
    unfold sha outb
    rw [hs]
theorem wneg {n : Int} (h : -2 ^ 62 ≤ n) (h' : n < 2 ^ 62) : IntKind.i64.wrap n = n := wrap64 (by omega) (by omega)
theorem chunk_getD (m : List Int) (j i : Nat) (h : i < 64) : ((m.drop (j * 64)).take 64).getD i 0 = m.getD (64 * j + i) 0 := by
 simp [List.getD, List.getElem?_take, List.getElem?_drop, h, Nat.mul_comm]
theorem wd_chunk (m : List Int) (j i : Nat) (h : i < 16) : wd ((m.drop (j * 64)).take 64) i =
  bitOr .u32 (bitOr .u32 (bitOr .u32 (shlI .u32 (IntKind.u32.wrap (m.getD (64 * j + 4 * i) 0)) 24) (shlI .u32 (IntKind.u32.wrap (m.getD (64 * j + 4 * i + 1) 0)) 16)) (shlI .u32 (IntKind.u32.wrap (m.getD (64 * j + 4 * i + 2) 0)) 8)) (IntKind.u32.wrap (m.getD (64 * j + 4 * i + 3) 0)) := by
 unfold wd
 rw [chunk_getD _ _ _ (by omega), chunk_getD _ _ _ (by omega), chunk_getD _ _ _ (by omega), chunk_getD _ _ _ (by omega)]
 rfl
theorem chunks_take {m : List Int} (h : m.length % 64 = 0) {j : Nat} (hj : j < m.length / 64) : (chunks 64 m).take (j + 1) = (chunks 64 m).take j ++ [(m.drop (j * 64)).take 64] := by
 have hl : (chunks 64 m).length = m.length / 64 := by simp [chunks]; omega
 rw [List.take_succ_eq_append_getElem (by omega)]
 simp [chunks]
set_option maxHeartbeats 1000000 in
theorem s12_eq (m : List Int) (h : m.length ≤ 2 ^ 40) : s_72 (m, ()) = some (sha m, ()) := by
 unfold s_72
 try simp only [nl]
 try simp only
 rw [gg_t (by omega), gg_t (by omega)]
 refine lp_upto (fun i => (m ++ [128] ++ List.replicate i 0, ())) (zs m.length) (by simp) (fun i hi => ?_) ?_
 ·have hl : (m ++ [128] ++ List.replicate i (0 : Int)).length = m.length + 1 + i := by simp; omega
  simp only [hl, tm64]
  have hz : ¬ (m.length + 1 + i) % 64 = 56 := by unfold zs at hi; omega
  have hz' : zs m.length ≤ 64 := by unfold zs; omega
  simp only [hz, decide_false, Bool.not_false, if_true]
  rw [gg_t (by omega)]
  simp [List.replicate_succ']
 ·have hl : (m ++ [128] ++ List.replicate (zs m.length) (0 : Int)).length = m.length + 1 + zs m.length := by simp; omega
  have hz : (m.length + 1 + zs m.length) % 64 = 56 := by unfold zs; omega
  have hz' : zs m.length ≤ 64 := by unfold zs; omega
  simp only [hl, tm64, hz, decide_true, Bool.not_true, Bool.false_eq_true, if_false, bd_s]
  refine congrArg mr (a₂ := some (sha m, ())) (lp_upto (fun i => ((7 : Int) - (i : Int), m ++ [128] ++ List.replicate (zs m.length) (0 : Int) ++ (be8 m.length).take i, ())) 8 (by simp) (fun i hi => ?_) ?_)
  ·have hlt : decide (0 ≤ (7 : Int) - (i : Int)) = true := by simp; omega
   have hl2 : (m ++ [128] ++ List.replicate (zs m.length) (0 : Int) ++ (be8 m.length).take i).length = m.length + 1 + zs m.length + i := by
    rw [List.length_append, hl, List.length_take, len_be8]; omega
   have e1 : IntKind.u64.wrap (IntKind.i64.wrap (8 * ((7 : Int) - (i : Int)))) = ((56 - 8 * i : Nat) : Int) := by
    rw [w64 (n := 8 * ((7 : Int) - (i : Int))) (m := 56 - 8 * i) (by omega) (by omega), IntKind.wrap_u64]
    omega
   simp only [hlt, if_true, e1, hl2]
   rw [gg_t (by omega), gg_t (by omega), wneg (by omega) (by omega), u64_8 _ (by omega), shr_nat _ _ _ (by show _ ≤ 64; omega), u8_nat, be8_get _ _ hi]
   have : (7 : Int) - (i : Int) - 1 = 7 - ((i + 1 : Nat) : Int) := by omega
   rw [this]
   simp
  ·have hlt : decide (0 ≤ (7 : Int) - ((8 : Nat) : Int)) = false := rfl
   have hb : (be8 m.length).take 8 = be8 m.length := by rw [List.take_of_length_le]; rw [len_be8]; omega
   simp only [hlt, hb]
   have hp : m ++ [128] ++ List.replicate (zs m.length) (0 : Int) ++ be8 m.length = padd m := rfl
   obtain ⟨q1, q2⟩ := len_padd m
   rw [hp]
   generalize hM : padd m = M at q1 q2
   show mr (bd _ _) = _
   rw [s20_eq, bd_s]
   have hcl : (chunks 64 M).length = M.length / 64 := by simp [chunks]; omega
   refine congrArg mr (a₂ := some (sha m, ())) (lp_upto (fun j => (((64 * j : Nat) : Int), ((chunks 64 M).take j).foldl (fun s b => take b s) iv, ())) (M.length / 64) rfl (fun j hj => ?_) ?_)
   ·have hlt : decide (((64 * j : Nat) : Int) < (M.length : Int)) = true := by simp; omega
    simp only [hlt, if_true]
    rw [chunks_take q1 hj, List.foldl_append]
    generalize ((chunks 64 M).take j).foldl (fun s b => take b s) iv = S
    simp only [List.foldl_cons, List.foldl_nil]
    generalize hc : (M.drop (j * 64)).take 64 = c
    have hwd := fun i hi => (congrArg (fun c => wd c i) hc).symm.trans (wd_chunk M j i hi)
    refine lp_upto (fun i => ((i : Int), itn (fun i w => vset w i (wd c i)) i (Vector.replicate 64 0), ())) 16 rfl (fun i hi => ?_) ?_
    ·have hlt : decide ((i : Int) < 16) = true := by simp; omega
     have e1 : IntKind.i64.wrap (((64 * j : Nat) : Int) + IntKind.i64.wrap (4 * (i : Int))) = ((64 * j + 4 * i : Nat) : Int) := by
      rw [w64 (n := 4 * (i : Int)) (m := 4 * i) (by omega) (by omega)]
      exact w64 (by omega) (by omega)
     have f1 : IntKind.i64.wrap (((64 * j + 4 * i : Nat) : Int) + 1) = ((64 * j + 4 * i + 1 : Nat) : Int) := w64 (by omega) (by omega)
     have f2 : IntKind.i64.wrap (((64 * j + 4 * i : Nat) : Int) + 2) = ((64 * j + 4 * i + 2 : Nat) : Int) := w64 (by omega) (by omega)
     have f3 : IntKind.i64.wrap (((64 * j + 4 * i : Nat) : Int) + 3) = ((64 * j + 4 * i + 3 : Nat) : Int) := w64 (by omega) (by omega)
     simp only [hlt, if_true, bd_s, e1, f1, f2, f3, Int.toNat_natCast]
     rw [gg_t (by omega), gg_t (by omega), gg_t (by omega), gg_t (by omega), gg_t (by omega), gg_t (by omega), w64 (m := i + 1) (by omega) (by omega), itn_succ, hwd i hi]
    ·have hlt : decide (((16 : Nat) : Int) < 16) = false := rfl
     simp only [hlt]
     refine congrArg mr (a₂ := some (Sum.inl (((64 * (j + 1) : Nat) : Int), take c S, ()))) ?_
     refine lp_upto (fun i => (((i + 16 : Nat) : Int), itn (fun i w => vset w (i + 16) (ad (ad (ad (gv w i) (sc (gv w (i + 1)) 7 18 3)) (gv w (i + 9))) (sc (gv w (i + 14)) 17 19 10))) i (itn (fun i w => vset w i (wd c i)) 16 (Vector.replicate 64 0)), ())) 48 rfl (fun i hi => ?_) ?_
     ·have hlt : decide (((i + 16 : Nat) : Int) < 64) = true := by simp; omega
      have e1 : IntKind.i64.wrap (((i + 16 : Nat) : Int) - 15) = ((i + 1 : Nat) : Int) := w64 (by omega) (by omega)
      have e2 : IntKind.i64.wrap (((i + 16 : Nat) : Int) - 2) = ((i + 14 : Nat) : Int) := w64 (by omega) (by omega)
      have e3 : IntKind.i64.wrap (((i + 16 : Nat) : Int) - 16) = ((i : Nat) : Int) := w64 (by omega) (by omega)
      have e4 : IntKind.i64.wrap (((i + 16 : Nat) : Int) - 7) = ((i + 9 : Nat) : Int) := w64 (by omega) (by omega)
      simp only [hlt, if_true, e1, Int.toNat_natCast, Vector.length_toList]
      rw [gg_t (by omega), gg_t (by omega), gg_t (by omega), gg_t (by omega), gg_t (by omega), gg_t (by omega), s21_eq _ _ (trn _ rfl), bd_s, s21_eq _ _ (trn _ rfl), bd_s, bd_s]
      simp only [e2, Int.toNat_natCast, Vector.length_toList]
      rw [gg_t (by omega), gg_t (by omega), gg_t (by omega), gg_t (by omega), gg_t (by omega), gg_t (by omega), s21_eq _ _ (trn _ rfl), bd_s, s21_eq _ _ (trn _ rfl), bd_s, bd_s]
      simp only [e3, e4, Int.toNat_natCast, Vector.length_toList]
      rw [gg_t (by omega), gg_t (by omega), gg_t (by omega), gg_t (by omega), gg_t (by omega), gg_t (by omega), w64 (m := i + 1 + 16) (by omega) (by omega)]
      rfl
     ·have hlt : decide (((48 + 16 : Nat) : Int) < 64) = false := rfl
      simp only [hlt]
      refine congrArg mr (a₂ := some (Sum.inl (((64 * (j + 1) : Nat) : Int), take c S, ()))) ?_
      show lp ((0 : Int), S, ()) _ = _
      refine lp_upto (fun i => ((i : Int), itn (rnd (sched c)) i S, ())) 64 rfl (fun i hi => ?_) ?_
      ·have hlt : decide ((i : Int) < 64) = true := by simp; omega
       generalize hv : itn (rnd (sched c)) i S = v
       simp only [hlt, if_true, Vector.length_toList, Int.toNat_natCast]
       rw [gg_t (by omega), gg_t (by omega), gg_t (by omega), gg_t (by omega), gg_t (by omega), gg_t (by omega), gg_t (by omega), gg_t (by omega), gg_t (by omega), gg_t (by omega), gg_t (by omega), gg_t (by omega),
        s21_eq _ _ (trn _ rfl), bd_s, s21_eq _ _ (trn _ rfl), bd_s, s21_eq _ _ (trn _ rfl), bd_s, bd_s]
       simp only [Vector.length_toList]
       rw [gg_t (by omega), gg_t (by omega), gg_t (by omega), gg_t (by omega), gg_t (by omega), gg_t (by omega), gg_t (by omega), gg_t (by omega), gg_t (by omega),
        s21_eq _ _ (trn _ rfl), bd_s, s21_eq _ _ (trn _ rfl), bd_s, s21_eq _ _ (trn _ rfl), bd_s, bd_s]
       simp only [Vector.length_toList]
       rw [gg_t (by omega), gg_t (by omega), gg_t (by omega), gg_t (by omega), gg_t (by omega), gg_t (by omega), gg_t (by omega), w64 (m := i + 1) (by omega) (by omega), itn_succ _ i, hv]
       rfl
      ·have hlt : decide (((64 : Nat) : Int) < 64) = false := rfl
       simp only [hlt]
       refine congrArg mr (a₂ := some (Sum.inl (((64 * (j + 1) : Nat) : Int), take c S, ()))) ?_
       refine lp_upto (fun i => ((i : Int), itn (fun i t => vset t i (ad (gv t i) (gv (itn (rnd (sched c)) 64 S) i))) i S, ())) 8 rfl (fun i hi => ?_) ?_
       ·have hlt : decide ((i : Int) < 8) = true := by simp; omega
        simp only [hlt, if_true, Vector.length_toList, Int.toNat_natCast]
        rw [gg_t (by omega), gg_t (by omega), gg_t (by omega), gg_t (by omega), gg_t (by omega), gg_t (by omega), w64 (m := i + 1) (by omega) (by omega)]
        rfl
       ·have hlt : decide (((8 : Nat) : Int) < 8) = false := rfl
        simp only [hlt]
        rw [w64 (n := ((64 * j : Nat) : Int) + 64) (m := 64 * (j + 1)) (by omega) (by omega)]
        rfl
   ·have hlt : decide (((64 * (M.length / 64) : Nat) : Int) < (M.length : Int)) = false := by simp; omega
    simp only [hlt]
    rw [List.take_of_length_le (by omega)]
    generalize hs : (chunks 64 M).foldl (fun s b => take b s) iv = st
    have hsl : st.toList.length = 8 := Vector.length_toList
    refine congrArg mr (a₂ := some (sha m, ())) (lp_upto (fun i => ((i : Int), (st.toList.take i).flatMap b4, ())) 8 rfl (fun i hi => ?_) ?_)
    ·have hlt : decide ((i : Int) < 8) = true := by simp; omega
     have hl3 : ((st.toList.take i).flatMap b4).length = 4 * i := by rw [len_fm, List.length_take, hsl]; omega
     simp only [hlt, if_true, Int.toNat_natCast, hl3, Vector.length_toList]
     rw [gg_t (by omega), gg_t (by omega), gg_t (by omega), gg_t (by omega), gg_t (by omega), gg_t (by omega), gg_t (by omega), gg_t (by omega), gg_t (by omega), w64 (m := i + 1) (by omega) (by omega), flatMap_b4 _ _ (by omega)]
     rfl
    ·have hlt : decide (((8 : Nat) : Int) < 8) = false := rfl
     simp only [hlt]
     rw [show (st.toList.take 8) = st.toList from List.take_of_length_le (by omega)]
     show mr (some _) = mr (some _)
     unfold sha outb
     rw [hM, hs]
theorem first_not (P : Nat → Prop) [DecidablePred P] : ∀ n, (∀ i, i < n → P i) ∨ ∃ k, k < n ∧ (∀ i, i < k → P i) ∧ ¬ P k
 | 0 => .inl fun i h => absurd h (by omega)
 | n + 1 => by
  rcases first_not P n with h | ⟨k, h1, h2, h3⟩
  ·by_cases hp : P n
   ·exact .inl fun i hi => if e : i = n then e ▸ hp else h i (by omega)
   ·exact .inr ⟨n, by omega, h, hp⟩
  ·exact .inr ⟨k, by omega, h2, h3⟩
def Byt (c : Int) : Prop := 0 ≤ c ∧ c < 256
theorem byt_wf {c : Int} (h : (Lit.int .u8 c).wf = true) : Byt c := by
 simp only [Lit.wf, IntKind.min, IntKind.max, IntKind.bits, IntKind.signed, Bool.and_eq_true, decide_eq_true_eq] at h
 unfold Byt
 simp at h
 omega
theorem flatMap_take {α β : Type} (f : α → List β) (d : α) (l : List α) (i : Nat) (h : i < l.length) : (l.take (i + 1)).flatMap f = (l.take i).flatMap f ++ f (l.getD i d) := by
 have hg : l.getD i d = l[i] := by simp [List.getD, h]
 rw [List.take_succ_eq_append_getElem h, List.flatMap_append, hg]; simp
theorem len_sha (m : List Int) : (sha m).length = 32 := by
 unfold sha outb
 rw [len_fm, Vector.length_toList]
theorem byt_sha (m : List Int) : ∀ c ∈ sha m, Byt c := by
 intro c hc
 unfold sha outb at hc
 rw [List.mem_flatMap] at hc
 obtain ⟨w, _, hc⟩ := hc
 have : ∀ n : Int, Byt (IntKind.u8.wrap n) := fun n => by rw [IntKind.wrap_u8]; unfold Byt; omega
 simp only [b4, List.mem_cons, List.not_mem_nil, or_false] at hc
 rcases hc with rfl | rfl | rfl | rfl <;> exact this _
theorem s15_eq (x : List Int) (h : x.length ≤ 2 ^ 47) : s_19 (x, ()) = some (x, ()) := by
 unfold s_19
 try simp only [nl]
 try simp only
 rw [gg_t (by omega)]
theorem s15g_eq (x : List Int) (h : x.length ≤ 2 ^ 47) : s_19g (x, ()) = some (x, ()) := s15_eq x h
theorem s9_eq (p : List (List Int)) (h : p.length ≤ 2 ^ 40) (h' : ∀ x ∈ p, x.length ≤ 2 ^ 47) : s_14 (p, ()) = some (p, ()) := by
 unfold s_14
 try simp only [nl]
 refine lp_upto (fun i => ((i : Int), p.take i, ())) p.length rfl (fun i hi => ?_) ?_
 ·have hlt : decide ((i : Int) < (p.length : Int)) = true := by simpa using hi
  have hg : p.getD i [] = p[i] := by simp [List.getD, hi]
  have hl : (p.take i).length = i := by rw [List.length_take]; omega
  simp only [hlt, if_true, Int.toNat_natCast, hl]
  rw [gg_t (by omega), hg, s15_eq _ (h' _ (List.getElem_mem hi)), bd_s, gg_t (by omega), w64 (m := i + 1) (by omega) (by omega), List.take_succ_eq_append_getElem hi]
 ·have hlt : decide ((p.length : Int) < (p.length : Int)) = false := by simp
  simp only [hlt, List.take_length]
  rfl
theorem rb : reachBytes < 2 ^ 47 := reachBytes_lt
def nb (v : Nat) : List Int := if h : v < 128 then [(v : Int)] else ((v % 128 + 128 : Nat) : Int) :: nb (v / 128)
termination_by v
theorem nb_lt {v : Nat} (h : v < 128) : nb v = [(v : Int)] := by rw [nb, dif_pos h]
theorem nb_ge {v : Nat} (h : ¬ v < 128) : nb v = ((v % 128 + 128 : Nat) : Int) :: nb (v / 128) := by rw [nb, dif_neg h]
theorem len_nb : ∀ (k : Nat) (v : Nat), v < 128 ^ (k + 1) → (nb v).length ≤ k + 1
 | 0, v, h => by rw [nb_lt (by simpa using h)]; simp
 | k + 1, v, h => by
  by_cases hc : v < 128
  ·rw [nb_lt hc]; simp
  ·rw [nb_ge hc, List.length_cons]
   have := len_nb k (v / 128) (by rw [Nat.div_lt_iff_lt_mul (by decide)]; rw [Nat.pow_succ] at h; omega)
   omega
theorem len_nb9 {v : Nat} (h : v < 2 ^ 62) : (nb v).length ≤ 9 := len_nb 8 v (by
 have : (128 : Nat) ^ (8 + 1) = 2 ^ 63 := by decide
 omega)
theorem nb_pos (v : Nat) : 0 < (nb v).length := by
 by_cases hc : v < 128
 ·rw [nb_lt hc]; simp
 ·rw [nb_ge hc]; simp
theorem or128 (v : Nat) : bitOr .u8 (IntKind.u8.wrap (v : Int)) 128 = ((v % 128 + 128 : Nat) : Int) := by
 have key : ∀ n : Nat, n < 256 → bitOr .u8 (n : Int) 128 = ((n % 128 + 128 : Nat) : Int) := by decide +kernel
 rw [u8_nat, key _ (Nat.mod_lt _ (by decide))]
 congr 1
 omega
theorem num_eq (v : Nat) (o : List Int) (hv : v < 2 ^ 62) (ho : o.length ≤ 2 ^ 41) : s_83 ((v : Int), o, ()) = some (o ++ nb v, ()) := by
 unfold s_83
 show lp ((v : Int), o, ()) _ = _
 have main : ∀ (k : Nat) (v : Nat) (o : List Int), v < 128 ^ (k + 1) → v < 2 ^ 62 → o.length + k ≤ 2 ^ 42 → loop (fun s : Int × List Int × Unit => if decide (128 ≤ s.1) = true then gg ((s.2.1.length + 1) * 1 ≤ 2 ^ 47 ∧ s.2.1.length + 1 < 2 ^ 63) (some (Sum.inl (shrI IntKind.i64 s.1 7, s.2.1 ++ [bitOr IntKind.u8 (IntKind.u8.wrap s.1) 128], ()))) else mr (gg ((s.2.1.length + 1) * 1 ≤ 2 ^ 47 ∧ s.2.1.length + 1 < 2 ^ 63) (some (s.2.1 ++ [IntKind.u8.wrap s.1], ())))) ((v : Int), o, ()) = some (o ++ nb v, ()) := by
  intro k
  induction k with
  | zero =>
   intro v o h1 h2 h3
   have hv : v < 128 := by simpa using h1
   have hlt : decide ((128 : Int) ≤ (v : Int)) = false := decide_eq_false (by omega)
   refine loop_done ?_
   simp only [hlt, Bool.false_eq_true, if_false]
   rw [gg_t (by omega), u8_nat, nb_lt hv, Nat.mod_eq_of_lt (by omega)]
   rfl
  | succ k ih =>
   intro v o h1 h2 h3
   by_cases hv : v < 128
   ·have hlt : decide ((128 : Int) ≤ (v : Int)) = false := decide_eq_false (by omega)
    refine loop_done ?_
    simp only [hlt, Bool.false_eq_true, if_false]
    rw [gg_t (by omega), u8_nat, nb_lt hv, Nat.mod_eq_of_lt (by omega)]
    rfl
   ·have hlt : decide ((128 : Int) ≤ (v : Int)) = true := decide_eq_true (by omega)
    rw [loop_cont (s' := (((v / 128 : Nat) : Int), o ++ [((v % 128 + 128 : Nat) : Int)], ()))]
    ·rw [ih (v / 128) _ (by rw [Nat.div_lt_iff_lt_mul (by decide)]; rw [Nat.pow_succ] at h1; omega) (by omega) (by simp; omega), nb_ge hv, List.append_assoc]
     rfl
    ·simp only [hlt, if_true]
     rw [gg_t (by omega), or128, show (7 : Int) = ((7 : Nat) : Int) from rfl, shr_nat _ _ _ (by decide)]
 have h63 : (128 : Nat) ^ (8 + 1) = 2 ^ 63 := by decide
 exact main 8 v o (by omega) hv (by omega)
theorem refNum_bad (v : Int) (h : v < 0 ∨ 4611686018427387904 ≤ v) : s_71 (v, ()) = some ([], 10, ()) := by
 unfold s_71
 try simp only [nl]
 rcases h with h | h
 ·have : decide (v < 0) = true := by simpa using h
  simp only [this, Bool.true_eq_false, if_false]
 ·have h1 : decide (v < 0) = false := decide_eq_false (by omega)
  have h2 : decide (4611686018427387904 ≤ v) = true := by simpa using h
  simp only [h1, h2, if_true]
theorem refNum_eq (v : Nat) (hv : v < 2 ^ 62) : s_71 ((v : Int), ()) = some (nb v, 0, ()) := by
 unfold s_71
 try simp only [nl]
 have h1 : decide ((v : Int) < 0) = false := by simp
 have h2 : decide (4611686018427387904 ≤ (v : Int)) = false := decide_eq_false (by omega)
 simp only [h1, h2, if_true, Bool.false_eq_true, if_false]
 have tm : ∀ v : Nat, IntKind.u8.wrap (Int.tmod (v : Int) 128) = ((v % 128 : Nat) : Int) := fun v => by
  rw [Int.tmod_eq_emod_of_nonneg (by omega), show ((v : Int) % 128) = ((v % 128 : Nat) : Int) by omega, u8_nat]; omega
 rw [tm]
 have main : ∀ (k : Nat) (v : Nat) (o : List Int), v < 128 ^ (k + 1) → v < 2 ^ 62 → o.length + k ≤ 100 → loop (fun s : Int × List Int × Unit => if decide (128 ≤ s.1) = true then gg (0 ≤ IntKind.i64.wrap ((↑s.2.1.length : Int) - 1) ∧ (IntKind.i64.wrap ((↑s.2.1.length : Int) - 1)).toNat < s.2.1.length) (gg (0 ≤ IntKind.i64.wrap ((↑s.2.1.length : Int) - 1) ∧ (IntKind.i64.wrap ((↑s.2.1.length : Int) - 1)).toNat < s.2.1.length) (gg (((s.2.1.set (IntKind.i64.wrap ((↑s.2.1.length : Int) - 1)).toNat (IntKind.u8.wrap (s.2.1.getD (IntKind.i64.wrap ((↑s.2.1.length : Int) - 1)).toNat (0 : Int) + 128))).length + 1) * 1 ≤ 2 ^ 47 ∧ (s.2.1.set (IntKind.i64.wrap ((↑s.2.1.length : Int) - 1)).toNat (IntKind.u8.wrap (s.2.1.getD (IntKind.i64.wrap ((↑s.2.1.length : Int) - 1)).toNat (0 : Int) + 128))).length + 1 < 2 ^ 63) (some (Sum.inl (IntKind.i64.wrap (Int.tdiv s.1 128), s.2.1.set (IntKind.i64.wrap ((↑s.2.1.length : Int) - 1)).toNat (IntKind.u8.wrap (s.2.1.getD (IntKind.i64.wrap ((↑s.2.1.length : Int) - 1)).toNat (0 : Int) + 128)) ++ [IntKind.u8.wrap ((IntKind.i64.wrap (Int.tdiv s.1 128)).tmod 128)], ()))))) else mr (some (s.2.1, (0 : Int), ()))) ((v : Int), o ++ [((v % 128 : Nat) : Int)], ()) = some (o ++ nb v, 0, ()) := by
  intro k
  induction k with
  | zero =>
   intro v o h1 h2 h3
   have hv : v < 128 := by simpa using h1
   have hlt : decide ((128 : Int) ≤ (v : Int)) = false := decide_eq_false (by omega)
   refine loop_done ?_
   simp only [hlt, Bool.false_eq_true, if_false]
   rw [nb_lt hv, Nat.mod_eq_of_lt (by omega)]
   rfl
  | succ k ih =>
   intro v o h1 h2 h3
   by_cases hv : v < 128
   ·have hlt : decide ((128 : Int) ≤ (v : Int)) = false := decide_eq_false (by omega)
    refine loop_done ?_
    simp only [hlt, Bool.false_eq_true, if_false]
    rw [nb_lt hv, Nat.mod_eq_of_lt (by omega)]
    rfl
   ·have hlt : decide ((128 : Int) ≤ (v : Int)) = true := decide_eq_true (by omega)
    rw [loop_cont (s' := (((v / 128 : Nat) : Int), (o ++ [((v % 128 + 128 : Nat) : Int)]) ++ [((v / 128 % 128 : Nat) : Int)], ()))]
    ·rw [ih (v / 128) _ (by rw [Nat.div_lt_iff_lt_mul (by decide)]; rw [Nat.pow_succ] at h1; omega) (by omega) (by simp; omega), nb_ge hv, List.append_assoc]
     rfl
    ·have hl : (o ++ [((v % 128 : Nat) : Int)]).length = o.length + 1 := by simp
     have e1 : IntKind.i64.wrap ((↑(o.length + 1) : Int) - 1) = (o.length : Int) := w64 (by omega) (by omega)
     have e2 : IntKind.i64.wrap (Int.tdiv (v : Int) 128) = ((v / 128 : Nat) : Int) := by
      rw [Int.tdiv_eq_ediv_of_nonneg (by omega)]; exact w64 (by omega) (by omega)
     have e3 : (o ++ [((v % 128 : Nat) : Int)]).getD o.length 0 = ((v % 128 : Nat) : Int) := by simp [List.getD]
     have e4 : IntKind.u8.wrap (((v % 128 : Nat) : Int) + 128) = ((v % 128 + 128 : Nat) : Int) := by
      rw [show (((v % 128 : Nat) : Int) + 128) = ((v % 128 + 128 : Nat) : Int) by omega, u8_nat, Nat.mod_eq_of_lt (by omega)]
     have e5 : (o ++ [((v % 128 : Nat) : Int)]).set o.length ((v % 128 + 128 : Nat) : Int) = o ++ [((v % 128 + 128 : Nat) : Int)] := by simp
     simp only [hlt, if_true, hl, e1, e2, Int.toNat_natCast, e3, e4, e5, tm, List.length_append, List.length_cons, List.length_nil]
     rw [gg_t (by omega), gg_t (by omega), gg_t (by omega)]
 have h63 : (128 : Nat) ^ (8 + 1) = 2 ^ 63 := by decide
 exact main 8 v [] (by omega) hv (by simp)
def okN (v : Int) : Prop := 0 ≤ v ∧ v < 4611686018427387904
instance (v : Int) : Decidable (okN v) := by unfold okN; infer_instance
def nums (l : List Int) : List Int × Int := if ∀ v ∈ l, okN v then (l.flatMap fun v => nb v.toNat, 0) else ([], 10)
theorem len_nums {l : List Int} : (nums l).1.length ≤ 9 * l.length := by
 unfold nums
 split
 ·rename_i h
  induction l with
  | nil => simp
  | cons v l ih =>
   have := ih fun x hx => h x (by simp [hx])
   have h2 := h v (by simp)
   have h3 := len_nb9 (v := v.toNat) (by unfold okN at h2; omega)
   simp only [List.flatMap_cons, List.length_append, List.length_cons] at *
   omega
 ·simp
theorem mem_getD {α : Type} (d : α) {l : List α} {i : Nat} (h : i < l.length) : l.getD i d ∈ l := by
 have hg : l.getD i d = l[i] := by simp [List.getD, h]
 rw [hg]; exact List.getElem_mem h
theorem all_first {α : Type} (d : α) (l : List α) (P : α → Prop) [DecidablePred P] : (∀ v ∈ l, P v) ∨ ¬ (∀ v ∈ l, P v) ∧ ∃ k, k < l.length ∧ (∀ i, i < k → P (l.getD i d)) ∧ ¬ P (l.getD k d) := by
 rcases first_not (fun i => P (l.getD i d)) l.length with h | ⟨k, h1, h2, h3⟩
 ·refine .inl fun v hv => ?_
  obtain ⟨i, hi, e⟩ := List.getElem_of_mem hv
  have := h i hi
  rwa [show l.getD i d = v by simp [List.getD, hi, e]] at this
 ·exact .inr ⟨fun h => h3 (h _ (mem_getD d h1)), k, h1, h2, h3⟩
theorem len_flat_nb (l : List Int) (h : ∀ v ∈ l, okN v) : (l.flatMap fun v => nb v.toNat).length ≤ 9 * l.length := by
 have := len_nums (l := l)
 unfold nums at this
 rwa [if_pos h] at this
theorem Nums_eq (l : List Int) (hl : l.length ≤ 2 ^ 30) : s_76 (l, ()) = some ((nums l).1, (nums l).2, ()) := by
 unfold s_76 nums
 try simp only [nl]
 have step : ∀ i, i < l.length → (∀ j, j ≤ i → okN (l.getD j 0)) → ((l.take i).flatMap fun v => nb v.toNat).length ≤ 9 * i ∧ s_83 (l.getD i 0, (l.take i).flatMap (fun v => nb v.toNat), ()) = some ((l.take (i + 1)).flatMap (fun v => nb v.toNat), ()) := by
  intro i hi hj
  have hf : ((l.take i).flatMap fun v => nb v.toNat).length ≤ 9 * i := by
   have := len_flat_nb (l.take i) (fun v hv => by
    obtain ⟨q, hq, e⟩ := List.getElem_of_mem hv
    have hq2 : q < i := by simp at hq; omega
    have := hj q (by omega)
    rwa [show l.getD q 0 = v by rw [List.getElem_take] at e; simp [List.getD, show q < l.length by omega, e]] at this)
   rw [List.length_take] at this; omega
  refine ⟨hf, ?_⟩
  have h1 := hj i (Nat.le_refl _)
  obtain ⟨n, hn⟩ := Int.eq_ofNat_of_zero_le h1.1
  have h2 := h1.2
  rw [flatMap_take _ 0 _ _ hi, hn, num_eq n _ (by rw [hn] at h2; omega) (by omega)]
  simp
 rcases all_first 0 l okN with h | ⟨h, k, k1, k2, k3⟩
 ·rw [if_pos h]
  have hh : ∀ j, j < l.length → okN (l.getD j 0) := fun j hj => h _ (mem_getD 0 hj)
  refine lp_upto (fun i => ((i : Int), (l.take i).flatMap (fun v => nb v.toNat), ())) l.length rfl (fun i hi => ?_) ?_
  ·have hlt : decide ((i : Int) < (l.length : Int)) = true := by simpa using hi
   have h1 : decide (l.getD i 0 < 0) = false := decide_eq_false (by have := (hh i hi).1; omega)
   have h2 : decide (4611686018427387904 ≤ l.getD i 0) = false := decide_eq_false (by have := (hh i hi).2; omega)
   simp only [hlt, if_true, Int.toNat_natCast, h1, h2, Bool.false_eq_true, if_false]
   rw [gg_t (by omega), (step i hi fun j hj => hh j (by omega)).2, bd_s, w64 (m := i + 1) (by omega) (by omega)]
  ·have hlt : decide ((l.length : Int) < (l.length : Int)) = false := by simp
   simp only [hlt, List.take_length]
   rfl
 ·rw [if_neg h]
  refine lp_upto (fun i => ((i : Int), (l.take i).flatMap (fun v => nb v.toNat), ())) k rfl (fun i hi => ?_) ?_
  ·have hlt : decide ((i : Int) < (l.length : Int)) = true := decide_eq_true (by omega)
   have h1 : decide (l.getD i 0 < 0) = false := decide_eq_false (by have := (k2 i hi).1; omega)
   have h2 : decide (4611686018427387904 ≤ l.getD i 0) = false := decide_eq_false (by have := (k2 i hi).2; omega)
   simp only [hlt, if_true, Int.toNat_natCast, h1, h2, Bool.false_eq_true, if_false]
   rw [gg_t (by omega), (step i (by omega) fun j hj => k2 j (by omega)).2, bd_s, w64 (m := i + 1) (by omega) (by omega)]
  ·have hlt : decide ((k : Int) < (l.length : Int)) = true := decide_eq_true (by omega)
   simp only [hlt, if_true, Int.toNat_natCast]
   rw [gg_t (by omega)]
   by_cases h1 : l.getD k 0 < 0
   ·have : decide (l.getD k 0 < 0) = true := by simpa using h1
    simp only [this, Bool.true_eq_false, if_false]
    rfl
   ·have h0 : decide (l.getD k 0 < 0) = false := by simpa using h1
    have h2 : decide (4611686018427387904 ≤ l.getD k 0) = true := decide_eq_true (by unfold okN at k3; omega)
    simp only [h0, h2, if_true]
    rfl
theorem refNums_eq (l : List Int) (hl : l.length ≤ 2 ^ 30) : s_70 (l, ()) = some ((nums l).1, (nums l).2, ()) := by
 unfold s_70 nums
 try simp only [nl]
 have step : ∀ i, i < l.length → (∀ j, j ≤ i → okN (l.getD j 0)) → ((l.take i).flatMap fun v => nb v.toNat).length ≤ 9 * i ∧ (nb (l.getD i 0).toNat).length ≤ 9 ∧ s_71 (l.getD i 0, ()) = some (nb (l.getD i 0).toNat, 0, ()) := by
  intro i hi hj
  have hf : ((l.take i).flatMap fun v => nb v.toNat).length ≤ 9 * i := by
   have := len_flat_nb (l.take i) (fun v hv => by
    obtain ⟨q, hq, e⟩ := List.getElem_of_mem hv
    have hq2 : q < i := by simp at hq; omega
    have := hj q (by omega)
    rwa [show l.getD q 0 = v by rw [List.getElem_take] at e; simp [List.getD, show q < l.length by omega, e]] at this)
   rw [List.length_take] at this; omega
  have h1 := hj i (Nat.le_refl _)
  have h2 := h1.2
  refine ⟨hf, len_nb9 (by omega), ?_⟩
  obtain ⟨n, hn⟩ := Int.eq_ofNat_of_zero_le h1.1
  rw [hn, refNum_eq n (by rw [hn] at h2; omega)]
  simp
 rcases all_first 0 l okN with h | ⟨h, k, k1, k2, k3⟩
 ·rw [if_pos h]
  have hh : ∀ j, j < l.length → okN (l.getD j 0) := fun j hj => h _ (mem_getD 0 hj)
  refine lp_upto (fun i => ((i : Int), (l.take i).flatMap (fun v => nb v.toNat), ())) l.length rfl (fun i hi => ?_) ?_
  ·have hlt : decide ((i : Int) < (l.length : Int)) = true := by simpa using hi
   obtain ⟨a1, a2, a3⟩ := step i hi fun j hj => hh j (by omega)
   simp only [hlt, if_true, Int.toNat_natCast]
   rw [gg_t (by omega), a3, bd_s]
   simp only [bne_self_eq_false, Bool.false_eq_true, if_false]
   rw [gg_t (by omega), w64 (m := i + 1) (by omega) (by omega), flatMap_take _ 0 _ _ hi]
  ·have hlt : decide ((l.length : Int) < (l.length : Int)) = false := by simp
   simp only [hlt, List.take_length]
   rfl
 ·rw [if_neg h]
  refine lp_upto (fun i => ((i : Int), (l.take i).flatMap (fun v => nb v.toNat), ())) k rfl (fun i hi => ?_) ?_
  ·have hlt : decide ((i : Int) < (l.length : Int)) = true := decide_eq_true (by omega)
   obtain ⟨a1, a2, a3⟩ := step i (by omega) fun j hj => k2 j (by omega)
   simp only [hlt, if_true, Int.toNat_natCast]
   rw [gg_t (by omega), a3, bd_s]
   simp only [bne_self_eq_false, Bool.false_eq_true, if_false]
   rw [gg_t (by omega), w64 (m := i + 1) (by omega) (by omega), flatMap_take _ 0 _ _ (by omega)]
  ·have hlt : decide ((k : Int) < (l.length : Int)) = true := decide_eq_true (by omega)
   simp only [hlt, if_true, Int.toNat_natCast]
   rw [gg_t (by omega), refNum_bad _ (by unfold okN at k3; omega), bd_s]
   rfl
theorem w64_nat (n : Nat) (h : n < 2 ^ 63) : IntKind.i64.wrap (n : Int) = (n : Int) := by
 rw [IntKind.wrap_i64]; omega
theorem or_nat (a b : Nat) (ha : a < 2 ^ 63) (hb : b < 2 ^ 63) : bitOr .i64 (a : Int) (b : Int) = ((a ||| b : Nat) : Int) := by
 unfold bitOr
 have e1 : BitVec.ofInt IntKind.i64.bits (a : Int) = BitVec.ofNat 64 a := by simp [IntKind.bits, BitVec.ofInt_natCast]
 have e2 : BitVec.ofInt IntKind.i64.bits (b : Int) = BitVec.ofNat 64 b := by simp [IntKind.bits, BitVec.ofInt_natCast]
 have h3 : a ||| b < 2 ^ 63 := Nat.or_lt_two_pow ha hb
 rw [e1, e2]
 have : (BitVec.ofNat 64 a ||| BitVec.ofNat 64 b).toNat = a ||| b := by
  rw [BitVec.toNat_or, BitVec.toNat_ofNat, BitVec.toNat_ofNat, Nat.mod_eq_of_lt (by omega), Nat.mod_eq_of_lt (by omega)]
 show IntKind.i64.wrap (((BitVec.ofNat 64 a ||| BitVec.ofNat 64 b).toNat : Nat) : Int) = _
 rw [this]
 exact w64_nat _ h3
theorem shl_nat (b s : Nat) (hs : s ≤ 64) (h : b * 2 ^ s < 2 ^ 63) : shlI .i64 (b : Int) (s : Int) = ((b * 2 ^ s : Nat) : Int) := by
 unfold shlI
 rw [Int.toNat_natCast, Nat.min_eq_left (show s ≤ IntKind.i64.bits from hs)]
 have : (b : Int) * 2 ^ s = ((b * 2 ^ s : Nat) : Int) := by push_cast; rfl
 rw [this]
 exact w64_nat _ h
theorem or_shl (a b s : Nat) (hs : s ≤ 64) (ha : a < 2 ^ s) (h : b * 2 ^ s + a < 2 ^ 63) : bitOr .i64 (a : Int) (shlI .i64 (b : Int) (s : Int)) = ((a + b * 2 ^ s : Nat) : Int) := by
 rw [shl_nat b s hs (by omega), or_nat _ _ (by omega) (by omega)]
 congr 1
 rw [Nat.or_comm, Nat.mul_comm, ← Nat.two_pow_add_eq_or_of_lt ha, Nat.add_comm]
def rv : Nat → Nat → List Int → Int × Int × Int
 | _, _, [] => (0, 0, 11)
 | acc, k, b :: r =>
  if (k = 8 ∧ 64 ≤ b) ∨ (b = 0 ∧ 0 < k) then (0, 0, 12) else
  if b < 128 then (((acc + b.toNat * 128 ^ k : Nat) : Int), ((k + 1 : Nat) : Int), 0) else rv (acc + (b.toNat - 128) * 128 ^ k) (k + 1) r
theorem loop_rv {A : Type} {body : Int × Int × Unit → Option ((Int × Int × Unit) ⊕ A)} (x : List Int) (f : Int × Int × Int → A)
  (h0 : ∀ acc k : Nat, x.length ≤ k → body ((acc : Int), (k : Int), ()) = some (.inr (f (0, 0, 11))))
  (h1 : ∀ acc k : Nat, k < x.length → (k = 8 ∧ 64 ≤ x.getD k 0) ∨ (x.getD k 0 = 0 ∧ 0 < k) → body ((acc : Int), (k : Int), ()) = some (.inr (f (0, 0, 12))))
  (h2 : ∀ acc k : Nat, k ≤ 8 → acc < 128 ^ k → k < x.length → ¬ ((k = 8 ∧ 64 ≤ x.getD k 0) ∨ (x.getD k 0 = 0 ∧ 0 < k)) → x.getD k 0 < 128 → body ((acc : Int), (k : Int), ()) = some (.inr (f (((acc + (x.getD k 0).toNat * 128 ^ k : Nat) : Int), ((k + 1 : Nat) : Int), 0))))
  (h3 : ∀ acc k : Nat, k < 8 → acc < 128 ^ k → k < x.length → ¬ x.getD k 0 < 128 → body ((acc : Int), (k : Int), ()) = some (.inl (((acc + ((x.getD k 0).toNat - 128) * 128 ^ k : Nat) : Int), ((k + 1 : Nat) : Int), ())))
  (hb : ∀ c ∈ x, Byt c) :
  ∀ (m k acc : Nat), k + m = 8 → acc < 128 ^ k → loop body ((acc : Int), (k : Int), ()) = some (f (rv acc k (x.drop k))) := by
 intro m
 induction m with
 | zero =>
  intro k acc hk ha
  by_cases hl : k < x.length
  ·have hd : x.drop k = x.getD k 0 :: x.drop (k + 1) := by
    rw [List.drop_eq_getElem_cons hl]; congr 1; simp [List.getD, hl]
   rw [hd, rv]
   by_cases hc : (k = 8 ∧ 64 ≤ x.getD k 0) ∨ (x.getD k 0 = 0 ∧ 0 < k)
   ·rw [if_pos hc]; exact loop_done (h1 acc k hl hc)
   ·have hlt : x.getD k 0 < 128 := by omega
    rw [if_neg hc, if_pos hlt]; exact loop_done (h2 acc k (by omega) ha hl hc hlt)
  ·rw [List.drop_eq_nil_of_le (by omega), rv]; exact loop_done (h0 acc k (by omega))
 | succ m ih =>
  intro k acc hk ha
  by_cases hl : k < x.length
  ·have hd : x.drop k = x.getD k 0 :: x.drop (k + 1) := by
    rw [List.drop_eq_getElem_cons hl]; congr 1; simp [List.getD, hl]
   rw [hd, rv]
   by_cases hc : (k = 8 ∧ 64 ≤ x.getD k 0) ∨ (x.getD k 0 = 0 ∧ 0 < k)
   ·rw [if_pos hc]; exact loop_done (h1 acc k hl hc)
   ·by_cases hlt : x.getD k 0 < 128
    ·rw [if_neg hc, if_pos hlt]; exact loop_done (h2 acc k (by omega) ha hl hc hlt)
    ·rw [if_neg hc, if_neg hlt, loop_cont (h3 acc k (by omega) ha hl hlt)]
     have hbb := hb _ (mem_getD (0 : Int) hl)
     have h4 : (x.getD k 0).toNat - 128 ≤ 127 := by have := hbb.2; omega
     refine ih (k + 1) _ (by omega) ?_
     have h5 : ((x.getD k 0).toNat - 128) * 128 ^ k ≤ 127 * 128 ^ k := Nat.mul_le_mul_right _ h4
     rw [Nat.pow_succ]; omega
  ·rw [List.drop_eq_nil_of_le (by omega), rv]; exact loop_done (h0 acc k (by omega))
theorem lp_meas {σ A : Type} {body : σ → Option (σ ⊕ A)} (P : σ → Prop) (μ : σ → Nat) (F : σ → A)
  (h : ∀ s, P s → body s = some (.inr (F s)) ∨ ∃ s', body s = some (.inl s') ∧ P s' ∧ μ s' < μ s ∧ F s' = F s) : ∀ s, P s → lp s body = some (F s) := by
 have main : ∀ (n : Nat) (s : σ), μ s ≤ n → P s → loop body s = some (F s) := by
  intro n
  induction n with
  | zero =>
   intro s hn hs
   rcases h s hs with h1 | ⟨s', h1, h2, h3, h4⟩
   ·exact loop_done h1
   ·omega
  | succ n ih =>
   intro s hn hs
   rcases h s hs with h1 | ⟨s', h1, h2, h3, h4⟩
   ·exact loop_done h1
   ·rw [loop_cont h1, ih s' (by omega) h2, h4]
 exact fun s hs => main (μ s) s (Nat.le_refl _) hs
theorem rv_nb : ∀ (j k acc m : Nat) (r : List Int), k + j = 8 → m < 64 * 128 ^ j → (0 < k → 0 < m) → rv acc k (nb m ++ r) = (((acc + m * 128 ^ k : Nat) : Int), ((k + (nb m).length : Nat) : Int), 0)
 | 0, k, acc, m, r, hk, hm, h0 => by
  have hm' : m < 128 := by omega
  rw [nb_lt hm']
  simp only [List.cons_append, List.nil_append, rv]
  rw [if_neg (by omega), if_pos (by omega)]
  simp
 | j + 1, k, acc, m, r, hk, hm, h0 => by
  by_cases hc : m < 128
  ·rw [nb_lt hc]
   simp only [List.cons_append, List.nil_append, rv]
   rw [if_neg (by omega), if_pos (by omega)]
   simp
  ·rw [nb_ge hc, List.cons_append, rv, if_neg (by omega), if_neg (by omega), rv_nb j (k + 1) _ (m / 128) r (by omega) (by rw [Nat.div_lt_iff_lt_mul (by decide)]; rw [Nat.pow_succ] at hm; omega) (by omega)]
   have e : (((m % 128 + 128 : Nat) : Int).toNat - 128) * 128 ^ k + m / 128 * 128 ^ (k + 1) = m * 128 ^ k := by
    rw [Int.toNat_natCast, Nat.add_sub_cancel, Nat.pow_succ, Nat.mul_comm (128 ^ k) 128, ← Nat.mul_assoc, ← Nat.add_mul]
    congr 1; omega
   simp only [List.length_cons]
   rw [show acc + (((m % 128 + 128 : Nat) : Int).toNat - 128) * 128 ^ k + m / 128 * 128 ^ (k + 1) = acc + m * 128 ^ k by omega, show k + 1 + (nb (m / 128)).length = k + ((nb (m / 128)).length + 1) by omega]
theorem rv_nb0 (m : Nat) (r : List Int) (h : m < 2 ^ 62) : rv 0 0 (nb m ++ r) = ((m : Int), ((nb m).length : Int), 0) := by
 rw [rv_nb 8 0 0 m r rfl (by omega) (by omega)]
 simp
theorem rv_ok : ∀ (x : List Int) (k acc : Nat) (v n : Int), k ≤ 8 → (∀ c ∈ x, Byt c) → rv acc k x = (v, n, 0) → ∃ m, m < 64 * 128 ^ (8 - k) ∧ (0 < k → 0 < m) ∧ v = ((acc + m * 128 ^ k : Nat) : Int) ∧ n = ((k + (nb m).length : Nat) : Int) ∧ x = nb m ++ x.drop (nb m).length
 | [], k, acc, v, n, hk, hb, h => by
  rw [rv] at h
  cases h
 | b :: r, k, acc, v, n, hk, hb, h => by
  rw [rv] at h
  have hbb := hb b (by simp)
  unfold Byt at hbb
  split at h
  ·cases h
  ·rename_i h1
   split at h
   ·rename_i h2
    refine ⟨b.toNat, ?_, by omega, ?_, ?_, ?_⟩
    ·have : 128 ^ 0 ≤ 128 ^ (8 - k) := Nat.pow_le_pow_right (by decide) (by omega)
     by_cases hk8 : k = 8
     ·subst hk8; simp; omega
     ·have : 128 ^ 1 ≤ 128 ^ (8 - k) := Nat.pow_le_pow_right (by decide) (by omega)
      omega
    ·cases h; rfl
    ·rw [nb_lt (by omega)]; cases h; rfl
    ·rw [nb_lt (by omega)]; simp; omega
   ·rename_i h2
    have hk8 : k < 8 := by
     by_cases e : k = 8
     ·exact absurd (.inl ⟨e, by omega⟩) h1
     ·omega
    obtain ⟨m, m1, m2, m3, m4, m5⟩ := rv_ok r (k + 1) _ v n (by omega) (fun c hc => hb c (by simp [hc])) h
    have hm := m2 (by omega)
    have hge : ¬ ((b.toNat - 128) + 128 * m < 128) := by omega
    have hmod : ((b.toNat - 128) + 128 * m) % 128 + 128 = b.toNat := by omega
    have hdiv : ((b.toNat - 128) + 128 * m) / 128 = m := by omega
    have hnb : nb ((b.toNat - 128) + 128 * m) = b :: nb m := by
     rw [nb_ge hge, hmod, hdiv]; congr 1; omega
    refine ⟨(b.toNat - 128) + 128 * m, ?_, fun _ => by omega, ?_, ?_, ?_⟩
    ·have : 128 ^ (8 - k) = 128 ^ (8 - (k + 1)) * 128 := by rw [← Nat.pow_succ]; congr 1; omega
     omega
    ·rw [m3, Nat.pow_succ, Nat.add_mul, Nat.mul_comm (128 ^ k) 128, ← Nat.mul_assoc, Nat.mul_comm m 128, Nat.add_assoc]
    ·rw [m4, hnb, List.length_cons]; congr 1; omega
    ·rw [hnb, List.length_cons, List.drop_succ_cons, List.cons_append, ← m5]
theorem rv_err : ∀ (x : List Int) (k acc : Nat), (rv acc k x).2.2 ≠ 0 → (rv acc k x).1 = 0 ∧ (rv acc k x).2.1 = 0
 | [], k, acc, h => by rw [rv]; exact ⟨rfl, rfl⟩
 | b :: r, k, acc, h => by
  rw [rv] at h ⊢
  split
  ·exact ⟨rfl, rfl⟩
  ·rename_i h1
   rw [if_neg h1] at h
   split
   ·rename_i h2
    rw [if_pos h2] at h
    exact absurd rfl h
   ·rename_i h2
    rw [if_neg h2] at h
    exact rv_err r _ _ h
theorem rv_rng (x : List Int) (hb : ∀ c ∈ x, Byt c) : 0 ≤ (rv 0 0 x).1 ∧ (rv 0 0 x).1 < 2 ^ 62 ∧ 0 ≤ (rv 0 0 x).2.1 ∧ (rv 0 0 x).2.1 ≤ (x.length : Int) ∧ ((rv 0 0 x).2.2 = 0 → 0 < (rv 0 0 x).2.1) := by
 by_cases h : (rv 0 0 x).2.2 = 0
 ·obtain ⟨m, m1, m2, m3, m4, m5⟩ := rv_ok x 0 0 (rv 0 0 x).1 (rv 0 0 x).2.1 (by omega) hb (by rw [← h])
  have h1 : x.length = (nb m).length + (x.drop (nb m).length).length := by
   conv => lhs; rw [m5]
   rw [List.length_append]
  have h2 := nb_pos m
  rw [m3, m4]
  simp only [Nat.zero_add, Nat.sub_zero, Nat.pow_zero, Nat.mul_one] at *
  refine ⟨by omega, by omega, by omega, by omega, fun _ => by omega⟩
 ·obtain ⟨h1, h2⟩ := rv_err x 0 0 h
  rw [h1, h2]
  exact ⟨by omega, by omega, by omega, by omega, fun e => absurd e h⟩
def rdn (x : List Int) : Int × List Int × Int := if (rv 0 0 x).2.2 ≠ 0 then (0, [], (rv 0 0 x).2.2) else ((rv 0 0 x).1, x.drop (rv 0 0 x).2.1.toNat, 0)
theorem len_drop_rdn (x : List Int) : (rdn x).2.1.length ≤ x.length := by
 unfold rdn
 split
 ·simp
 ·simp
theorem rdn_nb (m : Nat) (r : List Int) (h : m < 2 ^ 62) : rdn (nb m ++ r) = ((m : Int), r, 0) := by
 unfold rdn
 rw [rv_nb0 m r h]
 simp
theorem rdn_ok {x : List Int} (hb : ∀ c ∈ x, Byt c) {v : Int} {r : List Int} (h : rdn x = (v, r, 0)) : ∃ m : Nat, m < 2 ^ 62 ∧ v = (m : Int) ∧ x = nb m ++ r := by
 unfold rdn at h
 split at h
 ·rename_i h1
  exact absurd (congrArg (fun z => z.2.2) h) h1
 ·rename_i h1
  have h2 : (rv 0 0 x).2.2 = 0 := by simpa using h1
  obtain ⟨m, m1, m2, m3, m4, m5⟩ := rv_ok x 0 0 (rv 0 0 x).1 (rv 0 0 x).2.1 (by omega) hb (by rw [← h2])
  cases h
  simp only [Nat.zero_add, Nat.sub_zero, Nat.pow_zero, Nat.mul_one] at *
  refine ⟨m, by omega, m3, ?_⟩
  rw [m4, Int.toNat_natCast]
  exact m5
def intsF : Nat → List Int → List Int → List Int × Int
 | 0, acc, _ => (acc, 0)
 | _ + 1, acc, [] => (acc, 0)
 | f + 1, acc, b :: r => if (rdn (b :: r)).2.2 ≠ 0 then ([], (rdn (b :: r)).2.2) else intsF f (acc ++ [(rdn (b :: r)).1]) (rdn (b :: r)).2.1
def ints (x : List Int) : List Int × Int := intsF x.length [] x
theorem intsF_nb : ∀ (l : List Int) (f : Nat) (acc : List Int), (∀ v ∈ l, okN v) → (l.flatMap fun v => nb v.toNat).length ≤ f → intsF f acc (l.flatMap fun v => nb v.toNat) = (acc ++ l, 0)
 | [], f, acc, _, _ => by cases f <;> simp [intsF]
 | v :: l, f, acc, h, hf => by
  have hv := h v (by simp)
  unfold okN at hv
  obtain ⟨b, r, hbr⟩ : ∃ b r, nb v.toNat = b :: r := by
   have := nb_pos v.toNat
   cases hc : nb v.toNat with
   | nil => rw [hc] at this; simp at this
   | cons b r => exact ⟨b, r, rfl⟩
  have hr := rdn_nb v.toNat (l.flatMap fun v => nb v.toNat) (by omega)
  rw [List.flatMap_cons] at hf ⊢
  rw [hbr, List.cons_append] at hf hr ⊢
  cases f with
  | zero => simp at hf
  | succ f =>
   rw [intsF, hr]
   simp only [ne_eq, not_true, if_false]
   rw [intsF_nb l f _ (fun x hx => h x (by simp [hx])) (by simp only [List.length_cons, List.length_append] at hf; omega), Int.toNat_of_nonneg hv.1]
   simp
theorem intsF_ok : ∀ (f : Nat) (x acc l : List Int), (∀ c ∈ x, Byt c) → x.length ≤ f → intsF f acc x = (l, 0) → ∃ l', l = acc ++ l' ∧ (∀ v ∈ l', okN v) ∧ x = l'.flatMap fun v => nb v.toNat
 | 0, x, acc, l, hb, hf, h => by
  have : x = [] := List.length_eq_zero_iff.1 (by omega)
  subst this
  cases h
  exact ⟨[], by simp, by simp, rfl⟩
 | f + 1, [], acc, l, hb, hf, h => by
  cases h
  exact ⟨[], by simp, by simp, rfl⟩
 | f + 1, b :: r, acc, l, hb, hf, h => by
  rw [intsF] at h
  split at h
  ·rename_i h1
   exact absurd (congrArg (fun z => z.2) h) h1
  ·rename_i h1
   have h2 : (rdn (b :: r)).2.2 = 0 := by simpa using h1
   obtain ⟨m, m1, m2, m3⟩ := rdn_ok hb (v := (rdn (b :: r)).1) (r := (rdn (b :: r)).2.1) (by rw [← h2])
   have hl : (rdn (b :: r)).2.1.length < (b :: r).length := by
    have := nb_pos m
    conv => rhs; rw [m3]
    rw [List.length_append]; omega
   obtain ⟨l', l1, l2, l3⟩ := intsF_ok f _ _ l (fun c hc => hb c (by rw [m3]; exact List.mem_append_right _ hc)) (by omega) h
   refine ⟨(rdn (b :: r)).1 :: l', by rw [l1]; simp, ?_, ?_⟩
   ·intro v hv
    rcases List.mem_cons.1 hv with rfl | hv
    ·rw [m2]; unfold okN; omega
    ·exact l2 v hv
   ·rw [List.flatMap_cons, ← l3, m2, Int.toNat_natCast]
    exact m3
theorem ints_nb (l : List Int) (h : ∀ v ∈ l, okN v) : ints (l.flatMap fun v => nb v.toNat) = (l, 0) := by
 unfold ints
 rw [intsF_nb l _ [] h (Nat.le_refl _)]; rfl
theorem ints_ok {x l : List Int} (hb : ∀ c ∈ x, Byt c) (h : ints x = (l, 0)) : (∀ v ∈ l, okN v) ∧ x = l.flatMap fun v => nb v.toNat := by
 obtain ⟨l', l1, l2, l3⟩ := intsF_ok _ x [] l hb (Nat.le_refl _) h
 rw [List.nil_append] at l1
 subst l1
 exact ⟨l2, l3⟩
theorem andn128 (c : Int) (h : Byt c) : bitAndNot .u8 c 128 = ((c.toNat % 128 : Nat) : Int) := by
 have key : ∀ n : Nat, n < 256 → bitAndNot .u8 (n : Int) 128 = ((n % 128 : Nat) : Int) := by decide +kernel
 obtain ⟨h1, h2⟩ := h
 rw [← key c.toNat (by omega), Int.toNat_of_nonneg h1]
theorem pow128 (k : Nat) : (2 : Nat) ^ (7 * k) = 128 ^ k := by rw [Nat.pow_mul]
theorem or_grp (acc k : Nat) (c : Nat) (hk : k ≤ 8) (ha : acc < 128 ^ k) (hc : c < 128) (h8 : k = 8 → c < 64) : bitOr .i64 (acc : Int) (shlI .i64 (IntKind.i64.wrap (c : Int)) (IntKind.i64.wrap (7 * (k : Int)))) = ((acc + c * 128 ^ k : Nat) : Int) := by
 rw [w64 (m := c) rfl (by omega), w64 (m := 7 * k) (by omega) (by omega)]
 have h1 : c * 2 ^ (7 * k) + acc < 2 ^ 63 := by
  rw [pow128]
  by_cases e : k = 8
  ·subst e; have := h8 rfl; omega
  ·have h2 : 128 ^ k ≤ 128 ^ 7 := Nat.pow_le_pow_right (by decide) (by omega)
   have h3 : c * 128 ^ k ≤ 127 * 128 ^ k := Nat.mul_le_mul_right _ (by omega)
   omega
 rw [or_shl acc c (7 * k) (by omega) (by rw [pow128]; exact ha) h1, pow128]
theorem add_grp (acc k : Nat) (c : Nat) (hk : k ≤ 8) (ha : acc < 128 ^ k) (hc : c < 128) (h8 : k = 8 → c < 64) : IntKind.i64.wrap ((acc : Int) + shlI .i64 (c : Int) (IntKind.u64.wrap (IntKind.i64.wrap (7 * (k : Int))))) = ((acc + c * 128 ^ k : Nat) : Int) := by
 have e0 : IntKind.i64.wrap (7 * (k : Int)) = ((7 * k : Nat) : Int) := w64 (by omega) (by omega)
 have e : IntKind.u64.wrap ((7 * k : Nat) : Int) = ((7 * k : Nat) : Int) := by rw [IntKind.wrap_u64]; omega
 have h1 : c * 2 ^ (7 * k) + acc < 2 ^ 63 := by
  rw [pow128]
  by_cases e : k = 8
  ·subst e; have := h8 rfl; omega
  ·have h2 : 128 ^ k ≤ 128 ^ 7 := Nat.pow_le_pow_right (by decide) (by omega)
   have h3 : c * 128 ^ k ≤ 127 * 128 ^ k := Nat.mul_le_mul_right _ (by omega)
   omega
 rw [e0, e, shl_nat c (7 * k) (by omega) (by omega), ← Int.natCast_add, w64_nat _ (by omega), pow128]
theorem read_eq (x : List Int) (hb : ∀ c ∈ x, Byt c) (hl : x.length ≤ 2 ^ 40) : s_74 (x, ()) = some ((rv 0 0 x).1, (rv 0 0 x).2.1, (rv 0 0 x).2.2, ()) := by
 unfold s_74
 refine loop_rv x (fun v => (v.1, v.2.1, v.2.2, ())) ?_ ?_ ?_ ?_ hb 8 0 0 rfl (by decide)
 ·intro acc k hk
  have hlt : decide ((k : Int) < (x.length : Int)) = false := decide_eq_false (by omega)
  simp only [hlt, Bool.false_eq_true, if_false]
  rfl
 ·intro acc k hk hc
  have hlt : decide ((k : Int) < (x.length : Int)) = true := decide_eq_true (by omega)
  obtain ⟨c, hc0⟩ : ∃ c, x.getD k 0 = c := ⟨_, rfl⟩
  simp only [hlt, if_true, Int.toNat_natCast, hc0]
  rw [gg_t (by omega)]
  have hbb := hb _ (mem_getD (0 : Int) hk)
  rw [hc0] at hc hbb
  rcases hc with ⟨rfl, h64⟩ | ⟨rfl, hk0⟩
  ·simp only [bd_s, beq_self_eq_true, if_true, show ((8 : Nat) : Int) = 8 from rfl, decide_eq_true h64]
   rfl
  ·by_cases h8 : ((k : Int) == 8) = true
   ·simp only [bd_s, h8, if_true, show decide ((64 : Int) ≤ 0) = false from rfl, Bool.false_eq_true, if_false, show decide ((0 : Int) < 128) = true from rfl, beq_self_eq_true, decide_eq_true (show (0 : Int) < (k : Int) by omega)]
    rfl
   ·simp only [bd_s, h8, if_true, Bool.false_eq_true, if_false, show decide ((0 : Int) < 128) = true from rfl, beq_self_eq_true, decide_eq_true (show (0 : Int) < (k : Int) by omega)]
    rfl
 ·intro acc k hk8 ha hk hc hlt1
  have hlt : decide ((k : Int) < (x.length : Int)) = true := decide_eq_true (by omega)
  obtain ⟨c, hc0⟩ : ∃ c, x.getD k 0 = c := ⟨_, rfl⟩
  simp only [hlt, if_true, Int.toNat_natCast, hc0]
  rw [gg_t (by omega)]
  have hbb := hb _ (mem_getD (0 : Int) hk)
  rw [hc0] at hc hbb hlt1
  have hbb' := hbb
  unfold Byt at hbb'
  have e0 : c.toNat % 128 = c.toNat := Nat.mod_eq_of_lt (by omega)
  have hor := or_grp acc k c.toNat hk8 ha (by omega) (fun e => by omega)
  have hg : 0 ≤ IntKind.i64.wrap (7 * (k : Int)) := by rw [w64 (m := 7 * k) (by omega) (by omega)]; omega
  have hn : IntKind.i64.wrap ((k : Int) + 1) = ((k + 1 : Nat) : Int) := w64 (by omega) (by omega)
  have hbn := andn128 c hbb
  rw [e0] at hbn
  have hd : decide (c < 128) = true := decide_eq_true hlt1
  have hgg : ∀ {α : Type} {m : Option α}, gg (0 ≤ IntKind.i64.wrap (7 * (k : Int))) m = m := gg_t hg
  by_cases h8 : ((k : Int) == 8) = true
  ·have h8' : k = 8 := by simp at h8; omega
   have h64 : decide ((64 : Int) ≤ c) = false := decide_eq_false (by omega)
   have h00 : (c == 0) = false := by simp; omega
   simp only [bd_s, h8, if_true, h64, Bool.false_eq_true, if_false, hd, h00, hgg, hbn, hor, hn]
   rfl
  ·by_cases h0 : c = 0
   ·subst h0
    have hk0 : decide ((0 : Int) < (k : Int)) = false := decide_eq_false (by omega)
    simp only [bd_s, h8, if_true, Bool.false_eq_true, if_false, hd, beq_self_eq_true, hk0, hgg, hbn, hor, hn]
    rfl
   ·have h00 : (c == 0) = false := by simpa using h0
    simp only [bd_s, h8, if_true, Bool.false_eq_true, if_false, hd, h00, hgg, hbn, hor, hn]
    rfl
 ·intro acc k hk8 ha hk hlt1
  have hlt : decide ((k : Int) < (x.length : Int)) = true := decide_eq_true (by omega)
  obtain ⟨c, hc0⟩ : ∃ c, x.getD k 0 = c := ⟨_, rfl⟩
  simp only [hlt, if_true, Int.toNat_natCast, hc0]
  rw [gg_t (by omega)]
  have hbb := hb _ (mem_getD (0 : Int) hk)
  rw [hc0] at hbb hlt1
  have hbb' := hbb
  unfold Byt at hbb'
  have e0 : c.toNat % 128 = c.toNat - 128 := by omega
  have hor := or_grp acc k (c.toNat - 128) (by omega) ha (by omega) (fun e => by omega)
  have hg : 0 ≤ IntKind.i64.wrap (7 * (k : Int)) := by rw [w64 (m := 7 * k) (by omega) (by omega)]; omega
  have hn : IntKind.i64.wrap ((k : Int) + 1) = ((k + 1 : Nat) : Int) := w64 (by omega) (by omega)
  have hbn := andn128 c hbb
  rw [e0] at hbn
  have hd : decide (c < 128) = false := decide_eq_false hlt1
  have hgg : ∀ {α : Type} {m : Option α}, gg (0 ≤ IntKind.i64.wrap (7 * (k : Int))) m = m := gg_t hg
  have h8 : ((k : Int) == 8) = false := by simp; omega
  simp only [bd_s, h8, if_true, Bool.false_eq_true, if_false, hd, hgg, hbn, hor, hn]
theorem refRead_eq (x : List Int) (hb : ∀ c ∈ x, Byt c) (hl : x.length ≤ 2 ^ 40) : s_80 (x, ()) = some ((rdn x).1, (rdn x).2.1, (rdn x).2.2, ()) := by
 unfold s_80
 have key : (fun v : Int × Int × Int => if v.2.2 ≠ 0 then ((0 : Int), ([] : List Int), v.2.2, ()) else (v.1, x.drop v.2.1.toNat, (0 : Int), ())) (rv 0 0 (x.drop 0)) = ((rdn x).1, (rdn x).2.1, (rdn x).2.2, ()) := by
  unfold rdn
  rw [List.drop_zero]
  dsimp only
  split <;> rfl
 rw [← key]
 refine loop_rv x (fun v : Int × Int × Int => if v.2.2 ≠ 0 then ((0 : Int), ([] : List Int), v.2.2, ()) else (v.1, x.drop v.2.1.toNat, (0 : Int), ())) ?_ ?_ ?_ ?_ hb 8 0 0 rfl (by decide)
 ·intro acc k hk
  have hlt : decide ((k : Int) < (x.length : Int)) = false := decide_eq_false (by omega)
  simp only [hlt, Bool.false_eq_true, if_false]
  rfl
 ·intro acc k hk hc
  have hlt : decide ((k : Int) < (x.length : Int)) = true := decide_eq_true (by omega)
  obtain ⟨c, hc0⟩ : ∃ c, x.getD k 0 = c := ⟨_, rfl⟩
  simp only [hlt, if_true, Int.toNat_natCast, hc0]
  have hgk : ∀ {α : Type} {m : Option α}, gg (0 ≤ (k : Int) ∧ k < x.length) m = m := gg_t (by omega)
  simp only [hgk]
  have hbb := hb _ (mem_getD (0 : Int) hk)
  rw [hc0] at hc hbb
  have hbb' := hbb
  unfold Byt at hbb'
  have hw : (IntKind.i64.wrap c).tmod 128 = ((c.toNat % 128 : Nat) : Int) := by
   rw [wneg (by omega) (by omega), Int.tmod_eq_emod_of_nonneg (by omega)]; omega
  rcases hc with ⟨hk8, h64⟩ | ⟨rfl, hk0⟩
  ·have h8 : ((k : Int) == 8) = true := by simp; omega
   by_cases hd : c < 128
   ·have h63 : decide ((63 : Int) < ((c.toNat % 128 : Nat) : Int)) = true := decide_eq_true (by omega)
    simp only [bd_s, hw, hgk, Int.toNat_natCast, hc0, h8, if_true, decide_eq_true hd, Bool.not_true, h63, Bool.true_eq_false, if_false]
    rfl
   ·simp only [bd_s, hw, hgk, Int.toNat_natCast, hc0, h8, if_true, decide_eq_false hd, Bool.not_false, Bool.true_eq_false, if_false]
    rfl
  ·have h0 : ((((0 : Int).toNat % 128 : Nat) : Int) == 0) = true := rfl
   have h63 : decide ((63 : Int) < (((0 : Int).toNat % 128 : Nat) : Int)) = false := rfl
   by_cases h8 : ((k : Int) == 8) = true
   ·simp only [bd_s, hw, hgk, Int.toNat_natCast, hc0, h8, if_true, Bool.false_eq_true, if_false, show decide ((0 : Int) < 128) = true from rfl, Bool.not_true, h0, h63, decide_eq_true (show (0 : Int) < (k : Int) by omega)]
    rfl
   ·simp only [bd_s, hw, hgk, Int.toNat_natCast, hc0, h8, if_true, Bool.false_eq_true, if_false, show decide ((0 : Int) < 128) = true from rfl, Bool.not_true, h0, decide_eq_true (show (0 : Int) < (k : Int) by omega)]
    rfl
 ·intro acc k hk8 ha hk hc hlt1
  have hlt : decide ((k : Int) < (x.length : Int)) = true := decide_eq_true (by omega)
  obtain ⟨c, hc0⟩ : ∃ c, x.getD k 0 = c := ⟨_, rfl⟩
  simp only [hlt, if_true, Int.toNat_natCast, hc0]
  have hgk : ∀ {α : Type} {m : Option α}, gg (0 ≤ (k : Int) ∧ k < x.length) m = m := gg_t (by omega)
  simp only [hgk]
  have hbb := hb _ (mem_getD (0 : Int) hk)
  rw [hc0] at hc hbb hlt1
  have hbb' := hbb
  unfold Byt at hbb'
  have hw : (IntKind.i64.wrap c).tmod 128 = ((c.toNat : Nat) : Int) := by
   rw [wneg (by omega) (by omega), Int.tmod_eq_emod_of_nonneg (by omega)]; omega
  have hor := add_grp acc k c.toNat hk8 ha (by omega) (fun e => by omega)
  have hg : 0 ≤ IntKind.u64.wrap (IntKind.i64.wrap (7 * (k : Int))) := by rw [w64 (m := 7 * k) (by omega) (by omega), IntKind.wrap_u64]; omega
  have hn : IntKind.i64.wrap ((k : Int) + 1) = ((k + 1 : Nat) : Int) := w64 (by omega) (by omega)
  have hd : decide (c < 128) = true := decide_eq_true hlt1
  have hgg : ∀ {α : Type} {m : Option α}, gg (0 ≤ IntKind.u64.wrap (IntKind.i64.wrap (7 * (k : Int)))) m = m := gg_t hg
  have hgg2 : ∀ {α : Type} {m : Option α}, gg (0 ≤ ((k + 1 : Nat) : Int) ∧ k + 1 ≤ x.length) m = m := gg_t (by omega)
  have hcp := s15_eq (x.drop (k + 1)) (by rw [List.length_drop]; omega)
  have h00 : ((c.toNat : Int) == 0) = (c == 0) := by rw [Int.toNat_of_nonneg (by omega)]
  have htn : ((k + 1 : Nat) : Int).toNat = k + 1 := Int.toNat_natCast _
  by_cases h8 : ((k : Int) == 8) = true
  ·have h8' : k = 8 := by simp at h8; omega
   have h63 : decide ((63 : Int) < (c.toNat : Int)) = false := decide_eq_false (by omega)
   have h0 : (c == 0) = false := by simp; omega
   simp only [bd_s, hw, hgk, Int.toNat_natCast, hc0, h8, if_true, h63, Bool.false_eq_true, if_false, hd, Bool.not_true, h00, h0, hgg, hor, hn, hgg2, htn, hcp]
   rfl
  ·by_cases h0 : c = 0
   ·have h0' : (c == 0) = true := by simpa using h0
    have hk0 : decide ((0 : Int) < (k : Int)) = false := decide_eq_false (by omega)
    simp only [bd_s, hw, hgk, Int.toNat_natCast, hc0, h8, if_true, Bool.false_eq_true, if_false, hd, h00, h0', hk0, hgg, hor, hn, hgg2, htn, hcp]
    rfl
   ·have h0' : (c == 0) = false := by simpa using h0
    simp only [bd_s, hw, hgk, Int.toNat_natCast, hc0, h8, if_true, Bool.false_eq_true, if_false, hd, h00, h0', hgg, hor, hn, hgg2, htn, hcp]
    rfl
 ·intro acc k hk8 ha hk hlt1
  have hlt : decide ((k : Int) < (x.length : Int)) = true := decide_eq_true (by omega)
  obtain ⟨c, hc0⟩ : ∃ c, x.getD k 0 = c := ⟨_, rfl⟩
  simp only [hlt, if_true, Int.toNat_natCast, hc0]
  have hgk : ∀ {α : Type} {m : Option α}, gg (0 ≤ (k : Int) ∧ k < x.length) m = m := gg_t (by omega)
  simp only [hgk]
  have hbb := hb _ (mem_getD (0 : Int) hk)
  rw [hc0] at hbb hlt1
  have hbb' := hbb
  unfold Byt at hbb'
  have hw : (IntKind.i64.wrap c).tmod 128 = ((c.toNat - 128 : Nat) : Int) := by
   rw [wneg (by omega) (by omega), Int.tmod_eq_emod_of_nonneg (by omega)]; omega
  have hor := add_grp acc k (c.toNat - 128) (by omega) ha (by omega) (fun e => by omega)
  have hg : 0 ≤ IntKind.u64.wrap (IntKind.i64.wrap (7 * (k : Int))) := by rw [w64 (m := 7 * k) (by omega) (by omega), IntKind.wrap_u64]; omega
  have hn : IntKind.i64.wrap ((k : Int) + 1) = ((k + 1 : Nat) : Int) := w64 (by omega) (by omega)
  have hd : decide (c < 128) = false := decide_eq_false hlt1
  have hgg : ∀ {α : Type} {m : Option α}, gg (0 ≤ IntKind.u64.wrap (IntKind.i64.wrap (7 * (k : Int)))) m = m := gg_t hg
  have h8 : ((k : Int) == 8) = false := by simp; omega
  simp only [bd_s, hw, hgk, Int.toNat_natCast, hc0, h8, if_true, Bool.false_eq_true, if_false, hd, hgg, hor, hn]
theorem Read_eq (x : List Int) (hb : ∀ c ∈ x, Byt c) (hl : x.length ≤ 2 ^ 40) : s_73 (x, ()) = some ((rdn x).1, (rdn x).2.1, (rdn x).2.2, ()) := by
 unfold s_73
 have h := rv_rng x hb
 rw [read_eq x hb hl, bd_s]
 unfold rdn
 by_cases h0 : (rv 0 0 x).2.2 = 0
 ·have hne : ((rv 0 0 x).2.2 != 0) = false := by simpa using h0
  simp only [h0, bne_self_eq_false, Bool.false_eq_true, if_false, ne_eq, not_true]
  rw [gg_t (by omega), gg_t (by rw [List.length_drop]; omega)]
 ·have hne : ((rv 0 0 x).2.2 != 0) = true := by simpa using h0
  simp only [hne, if_true, h0, ne_eq, not_false_eq_true]
theorem ints_lp {A : Type} {body : List Int × List Int × Unit → Option ((List Int × List Int × Unit) ⊕ A)} (f : List Int × Int → A)
  (h0 : ∀ acc, body ([], acc, ()) = some (.inr (f (acc, 0))))
  (h1 : ∀ acc x, 0 < x.length → x.length ≤ 2 ^ 40 → (∀ c ∈ x, Byt c) → (rdn x).2.2 ≠ 0 → body (x, acc, ()) = some (.inr (f ([], (rdn x).2.2))))
  (h2 : ∀ acc x, 0 < x.length → x.length ≤ 2 ^ 40 → acc.length ≤ 2 ^ 40 → (∀ c ∈ x, Byt c) → (rdn x).2.2 = 0 → body (x, acc, ()) = some (.inl ((rdn x).2.1, acc ++ [(rdn x).1], ()))) :
  ∀ (n : Nat) (x acc : List Int), x.length ≤ n → (∀ c ∈ x, Byt c) → acc.length + n ≤ 2 ^ 40 → loop body (x, acc, ()) = some (f (intsF n acc x)) := by
 intro n
 induction n with
 | zero =>
  intro x acc hn hb ha
  have : x = [] := List.length_eq_zero_iff.1 (by omega)
  subst this
  exact loop_done (h0 acc)
 | succ n ih =>
  intro x acc hn hb ha
  cases x with
  | nil => exact loop_done (h0 acc)
  | cons b r =>
   rw [intsF]
   by_cases h : (rdn (b :: r)).2.2 = 0
   ·rw [if_neg (by simpa using h), loop_cont (h2 acc _ (by simp) (by omega) (by omega) hb h)]
    obtain ⟨m, m1, m2, m3⟩ := rdn_ok hb (v := (rdn (b :: r)).1) (r := (rdn (b :: r)).2.1) (by rw [← h])
    have hl : (rdn (b :: r)).2.1.length < (b :: r).length := by
     have := nb_pos m
     conv => rhs; rw [m3]
     rw [List.length_append]; omega
    refine ih _ _ (by omega) (fun c hc => hb c (by rw [m3]; exact List.mem_append_right _ hc)) ?_
    rw [List.length_append]; simp only [List.length_cons, List.length_nil]; omega
   ·rw [if_pos h]; exact loop_done (h1 acc _ (by simp) (by omega) hb h)
theorem Ints_eq (x : List Int) (hb : ∀ c ∈ x, Byt c) (hl : x.length ≤ 2 ^ 39) : s_55 (x, ()) = some ((ints x).1, (ints x).2, ()) := by
 unfold s_55
 refine ints_lp (fun v => (v.1, v.2, ())) ?_ ?_ ?_ x.length x [] (Nat.le_refl _) hb (by simp; omega)
 ·intro acc; rfl
 ·intro acc y h1 h2 h3 h4
  have hlt : decide ((0 : Int) < (y.length : Int)) = true := decide_eq_true (by omega)
  have hr : (rdn y).2.2 = (rv 0 0 y).2.2 ∧ (rv 0 0 y).2.2 ≠ 0 := by
   unfold rdn at h4 ⊢
   split
   ·rename_i h; exact ⟨rfl, h⟩
   ·rename_i h; rw [if_neg h] at h4; exact absurd rfl h4
  have hne : ((rv 0 0 y).2.2 != 0) = true := by simpa using hr.2
  simp only [hlt, if_true]
  rw [read_eq y h3 h2, bd_s]
  simp only [hne, if_true, hr.1]
  rfl
 ·intro acc y h1 h2 h2' h3 h4
  have hlt : decide ((0 : Int) < (y.length : Int)) = true := decide_eq_true (by omega)
  have hr : (rv 0 0 y).2.2 = 0 := by
   unfold rdn at h4
   split at h4
   ·rename_i h; exact absurd h4 h
   ·rename_i h; simpa using h
  have e : rdn y = ((rv 0 0 y).1, y.drop (rv 0 0 y).2.1.toNat, 0) := by unfold rdn; rw [if_neg (by simpa using hr)]
  have hne : ((rv 0 0 y).2.2 != 0) = false := by simpa using hr
  have h := rv_rng y h3
  simp only [hlt, if_true]
  rw [read_eq y h3 h2, bd_s]
  simp only [hne, Bool.false_eq_true, if_false]
  rw [gg_t (by omega), gg_t (by omega), e]
theorem refInts_eq (x : List Int) (hb : ∀ c ∈ x, Byt c) (hl : x.length ≤ 2 ^ 39) : s_66 (x, ()) = some ((ints x).1, (ints x).2, ()) := by
 unfold s_66
 refine ints_lp (fun v => (v.1, v.2, ())) ?_ ?_ ?_ x.length x [] (Nat.le_refl _) hb (by simp; omega)
 ·intro acc; rfl
 ·intro acc y h1 h2 h3 h4
  have hlt : decide ((0 : Int) < (y.length : Int)) = true := decide_eq_true (by omega)
  have hne : ((rdn y).2.2 != 0) = true := by simpa using h4
  simp only [hlt, if_true]
  rw [refRead_eq y h3 h2, bd_s]
  simp only [hne, if_true]
  rfl
 ·intro acc y h1 h2 h2' h3 h4
  have hlt : decide ((0 : Int) < (y.length : Int)) = true := decide_eq_true (by omega)
  have hne : ((rdn y).2.2 != 0) = false := by simpa using h4
  simp only [hlt, if_true]
  rw [refRead_eq y h3 h2, bd_s]
  simp only [hne, Bool.false_eq_true, if_false]
  rw [gg_t (by omega)]
theorem bne_nat {a b : Nat} : (((a : Int) != (b : Int)) = true) ↔ a ≠ b := by simp; omega
theorem same_eq (x y : List Int) (h : x.length ≤ 2 ^ 50) : s_21 (x, y, ()) = some (decide (x = y), ()) := by
 unfold s_21
 by_cases hl : x.length = y.length
 ·have hne : ¬ (((x.length : Int) != (y.length : Int)) = true) := by rw [bne_nat]; omega
  simp only [hne, if_false]
  rcases first_not (fun i => x.getD i 0 = y.getD i 0) x.length with h1 | ⟨k, k1, k2, k3⟩
  ·have e : x = y := List.ext_getElem hl fun i h2 h3 => by have := h1 i h2; simpa [List.getD, h2, h3] using this
   rw [decide_eq_true e]
   refine lp_upto (fun i => ((i : Int), ())) x.length rfl (fun i hi => ?_) ?_
   ·have hlt : decide ((i : Int) < (x.length : Int)) = true := by simpa using hi
    have hg : ¬ ((x.getD i 0 != y.getD i 0) = true) := by rw [h1 i hi]; simp
    simp only [hlt, if_true, Int.toNat_natCast]
    rw [gg_t (by omega), gg_t (by omega), if_neg hg, w64 (m := i + 1) (by omega) (by omega)]
   ·have hlt : decide ((x.length : Int) < (x.length : Int)) = false := by simp
    simp only [hlt]
    rfl
  ·have e : ¬ x = y := by intro e; rw [e] at k3; exact k3 rfl
   rw [decide_eq_false e]
   refine lp_upto (fun i => ((i : Int), ())) k rfl (fun i hi => ?_) ?_
   ·have hlt : decide ((i : Int) < (x.length : Int)) = true := decide_eq_true (by omega)
    have hg : ¬ ((x.getD i 0 != y.getD i 0) = true) := by rw [k2 i hi]; simp
    simp only [hlt, if_true, Int.toNat_natCast]
    rw [gg_t (by omega), gg_t (by omega), if_neg hg, w64 (m := i + 1) (by omega) (by omega)]
   ·have hlt : decide ((k : Int) < (x.length : Int)) = true := decide_eq_true (by omega)
    have hg : ((x.getD k 0 != y.getD k 0) = true) := bne_iff_ne.2 k3
    simp only [hlt, if_true, Int.toNat_natCast]
    rw [gg_t (by omega), gg_t (by omega), if_pos hg]
    rfl
 ·have hne : (((x.length : Int) != (y.length : Int)) = true) := by rw [bne_nat]; omega
  simp only [hne, if_true]
  rw [decide_eq_false fun e => hl (by rw [e])]
theorem Equal_eq (x y : List Int) (h : x.length ≤ 2 ^ 50) : s_75 (x, y, ()) = some (decide (x = y), ()) := same_eq x y h
theorem getDR {l : List (List Int)} {i : Nat} (h : i < l.length) : l.getD i [] = l[i] := by simp [List.getD, h]
theorem sameR_eq (x y : List (List Int)) (h : x.length ≤ 2 ^ 50) (h' : ∀ p ∈ x, p.length ≤ 2 ^ 50) : s_18 (x, y, ()) = some (decide (x = y), ()) := by
 unfold s_18
 try simp only [nl]
 by_cases hl : x.length = y.length
 ·have hne : ¬ (((x.length : Int) != (y.length : Int)) = true) := by rw [bne_nat]; omega
  simp only [hne, if_false]
  rcases first_not (fun i => x.getD i [] = y.getD i []) x.length with h1 | ⟨k, k1, k2, k3⟩
  ·have e : x = y := List.ext_getElem hl fun i h2 h3 => by have := h1 i h2; rwa [getDR h2, getDR h3] at this
   rw [decide_eq_true e]
   refine lp_upto (fun i => ((i : Int), ())) x.length rfl (fun i hi => ?_) ?_
   ·have hlt : decide ((i : Int) < (x.length : Int)) = true := by simpa using hi
    simp only [hlt, if_true, Int.toNat_natCast]
    rw [gg_t (by omega), gg_t (by omega), same_eq _ _ (h' _ (mem_getD [] hi)), bd_s, decide_eq_true (h1 i hi), w64 (m := i + 1) (by omega) (by omega)]
    rfl
   ·have hlt : decide ((x.length : Int) < (x.length : Int)) = false := by simp
    simp only [hlt]
    rfl
  ·have e : ¬ x = y := by intro e; rw [e] at k3; exact k3 rfl
   rw [decide_eq_false e]
   refine lp_upto (fun i => ((i : Int), ())) k rfl (fun i hi => ?_) ?_
   ·have hlt : decide ((i : Int) < (x.length : Int)) = true := decide_eq_true (by omega)
    simp only [hlt, if_true, Int.toNat_natCast]
    rw [gg_t (by omega), gg_t (by omega), same_eq _ _ (h' _ (mem_getD [] (by omega))), bd_s, decide_eq_true (k2 i hi), w64 (m := i + 1) (by omega) (by omega)]
    rfl
   ·have hlt : decide ((k : Int) < (x.length : Int)) = true := decide_eq_true (by omega)
    simp only [hlt, if_true, Int.toNat_natCast]
    rw [gg_t (by omega), gg_t (by omega), same_eq _ _ (h' _ (mem_getD [] k1)), bd_s, decide_eq_false k3]
    rfl
 ·have hne : (((x.length : Int) != (y.length : Int)) = true) := by rw [bne_nat]; omega
  simp only [hne, if_true]
  rw [decide_eq_false fun e => hl (by rw [e])]
theorem iter_map {σ A B : Type} (f : A → B) {body : σ → Option (σ ⊕ A)} {body' : σ → Option (σ ⊕ B)} (h : ∀ s, body' s = (body s).map (Sum.map id f)) : ∀ (n : Nat) (s : σ), iter body' n s = (iter body n s).map f
 | 0, s => rfl
 | n + 1, s => by
  simp only [iter]
  rw [h s]
  cases hb : body s with
  | none => rfl
  | some q => cases q with
   | inl s' => exact iter_map f h n s'
   | inr a => rfl
theorem lp_map {σ A B : Type} (f : A → B) {body : σ → Option (σ ⊕ A)} {body' : σ → Option (σ ⊕ B)} (h : ∀ s, body' s = (body s).map (Sum.map id f)) (s : σ) : lp s body' = (lp s body).map f := by
 unfold lp
 cases hb : loop body s with
 | some a =>
  obtain ⟨n, hn⟩ := loop_some.1 hb
  exact loop_some.2 ⟨n, by rw [iter_map f h, hn]; rfl⟩
 | none =>
  cases hb' : loop body' s with
  | none => rfl
  | some b =>
   obtain ⟨n, hn⟩ := loop_some.1 hb'
   rw [iter_map f h] at hn
   cases hi : iter body n s with
   | none => rw [hi] at hn; cases hn
   | some a =>
    have := loop_some.2 ⟨n, hi⟩
    rw [hb] at this; cases this
theorem gg_map {α β : Type} {p : Prop} {_ : Decidable p} {m : Option α} {f : α → β} : (gg p m).map f = gg p (m.map f) := by
 by_cases h : p
 ·rw [gg_t h, gg_t h]
 ·rw [gg_eq, gg_eq]; unfold gd; rw [if_neg h, if_neg h]; rfl
theorem bd_map {α β γ : Type} {m : Option α} {g : α → β} {k : β → Option γ} : bd (m.map g) k = bd m (fun a => k (g a)) := by cases m <;> rfl
theorem map_bd {α β γ : Type} {m : Option α} {k : α → Option β} {f : β → γ} : (bd m k).map f = bd m (fun a => (k a).map f) := by cases m <;> rfl
theorem refNum_g (v : Int) : s_71g (v, ()) = (s_71 (v, ())).map fun y => (y.2.1, y.1, ()) := by
 unfold s_71g s_71
 dsimp only
 by_cases h1 : decide (v < 0) = false
 ·rw [if_pos h1, if_pos h1]
  by_cases h2 : decide (4611686018427387904 ≤ v) = true
  ·rw [if_pos h2, if_pos h2]; rfl
  ·rw [if_neg h2, if_neg h2]
   refine lp_map _ (fun s => ?_) _
   by_cases h3 : decide (128 ≤ s.1) = true
   ·rw [if_pos h3, if_pos h3]; simp only [gg_map]; rfl
   ·rw [if_neg h3, if_neg h3]; rfl
 ·rw [if_neg h1, if_neg h1]; rfl
theorem refNum_geq (v : Nat) (hv : v < 2 ^ 62) : s_71g ((v : Int), ()) = some (0, nb v, ()) := by rw [refNum_g, refNum_eq v hv]; rfl
theorem refNums_g (l : List Int) : s_70g (l, ()) = (s_70 (l, ())).map fun y => (y.2.1, y.1, ()) := by
 unfold s_70g s_70
 refine lp_map _ (fun s => ?_) _
 by_cases h3 : decide (s.1 < (l.length : Int)) = true
 ·rw [if_pos h3, if_pos h3]
  simp only [gg_map, refNum_g, bd_map, map_bd]
  congr 1
  congr 1
  funext y
  by_cases h4 : (y.2.1 != 0) = true
  ·rw [if_pos h4, if_pos h4]; rfl
  ·rw [if_neg h4, if_neg h4]; simp only [gg_map]; rfl
 ·rw [if_neg h3, if_neg h3]; rfl
theorem refNums_geq (l : List Int) (hl : l.length ≤ 2 ^ 30) : s_70g (l, ()) = some ((nums l).2, (nums l).1, ()) := by rw [refNums_g, refNums_eq l hl]; rfl
def mark (g i : Int) (p : List Int) : List Int := (sha ((nums [g, i]).1 ++ p)).take 4
def frame (g i : Int) (p : List Int) : List Int := nb p.length ++ (mark g i p ++ p)
def frs (g : Int) : Int → List (List Int) → List Int
 | _, [] => []
 | i, p :: r => frame g i p ++ frs g (i + 1) r
theorem len_mark (g i : Int) (p : List Int) : (mark g i p).length = 4 := by unfold mark; rw [List.length_take, len_sha]; rfl
def wt (ps : List (List Int)) : Nat := (ps.map fun p => p.length + 14).sum
theorem wt_cons (p : List Int) (r : List (List Int)) : wt (p :: r) = p.length + 14 + wt r := by simp [wt]
theorem wt_append (p r : List (List Int)) : wt (p ++ r) = wt p + wt r := by simp [wt]
theorem len_frame (g i : Int) (p : List Int) (h : p.length < 2 ^ 62) : (frame g i p).length ≤ p.length + 13 := by
 unfold frame
 have := len_nb9 h
 simp only [List.length_append, len_mark]; omega
theorem len_frs (g : Int) : ∀ (i : Int) (ps : List (List Int)), (∀ p ∈ ps, p.length < 2 ^ 62) → (frs g i ps).length ≤ wt ps
 | _, [], _ => by simp [frs]
 | i, p :: r, h => by
  have h1 := len_frame g i p (h p (by simp))
  have h2 := len_frs g (i + 1) r fun q hq => h q (by simp [hq])
  rw [frs, wt_cons, List.length_append]; omega
theorem frs_append (g : Int) : ∀ (i : Int) (ps qs : List (List Int)), frs g i (ps ++ qs) = frs g i ps ++ frs g (i + ps.length) qs
 | i, [], qs => by simp [frs]
 | i, p :: r, qs => by
  rw [List.cons_append, frs, frs, frs_append g (i + 1) r qs, List.append_assoc, List.length_cons]
  congr 3
  omega
theorem wt_len (ps : List (List Int)) : 14 * ps.length ≤ wt ps := by
 induction ps with
 | nil => simp [wt]
 | cons p r ih => rw [wt_cons, List.length_cons]; omega
theorem wt_mem {ps : List (List Int)} {p : List Int} (h : p ∈ ps) : p.length + 14 ≤ wt ps := by
 induction ps with
 | nil => cases h
 | cons q r ih =>
  rw [wt_cons]
  rcases List.mem_cons.1 h with rfl | h
  ·omega
  ·have := ih h; omega
theorem wt_take (ps : List (List Int)) (i : Nat) : wt (ps.take i) ≤ wt ps := by
 have : wt (ps.take i ++ ps.drop i) = wt (ps.take i) + wt (ps.drop i) := wt_append _ _
 rw [List.take_append_drop] at this; omega
theorem Concat_eq (p : List (List Int)) (h : p.flatten.length ≤ 2 ^ 40) (h' : p.length ≤ 2 ^ 44) : s_44 (p, ()) = some (p.flatten, ()) := s17g_eq p h h'
theorem len_nums2 (a b : Int) : (nums [a, b]).1.length ≤ 18 := by have := len_nums (l := [a, b]); simpa using this
theorem mark_eq (g i : Int) (p : List Int) (h : p.length ≤ 2 ^ 39) : s_61 (g, i, p, ()) = some (mark g i p, ()) := by
 unfold s_61
 dsimp only
 have h2 := len_nums2 g i
 rw [Nums_eq _ (by simp), bd_s]
 dsimp only
 rw [s11_eq _ (by simp; omega) (by simp), bd_s]
 dsimp only
 rw [gg_t (by rw [len_sha]; omega)]
 simp [mark]
theorem Num_eq (n : Nat) (h : n < 2 ^ 62) : s_60 ((n : Int), ()) = some (nb n, 0, ()) := by
 unfold s_60
 have hk : ∀ v ∈ [(n : Int)], okN v := by
  intro v hv
  rw [List.mem_singleton] at hv
  subst hv
  unfold okN; omega
 have e : nums [(n : Int)] = (nb n, 0) := by unfold nums; rw [if_pos hk]; simp
 dsimp only
 rw [Nums_eq _ (by simp), e]
 rfl
theorem frs_take (g i : Int) (ps : List (List Int)) (j : Nat) (h : j < ps.length) : frs g i (ps.take (j + 1)) = frs g i (ps.take j) ++ frame g (i + j) (ps.getD j []) := by
 rw [List.take_succ_eq_append_getElem h, frs_append, List.length_take, Nat.min_eq_left (by omega), getDR h]
 simp [frs]
theorem frames_eq (g i : Int) (ps : List (List Int)) (h : wt ps ≤ 2 ^ 39) (hi : 0 ≤ i) (hi2 : i < 2 ^ 61) : s_40 (g, i, ps, ()) = some (frs g i ps, ()) := by
 unfold s_40
 try simp only [nl]
 have hlen := wt_len ps
 refine lp_upto (fun j => (frs g i (ps.take j), (j : Int), ())) ps.length rfl (fun j hj => ?_) ?_
 ·have hlt : decide ((j : Int) < (ps.length : Int)) = true := by simpa using hj
  have hp : ps.getD j [] ∈ ps := mem_getD [] hj
  have hw := wt_mem hp
  have h1 : (frs g i (ps.take j)).length ≤ wt (ps.take j) := len_frs g i _ fun q hq => by have := wt_mem (List.mem_of_mem_take hq); omega
  have h2 := wt_take ps (j + 1)
  rw [List.take_succ_eq_append_getElem hj, wt_append, ← getDR hj, wt_cons] at h2
  have h3 := len_nb9 (v := (ps.getD j []).length) (by omega)
  simp only [hlt, if_true, Int.toNat_natCast]
  rw [gg_t (by omega), Num_eq _ (by omega), bd_s, w64 (n := i + j) (m := i.toNat + j) (by omega) (by omega), show ((i.toNat + j : Nat) : Int) = i + j by omega, mark_eq _ _ _ (by omega), bd_s]
  dsimp only
  rw [Concat_eq _ (by simp only [List.flatten_cons, List.flatten_nil, List.length_append, len_mark, List.length_nil]; omega) (by simp), bd_s, w64 (n := (j : Int) + 1) (m := j + 1) (by omega) (by omega), frs_take _ _ _ _ hj]
  simp [frame]
 ·have hlt : decide ((ps.length : Int) < (ps.length : Int)) = false := by simp
  simp only [hlt, List.take_length]
  rfl
theorem head_eq (g n : Int) : s_57 (g, n, ()) = some (frame g 0 (nums [g, n]).1, ()) := by
 unfold s_57
 dsimp only
 have h2 := len_nums2 g n
 rw [Nums_eq _ (by simp), bd_s]
 dsimp only
 rw [frames_eq _ _ _ (by simp [wt]; omega) (by omega) (by omega), bd_s]
 simp [frs]
theorem refFrame_eq (g i : Int) (p : List Int) (h : p.length ≤ 2 ^ 39) : s_51 (g, i, p, ()) = some (frame g i p, ()) := by
 unfold s_51
 dsimp only
 have h2 := len_nums2 g i
 have h3 := len_nb9 (v := p.length) (by omega)
 rw [refNums_geq _ (by simp), bd_s, refNum_geq _ (by omega), bd_s]
 dsimp only
 rw [gg_t (by omega), s12_eq _ (by rw [List.length_append]; omega), bd_s]
 dsimp only
 rw [gg_t (by rw [len_sha]; omega), gg_t (by rw [List.length_take, len_sha]; omega), gg_t (by rw [List.length_append, List.length_take, len_sha]; omega)]
 simp [frame, mark]
theorem refFrame_geq (g i : Int) (p : List Int) (h : p.length ≤ 2 ^ 39) : s_51g (g, i, p, ()) = some (frame g i p, ()) := refFrame_eq g i p h
def nxt (x : List Int) : Option (List Int × List Int × List Int) :=
 if (rdn x).2.2 ≠ 0 ∨ 65536 < (rdn x).1 ∨ (rdn x).2.1.length < 4 + (rdn x).1.toNat then none
 else some ((rdn x).2.1.take 4, ((rdn x).2.1.drop 4).take (rdn x).1.toNat, (rdn x).2.1.drop (4 + (rdn x).1.toNat))
theorem nxt_iff {x : List Int} (hb : ∀ c ∈ x, Byt c) {s p r : List Int} : nxt x = some (s, p, r) ↔ s.length = 4 ∧ p.length ≤ 65536 ∧ x = nb p.length ++ (s ++ (p ++ r)) := by
 constructor
 ·intro h
  unfold nxt at h
  split at h
  ·cases h
  ·rename_i hc
   have h0 : (rdn x).2.2 = 0 := by
    by_cases e : (rdn x).2.2 = 0
    ·exact e
    ·exact absurd (.inl e) hc
   obtain ⟨m, m1, m2, m3⟩ := rdn_ok hb (v := (rdn x).1) (r := (rdn x).2.1) (by rw [← h0])
   have h1 : ¬ 65536 < (rdn x).1 := fun e => hc (.inr (.inl e))
   have h2 : ¬ (rdn x).2.1.length < 4 + (rdn x).1.toNat := fun e => hc (.inr (.inr e))
   have hn : (rdn x).1.toNat = m := by rw [m2]; exact Int.toNat_natCast m
   rw [hn] at h h2
   rw [m2] at h1
   generalize (rdn x).2.1 = y at h h2 m3
   cases h
   have e1 : ((y.drop 4).take m).length = m := by rw [List.length_take, List.length_drop]; omega
   refine ⟨by rw [List.length_take]; omega, by rw [e1]; omega, ?_⟩
   rw [e1, m3]
   congr 1
   have e2 : y.drop 4 = (y.drop 4).take m ++ y.drop (4 + m) := by rw [← List.drop_drop, List.take_append_drop]
   rw [← e2, List.take_append_drop]
 ·rintro ⟨h1, h2, rfl⟩
  have h := rdn_nb p.length (s ++ (p ++ r)) (by omega)
  unfold nxt
  rw [h]
  have hc : ¬ ((0 : Int) ≠ 0 ∨ (65536 : Int) < (p.length : Int) ∨ (s ++ (p ++ r)).length < 4 + (p.length : Int).toNat) := by
   simp only [List.length_append, Int.toNat_natCast]; omega
  rw [if_neg hc, Int.toNat_natCast]
  have e1 : (s ++ (p ++ r)).take 4 = s := by rw [← h1]; simp
  have e2 : (s ++ (p ++ r)).drop 4 = p ++ r := by rw [← h1]; simp
  have e3 : (s ++ (p ++ r)).drop (4 + p.length) = r := by rw [← List.drop_drop, e2]; simp
  simp only [e1, e2, e3]
  simp
def tk (g i : Int) (x : List Int) : Option (List Int × List Int) := match nxt x with
 | some (s, p, r) => if s = mark g i p then some (p, r) else none
 | none => none
theorem tk_iff {x : List Int} (hb : ∀ c ∈ x, Byt c) {g i : Int} {p r : List Int} : tk g i x = some (p, r) ↔ p.length ≤ 65536 ∧ x = frame g i p ++ r := by
 constructor
 ·intro h
  unfold tk at h
  split at h
  ·rename_i s p' r' hn
   split at h
   ·rename_i hs
    cases h
    obtain ⟨h1, h2, h3⟩ := (nxt_iff hb).1 hn
    refine ⟨h2, ?_⟩
    rw [h3, hs, frame]
    simp
   ·cases h
  ·cases h
 ·rintro ⟨h1, h2⟩
  have hn : nxt x = some (mark g i p, p, r) := (nxt_iff hb).2 ⟨len_mark g i p, h1, by rw [h2, frame]; simp⟩
  unfold tk
  rw [hn]
  simp
theorem frame_pos (g i : Int) (p : List Int) : p.length + 5 ≤ (frame g i p).length := by
 unfold frame
 have := nb_pos p.length
 simp only [List.length_append, len_mark]; omega
theorem tk_len {x : List Int} (hb : ∀ c ∈ x, Byt c) {g i : Int} {p r : List Int} (h : tk g i x = some (p, r)) : r.length + p.length + 5 ≤ x.length ∧ ∀ c ∈ r, Byt c := by
 obtain ⟨h1, h2⟩ := (tk_iff hb).1 h
 have := frame_pos g i p
 constructor
 ·rw [h2, List.length_append]; omega
 ·intro c hc; exact hb c (by rw [h2]; exact List.mem_append_right _ hc)
def rws : Nat → Int → Int → List Int → List (List Int) × List Int
 | 0, _, _, x => ([], x)
 | n + 1, g, i, x => match tk g i x with
  | some (p, r) => (p :: (rws n g (i + 1) r).1, (rws n g (i + 1) r).2)
  | none => ([], x)
theorem rws_none {n : Nat} {g i : Int} {x : List Int} (h : tk g i x = none) : rws n g i x = ([], x) := by
 cases n with
 | zero => rfl
 | succ n => rw [rws, h]
theorem rws_some {n : Nat} {g i : Int} {x p r : List Int} (h : tk g i x = some (p, r)) : rws (n + 1) g i x = (p :: (rws n g (i + 1) r).1, (rws n g (i + 1) r).2) := by rw [rws, h]
theorem rws_spec : ∀ (n : Nat) (g i : Int) (x : List Int), (∀ c ∈ x, Byt c) → x.length ≤ n →
  x = frs g i (rws n g i x).1 ++ (rws n g i x).2 ∧ (∀ p ∈ (rws n g i x).1, p.length ≤ 65536) ∧ tk g (i + (rws n g i x).1.length) (rws n g i x).2 = none
 | 0, g, i, x, hb, hn => by
  have : x = [] := List.length_eq_zero_iff.1 (by omega)
  subst this
  have h : tk g i [] = none := by
   cases h : tk g i [] with
   | none => rfl
   | some q => have := tk_len hb (p := q.1) (r := q.2) h; simp at this
  refine ⟨rfl, by simp [rws], ?_⟩
  rw [rws_none h]
  simpa using h
 | n + 1, g, i, x, hb, hn => by
  cases h : tk g i x with
  | none =>
   rw [rws_none h]
   exact ⟨rfl, by simp, by simpa using h⟩
  | some q =>
   obtain ⟨p, r⟩ := q
   obtain ⟨h1, h2⟩ := tk_len hb h
   obtain ⟨h3, h4⟩ := (tk_iff hb).1 h
   obtain ⟨k1, k2, k3⟩ := rws_spec n g (i + 1) r h2 (by omega)
   rw [rws_some h]
   refine ⟨?_, ?_, ?_⟩
   ·simp only [frs]
    rw [List.append_assoc, ← k1]; exact h4
   ·intro q hq
    rcases List.mem_cons.1 hq with rfl | hq
    ·exact h3
    ·exact k2 q hq
   ·simp only [List.length_cons]
    rw [← k3]; congr 1; omega
theorem rws_frs : ∀ (ps : List (List Int)) (n : Nat) (g i : Int) (r : List Int), (∀ p ∈ ps, p.length ≤ 65536) → (∀ c ∈ frs g i ps ++ r, Byt c) → tk g (i + ps.length) r = none → (frs g i ps ++ r).length ≤ n →
  rws n g i (frs g i ps ++ r) = (ps, r)
 | [], n, g, i, r, _, _, ht, _ => by
  rw [frs, List.nil_append]
  exact rws_none (by simpa using ht)
 | p :: ps, n, g, i, r, hp, hb, ht, hn => by
  have e : frs g i (p :: ps) ++ r = frame g i p ++ (frs g (i + 1) ps ++ r) := by rw [frs, List.append_assoc]
  have h : tk g i (frs g i (p :: ps) ++ r) = some (p, frs g (i + 1) ps ++ r) := (tk_iff hb).2 ⟨hp p (by simp), e⟩
  obtain ⟨h1, h2⟩ := tk_len hb h
  cases n with
  | zero => omega
  | succ n =>
   rw [rws_some h, rws_frs ps n g (i + 1) r (fun q hq => hp q (by simp [hq])) h2 (by
    rw [← ht]; congr 1; simp only [List.length_cons]; omega) (by omega)]
def ara (x : List Int) : Option (Int × Int × List (List Int) × List Int) := match nxt x with
 | none => none
 | some (_, p, _) =>
  if (ints p).2 = 0 ∧ (ints p).1.length = 2 ∧ 1 ≤ (ints p).1.getD 0 0 then
   match tk ((ints p).1.getD 0 0) 0 x with
   | none => none
   | some (_, r) => some ((ints p).1.getD 0 0, (ints p).1.getD 1 0, (rws r.length ((ints p).1.getD 0 0) 1 r).1, (rws r.length ((ints p).1.getD 0 0) 1 r).2)
  else none
def whole (g n : Int) (ps : List (List Int)) : List Int := frame g 0 (nums [g, n]).1 ++ frs g 1 ps
theorem two_ok {g n : Int} (hg : okN g) (hn : okN n) : ∀ v ∈ [g, n], okN v := by
 intro v hv
 rcases List.mem_cons.1 hv with rfl | hv
 ·exact hg
 ·rw [List.mem_singleton] at hv; subst hv; exact hn
theorem nums_ok {g n : Int} (hg : okN g) (hn : okN n) : nums [g, n] = (nb g.toNat ++ nb n.toNat, 0) := by
 unfold nums
 rw [if_pos (two_ok hg hn)]
 simp
theorem ints_nums {g n : Int} (hg : okN g) (hn : okN n) : ints (nums [g, n]).1 = ([g, n], 0) := by
 rw [nums_ok hg hn]
 have := ints_nb [g, n] (two_ok hg hn)
 simpa using this
theorem ara_iff {x : List Int} (hb : ∀ c ∈ x, Byt c) {g n : Int} {ps : List (List Int)} {r : List Int} :
  ara x = some (g, n, ps, r) ↔ okN g ∧ 1 ≤ g ∧ okN n ∧ (∀ p ∈ ps, p.length ≤ 65536) ∧ x = whole g n ps ++ r ∧ tk g (1 + ps.length) r = none := by
 constructor
 ·intro h
  unfold ara at h
  split at h
  ·cases h
  ·rename_i s p r0 hn0
   split at h
   ·rename_i hc
    split at h
    ·cases h
    ·rename_i p1 r1 ht
     obtain ⟨c1, c2, c3⟩ := hc
     obtain ⟨t1, t2⟩ := (tk_iff hb).1 ht
     obtain ⟨b1, b2⟩ := tk_len hb ht
     have hpe : p1 = p := by
      unfold tk at ht
      rw [hn0] at ht
      simp only at ht
      split at ht
      ·cases ht; rfl
      ·cases ht
     obtain ⟨s1, s2, s3⟩ := (nxt_iff hb).1 hn0
     have hbp : ∀ c ∈ p, Byt c := fun c hc => hb c (by rw [s3]; simp [hc])
     obtain ⟨i1, i2⟩ := ints_ok hbp (l := (ints p).1) (by rw [← c1])
     obtain ⟨a, b, hab⟩ : ∃ a b, (ints p).1 = [a, b] := by
      match hq : (ints p).1, c2 with
      | [a, b], _ => exact ⟨a, b, rfl⟩
     rw [hab] at h i1 i2 ht c3 t2
     simp only [List.getD_cons_zero, List.getD_cons_succ] at h ht c3 t2
     have ha := i1 a (by simp)
     have hbb := i1 b (by simp)
     obtain ⟨k1, k2, k3⟩ := rws_spec r1.length a 1 r1 b2 (Nat.le_refl _)
     have h := Option.some.inj h
     simp only [Prod.mk.injEq] at h
     obtain ⟨rfl, rfl, rfl, rfl⟩ := h
     refine ⟨ha, c3, hbb, k2, ?_, k3⟩
     have hp2 : (nums [a, b]).1 = p := by rw [nums_ok ha hbb, i2]; simp
     rw [whole, hp2, List.append_assoc, ← k1, t2, hpe]
   ·cases h
 ·rintro ⟨h1, h2, h3, h4, h5, h6⟩
  have e : x = frame g 0 (nums [g, n]).1 ++ (frs g 1 ps ++ r) := by rw [h5, whole, List.append_assoc]
  have hl := len_nums2 g n
  have ht : tk g 0 x = some ((nums [g, n]).1, frs g 1 ps ++ r) := (tk_iff hb).2 ⟨by omega, e⟩
  obtain ⟨b1, b2⟩ := tk_len hb ht
  have hn0 : nxt x = some (mark g 0 (nums [g, n]).1, (nums [g, n]).1, frs g 1 ps ++ r) := (nxt_iff hb).2 ⟨len_mark _ _ _, by omega, by rw [e, frame]; simp⟩
  unfold ara
  rw [hn0]
  simp only [ints_nums h1 h3]
  rw [if_pos ⟨trivial, rfl, by simpa using h2⟩]
  simp only [List.getD_cons_zero, List.getD_cons_succ, ht]
  rw [rws_frs ps _ g 1 r h4 b2 h6 (Nat.le_refl _)]
structure Dk where
 p : Int
 a : List Int
 sa : Int
 b : List Int
 sb : Int
namespace Dk
def get (D : Dk) (i : Int) : List Int := if i = 0 then D.a else D.b
def safe (D : Dk) (i : Int) : Int := if i = 0 then D.sa else D.sb
def set (D : Dk) (i : Int) (x : List Int) (s : Int) : Dk := if i = 0 then ⟨D.p, x, s, D.b, D.sb⟩ else ⟨D.p, D.a, D.sa, x, s⟩
def dr (D : Dk) : Int × Dk := if D.p = 0 then (40, D) else if 0 < D.p then (0, ⟨IntKind.i64.wrap (D.p - 1), D.a, D.sa, D.b, D.sb⟩) else (0, D)
def app (D : Dk) (i : Int) (x : List Int) : Int × Dk := if D.dr.1 = 0 then (0, D.dr.2.set i (D.get i ++ x) (D.safe i)) else D.dr
def trm (D : Dk) (i n : Int) : Int × Dk := if n < 0 ∨ (D.get i).length < n then (41, D) else if D.dr.1 = 0 then (0, D.dr.2.set i ((D.get i).take n.toNat) (if n < D.safe i then n else D.safe i)) else D.dr
def syn (D : Dk) (i : Int) : Int × Dk := if D.dr.1 = 0 then (0, D.dr.2.set i (D.get i) (D.get i).length) else D.dr
def lft (x : List Int) (s k : Int) : Nat := (s + (if (if (x.length : Int) - s < k then (x.length : Int) - s else k) > 0 then (if (x.length : Int) - s < k then (x.length : Int) - s else k) else 0)).toNat
def crs (D : Dk) (ks : List Int) (pw : Int) : Dk := ⟨pw, D.a.take (lft D.a D.sa (ks.getD 0 0)), (lft D.a D.sa (ks.getD 0 0) : Int), D.b.take (lft D.b D.sb (ks.getD 1 0)), (lft D.b D.sb (ks.getD 1 0) : Int)⟩
theorem dr_a {D : Dk} : D.dr.2.a = D.a := by unfold dr; split <;> (try split) <;> rfl
theorem dr_b {D : Dk} : D.dr.2.b = D.b := by unfold dr; split <;> (try split) <;> rfl
theorem dr_sa {D : Dk} : D.dr.2.sa = D.sa := by unfold dr; split <;> (try split) <;> rfl
theorem dr_sb {D : Dk} : D.dr.2.sb = D.sb := by unfold dr; split <;> (try split) <;> rfl
theorem dr_get {D : Dk} {i : Int} : D.dr.2.get i = D.get i := by unfold get; rw [dr_a, dr_b]
theorem dr_safe {D : Dk} {i : Int} : D.dr.2.safe i = D.safe i := by unfold safe; rw [dr_sa, dr_sb]
structure Ok (D : Dk) (L : Nat) : Prop where
 ba : ∀ c ∈ D.a, Byt c
 bb : ∀ c ∈ D.b, Byt c
 la : D.a.length ≤ L
 lb : D.b.length ≤ L
 sa0 : 0 ≤ D.sa
 sa1 : D.sa ≤ D.a.length
 sb0 : 0 ≤ D.sb
 sb1 : D.sb ≤ D.b.length
theorem Ok.mono {D : Dk} {L M : Nat} (h : D.Ok L) (hm : L ≤ M) : D.Ok M := ⟨h.ba, h.bb, Nat.le_trans h.la hm, Nat.le_trans h.lb hm, h.sa0, h.sa1, h.sb0, h.sb1⟩
theorem Ok.byt {D : Dk} {L : Nat} (h : D.Ok L) {i : Int} : ∀ c ∈ D.get i, Byt c := by unfold get; split; exact h.ba; exact h.bb
theorem Ok.len {D : Dk} {L : Nat} (h : D.Ok L) {i : Int} : (D.get i).length ≤ L := by unfold get; split; exact h.la; exact h.lb
theorem Ok.s0 {D : Dk} {L : Nat} (h : D.Ok L) {i : Int} : 0 ≤ D.safe i := by unfold safe; split; exact h.sa0; exact h.sb0
theorem Ok.s1 {D : Dk} {L : Nat} (h : D.Ok L) {i : Int} : D.safe i ≤ (D.get i).length := by unfold safe get; split; exact h.sa1; exact h.sb1
theorem Ok.dr {D : Dk} {L : Nat} (h : D.Ok L) : D.dr.2.Ok L := ⟨by rw [dr_a]; exact h.ba, by rw [dr_b]; exact h.bb, by rw [dr_a]; exact h.la, by rw [dr_b]; exact h.lb, by rw [dr_sa]; exact h.sa0, by rw [dr_sa, dr_a]; exact h.sa1, by rw [dr_sb]; exact h.sb0, by rw [dr_sb, dr_b]; exact h.sb1⟩
theorem Ok.set {D : Dk} {L : Nat} (h : D.Ok L) {i : Int} {x : List Int} {s : Int} (hx : ∀ c ∈ x, Byt c) (hl : x.length ≤ L) (h0 : 0 ≤ s) (h1 : s ≤ x.length) : (D.set i x s).Ok L := by
 unfold Dk.set
 split
 ·exact ⟨hx, h.bb, hl, h.lb, h0, h1, h.sb0, h.sb1⟩
 ·exact ⟨h.ba, hx, h.la, hl, h.sa0, h.sa1, h0, h1⟩
theorem Ok.app {D : Dk} {L : Nat} (h : D.Ok L) {i : Int} {x : List Int} (hx : ∀ c ∈ x, Byt c) : (D.app i x).2.Ok (L + x.length) := by
 unfold Dk.app
 split
 ·refine Ok.set (h.dr.mono (by omega)) ?_ ?_ h.s0 ?_
  ·intro c hc
   rcases List.mem_append.1 hc with hc | hc
   ·exact h.byt c hc
   ·exact hx c hc
  ·have := h.len (i := i); rw [List.length_append]; omega
  ·have := h.s1 (i := i); rw [List.length_append]; omega
 ·exact h.dr.mono (by omega)
theorem Ok.trm {D : Dk} {L : Nat} (h : D.Ok L) {i n : Int} : (D.trm i n).2.Ok L := by
 unfold Dk.trm
 split
 ·exact h
 ·split
  ·have h0 := h.s0 (i := i)
   have h1 := h.s1 (i := i)
   have h2 := h.len (i := i)
   refine Ok.set h.dr (fun c hc => h.byt c (List.mem_of_mem_take hc)) (by rw [List.length_take]; omega) ?_ ?_
   ·split <;> omega
   ·rw [List.length_take]; split <;> omega
  ·exact h.dr
theorem Ok.syn {D : Dk} {L : Nat} (h : D.Ok L) {i : Int} : (D.syn i).2.Ok L := by
 unfold Dk.syn
 split
 ·exact Ok.set h.dr h.byt h.len (by omega) (by omega)
 ·exact h.dr
theorem lft_le {x : List Int} {s k : Int} (h0 : 0 ≤ s) (h1 : s ≤ x.length) : lft x s k ≤ x.length ∧ s ≤ (lft x s k : Int) := by
 unfold lft
 split <;> split <;> omega
theorem Ok.crs {D : Dk} {L : Nat} (h : D.Ok L) {ks : List Int} {pw : Int} : (D.crs ks pw).Ok L := by
 have h1 := lft_le (k := ks.getD 0 0) h.sa0 h.sa1
 have h2 := lft_le (k := ks.getD 1 0) h.sb0 h.sb1
 have h3 := h.la
 have h4 := h.lb
 unfold Dk.crs
 refine ⟨fun c hc => h.ba c (List.mem_of_mem_take hc), fun c hc => h.bb c (List.mem_of_mem_take hc), ?_, ?_, ?_, ?_, ?_, ?_⟩ <;> simp only [List.length_take] <;> omega
end Dk
def Ar (i : Int) : Prop := i = 0 ∨ i = 1
theorem there_eq {i : Int} (h : Ar i) : s_41 ([i], ()) = some (true, ()) := by
 unfold s_41 s_62f63 s_79f63 s_63
 have key : (lp ((0 : Int), ()) fun s : Int × Unit => if decide (s.1 < ((List.length [i] : Nat) : Int)) = true then gg (0 ≤ s.1 ∧ Int.toNat s.1 < List.length [i]) (bd (if decide (List.getD [i] (Int.toNat s.1) 0 < 0) = false then some (decide (2 ≤ List.getD [i] (Int.toNat s.1) 0), ()) else some (true, ())) fun y => if y.1 = true then mr (some (s.1, ())) else some (Sum.inl (IntKind.i64.wrap (s.1 + 1), ()))) else mr (some ((-1 : Int), ()))) = some ((-1 : Int), ()) := by
  refine lp_upto (fun j => ((j : Int), ())) 1 rfl (fun j hj => ?_) ?_
  ·have : j = 0 := by omega
   subst this
   rcases h with rfl | rfl <;> rfl
  ·rfl
 dsimp only
 refine (congrArg (fun z => bd (bd z fun y => some (decide (0 ≤ y.1), ())) fun y => some (!y.1, ())) key).trans rfl
theorem draw_eq (D : Dk) : s_43 (D.p, D.a, D.sa, D.b, D.sb, ()) = some (D.dr.1, D.dr.2.p, D.dr.2.a, D.dr.2.sa, D.dr.2.b, D.dr.2.sb, ()) := by
 unfold s_43 Dk.dr
 dsimp only
 by_cases h : D.p = 0
 ·rw [if_pos (by simpa using h), if_pos h]
 ·rw [if_neg (by simpa using h), if_neg h]
  by_cases h2 : 0 < D.p
  ·rw [if_pos (by simpa using h2), if_pos h2]
  ·rw [if_neg (by simpa using h2), if_neg h2]
theorem flat_len {l : List (List Int)} {i : Nat} : l.length ≤ wt l ∧ l.flatten.length ≤ wt l := by
 induction l with
 | nil => simp [wt]
 | cons p r ih => rw [wt_cons, List.length_cons, List.flatten_cons, List.length_append]; omega
theorem Append_eq (D : Dk) {i : Int} (hi : Ar i) (ps : List (List Int)) (hw : wt ps ≤ 2 ^ 39) {L : Nat} (hD : D.Ok L) (hL : L ≤ 2 ^ 40) :
  s_22 (i, ps, D.p, D.a, D.sa, D.b, D.sb, ()) = some ((D.app i ps.flatten).1, (D.app i ps.flatten).2.p, (D.app i ps.flatten).2.a, (D.app i ps.flatten).2.sa, (D.app i ps.flatten).2.b, (D.app i ps.flatten).2.sb, ()) := by
 unfold s_22
 dsimp only
 have hf := flat_len (l := ps) (i := 0)
 rw [there_eq hi, bd_s]
 simp only [Bool.not_true, Bool.false_eq_true, if_false]
 rw [draw_eq, bd_s]
 dsimp only
 unfold Dk.app
 by_cases h : D.dr.1 = 0
 ·rw [if_pos (by simpa using h), if_pos h]
  have e1 := hD.la
  have e2 := hD.lb
  rcases hi with rfl | rfl
  ·rw [if_pos rfl, Concat_eq _ (by omega) (by omega), bd_s]
   dsimp only
   rw [Dk.dr_a, gg_t (by omega), Dk.dr_sa, h]
   rfl
  ·rw [if_neg (by decide), if_pos (by decide), Concat_eq _ (by omega) (by omega), bd_s]
   dsimp only
   rw [Dk.dr_b, gg_t (by omega), Dk.dr_sb, h]
   rfl
 ·rw [if_neg (by simpa using h), if_neg h]
theorem Trim_eq (D : Dk) {i : Int} (hi : Ar i) (n : Int) :
  s_37 (i, n, D.p, D.a, D.sa, D.b, D.sb, ()) = some ((D.trm i n).1, (D.trm i n).2.p, (D.trm i n).2.a, (D.trm i n).2.sa, (D.trm i n).2.b, (D.trm i n).2.sb, ()) := by
 unfold s_37 jn
 dsimp only
 rw [there_eq hi, bd_s]
 rw [if_pos (show (!true) = false from rfl)]
 unfold Dk.trm
 by_cases h0 : n < 0
 ·rw [if_neg (by simpa using h0), if_pos (.inl h0)]
 ·rw [if_pos (by simpa using h0)]
  have key : ∀ (hl : ¬ ((D.get i).length : Int) < n), (bd (s_43 (D.p, D.a, D.sa, D.b, D.sb, ())) fun y =>
    if (y.1 == 0) = true then
     if i = 0 then
      gg (0 ≤ n ∧ Int.toNat n ≤ y.2.2.1.length) (gg (y.2.2.1.length * 1 = y.2.2.1.length * 1 ∧ y.2.2.1.length * 1 = y.2.2.1.length * 1 ∧ Int.toNat n * 1 = (List.take (Int.toNat n) y.2.2.1).length * 1 ∧ (List.take (Int.toNat n) y.2.2.1).length * 1 ≤ y.2.2.1.length * 1) (some (y.1, y.2.1, List.take (Int.toNat n) y.2.2.1, if n < y.2.2.2.1 then n else y.2.2.2.1, y.2.2.2.2.1, y.2.2.2.2.2.1, ())))
     else if i = (0 : Int) + 1 then
      gg (0 ≤ n ∧ Int.toNat n ≤ y.2.2.2.2.1.length) (gg (y.2.2.2.2.1.length * 1 = y.2.2.2.2.1.length * 1 ∧ y.2.2.2.2.1.length * 1 = y.2.2.2.2.1.length * 1 ∧ Int.toNat n * 1 = (List.take (Int.toNat n) y.2.2.2.2.1).length * 1 ∧ (List.take (Int.toNat n) y.2.2.2.2.1).length * 1 ≤ y.2.2.2.2.1.length * 1) (some (y.1, y.2.1, y.2.2.1, y.2.2.2.1, List.take (Int.toNat n) y.2.2.2.2.1, if n < y.2.2.2.2.2.1 then n else y.2.2.2.2.2.1, ())))
     else none
    else some (y.1, y.2.1, y.2.2.1, y.2.2.2.1, y.2.2.2.2.1, y.2.2.2.2.2.1, ())) = some ((D.trm i n).1, (D.trm i n).2.p, (D.trm i n).2.a, (D.trm i n).2.sa, (D.trm i n).2.b, (D.trm i n).2.sb, ()) := by
   intro hl
   rw [draw_eq, bd_s]
   dsimp only
   unfold Dk.trm
   rw [if_neg (show ¬ (n < 0 ∨ ((D.get i).length : Int) < n) by omega)]
   by_cases h : D.dr.1 = 0
   ·rw [if_pos (by simpa using h), if_pos h]
    rcases hi with rfl | rfl
    ·have hl2 : ¬ (D.a.length : Int) < n := hl
     rw [if_pos rfl, Dk.dr_a, gg_t (by omega), gg_t (by rw [List.length_take]; omega), Dk.dr_sa, h]
     rfl
    ·have hl2 : ¬ (D.b.length : Int) < n := hl
     rw [if_neg (by decide), if_pos (by decide), Dk.dr_b, gg_t (by omega), gg_t (by rw [List.length_take]; omega), Dk.dr_sb, h]
     rfl
   ·rw [if_neg (by simpa using h), if_neg h]
  unfold Dk.trm at key
  rcases hi with rfl | rfl
  ·rw [if_pos rfl]
   by_cases hl : (D.a.length : Int) < n
   ·rw [if_pos (by simpa using hl), if_pos (.inr hl)]
   ·rw [if_neg (by simpa using hl)]
    exact key hl
  ·rw [if_neg (by decide), if_pos (by decide)]
   by_cases hl : (D.b.length : Int) < n
   ·rw [if_pos (by simpa using hl), if_pos (.inr hl)]
   ·rw [if_neg (by simpa using hl)]
    exact key hl
theorem Sync_eq (D : Dk) {i : Int} (hi : Ar i) :
  s_23 ([i], D.p, D.a, D.sa, D.b, D.sb, ()) = some ((D.syn i).1, (D.syn i).2.p, (D.syn i).2.a, (D.syn i).2.sa, (D.syn i).2.b, (D.syn i).2.sb, ()) := by
 unfold s_23
 dsimp only
 rw [there_eq hi, bd_s]
 simp only [Bool.not_true, Bool.false_eq_true, if_false]
 rw [draw_eq, bd_s]
 dsimp only
 unfold Dk.syn
 by_cases h : D.dr.1 = 0
 ·have hl : ¬ ((((List.length [i] : Nat) : Int) == 0) = true) := by simp
  rw [if_neg (by simpa using h), if_pos h, if_neg hl, bd_s]
  rcases hi with rfl | rfl
  ·refine lp_upto (fun j => if j = 0 then ((0 : Int), D.dr.2.p, D.dr.2.a, D.dr.2.sa, D.dr.2.b, D.dr.2.sb, ()) else ((1 : Int), D.dr.2.p, D.dr.2.a, (D.dr.2.a.length : Int), D.dr.2.b, D.dr.2.sb, ())) 1 rfl (fun j hj => ?_) ?_
   ·have : j = 0 := by omega
    subst this; rfl
   ·rw [← Dk.dr_get]; rfl
  ·refine lp_upto (fun j => if j = 0 then ((0 : Int), D.dr.2.p, D.dr.2.a, D.dr.2.sa, D.dr.2.b, D.dr.2.sb, ()) else ((1 : Int), D.dr.2.p, D.dr.2.a, D.dr.2.sa, D.dr.2.b, (D.dr.2.b.length : Int), ())) 1 rfl (fun j hj => ?_) ?_
   ·have : j = 0 := by omega
    subst this; rfl
   ·rw [← Dk.dr_get]; rfl
 ·rw [if_pos (by simpa using h), if_neg h]
theorem DRead_eq (D : Dk) {i : Int} (hi : Ar i) {L : Nat} (hD : D.Ok L) (hL : L ≤ 2 ^ 40) :
  s_20 (i, D.p, D.a, D.sa, D.b, D.sb, ()) = some (D.get i, 0, D.p, D.a, D.sa, D.b, D.sb, ()) := by
 unfold s_20
 dsimp only
 rw [there_eq hi, bd_s]
 simp only [Bool.not_true, Bool.false_eq_true, if_false]
 have e1 := hD.la
 have e2 := hD.lb
 rcases hi with rfl | rfl
 ·rw [if_pos rfl, gg_t (by omega)]; rfl
 ·rw [if_neg (by decide), if_pos (by decide), gg_t (by omega)]; rfl
theorem left_eq (x : List Int) (s k : Int) (h0 : 0 ≤ s) (h1 : s ≤ x.length) (hl : x.length ≤ 2 ^ 40) : s_45 (s, k, x, ()) = some ((Dk.lft x s k : Int), x.take (Dk.lft x s k), ()) := by
 unfold s_45
 dsimp only
 rw [wneg (n := (x.length : Int) - s) (by omega) (by omega)]
 obtain ⟨h2, h3⟩ := Dk.lft_le (k := k) h0 h1
 have e : IntKind.i64.wrap (s + if (if (x.length : Int) - s < k then (x.length : Int) - s else k) > 0 then if (x.length : Int) - s < k then (x.length : Int) - s else k else 0) = (Dk.lft x s k : Int) := by
  unfold Dk.lft at h2 h3 ⊢
  refine w64 ?_ (by omega)
  split <;> split <;> omega
 rw [e, gg_t (by omega), gg_t (by rw [List.length_take]; omega), Int.toNat_natCast]
theorem New_eq (p : Int) : s_12 (p, ()) = some (p, [], 0, [], 0, ()) := rfl
def Dk.new (p : Int) : Dk := ⟨p, [], 0, [], 0⟩
theorem getD_ge {ks : List Int} {i : Nat} (h : ¬ i < ks.length) : ks.getD i 0 = 0 := by simp [List.getD, Nat.not_lt.1 h]
theorem Crash_eq (D : Dk) (ks : List Int) (pw : Int) (hk : ks.length ≤ 2 ^ 60) {L : Nat} (hD : D.Ok L) (hL : L ≤ 2 ^ 40) :
  s_24 (ks, pw, D.p, D.a, D.sa, D.b, D.sb, ()) = some (D.p, D.a, D.sa, D.b, D.sb, (D.crs ks pw).p, (D.crs ks pw).a, (D.crs ks pw).sa, (D.crs ks pw).b, (D.crs ks pw).sb, ()) := by
 unfold s_24 jn
 dsimp only
 rw [New_eq, bd_s]
 have e1 := hD.la
 have e2 := hD.lb
 have h1 := left_eq D.a D.sa (ks.getD 0 0) hD.sa0 hD.sa1 (by omega)
 have h2 := left_eq D.b D.sb (ks.getD 1 0) hD.sb0 hD.sb1 (by omega)
 have t0 : decide ((0 : Int) < 2) = true := rfl
 have t1 : decide ((1 : Int) < 2) = true := rfl
 have t2 : decide ((2 : Int) < 2) = false := rfl
 have w1 : IntKind.i64.wrap ((0 : Int) + 1) = 1 := by decide
 have w2 : IntKind.i64.wrap ((1 : Int) + 1) = 2 := by decide
 have n0 : ¬ ((1 : Int) = 0) := by decide
 have n1 : ((1 : Int) = 0 + 1) = True := eq_true rfl
 have z1 : Int.toNat 1 = 1 := rfl
 unfold lp
 rw [loop_cont (s' := ((1 : Int), D.sa, D.sb, pw, D.a.take (Dk.lft D.a D.sa (ks.getD 0 0)), (Dk.lft D.a D.sa (ks.getD 0 0) : Int), [], (0 : Int), D.p, D.sa, D.sb, D.a, D.b, ())), loop_cont (s' := ((2 : Int), D.sa, D.sb, pw, D.a.take (Dk.lft D.a D.sa (ks.getD 0 0)), (Dk.lft D.a D.sa (ks.getD 0 0) : Int), D.b.take (Dk.lft D.b D.sb (ks.getD 1 0)), (Dk.lft D.b D.sb (ks.getD 1 0) : Int), D.p, D.sa, D.sb, D.a, D.b, ()))]
 ·refine loop_done ?_
  simp only [bd_s, t2, Bool.false_eq_true, if_false]
  rfl
 ·by_cases hk1 : 1 < ks.length
  ·have hd : decide ((1 : Int) < (ks.length : Int)) = true := decide_eq_true (by omega)
   have hg : ∀ {α : Type} {m : Option α}, gg (0 ≤ (1 : Int) ∧ 1 < ks.length) m = m := gg_t (by omega)
   simp only [bd_s, t1, if_true, n0, if_false, n1, hd, z1, hg, h2, w2]
  ·have hd : decide ((1 : Int) < (ks.length : Int)) = false := decide_eq_false (by omega)
   rw [getD_ge hk1] at h2 ⊢
   simp only [bd_s, t1, if_true, n0, if_false, n1, hd, Bool.false_eq_true, h2, w2]
 ·by_cases hk1 : 0 < ks.length
  ·have hd : decide ((0 : Int) < (ks.length : Int)) = true := decide_eq_true (by omega)
   have hg : ∀ {α : Type} {m : Option α}, gg (0 ≤ (0 : Int) ∧ 0 < ks.length) m = m := gg_t (by omega)
   simp only [bd_s, t0, if_true, hd, Int.toNat_zero, hg, h1, w1]
  ·have hd : decide ((0 : Int) < (ks.length : Int)) = false := decide_eq_false (by omega)
   rw [getD_ge hk1] at h1 ⊢
   simp only [bd_s, t0, if_true, hd, Bool.false_eq_true, if_false, h1, w1]
theorem next_eq (x : List Int) (e : Int) (hb : ∀ c ∈ x, Byt c) (hl : x.length ≤ 2 ^ 40) : s_54 ((x, e), ()) = some (match nxt x with
  | none => ([], [], false, (x, e), ())
  | some (s, p, r) => (s, p, true, (x, e), ())) := by
 unfold s_54
 dsimp only
 rw [Read_eq x hb hl, bd_s]
 dsimp only
 have hlen := len_drop_rdn x
 unfold nxt
 by_cases h0 : (rdn x).2.2 = 0
 ·have hne : ((rdn x).2.2 != 0) = false := by simpa using h0
  rw [if_pos hne]
  obtain ⟨m, m1, m2, m3⟩ := rdn_ok hb (v := (rdn x).1) (r := (rdn x).2.1) (by rw [← h0])
  by_cases h1 : 65536 < (rdn x).1
  ·have hd : ¬ (decide (65536 < (rdn x).1) = false) := by simpa using h1
   rw [if_neg hd, if_pos (.inr (.inl h1))]
   rfl
  ·have hd : decide (65536 < (rdn x).1) = false := by simpa using h1
   have hw : IntKind.i64.wrap (4 + (rdn x).1) = ((4 + m : Nat) : Int) := w64 (by omega) (by omega)
   have hn : (rdn x).1.toNat = m := by rw [m2]; exact Int.toNat_natCast m
   rw [if_pos hd, hw, hn, bd_s]
   dsimp only
   by_cases h2 : (rdn x).2.1.length < 4 + m
   ·rw [if_pos (decide_eq_true (by omega)), if_pos (.inr (.inr h2))]
   ·have hc : ¬ ((rdn x).2.2 ≠ 0 ∨ 65536 < (rdn x).1 ∨ (rdn x).2.1.length < 4 + m) := by
     rintro (h | h | h)
     ·exact h h0
     ·exact h1 h
     ·exact h2 h
    have hd2 : ¬ (decide (((rdn x).2.1.length : Int) < ((4 + m : Nat) : Int)) = true) := by simp; omega
    rw [if_neg hd2, hw, if_neg hc, gg_t (by omega), gg_t (by omega), Int.toNat_natCast, List.drop_take]
    simp
 ·have hne : ¬ (((rdn x).2.2 != 0) = false) := by simpa using h0
  rw [if_neg hne, if_pos (.inl h0)]
  rfl
theorem take_eq (g i : Int) (x : List Int) (e : Int) (hb : ∀ c ∈ x, Byt c) (hl : x.length ≤ 2 ^ 39) (he : 0 ≤ e) (he2 : e ≤ 2 ^ 40) : s_56 (g, i, (x, e), ()) = some (match tk g i x with
  | none => ([], false, (x, e), ())
  | some (p, r) => (p, true, (r, e + ((x.length : Int) - r.length)), ())) := by
 unfold s_56
 dsimp only
 rw [next_eq x e hb (by omega), bd_s]
 cases hn : nxt x with
 | none =>
  have ht : tk g i x = none := by unfold tk; rw [hn]
  rw [ht]
  rfl
 | some q =>
  obtain ⟨s, p, r⟩ := q
  obtain ⟨h1, h2, h3⟩ := (nxt_iff hb).1 hn
  have h4 := nb_pos p.length
  have h5 : x.length = (nb p.length).length + (4 + (p.length + r.length)) := by
   conv => lhs; rw [h3]
   simp only [List.length_append, h1]
  dsimp only
  rw [if_pos (show (!true) = false from rfl), mark_eq _ _ _ (by omega), bd_s]
  dsimp only
  rw [Equal_eq _ _ (by omega), bd_s]
  dsimp only
  by_cases hs : s = mark g i p
  ·have ht : tk g i x = some (p, r) := by unfold tk; rw [hn]; exact if_pos hs
   rw [decide_eq_true hs, if_neg (by decide), Num_eq _ (by omega), bd_s]
   dsimp only
   have e1 : IntKind.i64.wrap (((nb p.length).length : Int) + 4) = (((nb p.length).length + 4 : Nat) : Int) := w64 (by omega) (by omega)
   have e2 : IntKind.i64.wrap ((((nb p.length).length + 4 : Nat) : Int) + (p.length : Int)) = (((nb p.length).length + 4 + p.length : Nat) : Int) := w64 (by omega) (by omega)
   have e3 : IntKind.i64.wrap (e + (((nb p.length).length + 4 + p.length : Nat) : Int)) = e + ((x.length : Int) - r.length) := by
    rw [wneg (by omega) (by omega)]; omega
   rw [e1, e2, bd_s]
   dsimp only
   rw [e3, gg_t (by omega), Int.toNat_natCast, ht]
   have e4 : x.drop ((nb p.length).length + 4 + p.length) = r := by
    have : x = (nb p.length ++ s ++ p) ++ r := by simp only [List.append_assoc]; exact h3
    rw [this]
    exact List.drop_left' (by simp only [List.length_append, h1])
   rw [e4]
  ·have ht : tk g i x = none := by unfold tk; rw [hn]; exact if_neg hs
   rw [decide_eq_false hs, if_pos (by decide), ht]
theorem rws_byt (g i : Int) (x : List Int) (hb : ∀ c ∈ x, Byt c) : (∀ c ∈ (rws x.length g i x).2, Byt c) ∧ (rws x.length g i x).2.length ≤ x.length ∧ wt (rws x.length g i x).1 ≤ 3 * x.length ∧ ∀ p ∈ (rws x.length g i x).1, ∀ c ∈ p, Byt c := by
 have main : ∀ (n : Nat) (g i : Int) (x : List Int), (∀ c ∈ x, Byt c) → x.length ≤ n → (∀ c ∈ (rws n g i x).2, Byt c) ∧ (rws n g i x).2.length ≤ x.length ∧ wt (rws n g i x).1 ≤ 3 * x.length ∧ ∀ p ∈ (rws n g i x).1, ∀ c ∈ p, Byt c := by
  intro n
  induction n with
  | zero =>
   intro g i x hb hn
   exact ⟨hb, Nat.le_refl _, by simp [rws, wt], by simp [rws]⟩
  | succ n ih =>
   intro g i x hb hn
   cases h : tk g i x with
   | none => rw [rws_none h]; exact ⟨hb, Nat.le_refl _, by simp [wt], by simp⟩
   | some q =>
    obtain ⟨p, r⟩ := q
    obtain ⟨h1, h2⟩ := tk_len hb h
    obtain ⟨k1, k2, k3, k4⟩ := ih g (i + 1) r h2 (by omega)
    obtain ⟨h3, h4⟩ := (tk_iff hb).1 h
    rw [rws_some h]
    refine ⟨k1, by simp only; omega, by rw [wt_cons]; omega, ?_⟩
    intro q hq c hc
    rcases List.mem_cons.1 hq with rfl | hq
    ·exact hb c (by rw [h4, frame]; simp [hc])
    ·exact k4 q hq c hc
 exact main x.length g i x hb (Nat.le_refl _)
theorem nxt_byt {x s p r : List Int} (hb : ∀ c ∈ x, Byt c) (h : nxt x = some (s, p, r)) : (∀ c ∈ p, Byt c) ∧ p.length ≤ x.length := by
 obtain ⟨h1, h2, h3⟩ := (nxt_iff hb).1 h
 constructor
 ·intro c hc; exact hb c (by rw [h3]; simp [hc])
 ·rw [h3]; simp only [List.length_append]; omega
theorem Read1_eq (D : Dk) {i : Int} (hi : Ar i) {L : Nat} (hD : D.Ok L) (hL : L ≤ 2 ^ 38) :
  s_35 (i, D.p, D.a, D.sa, D.b, D.sb, ()) = some (match ara (D.get i) with
   | none => (false, 0, false, D.p, D.a, D.sa, D.b, D.sb, false, 0, 0, 0, [], ())
   | some (g, n, ps, r) => (true, ((D.get i).length : Int) - r.length, decide (n ≤ (ps.length : Int)), D.p, D.a, D.sa, D.b, D.sb, true, i, g, n, ps, ())) := by
 unfold s_35
 dsimp only
 rw [DRead_eq D hi hD (by omega), bd_s]
 dsimp only
 have hb := hD.byt (i := i)
 have hl := hD.len (i := i)
 generalize hx : D.get i = x at hb hl
 rw [next_eq x 0 hb (by omega), bd_s]
 unfold ara
 cases hn : nxt x with
 | none => rfl
 | some q =>
  obtain ⟨s, p, r⟩ := q
  obtain ⟨hbp, hlp⟩ := nxt_byt hb hn
  dsimp only
  rw [if_neg (by decide), Ints_eq p hbp (by omega), bd_s]
  dsimp only
  by_cases c1 : (ints p).2 = 0
  ·rw [if_pos (show ((ints p).2 != 0) = false by simpa using c1)]
   by_cases c2 : (ints p).1.length = 2
   ·rw [if_pos (show (((ints p).1.length : Int) != 2) = false by simp; omega), gg_t (by omega)]
    obtain ⟨a, b, hab⟩ : ∃ a b, (ints p).1 = [a, b] := by
     match hq : (ints p).1, c2 with
     | [a, b], _ => exact ⟨a, b, rfl⟩
    have hok := (ints_ok hbp (l := (ints p).1) (by rw [← c1])).1
    rw [hab] at hok c2 ⊢
    have ha := hok a (by simp)
    have hbb := hok b (by simp)
    simp only [List.getD_cons_zero, List.getD_cons_succ, bd_s]
    by_cases c3 : 1 ≤ a
    ·rw [decide_eq_false (show ¬ a < 1 by omega), if_neg (by decide), gg_t (by simp), take_eq a 0 x 0 hb (by omega) (by omega) (by omega), bd_s, if_pos (show (ints p).2 = 0 ∧ [a, b].length = 2 ∧ 1 ≤ a from ⟨c1, c2, c3⟩)]
     cases ht : tk a 0 x with
     | none => rfl
     | some q =>
      obtain ⟨p1, r1⟩ := q
      obtain ⟨b1, b2⟩ := tk_len hb ht
      dsimp only
      rw [if_neg (by decide), gg_t (by simp), gg_t (by simp)]
      have main : ∀ (m : Nat) (y : List Int) (e : Int) (acc : List (List Int)), y.length ≤ m → (∀ c ∈ y, Byt c) → e = (x.length : Int) - y.length → y.length ≤ x.length → acc.length + y.length ≤ 2 ^ 39 →
        loop (fun s : (List Int × Int) × Int × Int × Int × List (List Int) × Int × List Int × Int × List Int × Int × Unit => bd (s_56 (s.2.2.1, IntKind.i64.wrap ((↑s.2.2.2.2.1.length : Int) + 1), (s.1.1, s.1.2), ())) fun y => if (!y.2.1) = true then mr (some (true, y.2.2.1.2, decide (s.2.2.2.1 ≤ (↑s.2.2.2.2.1.length : Int)), s.2.2.2.2.2.1, s.2.2.2.2.2.2.1, s.2.2.2.2.2.2.2.1, s.2.2.2.2.2.2.2.2.1, s.2.2.2.2.2.2.2.2.2.1, true, s.2.1, s.2.2.1, s.2.2.2.1, s.2.2.2.2.1, ())) else gg ((s.2.2.2.2.1.length + 1) * 24 ≤ 2 ^ 47 ∧ s.2.2.2.2.1.length + 1 < 2 ^ 63) (some (Sum.inl ((y.2.2.1.1, y.2.2.1.2), s.2.1, s.2.2.1, s.2.2.2.1, s.2.2.2.2.1 ++ [y.1], s.2.2.2.2.2.1, s.2.2.2.2.2.2.1, s.2.2.2.2.2.2.2.1, s.2.2.2.2.2.2.2.2.1, s.2.2.2.2.2.2.2.2.2.1, ()))))
         ((y, e), i, a, b, acc, D.p, D.a, D.sa, D.b, D.sb, ()) = some (true, (x.length : Int) - (rws m a ((acc.length : Int) + 1) y).2.length, decide (b ≤ ((acc ++ (rws m a ((acc.length : Int) + 1) y).1).length : Int)), D.p, D.a, D.sa, D.b, D.sb, true, i, a, b, acc ++ (rws m a ((acc.length : Int) + 1) y).1, ()) := by
       intro m
       induction m with
       | zero =>
        intro y e acc hm hby he hyx hacc
        have : y = [] := List.length_eq_zero_iff.1 (by omega)
        subst this
        have ht : tk a ((acc.length : Int) + 1) [] = none := by
         cases h : tk a ((acc.length : Int) + 1) [] with
         | none => rfl
         | some q => have := tk_len hby (p := q.1) (r := q.2) h; simp at this
        refine loop_done ?_
        dsimp only
        rw [w64 (n := (acc.length : Int) + 1) (m := acc.length + 1) (by omega) (by omega), take_eq _ _ _ _ hby (by omega) (by omega) (by omega), bd_s, show ((acc.length + 1 : Nat) : Int) = (acc.length : Int) + 1 by omega, ht]
        simp only [rws, List.append_nil]
        rw [← he]
        rfl
       | succ m ih =>
        intro y e acc hm hby he hyx hacc
        have hw : IntKind.i64.wrap ((acc.length : Int) + 1) = (acc.length : Int) + 1 := wneg (by omega) (by omega)
        cases ht : tk a ((acc.length : Int) + 1) y with
        | none =>
         refine loop_done ?_
         dsimp only
         rw [hw, take_eq _ _ _ _ hby (by omega) (by omega) (by omega), bd_s, ht, rws_none ht]
         simp only [List.append_nil]
         rw [← he]
         rfl
        | some q =>
         obtain ⟨p2, r2⟩ := q
         obtain ⟨t1, t2⟩ := tk_len hby ht
         rw [loop_cont (s' := ((r2, e + ((y.length : Int) - r2.length)), i, a, b, acc ++ [p2], D.p, D.a, D.sa, D.b, D.sb, ()))]
         ·rw [ih r2 _ (acc ++ [p2]) (by omega) t2 (by omega) (by omega) (by rw [List.length_append]; simp only [List.length_cons, List.length_nil]; omega), rws_some ht]
          have e5 : (((acc ++ [p2]).length : Nat) : Int) + 1 = (acc.length : Int) + 1 + 1 := by rw [List.length_append]; simp
          rw [e5]
          simp only [List.append_assoc, List.cons_append, List.nil_append]
         ·dsimp only
          rw [hw, take_eq _ _ _ _ hby (by omega) (by omega) (by omega), bd_s, ht]
          dsimp only
          rw [if_neg (by decide), gg_t (by omega)]
      have h9 := main r1.length r1 (0 + ((x.length : Int) - r1.length)) [] (Nat.le_refl _) b2 (by omega) (by omega) (by simp only [List.length_nil]; omega)
      simp only [List.length_nil, List.nil_append, show ((0 : Nat) : Int) + 1 = 1 from rfl] at h9
      exact h9
    ·rw [decide_eq_true (show a < 1 by omega), if_pos rfl, if_neg (show ¬ ((ints p).2 = 0 ∧ [a, b].length = 2 ∧ 1 ≤ a) from fun h => c3 h.2.2)]
   ·rw [if_neg (show ¬ ((((ints p).1.length : Int) != 2) = false) by simp; omega), bd_s]
    dsimp only
    rw [if_pos rfl, if_neg (show ¬ ((ints p).2 = 0 ∧ (ints p).1.length = 2 ∧ 1 ≤ (ints p).1.getD 0 0) from fun h => c2 h.2.1)]
  ·rw [if_neg (show ¬ (((ints p).2 != 0) = false) by simpa using c1), bd_s]
   dsimp only
   rw [if_pos rfl, if_neg (show ¬ ((ints p).2 = 0 ∧ (ints p).1.length = 2 ∧ 1 ≤ (ints p).1.getD 0 0) from fun h => c1 h.1)]
def cst (x : List Int) : Option (Int × Int × List (List Int) × List Int) := match ara x with
 | some (g, n, ps, r) => if n ≤ (ps.length : Int) then some (g, n, ps, r) else none
 | none => none
def pick (u v : Option (Int × Int × List (List Int) × List Int)) : Option (Int × Int × Int × List (List Int) × List Int) := match u, v with
 | some u, some v => if u.1 < v.1 then some (1, v) else some (0, u)
 | some u, none => some (0, u)
 | none, some v => some (1, v)
 | none, none => none
namespace Dk
def best (D : Dk) : Option (Int × Int × Int × List (List Int) × List Int) := pick (cst D.a) (cst D.b)
def lay (D : Dk) (i g n : Int) (ps : List (List Int)) : Int × Dk :=
 if (D.trm i 0).1 ≠ 0 then D.trm i 0 else if ((D.trm i 0).2.app i (whole g n ps)).1 ≠ 0 then (D.trm i 0).2.app i (whole g n ps) else ((D.trm i 0).2.app i (whole g n ps)).2.syn i
end Dk
structure Lg where
 D : Dk
 i : Int
 g : Int
 n : Int
 ps : List (List Int)
def Dk.opn (D : Dk) : Int × Lg := match D.best with
 | none => ((D.lay 0 1 0 []).1, ⟨(D.lay 0 1 0 []).2, 0, 1, 0, []⟩)
 | some (i, g, n, ps, r) => if 0 < r.length then ((D.trm i ((D.get i).length - r.length)).1, ⟨(D.trm i ((D.get i).length - r.length)).2, i, g, n, ps⟩) else (0, ⟨D, i, g, n, ps⟩)
def lng (ps : List (List Int)) : Bool := decide (∃ p ∈ ps, 65536 < p.length)
namespace Lg
def add (l : Lg) (ps : List (List Int)) : Int × Lg := if lng ps = true then (13, l) else if ps.length = 0 then (0, l) else
 if (l.D.app l.i (frs l.g (l.ps.length + 1) ps)).1 = 0 then (0, ⟨(l.D.app l.i (frs l.g (l.ps.length + 1) ps)).2, l.i, l.g, l.n, l.ps ++ ps⟩) else ((l.D.app l.i (frs l.g (l.ps.length + 1) ps)).1, ⟨(l.D.app l.i (frs l.g (l.ps.length + 1) ps)).2, l.i, l.g, l.n, l.ps⟩)
def syn (l : Lg) : Int × Lg := ((l.D.syn l.i).1, ⟨(l.D.syn l.i).2, l.i, l.g, l.n, l.ps⟩)
def lay (l : Lg) (ps : List (List Int)) : Int × Lg := if lng ps = true then (13, l) else
 if (l.D.lay (1 - l.i) (l.g + 1) ps.length ps).1 = 0 then (0, ⟨(l.D.lay (1 - l.i) (l.g + 1) ps.length ps).2, 1 - l.i, l.g + 1, ps.length, ps⟩) else ((l.D.lay (1 - l.i) (l.g + 1) ps.length ps).1, ⟨(l.D.lay (1 - l.i) (l.g + 1) ps.length ps).2, l.i, l.g, l.n, l.ps⟩)
structure Ok (l : Lg) (L : Nat) : Prop where
 D : l.D.Ok L
 i : Ar l.i
 g0 : 1 ≤ l.g
 g1 : l.g ≤ 2 ^ 62 + L
 ps : wt l.ps ≤ 3 * L
 pl : ∀ p ∈ l.ps, p.length ≤ 65536
 pb : ∀ p ∈ l.ps, ∀ c ∈ p, Byt c
end Lg
theorem byt_nb : ∀ (k v : Nat), v < 128 ^ (k + 1) → ∀ c ∈ nb v, Byt c
 | 0, v, h, c, hc => by
  have hv : v < 128 := by simpa using h
  rw [nb_lt hv, List.mem_singleton] at hc
  subst hc; unfold Byt; omega
 | k + 1, v, h, c, hc => by
  by_cases hv : v < 128
  ·rw [nb_lt hv, List.mem_singleton] at hc
   subst hc; unfold Byt; omega
  ·rw [nb_ge hv] at hc
   rcases List.mem_cons.1 hc with rfl | hc
   ·unfold Byt; omega
   ·exact byt_nb k (v / 128) (by rw [Nat.div_lt_iff_lt_mul (by decide)]; rw [Nat.pow_succ] at h; omega) c hc
theorem byt_nb' {v : Nat} (h : v < 2 ^ 62) : ∀ c ∈ nb v, Byt c := byt_nb 8 v (by
 have : (128 : Nat) ^ (8 + 1) = 2 ^ 63 := by decide
 omega)
theorem byt_nums (l : List Int) : ∀ c ∈ (nums l).1, Byt c := by
 intro c hc
 unfold nums at hc
 split at hc
 ·rename_i h
  rw [List.mem_flatMap] at hc
  obtain ⟨v, hv, hc⟩ := hc
  have := h v hv
  unfold okN at this
  exact byt_nb' (by omega) c hc
 ·cases hc
theorem byt_frame (g i : Int) (p : List Int) (hl : p.length < 2 ^ 62) (hb : ∀ c ∈ p, Byt c) : ∀ c ∈ frame g i p, Byt c := by
 intro c hc
 unfold frame at hc
 rcases List.mem_append.1 hc with hc | hc
 ·exact byt_nb' hl c hc
 ·rcases List.mem_append.1 hc with hc | hc
  ·exact byt_sha _ c (List.mem_of_mem_take hc)
  ·exact hb c hc
theorem byt_frs (g : Int) : ∀ (i : Int) (ps : List (List Int)), (∀ p ∈ ps, p.length < 2 ^ 62) → (∀ p ∈ ps, ∀ c ∈ p, Byt c) → ∀ c ∈ frs g i ps, Byt c
 | _, [], _, _, c, hc => by cases hc
 | i, p :: r, hl, hb, c, hc => by
  rw [frs] at hc
  rcases List.mem_append.1 hc with hc | hc
  ·exact byt_frame g i p (hl p (by simp)) (hb p (by simp)) c hc
  ·exact byt_frs g (i + 1) r (fun q hq => hl q (by simp [hq])) (fun q hq => hb q (by simp [hq])) c hc
theorem byt_whole (g n : Int) (ps : List (List Int)) (hl : ∀ p ∈ ps, p.length < 2 ^ 62) (hb : ∀ p ∈ ps, ∀ c ∈ p, Byt c) : ∀ c ∈ whole g n ps, Byt c := by
 intro c hc
 unfold whole at hc
 rcases List.mem_append.1 hc with hc | hc
 ·exact byt_frame g 0 _ (by have := len_nums2 g n; omega) (byt_nums _) c hc
 ·exact byt_frs g 1 ps hl hb c hc
theorem len_whole (g n : Int) (ps : List (List Int)) (hl : ∀ p ∈ ps, p.length < 2 ^ 62) : (whole g n ps).length ≤ wt ps + 31 := by
 unfold whole
 have h1 := len_nums2 g n
 have h2 := len_frame g 0 (nums [g, n]).1 (by omega)
 have h3 := len_frs g 1 ps hl
 rw [List.length_append]; omega
theorem wt_lt {ps : List (List Int)} (h : wt ps < 2 ^ 62) : ∀ p ∈ ps, p.length < 2 ^ 62 := fun p hp => by have := wt_mem hp; omega
theorem lay_eq (D : Dk) {i : Int} (hi : Ar i) (g n : Int) (ps : List (List Int)) (hw : wt ps ≤ 2 ^ 38) {L : Nat} (hD : D.Ok L) (hL : L ≤ 2 ^ 39) :
  s_36 (i, g, n, ps, D.p, D.a, D.sa, D.b, D.sb, ()) = some ((D.lay i g n ps).1, (D.lay i g n ps).2.p, (D.lay i g n ps).2.a, (D.lay i g n ps).2.sa, (D.lay i g n ps).2.b, (D.lay i g n ps).2.sb, ()) := by
 unfold s_36 Dk.lay
 dsimp only
 rw [Trim_eq D hi, bd_s]
 dsimp only
 by_cases h1 : (D.trm i 0).1 = 0
 ·have h1' : ¬ (((D.trm i 0).1 != 0) = true) := by simpa using h1
  rw [if_neg h1', if_neg (show ¬ ((D.trm i 0).1 ≠ 0) by simpa using h1), head_eq, bd_s, frames_eq _ _ _ (by omega) (by omega) (by omega), bd_s]
  dsimp only
  have hl := len_nums2 g n
  have h2 := len_frame g 0 (nums [g, n]).1 (by omega)
  have h3 := len_frs g 1 ps (wt_lt (by omega))
  rw [Append_eq _ hi _ (by simp [wt]; omega) hD.trm (by omega), bd_s]
  have e : [frame g 0 (nums [g, n]).1, frs g 1 ps].flatten = whole g n ps := by simp [whole]
  rw [e]
  dsimp only
  by_cases h2 : ((D.trm i 0).2.app i (whole g n ps)).1 = 0
  ·have h2' : ¬ ((((D.trm i 0).2.app i (whole g n ps)).1 != 0) = true) := by simpa using h2
   rw [if_neg h2', if_neg (show ¬ (((D.trm i 0).2.app i (whole g n ps)).1 ≠ 0) by simpa using h2), Sync_eq _ hi, bd_s]
  ·have h2' : ((((D.trm i 0).2.app i (whole g n ps)).1 != 0) = true) := by simpa using h2
   rw [if_pos h2', if_pos h2]
 ·have h1' : (((D.trm i 0).1 != 0) = true) := by simpa using h1
  rw [if_pos h1', if_pos h1]
theorem Dk.Ok.lay {D : Dk} {L : Nat} (hD : D.Ok L) (i g n : Int) (ps : List (List Int)) (hw : wt ps < 2 ^ 62) (hb : ∀ p ∈ ps, ∀ c ∈ p, Byt c) : (D.lay i g n ps).2.Ok (L + wt ps + 31) := by
 have h1 := len_whole g n ps (wt_lt hw)
 have h2 := byt_whole g n ps (wt_lt hw) hb
 unfold Dk.lay
 split
 ·exact hD.trm.mono (by omega)
 ·split
  ·exact (hD.trm.app h2).mono (by omega)
  ·exact (hD.trm.app h2).syn.mono (by omega)
theorem cst_some {x : List Int} {g n : Int} {ps : List (List Int)} {r : List Int} : cst x = some (g, n, ps, r) ↔ ara x = some (g, n, ps, r) ∧ n ≤ ps.length := by
 unfold cst
 constructor
 ·intro h
  split at h
  ·rename_i g' n' ps' r' ha
   split at h
   ·rename_i hn
    cases h
    exact ⟨ha, hn⟩
   ·cases h
  ·cases h
 ·rintro ⟨h1, h2⟩
  rw [h1]
  exact if_pos h2
theorem best_some {D : Dk} {i g n : Int} {ps : List (List Int)} {r : List Int} (h : D.best = some (i, g, n, ps, r)) : Ar i ∧ ara (D.get i) = some (g, n, ps, r) ∧ n ≤ ps.length := by
 unfold Dk.best pick at h
 split at h
 ·rename_i u v hu hv
  obtain ⟨u1, u2, u3, u4⟩ := u
  obtain ⟨v1, v2, v3, v4⟩ := v
  split at h
  ·cases h; exact ⟨.inr rfl, cst_some.1 hv⟩
  ·cases h; exact ⟨.inl rfl, cst_some.1 hu⟩
 ·rename_i u hu hv
  cases h; exact ⟨.inl rfl, cst_some.1 hu⟩
 ·rename_i v hu hv
  cases h; exact ⟨.inr rfl, cst_some.1 hv⟩
 ·cases h
def rst (D : Dk) (k : Int) (o : Option (Int × Int × Int × List (List Int) × List Int)) : Bool × Int × Int × Int × List Int × Int × List Int × Int × Bool × Int × Int × Int × List (List Int) × Unit := match o with
 | none => (false, 0, k, D.p, D.a, D.sa, D.b, D.sb, false, 0, 0, 0, [], ())
 | some (i, g, n, ps, r) => (true, (((D.get i).length : Int) - (r.length : Int)), k, D.p, D.a, D.sa, D.b, D.sb, true, i, g, n, ps, ())
theorem rst_none (D : Dk) (k : Int) : rst D k none = (false, 0, k, D.p, D.a, D.sa, D.b, D.sb, false, 0, 0, 0, [], ()) := rfl
theorem rst_some (D : Dk) (k i g n : Int) (ps : List (List Int)) (r : List Int) : rst D k (some (i, g, n, ps, r)) = (true, (((D.get i).length : Int) - (r.length : Int)), k, D.p, D.a, D.sa, D.b, D.sb, true, i, g, n, ps, ()) := rfl
theorem Open_eq (D : Dk) {L : Nat} (hD : D.Ok L) (hL : L ≤ 2 ^ 38) :
  s_13 (D.p, D.a, D.sa, D.b, D.sb, ()) = some (if D.opn.1 ≠ 0 then (false, D.opn.1, D.opn.2.D.p, D.opn.2.D.a, D.opn.2.D.sa, D.opn.2.D.b, D.opn.2.D.sb, false, 0, 0, 0, [], ()) else (true, 0, D.opn.2.D.p, D.opn.2.D.a, D.opn.2.D.sa, D.opn.2.D.b, D.opn.2.D.sb, true, D.opn.2.i, D.opn.2.g, D.opn.2.n, D.opn.2.ps, ())) := by
 unfold s_13 jn
 dsimp only
 have w1 : IntKind.i64.wrap ((0 : Int) + 1) = 1 := by decide
 have w2 : IntKind.i64.wrap ((1 : Int) + 1) = 2 := by decide
 unfold lp
 rw [loop_cont (s' := rst D 1 (match cst D.a with | some u => some (0, u) | none => none)), loop_cont (s' := rst D 2 D.best)]
 ·refine loop_done ?_
  cases hb : D.best with
  | none =>
   rw [rst_none]
   dsimp only
   rw [if_neg (show ¬ (decide ((2 : Int) < 2) = true) by decide), if_pos (show (!false) = true from rfl), lay_eq D (.inl rfl) 1 0 [] (by simp [wt]) hD (by omega), bd_s]
   have e : D.opn = ((D.lay 0 1 0 []).1, ⟨(D.lay 0 1 0 []).2, 0, 1, 0, []⟩) := by unfold Dk.opn; rw [hb]
   rw [e]
   dsimp only
   by_cases h : (D.lay 0 1 0 []).1 = 0
   ·have h' : ¬ (((D.lay 0 1 0 []).1 != 0) = true) := by simpa using h
    rw [if_neg h', if_neg (show ¬ ((D.lay 0 1 0 []).1 ≠ 0) by simpa using h)]
    rfl
   ·have h' : (((D.lay 0 1 0 []).1 != 0) = true) := by simpa using h
    rw [if_pos h', if_pos h]
    rfl
  | some q =>
   obtain ⟨i, g, n, ps, r⟩ := q
   obtain ⟨b1, b2, b3⟩ := best_some hb
   have hr : r.length ≤ (D.get i).length := by
    obtain ⟨-, -, -, -, h5, -⟩ := (ara_iff hD.byt).1 b2
    rw [h5, List.length_append]; omega
   rw [rst_some]
   dsimp only
   rw [if_neg (show ¬ (decide ((2 : Int) < 2) = true) by decide), if_neg (show ¬ ((!true) = true) by decide), gg_t (show (true && true) = true from rfl), DRead_eq D b1 hD (by omega), bd_s]
   dsimp only
   by_cases h0 : 0 < r.length
   ·have hd : decide (((D.get i).length : Int) - (r.length : Int) < ((D.get i).length : Int)) = true := decide_eq_true (by omega)
    have e : D.opn = ((D.trm i ((D.get i).length - r.length)).1, ⟨(D.trm i ((D.get i).length - r.length)).2, i, g, n, ps⟩) := by unfold Dk.opn; rw [hb]; exact if_pos h0
    rw [if_pos hd, gg_t rfl, Trim_eq D b1, bd_s, e]
    dsimp only
    by_cases h : (D.trm i ((D.get i).length - r.length)).1 = 0
    ·have h' : ¬ (((D.trm i ((D.get i).length - r.length)).1 != 0) = true) := by simpa using h
     rw [if_neg h', if_neg (show ¬ ((D.trm i ((D.get i).length - r.length)).1 ≠ 0) by simpa using h)]
     rfl
    ·have h' : (((D.trm i ((D.get i).length - r.length)).1 != 0) = true) := by simpa using h
     rw [if_pos h', if_pos h]
     rfl
   ·have hd : ¬ (decide (((D.get i).length : Int) - (r.length : Int) < ((D.get i).length : Int)) = true) := by simp; omega
    have e : D.opn = (0, ⟨D, i, g, n, ps⟩) := by unfold Dk.opn; rw [hb]; exact if_neg h0
    rw [if_neg hd, e]
    rfl
 ·cases ha : cst D.a with
  | none =>
   dsimp only
   rw [rst_none]
   dsimp only
   rw [if_pos (show decide ((1 : Int) < 2) = true by decide), Read1_eq D (.inr rfl) hD hL, bd_s]
   have hbest : D.best = match cst D.b with | some v => some (1, v) | none => none := by
    unfold Dk.best pick; rw [ha]; cases cst D.b <;> rfl
   have hg : D.get 1 = D.b := rfl
   rw [hg, hbest]
   unfold cst
   cases hx : ara D.b with
   | none => simp only [w2, bd_s, Bool.false_eq_true, if_false]; rfl
   | some q =>
    obtain ⟨g, n, ps, r⟩ := q
    by_cases hn : n ≤ (ps.length : Int)
    ·simp only [hn, decide_true, if_true, Bool.not_false, Bool.true_eq_false, if_false, bd_s, w2]; rfl
    ·simp only [hn, decide_false, Bool.false_eq_true, if_false, bd_s, w2]; rfl
  | some u =>
   obtain ⟨ug, un, ups, ur⟩ := u
   dsimp only
   rw [rst_some]
   dsimp only
   rw [if_pos (show decide ((1 : Int) < 2) = true by decide), Read1_eq D (.inr rfl) hD hL, bd_s]
   have hbest : D.best = match cst D.b with | some v => if ug < v.1 then some (1, v) else some (0, ug, un, ups, ur) | none => some (0, ug, un, ups, ur) := by
    unfold Dk.best pick; rw [ha]; cases cst D.b <;> rfl
   have hg : D.get 1 = D.b := rfl
   rw [hg, hbest]
   unfold cst
   cases hx : ara D.b with
   | none => simp only [w2, bd_s, Bool.false_eq_true, if_false]; rfl
   | some q =>
    obtain ⟨g, n, ps, r⟩ := q
    by_cases hn : n ≤ (ps.length : Int)
    ·have hgt : ∀ {α : Type} {m : Option α}, gg ((true && true) = true) m = m := gg_t rfl
     by_cases hlt : ug < g
     ·simp only [hn, hlt, decide_true, if_true, Bool.not_true, if_false, bd_s, w2, hgt]
      rfl
     ·simp only [hn, hlt, decide_true, decide_false, Bool.false_eq_true, if_true, Bool.not_true, if_false, bd_s, w2, hgt]; rfl
    ·simp only [hn, decide_false, Bool.false_eq_true, if_false, bd_s, w2]; rfl
 ·dsimp only
  rw [if_pos (show decide ((0 : Int) < 2) = true by decide), Read1_eq D (.inl rfl) hD hL, bd_s]
  have hg : D.get 0 = D.a := rfl
  rw [hg]
  unfold cst
  cases hx : ara D.a with
  | none => simp only [w1, bd_s, Bool.false_eq_true, if_false]; rfl
  | some q =>
   obtain ⟨g, n, ps, r⟩ := q
   by_cases hn : n ≤ (ps.length : Int)
   ·simp only [hn, decide_true, if_true, Bool.not_false, Bool.true_eq_false, if_false, bd_s, w1]
    rfl
   ·simp only [hn, decide_false, Bool.false_eq_true, if_false, bd_s, w1]
    rfl
theorem long_eq (ps : List (List Int)) (h : ps.length ≤ 2 ^ 40) : s_38 (ps, ()) = some (lng ps, ()) := by
 unfold s_38 s_58f59
 have key : ∃ r, s_77f59 (ps, ()) = some (r, ()) ∧ decide (0 ≤ r) = lng ps := by
  unfold s_77f59 s_59
  try simp only [nl]
  rcases all_first [] ps (fun p => ¬ 65536 < p.length) with h1 | ⟨h1, k, k1, k2, k3⟩
  ·refine ⟨-1, ?_, ?_⟩
   ·refine lp_upto (fun i => ((i : Int), ())) ps.length rfl (fun i hi => ?_) ?_
    ·have hlt : decide ((i : Int) < (ps.length : Int)) = true := decide_eq_true (by omega)
     have h2 := h1 _ (mem_getD [] hi)
     have hd : decide ((65536 : Int) < ((ps.getD i []).length : Int)) = false := decide_eq_false (by omega)
     simp only [hlt, if_true, Int.toNat_natCast, hd, bd_s, Bool.false_eq_true, if_false]
     rw [gg_t (by omega), w64 (m := i + 1) (by omega) (by omega)]
    ·have hlt : decide ((ps.length : Int) < (ps.length : Int)) = false := decide_eq_false (by omega)
     simp only [hlt]
     rfl
   ·unfold lng
    rw [decide_eq_false (show ¬ (0 : Int) ≤ -1 by decide), decide_eq_false]
    rintro ⟨p, hp, hl⟩
    exact h1 p hp hl
  ·refine ⟨(k : Int), ?_, ?_⟩
   ·refine lp_upto (fun i => ((i : Int), ())) k rfl (fun i hi => ?_) ?_
    ·have hlt : decide ((i : Int) < (ps.length : Int)) = true := decide_eq_true (by omega)
     have h2 := k2 i hi
     have hd : decide ((65536 : Int) < ((ps.getD i []).length : Int)) = false := decide_eq_false (by omega)
     simp only [hlt, if_true, Int.toNat_natCast, hd, bd_s, Bool.false_eq_true, if_false]
     rw [gg_t (by omega), w64 (m := i + 1) (by omega) (by omega)]
    ·have hlt : decide ((k : Int) < (ps.length : Int)) = true := decide_eq_true (by omega)
     have hd : decide ((65536 : Int) < ((ps.getD k []).length : Int)) = true := decide_eq_true (by omega)
     simp only [hlt, if_true, Int.toNat_natCast, hd, bd_s]
     rw [gg_t (by omega)]
     rfl
   ·unfold lng
    rw [decide_eq_true (show (0 : Int) ≤ (k : Int) by omega), decide_eq_true]
    exact ⟨ps.getD k [], mem_getD [] k1, by omega⟩
 obtain ⟨r, h1, h2⟩ := key
 simp only [h1, bd_s, h2]
theorem cloned_eq (ps : List (List Int)) (h : wt ps ≤ 2 ^ 40) : s_39 (ps, ()) = some (ps, ()) := by
 unfold s_39
 try simp only [nl]
 have hlen := wt_len ps
 refine lp_upto (fun j => ((j : Int), ps.take j, ())) ps.length rfl (fun j hj => ?_) ?_
 ·have hlt : decide ((j : Int) < (ps.length : Int)) = true := by simpa using hj
  have hl : (ps.take j).length = j := by rw [List.length_take]; omega
  have hm := wt_mem (mem_getD [] hj)
  simp only [hlt, if_true, Int.toNat_natCast, hl]
  rw [gg_t (by omega), gg_t (by omega), gg_t (by omega), w64 (m := j + 1) (by omega) (by omega), List.take_succ_eq_append_getElem hj, getDR hj]
 ·have hlt : decide ((ps.length : Int) < (ps.length : Int)) = false := by simp
  simp only [hlt, List.take_length]
  rfl
theorem cloned_b (ps : List (List Int)) (h : wt ps ≤ 2 ^ 40) : s_39b (ps, ()) = some (ps, ()) := cloned_eq ps h
theorem cloned_o (ps : List (List Int)) (h : wt ps ≤ 2 ^ 40) : s_39o0 (ps, ()) = some (ps, ()) := cloned_eq ps h
theorem Add_eq (l : Lg) {L : Nat} (h : l.Ok L) (hL : L ≤ 2 ^ 36) (ps : List (List Int)) (hw : wt ps ≤ 2 ^ 38) :
  s_16 (ps, l.i, l.g, l.n, l.ps, l.D.p, l.D.a, l.D.sa, l.D.b, l.D.sb, ()) = some ((l.add ps).1, (l.add ps).2.i, (l.add ps).2.g, (l.add ps).2.n, (l.add ps).2.ps, (l.add ps).2.D.p, (l.add ps).2.D.a, (l.add ps).2.D.sa, (l.add ps).2.D.b, (l.add ps).2.D.sb, ()) := by
 unfold s_16 Lg.add
 have hlen := wt_len ps
 have hlen2 := wt_len l.ps
 have hps := h.ps
 dsimp only
 rw [long_eq ps (by omega), bd_s]
 dsimp only
 by_cases h1 : lng ps = true
 ·rw [if_pos h1, if_pos h1]
 ·rw [if_neg h1, if_neg h1]
  by_cases h2 : ps.length = 0
  ·rw [if_pos (show (((ps.length : Int) == 0) = true) from beq_iff_eq.2 (by omega)), if_pos h2]
  ·have h2' : ¬ (((ps.length : Int) == 0) = true) := fun h => h2 (by have := beq_iff_eq.1 h; omega)
   rw [if_neg h2', if_neg h2, w64 (n := (l.ps.length : Int) + 1) (m := l.ps.length + 1) (by omega) (by omega), show ((l.ps.length + 1 : Nat) : Int) = (l.ps.length : Int) + 1 by omega, frames_eq _ _ _ (by omega) (by omega) (by omega), bd_s]
   dsimp only
   have h3 := len_frs l.g (l.ps.length + 1) ps (wt_lt (by omega))
   have e : [frs l.g ((l.ps.length : Int) + 1) ps].flatten = frs l.g ((l.ps.length : Int) + 1) ps := by simp
   rw [Append_eq _ h.i _ (by simp [wt]; omega) h.D (by omega), bd_s, e]
   dsimp only
   by_cases h4 : (l.D.app l.i (frs l.g ((l.ps.length : Int) + 1) ps)).1 = 0
   ·have h4' : (((l.D.app l.i (frs l.g ((l.ps.length : Int) + 1) ps)).1 == 0) = true) := by simpa using h4
    rw [if_pos h4', if_pos h4, cloned_eq ps (by omega), bd_s]
    dsimp only
    rw [gg_t (by omega), h4]
   ·have h4' : ¬ (((l.D.app l.i (frs l.g ((l.ps.length : Int) + 1) ps)).1 == 0) = true) := by simpa using h4
    rw [if_neg h4', if_neg h4]
theorem Lay_eq (l : Lg) {L : Nat} (h : l.Ok L) (hL : L ≤ 2 ^ 36) (ps : List (List Int)) (hw : wt ps ≤ 2 ^ 38) :
  s_15 (ps, l.i, l.g, l.n, l.ps, l.D.p, l.D.a, l.D.sa, l.D.b, l.D.sb, ()) = some ((l.lay ps).1, (l.lay ps).2.i, (l.lay ps).2.g, (l.lay ps).2.n, (l.lay ps).2.ps, (l.lay ps).2.D.p, (l.lay ps).2.D.a, (l.lay ps).2.D.sa, (l.lay ps).2.D.b, (l.lay ps).2.D.sb, ()) := by
 unfold s_15 Lg.lay
 have hlen := wt_len ps
 have hg0 := h.g0
 have hg1 := h.g1
 have hi : Ar (1 - l.i) := by rcases h.i with e | e <;> rw [e] <;> unfold Ar <;> omega
 dsimp only
 rw [long_eq ps (by omega), bd_s]
 dsimp only
 by_cases h1 : lng ps = true
 ·rw [if_pos h1, if_pos h1]
 ·have ei : IntKind.i64.wrap (1 - l.i) = 1 - l.i := by rcases h.i with e | e <;> rw [e] <;> decide
  have eg : IntKind.i64.wrap (l.g + 1) = l.g + 1 := wrap64 (by omega) (by omega)
  rw [if_neg h1, if_neg h1, ei, eg, lay_eq l.D hi _ _ ps hw h.D (by omega), bd_s]
  dsimp only
  by_cases h4 : (l.D.lay (1 - l.i) (l.g + 1) ps.length ps).1 = 0
  ·have h4' : ¬ (((l.D.lay (1 - l.i) (l.g + 1) ps.length ps).1 != 0) = true) := by simpa using h4
   rw [if_neg h4', if_pos h4, cloned_b ps (by omega), bd_s]
  ·have h4' : (((l.D.lay (1 - l.i) (l.g + 1) ps.length ps).1 != 0) = true) := by simpa using h4
   rw [if_pos h4', if_neg h4]
theorem LSync_eq (l : Lg) (h : Ar l.i) :
  s_30 (l.i, l.g, l.n, l.ps, l.D.p, l.D.a, l.D.sa, l.D.b, l.D.sb, ()) = some (l.syn.1, l.syn.2.i, l.syn.2.g, l.syn.2.n, l.syn.2.ps, l.syn.2.D.p, l.syn.2.D.a, l.syn.2.D.sa, l.syn.2.D.b, l.syn.2.D.sb, ()) := by
 unfold s_30 Lg.syn
 dsimp only
 rw [Sync_eq l.D h, bd_s]
theorem Records_eq (l : Lg) (h : wt l.ps ≤ 2 ^ 40) :
  s_17 (l.i, l.g, l.n, l.ps, l.D.p, l.D.a, l.D.sa, l.D.b, l.D.sb, ()) = some (l.ps, l.i, l.g, l.n, l.ps, l.D.p, l.D.a, l.D.sa, l.D.b, l.D.sb, ()) := by
 unfold s_17
 dsimp only
 rw [cloned_o l.ps h, bd_s]
theorem Laid_eq (l : Lg) :
  s_27 (l.i, l.g, l.n, l.ps, l.D.p, l.D.a, l.D.sa, l.D.b, l.D.sb, ()) = some (l.n, l.i, l.g, l.n, l.ps, l.D.p, l.D.a, l.D.sa, l.D.b, l.D.sb, ()) := rfl
theorem tk_nil (g i : Int) : tk g i [] = none := by
 cases h : tk g i [] with
 | none => rfl
 | some q => have := tk_len (by simp) (p := q.1) (r := q.2) h; simp at this
theorem cst_nil : cst [] = none := by
 unfold cst ara
 have : nxt [] = none := by
  cases h : nxt [] with
  | none => rfl
  | some q =>
   obtain ⟨h1, h2, h3⟩ := (nxt_iff (by simp) (s := q.1) (p := q.2.1) (r := q.2.2)).1 h
   have := congrArg List.length h3
   simp only [List.length_append, List.length_nil] at this
   have := nb_pos q.2.1.length
   omega
 rw [this]
theorem okN1 : okN 1 := by unfold okN; omega
theorem okN0 : okN 0 := by unfold okN; omega
theorem byt_app {x y : List Int} (hx : ∀ c ∈ x, Byt c) (hy : ∀ c ∈ y, Byt c) : ∀ c ∈ x ++ y, Byt c := by
 intro c hc
 rcases List.mem_append.1 hc with hc | hc
 ·exact hx c hc
 ·exact hy c hc
theorem l64 {ps : List (List Int)} (h : ∀ p ∈ ps, p.length ≤ 65536) : ∀ p ∈ ps, p.length < 2 ^ 62 := fun p hp => by have := h p hp; omega
theorem cst_whole {g n : Int} (hg : okN g) (hg1 : 1 ≤ g) (hn : okN n) {ps : List (List Int)} (hl : ∀ p ∈ ps, p.length ≤ 65536) (hb : ∀ p ∈ ps, ∀ c ∈ p, Byt c) {r : List Int} (hr : ∀ c ∈ r, Byt c) (ht : tk g (1 + ps.length) r = none) (hnp : n ≤ ps.length) : cst (whole g n ps ++ r) = some (g, n, ps, r) :=
 cst_some.2 ⟨(ara_iff (byt_app (byt_whole g n ps (l64 hl) hb) hr)).2 ⟨hg, hg1, hn, hl, rfl, ht⟩, hnp⟩
namespace Dk
variable {D : Dk}
theorem dr_neg (h : D.p < 0) : D.dr = (0, D) := by
 unfold dr
 rw [if_neg (by omega), if_neg (by omega)]
theorem set_get {i : Int} {x : List Int} {s : Int} : (D.set i x s).get i = x := by unfold set get; split <;> rfl
theorem set_set {i : Int} {x y : List Int} {s t : Int} : (D.set i x s).set i y t = D.set i y t := by unfold set; split <;> rfl
theorem set_self {i : Int} : D.set i (D.get i) (D.safe i) = D := by unfold set get safe; split <;> rfl
theorem set_p {i : Int} {x : List Int} {s : Int} : (D.set i x s).p = D.p := by unfold set; split <;> rfl
theorem set_other {i : Int} (hi : Ar i) {x : List Int} {s : Int} : (D.set i x s).get (1 - i) = D.get (1 - i) ∧ (D.set i x s).safe (1 - i) = D.safe (1 - i) := by
 rcases hi with rfl | rfl <;> exact ⟨rfl, rfl⟩
theorem app_neg (h : D.p < 0) (i : Int) (x : List Int) : D.app i x = (0, D.set i (D.get i ++ x) (D.safe i)) := by unfold app; rw [dr_neg h]; exact if_pos rfl
theorem syn_neg (h : D.p < 0) (i : Int) : D.syn i = (0, D.set i (D.get i) (D.get i).length) := by unfold syn; rw [dr_neg h]; exact if_pos rfl
theorem trm_neg (h : D.p < 0) (i n : Int) (h0 : 0 ≤ n) (h1 : n ≤ (D.get i).length) : D.trm i n = (0, D.set i ((D.get i).take n.toNat) (if n < D.safe i then n else D.safe i)) := by
 unfold trm; rw [if_neg (by omega), dr_neg h]; exact if_pos rfl
theorem lay_neg (h : D.p < 0) {L : Nat} (hD : D.Ok L) (i g n : Int) (ps : List (List Int)) : D.lay i g n ps = (0, D.set i (whole g n ps) (whole g n ps).length) := by
 unfold lay
 have h0 := hD.s0 (i := i)
 rw [trm_neg h i 0 (by omega) (by omega)]
 dsimp only
 rw [if_neg (by simp), app_neg (by rw [set_p]; exact h)]
 dsimp only
 rw [if_neg (by simp), syn_neg (by rw [set_p, set_p]; exact h), set_set, set_set, set_get, set_get, Int.toNat_zero, List.take_zero, List.nil_append]
end Dk
theorem best_iff {D : Dk} {i : Int} (hi : Ar i) {g n : Int} {ps : List (List Int)} {r : List Int} : D.best = some (i, g, n, ps, r) ↔ cst (D.get i) = some (g, n, ps, r) ∧ ∀ v, cst (D.get (1 - i)) = some v → if i = 0 then ¬ g < v.1 else v.1 < g := by
 unfold Dk.best pick
 rcases hi with rfl | rfl
 ·have e1 : D.get 0 = D.a := rfl
  have e2 : D.get (1 - 0) = D.b := rfl
  rw [e1, e2]
  cases ha : cst D.a with
  | none => cases hb : cst D.b <;> simp
  | some u =>
   cases hb : cst D.b with
   | none => simp
   | some v =>
    obtain ⟨u1, u2, u3, u4⟩ := u
    by_cases h : u1 < v.1
    ·simp only [h, if_true]
     constructor
     ·intro hh; cases hh
     ·rintro ⟨h1, h2⟩
      cases h1
      exact absurd h (h2 v rfl)
    ·simp only [h, if_false]
     constructor
     ·intro hh; cases hh
      exact ⟨rfl, fun v' hv => by cases hv; simpa using h⟩
     ·rintro ⟨h1, h2⟩; cases h1; rfl
 ·have e1 : D.get 1 = D.b := rfl
  have e2 : D.get (1 - 1) = D.a := rfl
  rw [e1, e2]
  cases ha : cst D.a with
  | none => cases hb : cst D.b <;> simp
  | some u =>
   cases hb : cst D.b with
   | none => simp
   | some v =>
    obtain ⟨v1, v2, v3, v4⟩ := v
    by_cases h : u.1 < v1
    ·simp only [h, if_true]
     constructor
     ·intro hh; cases hh
      exact ⟨rfl, fun u' hu => by cases hu; simpa using h⟩
     ·rintro ⟨h1, h2⟩; cases h1; rfl
    ·simp only [h, if_false]
     constructor
     ·intro hh; cases hh
     ·rintro ⟨h1, h2⟩
      cases h1
      have := h2 u rfl
      rw [if_neg (by decide)] at this
      exact absurd this h
def Good (l : Lg) : Prop := Ar l.i ∧ l.D.best = some (l.i, l.g, l.n, l.ps, [])
theorem best_set {D : Dk} {i : Int} (hi : Ar i) {g n : Int} {ps ps' : List (List Int)} {r r' x : List Int} {s : Int} (h : D.best = some (i, g, n, ps, r)) (hx : cst x = some (g, n, ps', r')) : (D.set i x s).best = some (i, g, n, ps', r') := by
 obtain ⟨h1, h2⟩ := (best_iff hi).1 h
 refine (best_iff hi).2 ⟨by rw [Dk.set_get]; exact hx, ?_⟩
 rw [(Dk.set_other hi).1]
 exact h2
theorem best_bytes {D : Dk} {L : Nat} (hD : D.Ok L) {i : Int} (hi : Ar i) {g n : Int} {ps : List (List Int)} {r : List Int} (h : D.best = some (i, g, n, ps, r)) :
  okN g ∧ 1 ≤ g ∧ okN n ∧ (∀ p ∈ ps, p.length ≤ 65536) ∧ D.get i = whole g n ps ++ r ∧ n ≤ ps.length ∧ wt ps ≤ 3 * L ∧ (∀ p ∈ ps, ∀ c ∈ p, Byt c) := by
 obtain ⟨h1, h2⟩ := (best_iff hi).1 h
 obtain ⟨h3, h4⟩ := cst_some.1 h1
 obtain ⟨a1, a2, a3, a4, a5, a6⟩ := (ara_iff hD.byt).1 h3
 have hb := hD.byt (i := i)
 have hl := hD.len (i := i)
 have hfr : (∀ c ∈ frs g 1 ps ++ r, Byt c) ∧ (frs g 1 ps ++ r).length ≤ L := by
  rw [a5, whole, List.append_assoc] at hb hl
  refine ⟨fun c hc => hb c (List.mem_append_right _ hc), ?_⟩
  rw [List.length_append] at hl; omega
 have hrw := rws_frs ps _ g 1 r a4 hfr.1 a6 (Nat.le_refl _)
 obtain ⟨-, -, k3, k4⟩ := rws_byt g 1 _ hfr.1
 rw [hrw] at k3 k4
 exact ⟨a1, a2, a3, a4, a5, h4, Nat.le_trans k3 (by omega), k4⟩
theorem good_opn {D : Dk} (hp : D.p < 0) {L : Nat} (hD : D.Ok L) : D.opn.1 = 0 ∧ Good D.opn.2 ∧ D.opn.2.D.p = D.p ∧ D.opn.2.Ok (L + 31) := by
 unfold Dk.opn
 cases hb : D.best with
 | none =>
  simp only
  have hw := len_whole 1 0 [] (by simp)
  have hby := byt_whole 1 0 [] (by simp) (by simp)
  rw [Dk.lay_neg hp hD]
  have hca : cst D.a = none ∧ cst D.b = none := by
   unfold Dk.best pick at hb
   cases ha : cst D.a with
   | none => cases hb' : cst D.b with
    | none => exact ⟨rfl, rfl⟩
    | some v => rw [ha, hb'] at hb; cases hb
   | some u => cases hb' : cst D.b with
    | none => rw [ha, hb'] at hb; cases hb
    | some v =>
     rw [ha, hb'] at hb
     simp only at hb
     split at hb <;> cases hb
  have hcw : cst (whole 1 0 []) = some (1, 0, [], []) := by
   have := cst_whole okN1 (Int.le_refl _) okN0 (ps := []) (by simp) (by simp) (r := []) (by simp) (tk_nil _ _) (by simp)
   rwa [List.append_nil] at this
  refine ⟨rfl, ⟨.inl rfl, (best_iff (.inl rfl)).2 ⟨by rw [Dk.set_get]; exact hcw, ?_⟩⟩, Dk.set_p, ?_⟩
  ·intro v hv
   rw [(Dk.set_other (.inl rfl)).1] at hv
   have : D.get (1 - 0) = D.b := rfl
   rw [this, hca.2] at hv; cases hv
  ·have hset : (D.set 0 (whole 1 0 []) (whole 1 0 []).length).Ok (L + 31) := Dk.Ok.set (hD.mono (by omega)) hby (by simp only [wt, List.map_nil, List.sum_nil] at hw; omega) (by omega) (by omega)
   refine ⟨hset, .inl rfl, by simp, ?_, by simp [wt], by simp, by simp⟩
   simp only
   omega
 | some q =>
  obtain ⟨i, g, n, ps, r⟩ := q
  have hi := (best_some hb).1
  obtain ⟨a1, a2, a3, a4, a5, a6, a7, a8⟩ := best_bytes hD hi hb
  have hg : g ≤ 2 ^ 62 + (L + 31 : Nat) := by unfold okN at a1; omega
  simp only
  by_cases hr : 0 < r.length
  ·rw [if_pos hr]
   have hlen : (D.get i).length = (whole g n ps).length + r.length := by rw [a5, List.length_append]
   have hcut : (D.get i).take (((D.get i).length : Int) - (r.length : Int)).toNat = whole g n ps := by
    have : (((D.get i).length : Int) - (r.length : Int)).toNat = (whole g n ps).length := by omega
    rw [this, a5, List.take_left']
    rfl
   rw [Dk.trm_neg hp i _ (by omega) (by omega), hcut]
   have hcw : cst (whole g n ps) = some (g, n, ps, []) := by
    have := cst_whole a1 a2 a3 a4 a8 (r := []) (by simp) (tk_nil _ _) a6
    rwa [List.append_nil] at this
   have hs0 := hD.s0 (i := i)
   have hs1 := hD.s1 (i := i)
   have hle := hD.len (i := i)
   refine ⟨rfl, ⟨hi, best_set hi hb hcw⟩, Dk.set_p, ?_⟩
   have hset : (D.set i (whole g n ps) (if ((D.get i).length : Int) - (r.length : Int) < D.safe i then ((D.get i).length : Int) - (r.length : Int) else D.safe i)).Ok (L + 31) := by
    refine Dk.Ok.set (hD.mono (by omega)) (byt_whole g n ps (l64 a4) a8) (by omega) ?_ ?_
    ·split <;> omega
    ·split <;> omega
   exact ⟨hset, hi, a2, hg, Nat.le_trans a7 (by omega), a4, a8⟩
  ·rw [if_neg hr]
   have : r = [] := List.length_eq_zero_iff.1 (by omega)
   subst this
   exact ⟨rfl, ⟨hi, hb⟩, rfl, ⟨hD.mono (by omega), hi, a2, hg, Nat.le_trans a7 (by omega), a4, a8⟩⟩
theorem lng_false {ps : List (List Int)} : lng ps = false ↔ ∀ p ∈ ps, p.length ≤ 65536 := by
 unfold lng
 rw [decide_eq_false_iff_not]
 constructor
 ·intro h p hp
  refine Nat.le_of_not_lt fun hc => h ⟨p, hp, hc⟩
 ·rintro h ⟨p, hp, hc⟩
  have := h p hp; omega
theorem add_neg {l : Lg} (hp : l.D.p < 0) (hi : Ar l.i) {ps : List (List Int)} (hl : ∀ p ∈ ps, p.length ≤ 65536) : l.add ps = (0, ⟨l.D.set l.i (l.D.get l.i ++ frs l.g (l.ps.length + 1) ps) (l.D.safe l.i), l.i, l.g, l.n, l.ps ++ ps⟩) := by
 unfold Lg.add
 rw [lng_false.2 hl, if_neg (by decide)]
 by_cases h : ps.length = 0
 ·have : ps = [] := List.length_eq_zero_iff.1 h
  subst this
  simp only [List.length_nil, if_true, frs, List.append_nil, Dk.set_self]
 ·rw [if_neg h, Dk.app_neg hp]
  exact if_pos rfl
theorem frs_len {ps : List (List Int)} (g i : Int) (hl : ∀ p ∈ ps, p.length ≤ 65536) : (frs g i ps).length ≤ wt ps := len_frs g i ps (l64 hl)
theorem Ok.add {l : Lg} {L : Nat} (h : l.Ok L) (hp : l.D.p < 0) {ps : List (List Int)} (hl : ∀ p ∈ ps, p.length ≤ 65536) (hb : ∀ p ∈ ps, ∀ c ∈ p, Byt c) : (l.add ps).2.Ok (L + wt ps) := by
 have h1 := frs_len l.g (l.ps.length + 1) hl
 have h2 := byt_frs l.g (l.ps.length + 1) ps (l64 hl) hb
 have h3 := h.D.len (i := l.i)
 have h4 := h.D.s0 (i := l.i)
 have h5 := h.D.s1 (i := l.i)
 have h6 := h.ps
 have h7 := h.g1
 rw [add_neg hp h.i hl]
 refine ⟨Dk.Ok.set (h.D.mono (by omega)) (byt_app h.D.byt h2) (by rw [List.length_append]; omega) h4 (by rw [List.length_append]; omega), h.i, h.g0, by simp only; omega, by simp only [wt_append]; omega, ?_, ?_⟩
 ·intro p hp
  rcases List.mem_append.1 hp with hp | hp
  ·exact h.pl p hp
  ·exact hl p hp
 ·intro p hp
  rcases List.mem_append.1 hp with hp | hp
  ·exact h.pb p hp
  ·exact hb p hp
theorem good_add {l : Lg} {L : Nat} (h : l.Ok L) (hp : l.D.p < 0) (hg : Good l) {ps : List (List Int)} (hl : ∀ p ∈ ps, p.length ≤ 65536) (hb : ∀ p ∈ ps, ∀ c ∈ p, Byt c) : (l.add ps).1 = 0 ∧ Good (l.add ps).2 ∧ (l.add ps).2.D.p = l.D.p := by
 rw [add_neg hp h.i hl]
 obtain ⟨a1, a2, a3, a4, a5, a6, a7, a8⟩ := best_bytes h.D h.i hg.2
 refine ⟨rfl, ⟨h.i, best_set h.i hg.2 ?_⟩, Dk.set_p⟩
 have e : l.D.get l.i ++ frs l.g (l.ps.length + 1) ps = whole l.g l.n (l.ps ++ ps) := by
  rw [a5, List.append_nil, whole, whole, frs_append, List.append_assoc, Int.add_comm 1]
 rw [e]
 have := cst_whole a1 a2 a3 (ps := l.ps ++ ps) (fun p hp => (List.mem_append.1 hp).elim (a4 p) (hl p)) (fun p hp => (List.mem_append.1 hp).elim (a8 p) (hb p)) (r := []) (by simp) (tk_nil _ _) (by rw [List.length_append]; omega)
 rwa [List.append_nil] at this
theorem lp_inv {σ A : Type} {body : σ → Option (σ ⊕ A)} (P : σ → Prop) (Q : A → Prop) (μ : σ → Nat)
  (h : ∀ s, P s → (∃ a, body s = some (.inr a) ∧ Q a) ∨ ∃ s', body s = some (.inl s') ∧ P s' ∧ μ s' < μ s) : ∀ s, P s → ∃ a, lp s body = some a ∧ Q a := by
 have main : ∀ (n : Nat) (s : σ), μ s ≤ n → P s → ∃ a, loop body s = some a ∧ Q a := by
  intro n
  induction n with
  | zero =>
   intro s hn hs
   rcases h s hs with ⟨a, h1, h2⟩ | ⟨s', h1, h2, h3⟩
   ·exact ⟨a, loop_done h1, h2⟩
   ·omega
  | succ n ih =>
   intro s hn hs
   rcases h s hs with ⟨a, h1, h2⟩ | ⟨s', h1, h2, h3⟩
   ·exact ⟨a, loop_done h1, h2⟩
   ·rw [loop_cont h1]; exact ih s' (by omega) h2
 exact fun s hs => main (μ s) s (Nat.le_refl _) hs
abbrev Opn := Int × Int × List (List Int) × List Int
def wb (ps : List (List Int)) : Nat := (ps.map fun p => p.length + 1).sum
theorem wb_cons (p : List Int) (r : List (List Int)) : wb (p :: r) = p.length + 1 + wb r := by simp [wb]
theorem wb_append (p r : List (List Int)) : wb (p ++ r) = wb p + wb r := by simp [wb]
theorem wb_take (ps : List (List Int)) (j : Nat) (h : j < ps.length) : wb (ps.take (j + 1)) = wb (ps.take j) + ((ps.getD j []).length + 1) := by
 rw [List.take_succ_eq_append_getElem h, wb_append, getDR h]; simp [wb]
theorem wb_take_le (ps : List (List Int)) (j : Nat) : wb (ps.take j) ≤ wb ps := by
 have : wb (ps.take j ++ ps.drop j) = wb (ps.take j) + wb (ps.drop j) := wb_append _ _
 rw [List.take_append_drop] at this; omega
theorem wt_wb (ps : List (List Int)) : wt ps ≤ 14 * wb ps := by
 induction ps with
 | nil => simp [wt, wb]
 | cons p r ih => rw [wt_cons, wb_cons]; omega
theorem wb_len (ps : List (List Int)) : ps.length ≤ wb ps := by
 induction ps with
 | nil => simp
 | cons p r ih => rw [wb_cons, List.length_cons]; omega
theorem wb_mem {ps : List (List Int)} {p : List Int} (h : p ∈ ps) : p.length < wb ps := by
 induction ps with
 | nil => cases h
 | cons q r ih =>
  rw [wb_cons]
  rcases List.mem_cons.1 h with rfl | h
  ·omega
  ·have := ih h; omega
def gr (sc : List Opn) : Nat := (sc.map fun o => wb o.2.2.1 + o.2.2.2.length).sum
theorem gr_take (sc : List Opn) (j : Nat) (h : j < sc.length) (d : Opn) : gr (sc.take (j + 1)) = gr (sc.take j) + (wb (sc.getD j d).2.2.1 + (sc.getD j d).2.2.2.length) := by
 have hg : sc.getD j d = sc[j] := by simp [List.getD, h]
 rw [List.take_succ_eq_append_getElem h, hg]; unfold gr; rw [List.map_append, List.sum_append]; simp
theorem gr_take_le (sc : List Opn) (j : Nat) : gr (sc.take j) ≤ gr sc := by
 have : gr (sc.take j ++ sc.drop j) = gr (sc.take j) + gr (sc.drop j) := by unfold gr; rw [List.map_append, List.sum_append]
 rw [List.take_append_drop] at this; omega
theorem great_eq (sc : List Opn) (hl : sc.length ≤ 2 ^ 48) (hb : ∀ o ∈ sc, o.2.2.1.length ≤ 2 ^ 48 ∧ (∀ p ∈ o.2.2.1, p.length ≤ 2 ^ 48) ∧ o.2.2.2.length ≤ 2 ^ 48) : s_11 (sc, ()) = some (decide (3000 < gr sc), ()) := by
 unfold s_11
 try simp only [nl]
 simp only [bd_s]
 have inner : ∀ (o : Opn), o ∈ sc → ∀ (n i : Int) (hi : 0 ≤ i) (hi2 : i.toNat < sc.length) (he : sc.getD i.toNat ((0 : Int), (0 : Int), [], []) = o), 0 ≤ n → n ≤ 100000 →
   ∃ a : Int × Int × Unit, (lp (n, (0 : Int), ()) fun s_1 : Int × Int × Unit => gg (0 ≤ i ∧ Int.toNat i < List.length sc) (if decide (s_1.2.1 < (↑(List.length (List.getD sc (Int.toNat i) ((0 : Int), (0 : Int), [], [])).2.2.1) : Int)) = true then if decide (s_1.1 ≤ 100000) = true then bd (gg (0 ≤ i ∧ Int.toNat i < List.length sc) (gg (0 ≤ s_1.2.1 ∧ Int.toNat s_1.2.1 < List.length (List.getD sc (Int.toNat i) ((0 : Int), (0 : Int), [], [])).2.2.1) (some (IntKind.i64.wrap (s_1.1 + IntKind.i64.wrap ((1 : Int) + (↑(List.length (List.getD (List.getD sc (Int.toNat i) ((0 : Int), (0 : Int), [], [])).2.2.1 (Int.toNat s_1.2.1) [])) : Int))), s_1.2.1, ())))) fun j => some (Sum.inl (j.1, IntKind.i64.wrap (j.2.1 + 1), ())) else mr (some (s_1.1, i, ())) else mr (some (s_1.1, i, ())))) = some a ∧ a.2.1 = i ∧ 0 ≤ a.1 ∧ a.1 ≤ 2 ^ 49 ∧ ((a.1 = n + wb o.2.2.1) ∨ (100000 < a.1 ∧ a.1 ≤ n + wb o.2.2.1)) := by
  intro o ho n i hi hi2 he hn0 hn1
  obtain ⟨b1, b2, b3⟩ := hb o ho
  refine lp_inv (fun s => ∃ k : Nat, k ≤ o.2.2.1.length ∧ s = (n + wb (o.2.2.1.take k), (k : Int), ()) ∧ n + wb (o.2.2.1.take k) ≤ 2 ^ 49) _ (fun s => o.2.2.1.length - s.2.1.toNat) ?_ _ ⟨0, by omega, by simp [wb], by simp [wb]; omega⟩
  rintro s ⟨k, hk, rfl, hm⟩
  rw [he]
  dsimp only
  rw [gg_t ⟨hi, hi2⟩]
  by_cases h1 : k < o.2.2.1.length
  ·have hd : decide ((k : Int) < (o.2.2.1.length : Int)) = true := decide_eq_true (by omega)
   by_cases h2 : n + wb (o.2.2.1.take k) ≤ 100000
   ·refine .inr ⟨(n + wb (o.2.2.1.take (k + 1)), ((k + 1 : Nat) : Int), ()), ?_, ⟨k + 1, by omega, rfl, ?_⟩, ?_⟩
    ·have hp := b2 _ (mem_getD [] h1)
     have e1 : IntKind.i64.wrap (1 + ((o.2.2.1.getD k []).length : Int)) = 1 + ((o.2.2.1.getD k []).length : Int) := wneg (by omega) (by omega)
     have e2 : IntKind.i64.wrap (n + (wb (o.2.2.1.take k) : Int) + (1 + ((o.2.2.1.getD k []).length : Int))) = n + (wb (o.2.2.1.take (k + 1)) : Int) := by
      rw [wb_take _ _ h1, wneg (by omega) (by omega)]; omega
     rw [if_pos hd, if_pos (decide_eq_true h2), Int.toNat_natCast, gg_t ⟨hi, hi2⟩, gg_t (by omega), bd_s, e1, e2, w64 (n := (k : Int) + 1) (m := k + 1) (by omega) (by omega)]
    ·have hp := b2 _ (mem_getD [] h1)
     rw [wb_take _ _ h1]; omega
    ·simp only [Int.toNat_natCast]; omega
   ·refine .inl ⟨(n + wb (o.2.2.1.take k), i, ()), ?_, rfl, by simp only; omega, hm, .inr ⟨by omega, ?_⟩⟩
    ·rw [if_pos hd, if_neg (by simpa using h2)]; rfl
    ·have := wb_take_le o.2.2.1 k; simp only; omega
  ·have hd : ¬ (decide ((k : Int) < (o.2.2.1.length : Int)) = true) := by simp; omega
   refine .inl ⟨(n + wb (o.2.2.1.take k), i, ()), ?_, rfl, by simp only; omega, hm, .inl ?_⟩
   ·rw [if_neg hd]; rfl
   ·rw [List.take_of_length_le (by omega)]
 have H : ∃ a : Int × Unit, lp ((0 : Int), (0 : Int), ()) (fun s => if decide (s.2.1 < (↑(List.length sc) : Int)) = true then if decide (s.1 ≤ 100000) = true then bd (bd (lp (s.1, (0 : Int), ()) fun s_1 => gg (0 ≤ s.2.1 ∧ Int.toNat s.2.1 < List.length sc) (if decide (s_1.2.1 < (↑(List.length (List.getD sc (Int.toNat s.2.1) ((0 : Int), (0 : Int), [], [])).2.2.1) : Int)) = true then if decide (s_1.1 ≤ 100000) = true then bd (gg (0 ≤ s.2.1 ∧ Int.toNat s.2.1 < List.length sc) (gg (0 ≤ s_1.2.1 ∧ Int.toNat s_1.2.1 < List.length (List.getD sc (Int.toNat s.2.1) ((0 : Int), (0 : Int), [], [])).2.2.1) (some (IntKind.i64.wrap (s_1.1 + IntKind.i64.wrap ((1 : Int) + (↑(List.length (List.getD (List.getD sc (Int.toNat s.2.1) ((0 : Int), (0 : Int), [], [])).2.2.1 (Int.toNat s_1.2.1) [])) : Int))), s_1.2.1, ())))) fun j => some (Sum.inl (j.1, IntKind.i64.wrap (j.2.1 + 1), ())) else mr (some (s_1.1, s.2.1, ())) else mr (some (s_1.1, s.2.1, ())))) fun j_1 => gg (0 ≤ j_1.2.1 ∧ Int.toNat j_1.2.1 < List.length sc) (some (IntKind.i64.wrap (j_1.1 + (↑(List.length (List.getD sc (Int.toNat j_1.2.1) ((0 : Int), (0 : Int), [], [])).2.2.2) : Int)), j_1.2.1, ()))) fun j => some (Sum.inl (j.1, IntKind.i64.wrap (j.2.1 + 1), ())) else mr (some (s.1, ())) else mr (some (s.1, ()))) = some a ∧ (a.1 = gr sc ∨ (100000 < a.1 ∧ a.1 ≤ gr sc)) := by
  refine lp_inv (fun s : Int × Int × Unit => ∃ k : Nat, k ≤ sc.length ∧ s.2.1 = (k : Int) ∧ 0 ≤ s.1 ∧ s.1 ≤ 2 ^ 50 ∧ (s.1 = gr (sc.take k) ∨ (100000 < s.1 ∧ s.1 ≤ gr (sc.take k)))) _ (fun s : Int × Int × Unit => sc.length - s.2.1.toNat) ?_ _ ⟨0, by omega, rfl, by simp, by simp, .inl (by simp [gr])⟩
  rintro ⟨n, i, u⟩ ⟨k, hk, hi, hn0, hn1, hn⟩
  simp only at hi hn0 hn1 hn
  subst hi
  dsimp only
  by_cases h1 : k < sc.length
  ·have hd : decide ((k : Int) < (sc.length : Int)) = true := decide_eq_true (by omega)
   by_cases h2 : n ≤ 100000
   ·have ho := mem_getD ((0 : Int), (0 : Int), ([] : List (List Int)), ([] : List Int)) h1
    obtain ⟨b1, b2, b3⟩ := hb _ ho
    obtain ⟨⟨a1, a2, a3⟩, e1, e2, e0, e4, e3⟩ := inner _ ho n k (by omega) (by omega) rfl hn0 h2
    simp only at e0 e2 e3 e4
    subst e2
    rw [if_pos hd, if_pos (decide_eq_true h2), e1, bd_s]
    have hgr := gr_take sc k h1 ((0 : Int), (0 : Int), ([] : List (List Int)), ([] : List Int))
    refine .inr ⟨(a1 + ((sc.getD k (0, 0, [], [])).2.2.2.length : Int), ((k + 1 : Nat) : Int), ()), ?_, ⟨k + 1, by omega, rfl, ?_, ?_, ?_⟩, ?_⟩
    ·dsimp only
     rw [Int.toNat_natCast, gg_t (by omega), bd_s, wneg (by omega) (by omega), w64 (n := (k : Int) + 1) (m := k + 1) (by omega) (by omega)]
    ·simp only; omega
    ·simp only; omega
    ·simp only; omega
    ·simp only [Int.toNat_natCast]; omega
   ·refine .inl ⟨(n, ()), ?_, ?_⟩
    ·rw [if_pos hd, if_neg (by simpa using h2)]; rfl
    ·have := gr_take_le sc k
     simp only; omega
  ·have hd : ¬ (decide ((k : Int) < (sc.length : Int)) = true) := by simp; omega
   refine .inl ⟨(n, ()), ?_, ?_⟩
   ·rw [if_neg hd]; rfl
   ·rw [List.take_of_length_le (by omega)] at hn
    exact hn
 obtain ⟨a, h1, h2⟩ := H
 rw [h1, bd_s]
 congr 2
 rcases h2 with h2 | ⟨h2, h3⟩
 ·rw [h2]; exact decide_eq_decide.2 (by omega)
 ·rw [decide_eq_true (show 3000 < a.1 by omega), decide_eq_true (show 3000 < gr sc by omega)]
theorem lay_neg' {l : Lg} (hp : l.D.p < 0) {L : Nat} (h : l.D.Ok L) {ps : List (List Int)} (hl : ∀ p ∈ ps, p.length ≤ 65536) : l.lay ps = (0, ⟨l.D.set (1 - l.i) (whole (l.g + 1) ps.length ps) (whole (l.g + 1) ps.length ps).length, 1 - l.i, l.g + 1, ps.length, ps⟩) := by
 unfold Lg.lay
 rw [lng_false.2 hl, if_neg (by decide), Dk.lay_neg hp h]
 exact if_pos rfl
theorem ar_sub {i : Int} (h : Ar i) : Ar (1 - i) := by rcases h with rfl | rfl <;> unfold Ar <;> omega
theorem Ok.lay {l : Lg} {L : Nat} (h : l.Ok L) (hp : l.D.p < 0) {ps : List (List Int)} (hl : ∀ p ∈ ps, p.length ≤ 65536) (hb : ∀ p ∈ ps, ∀ c ∈ p, Byt c) : (l.lay ps).2.Ok (L + wt ps + 31) := by
 have h1 := len_whole (l.g + 1) ps.length ps (l64 hl)
 have h2 := byt_whole (l.g + 1) ps.length ps (l64 hl) hb
 have h6 := h.g0
 have h7 := h.g1
 rw [lay_neg' hp h.D hl]
 refine ⟨Dk.Ok.set (h.D.mono (by omega)) h2 (by omega) (by omega) (by omega), ar_sub h.i, by simp only; omega, by simp only; omega, by simp only; omega, hl, hb⟩
theorem good_lay {l : Lg} {L : Nat} (h : l.Ok L) (hp : l.D.p < 0) (hg : Good l) {ps : List (List Int)} (hl : ∀ p ∈ ps, p.length ≤ 65536) (hb : ∀ p ∈ ps, ∀ c ∈ p, Byt c) (hgen : okN (l.g + 1)) (hn : okN ps.length) :
  (l.lay ps).1 = 0 ∧ Good (l.lay ps).2 ∧ (l.lay ps).2.D.p = l.D.p := by
 rw [lay_neg' hp h.D hl]
 have hg0 := h.g0
 refine ⟨rfl, ⟨ar_sub h.i, (best_iff (ar_sub h.i)).2 ⟨?_, ?_⟩⟩, Dk.set_p⟩
 ·rw [Dk.set_get]
  have := cst_whole hgen (by omega) hn hl hb (r := []) (by simp) (tk_nil _ _) (Int.le_refl _)
  rwa [List.append_nil] at this
 ·intro v hv
  rw [(Dk.set_other (ar_sub h.i)).1] at hv
  have e : 1 - (1 - l.i) = l.i := by omega
  rw [e] at hv
  have := ((best_iff h.i).1 hg.2).1
  rw [this] at hv
  cases hv
  dsimp only
  split <;> omega
theorem newOk (p : Int) : (Dk.new p).Ok 0 := ⟨by simp [Dk.new], by simp [Dk.new], by simp [Dk.new], by simp [Dk.new], by simp [Dk.new], by simp [Dk.new], by simp [Dk.new], by simp [Dk.new]⟩
theorem Open_ok (D : Dk) {L : Nat} (hD : D.Ok L) (hL : L ≤ 2 ^ 38) (h : D.opn.1 = 0) :
  s_13 (D.p, D.a, D.sa, D.b, D.sb, ()) = some (true, 0, D.opn.2.D.p, D.opn.2.D.a, D.opn.2.D.sa, D.opn.2.D.b, D.opn.2.D.sb, true, D.opn.2.i, D.opn.2.g, D.opn.2.n, D.opn.2.ps, ()) := by
 rw [Open_eq D hD hL, if_neg (by simpa using h)]
theorem Open_new : s_13 ((-1 : Int), [], (0 : Int), [], (0 : Int), ()) = some (true, 0, (Dk.new (-1)).opn.2.D.p, (Dk.new (-1)).opn.2.D.a, (Dk.new (-1)).opn.2.D.sa, (Dk.new (-1)).opn.2.D.b, (Dk.new (-1)).opn.2.D.sb, true, (Dk.new (-1)).opn.2.i, (Dk.new (-1)).opn.2.g, (Dk.new (-1)).opn.2.n, (Dk.new (-1)).opn.2.ps, ()) :=
 Open_ok (Dk.new (-1)) (newOk _) (by omega) (good_opn (by decide) (newOk _)).1
theorem new_ps : (Dk.new (-1)).opn.2.ps = [] ∧ (Dk.new (-1)).opn.2.g = 1 ∧ (Dk.new (-1)).opn.2.n = 0 ∧ (Dk.new (-1)).opn.2.i = 0 := by
 have : (Dk.new (-1)).best = none := by
  unfold Dk.best Dk.new
  simp only [cst_nil, pick]
 unfold Dk.opn
 rw [this]
 exact ⟨rfl, rfl, rfl, rfl⟩
theorem alive_eq : s_10 () = some (true, ()) := by
 unfold s_10
 rw [New_eq, bd_s]
 dsimp only
 rw [Open_new, bd_s]
 dsimp only
 obtain ⟨g1, g2, g3, g4⟩ := good_opn (D := Dk.new (-1)) (by decide) (newOk _)
 obtain ⟨n1, n2, n3, n4⟩ := new_ps
 generalize (Dk.new (-1)).opn.2 = l at g2 g3 g4 n1 n2 n3 n4
 have hp : l.D.p < 0 := by rw [g3]; decide
 have b1 : ∀ p ∈ [[(120 : Int)]], p.length ≤ 65536 := by simp
 have b2 : ∀ p ∈ [[(120 : Int)]], ∀ c ∈ p, Byt c := by simp [Byt]
 have b3 : ∀ p ∈ [[(121 : Int)], []], p.length ≤ 65536 := by simp
 have b4 : ∀ p ∈ [[(121 : Int)], []], ∀ c ∈ p, Byt c := by simp [Byt]
 have hk := Ok.lay g4 hp b1 b2
 have w1 : wt [[(120 : Int)]] = 15 := by simp [wt]
 have w2 : wt [[(121 : Int)], []] = 29 := by simp [wt]
 rw [if_pos (by decide), if_pos (by decide), gg_t (by decide), Lay_eq l g4 (by omega) _ (by omega), bd_s]
 dsimp only
 obtain ⟨e1, e2, e3⟩ := good_lay g4 hp g2 b1 b2 (by rw [n2]; unfold okN; omega) (by unfold okN; simp)
 have e4 : (l.lay [[120]]).2.ps = [[120]] ∧ (l.lay [[120]]).2.n = 1 := by rw [lay_neg' hp g4.D b1]; exact ⟨rfl, rfl⟩
 rw [e1, if_pos (by decide), gg_t rfl]
 generalize (l.lay [[120]]).2 = k at e2 e3 e4 hk
 have hpk : k.D.p < 0 := by rw [e3]; exact hp
 rw [Add_eq k hk (by omega) _ (by omega), bd_s]
 dsimp only
 obtain ⟨f1, f2, f3⟩ := good_add hk hpk e2 b3 b4
 have hkk := Ok.add hk hpk b3 b4
 have f4 : (k.add [[121], []]).2.ps = [[120], [121], []] ∧ (k.add [[121], []]).2.n = 1 := by rw [add_neg hpk hk.i b3]; rw [e4.1, e4.2]; exact ⟨rfl, rfl⟩
 rw [f1, if_pos (by decide), gg_t rfl]
 generalize (k.add [[121], []]).2 = m at f2 f3 f4 hkk
 have hps := hkk.ps
 rw [Records_eq m (by omega), bd_s]
 dsimp only
 rw [f4.1, sameR_eq _ _ (by simp) (by simp), bd_s]
 dsimp only
 rw [if_pos (by simp), gg_t rfl, ← f4.1, Laid_eq m, bd_s, f4.2]
 rfl
theorem rows_byt {a : List (List Int)} (h : ok22 a) : ∀ p ∈ a, ∀ c ∈ p, Byt c := fun p hp c hc => byt_wf ((h.1 p hp).1 c hc)
theorem great_bounds {o : Opn} (h : ok22 o.2.2.1) (h' : ok25 o.2.2.2) : o.2.2.1.length ≤ 2 ^ 48 ∧ (∀ p ∈ o.2.2.1, p.length ≤ 2 ^ 48) ∧ o.2.2.2.length ≤ 2 ^ 48 := by
 have := rb
 refine ⟨by have := h.2; omega, fun p hp => by have := (h.1 p hp).2; omega, by have := h'.2; omega⟩
theorem small_len {a : List (List Int)} (h : wb a ≤ 3000) : (∀ p ∈ a, p.length ≤ 65536) ∧ a.length ≤ 3000 ∧ wt a ≤ 42000 ∧ ∀ p ∈ a, p.length ≤ 2 ^ 47 := by
 have h1 := wb_len a
 have h2 := wt_wb a
 exact ⟨fun p hp => by have := wb_mem hp; omega, by omega, by omega, fun p hp => by have := wb_mem hp; omega⟩

theorem jn_intro {J A ι : Type} {B : J → Option A} {U : (J → Option A) → Option A} {r : Option A} (P : ι → Prop) (tup : ι → J) (h1 : ∀ K : J → Option A, (∀ l, P l → K (tup l) = r) → U K = r) (h2 : ∀ l, P l → B (tup l) = r) : jn B U = r := h1 B h2
theorem copyInts_eq (x : List Int) (h : x.length ≤ 2 ^ 44) : s_33 (x, ()) = some (x, ()) := by
 unfold s_33
 dsimp only
 rw [gg_t (by omega)]
theorem copyR_g (p : List (List Int)) (h : p.length ≤ 2 ^ 40) (h' : ∀ x ∈ p, x.length ≤ 2 ^ 47) : s_14g (p, ()) = some (p, ()) := s9_eq p h h'
theorem lp_to {σ A : Type} {body : σ → Option (σ ⊕ A)} {a : A} (P : σ → Prop) (μ : σ → Nat) (h : ∀ s, P s → body s = some (.inr a) ∨ ∃ s', body s = some (.inl s') ∧ P s' ∧ μ s' < μ s) (s : σ) (hs : P s) : lp s body = some a :=
 lp_meas P μ (fun _ => a) (fun s hs => (h s hs).imp id fun ⟨s', h1, h2, h3⟩ => ⟨s', h1, h2, h3, rfl⟩) s hs
def v2 {α : Type} (a b : α) : Vector α 2 := #v[a, b]
theorem v2_toList {α : Type} (a b : α) : (v2 a b).toList = [a, b] := rfl
theorem vofl_v2 {α : Type} (d a b : α) : vofl (nat_lit 1) d [a, b] = v2 a b := by
 refine Vector.toList_inj.1 ?_
 rw [Go.Al.vofl_toList rfl]; rfl
abbrev RD (D : Dk) : Int × Vector (List Int) 2 × Vector Int 2 := (D.p, v2 D.a D.b, v2 D.sa D.sb)
theorem rArea_eq {i : Int} (h : Ar i) : s_68 (i, ()) = some (true, ()) := by
 unfold s_68
 rcases h with rfl | rfl <;> rfl
theorem rDraw_eq (D : Dk) : s_69 (RD D, ()) = some (D.dr.1, RD D.dr.2, ()) := by
 unfold s_69 Dk.dr
 dsimp only
 rw [bd_s]
 dsimp only
 by_cases h : D.p = 0
 ·rw [if_pos (by simpa using h), if_pos h]
 ·rw [if_neg (show ¬ ((D.p == 0) = true) by simpa using h), if_neg h]
  by_cases h2 : 0 < D.p
  ·rw [if_pos (decide_eq_true h2), if_pos h2, bd_s]
  ·rw [if_neg (show ¬ (decide (0 < D.p) = true) by simpa using h2), if_neg h2, bd_s]
theorem get_v2 (D : Dk) {i : Int} (h : Ar i) : (v2 D.a D.b).toList.getD i.toNat [] = D.get i := by rcases h with rfl | rfl <;> rfl
theorem safe_v2 (D : Dk) {i : Int} (h : Ar i) : (v2 D.sa D.sb).toList.getD i.toNat 0 = D.safe i := by rcases h with rfl | rfl <;> rfl
theorem RD_set (D : Dk) {i : Int} (h : Ar i) (x : List Int) (s : Int) : RD (D.set i x s) = (D.p, vset (v2 D.a D.b) i.toNat x, vset (v2 D.sa D.sb) i.toNat s) := by rcases h with rfl | rfl <;> rfl
theorem RD_seta (D : Dk) {i : Int} (h : Ar i) (x : List Int) : RD (D.set i x (D.safe i)) = (D.p, vset (v2 D.a D.b) i.toNat x, v2 D.sa D.sb) := by rcases h with rfl | rfl <;> rfl
theorem RD_sets (D : Dk) {i : Int} (h : Ar i) (s : Int) : RD (D.set i (D.get i) s) = (D.p, v2 D.a D.b, vset (v2 D.sa D.sb) i.toNat s) := by rcases h with rfl | rfl <;> rfl
theorem ar_rng {i : Int} (h : Ar i) : 0 ≤ i ∧ i.toNat < 2 := by rcases h with rfl | rfl <;> decide
theorem rTrim_eq (D : Dk) {i : Int} (hi : Ar i) (n : Int) {L : Nat} (hD : D.Ok L) (hL : L ≤ 2 ^ 40) : s_48 (RD D, i, n, ()) = some ((D.trm i n).1, RD (D.trm i n).2, ()) := by
 unfold s_48
 try simp only [nl]
 try dsimp only
 rw [bd_s]
 dsimp only
 rw [rArea_eq hi, bd_s]
 dsimp only
 have hr := ar_rng hi
 have hl := hD.len (i := i)
 rw [if_pos (show (!true) = false from rfl)]
 unfold Dk.trm
 by_cases h0 : n < 0
 ·rw [if_neg (show ¬ (decide (n < 0) = false) by simpa using h0), if_pos (.inl h0), bd_s]
  rfl
 ·rw [if_pos (show decide (n < 0) = false by simpa using h0), gg_t hr, gg_t (by rw [v2_toList]; exact hr.2), bd_s, get_v2 D hi]
  dsimp only
  by_cases hlt : ((D.get i).length : Int) < n
  ·rw [if_pos (decide_eq_true hlt), if_pos (.inr hlt)]
  ·rw [if_neg (show ¬ (decide (((D.get i).length : Int) < n) = true) by simpa using hlt), if_neg (show ¬ (n < 0 ∨ ((D.get i).length : Int) < n) by omega)]
   rw [rDraw_eq, bd_s]
   dsimp only
   by_cases h : D.dr.1 = 0
   ·rw [if_neg (show ¬ ((D.dr.1 != 0) = true) by simpa using h), if_pos h, gg_t hr, gg_t (by rw [v2_toList]; exact hr.2), get_v2 _ hi, Dk.dr_get, gg_t (by omega), s15_eq _ (by rw [List.length_take]; omega), bd_s, gg_t hr, gg_t hr.2, gg_t hr, gg_t (by rw [v2_toList]; exact hr.2), safe_v2 _ hi, Dk.dr_safe, bd_s]
    dsimp only
    by_cases hs : n < D.safe i
    ·rw [if_pos (decide_eq_true hs), if_pos hs, gg_t hr, gg_t hr.2, bd_s, RD_set _ hi]
    ·rw [if_neg (show ¬ (decide (n < D.safe i) = true) by simpa using hs), if_neg hs, bd_s]
     have := RD_seta D.dr.2 hi ((D.get i).take n.toNat)
     rw [Dk.dr_safe] at this
     rw [this]
   ·rw [if_pos (show ((D.dr.1 != 0) = true) by simpa using h), if_neg h]
theorem rApp_eq (D : Dk) {i : Int} (hi : Ar i) (x : List Int) (hx : x.length ≤ 2 ^ 40) {L : Nat} (hD : D.Ok L) (hL : L ≤ 2 ^ 40) : s_52 (RD D, i, [x], ()) = some ((D.app i x).1, RD (D.app i x).2, ()) := by
 unfold s_52
 try simp only [nl]
 try dsimp only
 rw [bd_s]
 dsimp only
 rw [rArea_eq hi, bd_s]
 dsimp only
 have hr := ar_rng hi
 have hl := hD.len (i := i)
 rw [if_neg (show ¬ ((!true) = true) by decide), rDraw_eq, bd_s]
 dsimp only
 unfold Dk.app
 by_cases h : D.dr.1 = 0
 ·rw [if_neg (show ¬ ((D.dr.1 != 0) = true) by simpa using h), if_pos h, gg_t hr, gg_t (by rw [v2_toList]; exact hr.2), get_v2 _ hi, Dk.dr_get, s15g_eq _ (by omega), bd_s]
  have e := RD_seta D.dr.2 hi (D.get i ++ x)
  rw [Dk.dr_safe] at e
  refine lp_upto (fun j => ((j : Int), if j = 0 then D.get i else D.get i ++ x, ())) 1 rfl (fun j hj => ?_) ?_
  ·have : j = 0 := by omega
   subst this
   have hlt : decide (((0 : Nat) : Int) < (([x] : List (List Int)).length : Int)) = true := rfl
   dsimp only
   rw [if_pos hlt, gg_t (by simp), if_pos rfl, if_neg (by decide), show ([x] : List (List Int)).getD (Int.toNat ((0 : Nat) : Int)) [] = x from rfl, gg_t (by omega)]
   rfl
  ·have hlt : ¬ (decide (((1 : Nat) : Int) < (([x] : List (List Int)).length : Int)) = true) := by simp
   dsimp only
   rw [if_neg hlt, if_neg (by decide), gg_t hr, gg_t hr.2, e]
   rfl
 ·rw [if_pos (show ((D.dr.1 != 0) = true) by simpa using h), if_neg h]
theorem rSync_eq (D : Dk) {i : Int} (hi : Ar i) : s_53 (RD D, [i], ()) = some ((D.syn i).1, RD (D.syn i).2, ()) := by
 unfold s_53
 try simp only [nl]
 try dsimp only
 rw [bd_s]
 dsimp only
 have hr := ar_rng hi
 have hl : ∀ {j : Nat}, j = 0 → ([i] : List Int).getD (Int.toNat (j : Int)) 0 = i := by rintro j rfl; rfl
 refine lp_upto (fun j => ((j : Int), (0 : Int), vofl (nat_lit 1) 0 [0, (0 : Int)], ([] : List Int), ([] : List Int), ())) 1 rfl (fun j hj => ?_) ?_
 ·have : j = 0 := by omega
  subst this
  have hlt : decide (((0 : Nat) : Int) < (([i] : List Int).length : Int)) = true := rfl
  dsimp only
  rw [if_pos hlt, gg_t (by simp), hl rfl, rArea_eq hi, bd_s]
  rfl
 ·have hlt : ¬ (decide (((1 : Nat) : Int) < (([i] : List Int).length : Int)) = true) := by simp
  dsimp only
  rw [if_neg hlt, rDraw_eq, bd_s]
  dsimp only
  unfold Dk.syn
  by_cases h : D.dr.1 = 0
  ·have hz : ¬ ((((([i] : List Int).length : Nat) : Int) == 0) = true) := by simp
   rw [if_neg (show ¬ ((D.dr.1 != 0) = true) by simpa using h), if_pos h, if_neg hz, bd_s]
   dsimp only
   have e := RD_sets D.dr.2 hi ((D.get i).length : Int)
   rw [Dk.dr_get] at e
   have key : (lp ((0 : Int), (D.dr.2.p, v2 D.dr.2.a D.dr.2.b, v2 D.dr.2.sa D.dr.2.sb), ()) fun s => if decide (s.1 < (↑(List.length [i]) : Int)) = true then gg (0 ≤ s.1 ∧ Int.toNat s.1 < List.length [i]) (gg (0 ≤ s.1 ∧ Int.toNat s.1 < List.length [i]) (gg (0 ≤ List.getD [i] (Int.toNat s.1) 0 ∧ Int.toNat (List.getD [i] (Int.toNat s.1) 0) < 2) (gg (Int.toNat (List.getD [i] (Int.toNat s.1) 0) < (Vector.toList s.2.1.2.1).length) (gg (0 ≤ List.getD [i] (Int.toNat s.1) 0 ∧ Int.toNat (List.getD [i] (Int.toNat s.1) 0) < 2) (gg (Int.toNat (List.getD [i] (Int.toNat s.1) 0) < 2) (some (Sum.inl (IntKind.i64.wrap (s.1 + 1), (s.2.1.1, s.2.1.2.1, vset s.2.1.2.2 (Int.toNat (List.getD [i] (Int.toNat s.1) 0)) (↑(List.length ((Vector.toList s.2.1.2.1).getD (Int.toNat (List.getD [i] (Int.toNat s.1) 0)) [])) : Int)), ())))))))) else mr (some ((0 : Int), (s.2.1.1, s.2.1.2.1, s.2.1.2.2), ()))) = some (0, RD (D.dr.2.set i (D.get i) ((D.get i).length : Int)), ()) := by
    refine lp_upto (fun j => ((j : Int), if j = 0 then RD D.dr.2 else RD (D.dr.2.set i (D.get i) ((D.get i).length : Int)), ())) 1 rfl (fun j hj => ?_) ?_
    ·have : j = 0 := by omega
     subst this
     have hlt : decide (((0 : Nat) : Int) < (([i] : List Int).length : Int)) = true := rfl
     dsimp only
     rw [if_pos hlt, if_pos rfl, if_neg (by decide), gg_t (by simp), gg_t (by simp), hl rfl, gg_t hr, gg_t (by rw [v2_toList]; exact hr.2), gg_t hr, gg_t hr.2, get_v2 _ hi, Dk.dr_get, e]
     rfl
    ·have hlt : ¬ (decide (((1 : Nat) : Int) < (([i] : List Int).length : Int)) = true) := by simp
     dsimp only
     rw [if_neg hlt, if_neg (by decide)]
     rfl
   rw [key]
   rfl
  ·rw [if_pos (show ((D.dr.1 != 0) = true) by simpa using h), if_neg h]
   rfl
theorem rRead_eq (D : Dk) {i : Int} (hi : Ar i) {L : Nat} (hD : D.Ok L) (hL : L ≤ 2 ^ 40) : s_49 (RD D, i, ()) = some (D.get i, 0, ()) := by
 unfold s_49
 try simp only [nl]
 try dsimp only
 have hr := ar_rng hi
 have hl := hD.len (i := i)
 rw [rArea_eq hi, bd_s]
 dsimp only
 rw [if_neg (show ¬ ((!true) = true) by decide), gg_t hr, gg_t (by rw [v2_toList]; exact hr.2), get_v2 D hi, s15_eq _ (by omega), bd_s]
theorem lft_eq (x : List Int) (s k : Int) (h0 : 0 ≤ s) (h1 : s ≤ x.length) : (Dk.lft x s k : Int) = s + (if (x.length : Int) - s < (if 0 < k then k else 0) then (x.length : Int) - s else (if 0 < k then k else 0)) := by
 unfold Dk.lft
 repeat' split
 all_goals omega
def crsE (D : Dk) (ks : List Int) (pw : Int) : Nat → Dk
 | 0 => Dk.new pw
 | j + 1 => (crsE D ks pw j).set (j : Int) ((D.get (j : Int)).take (Dk.lft (D.get (j : Int)) (D.safe (j : Int)) (ks.getD j 0))) (Dk.lft (D.get (j : Int)) (D.safe (j : Int)) (ks.getD j 0))
theorem rCrash_eq (D : Dk) (ks : List Int) (pw : Int) {L : Nat} (hD : D.Ok L) (hL : L ≤ 2 ^ 40) : s_34 (RD D, ks, pw, ()) = some (RD (D.crs ks pw), ()) := by
 unfold s_34
 try simp only [nl]
 try dsimp only
 rw [bd_s]
 dsimp only
 refine lp_upto (fun j => ((j : Int), RD (crsE D ks pw j), ())) 2 (by rw [vofl_v2, vofl_v2]; rfl) (fun j hj => ?_) ?_
 ·have hi : Ar (j : Int) := by unfold Ar; omega
  have hr := ar_rng hi
  have h0 := hD.s0 (i := (j : Int))
  have h1 := hD.s1 (i := (j : Int))
  have hl := hD.len (i := (j : Int))
  have hlf := lft_eq (D.get (j : Int)) (D.safe (j : Int)) (ks.getD j 0) h0 h1
  have hle := Dk.lft_le (k := ks.getD j 0) h0 h1
  have hv := hr.2
  have hgv := get_v2 D hi
  have hsv := safe_v2 D hi
  have hlt : decide ((j : Int) < 2) = true := decide_eq_true (by omega)
  have hvs : (vset (v2 (crsE D ks pw j).a (crsE D ks pw j).b) j ((D.get (j : Int)).take (Dk.lft (D.get (j : Int)) (D.safe (j : Int)) (ks.getD j 0)))).toList.getD j [] = (D.get (j : Int)).take (Dk.lft (D.get (j : Int)) (D.safe (j : Int)) (ks.getD j 0)) := by
   match j, hj with
   | 0, _ => rfl
   | 1, _ => rfl
  have hstep : RD (crsE D ks pw (j + 1)) = ((crsE D ks pw j).p, vset (v2 (crsE D ks pw j).a (crsE D ks pw j).b) j ((D.get (j : Int)).take (Dk.lft (D.get (j : Int)) (D.safe (j : Int)) (ks.getD j 0))), vset (v2 (crsE D ks pw j).sa (crsE D ks pw j).sb) j (Dk.lft (D.get (j : Int)) (D.safe (j : Int)) (ks.getD j 0))) := RD_set _ hi _ _
  have hw1 : IntKind.i64.wrap ((j : Int) + 1) = ((j + 1 : Nat) : Int) := w64 (by omega) (by omega)
  rw [Int.toNat_natCast] at hr hv hgv hsv
  generalize crsE D ks pw j = E at hvs hstep
  dsimp only
  rw [if_pos hlt]
  simp only [Int.toNat_natCast]
  have g2 : ∀ {α : Type} {m : Option α}, gg (0 ≤ (j : Int) ∧ j < 2) m = m := gg_t hr
  have g3 : ∀ {α : Type} {m : Option α}, gg (j < 2) m = m := gg_t hv
  have g4 : ∀ {α : Type} {m : Option α}, gg (j < (v2 D.a D.b).toList.length) m = m := gg_t (by rw [v2_toList]; exact hv)
  have g5 : ∀ {α : Type} {m : Option α}, gg (j < (v2 D.sa D.sb).toList.length) m = m := gg_t (by rw [v2_toList]; exact hv)
  have g6 : ∀ {α : Type} {m : Option α} {x : List Int}, gg (j < (vset (v2 E.a E.b) j x).toList.length) m = m := gg_t (by rw [vset_toList, List.length_set, v2_toList]; exact hv)
  have hwl : IntKind.i64.wrap (((D.get (j : Int)).length : Int) - D.safe (j : Int)) = ((D.get (j : Int)).length : Int) - D.safe (j : Int) := wneg (by omega) (by omega)
  have hcp : s_19 ((D.get (j : Int)).take (Dk.lft (D.get (j : Int)) (D.safe (j : Int)) (ks.getD j 0)), ()) = some ((D.get (j : Int)).take (Dk.lft (D.get (j : Int)) (D.safe (j : Int)) (ks.getD j 0)), ()) := s15_eq _ (by rw [List.length_take]; omega)
  have g7 : ∀ {α : Type} {m : Option α}, gg (0 ≤ (Dk.lft (D.get (j : Int)) (D.safe (j : Int)) (ks.getD j 0) : Int) ∧ Dk.lft (D.get (j : Int)) (D.safe (j : Int)) (ks.getD j 0) ≤ (D.get (j : Int)).length) m = m := gg_t (by omega)
  have hml : min (Dk.lft (D.get (j : Int)) (D.safe (j : Int)) (ks.getD j 0)) (D.get (j : Int)).length = Dk.lft (D.get (j : Int)) (D.safe (j : Int)) (ks.getD j 0) := Nat.min_eq_left hle.1
  have hfin : ∀ k : Int, (Dk.lft (D.get (j : Int)) (D.safe (j : Int)) (ks.getD j 0) : Int) = D.safe (j : Int) + k → IntKind.i64.wrap (D.safe (j : Int) + k) = (Dk.lft (D.get (j : Int)) (D.safe (j : Int)) (ks.getD j 0) : Int) := by
   intro k hk
   rw [← hk]; exact wneg (by omega) (by omega)
  by_cases hk : j < ks.length
  ·have hd : decide ((j : Int) < (ks.length : Int)) = true := decide_eq_true (by omega)
   have g1 : ∀ {α : Type} {m : Option α}, gg (0 ≤ (j : Int) ∧ j < ks.length) m = m := gg_t (by omega)
   by_cases hp : 0 < ks.getD j 0
   ·rw [if_pos hp] at hlf
    by_cases hc : ((D.get (j : Int)).length : Int) - D.safe (j : Int) < ks.getD j 0
    ·rw [if_pos hc] at hlf
     have hw := hfin _ hlf
     simp only [hd, if_true, g1, bd_s, decide_eq_true hp, Int.toNat_natCast, g2, g3, g4, g5, hgv, hsv, hwl, decide_eq_true hc, hw, g7, hcp, g6, hvs, hstep, hw1, List.length_take, hml]
    ·rw [if_neg hc] at hlf
     have hw := hfin _ hlf
     simp only [hd, if_true, g1, bd_s, decide_eq_true hp, Int.toNat_natCast, g2, g3, g4, g5, hgv, hsv, hwl, decide_eq_false hc, Bool.false_eq_true, if_false, hw, g7, hcp, g6, hvs, hstep, hw1, List.length_take, hml]
   ·rw [if_neg hp] at hlf
    rw [if_neg (show ¬ (((D.get (j : Int)).length : Int) - D.safe (j : Int) < 0) by omega)] at hlf
    have hw := hfin _ hlf
    have hc : ¬ (((D.get (j : Int)).length : Int) - D.safe (j : Int) < 0) := by omega
    simp only [hd, if_true, g1, bd_s, decide_eq_false hp, Bool.false_eq_true, if_false, Int.toNat_natCast, g2, g3, g4, g5, hgv, hsv, hwl, decide_eq_false hc, hw, g7, hcp, g6, hvs, hstep, hw1, List.length_take, hml]
  ·have hd : decide ((j : Int) < (ks.length : Int)) = false := decide_eq_false (by omega)
   have hz : ks.getD j 0 = 0 := getD_ge hk
   have hc : ¬ (((D.get (j : Int)).length : Int) - D.safe (j : Int) < 0) := by omega
   rw [hz, if_neg (show ¬ ((0 : Int) < 0) by decide), if_neg hc] at hlf
   rw [hz] at hfin g7 hcp hvs hstep hml
   have hw := hfin _ hlf
   simp only [hd, if_true, bd_s, Bool.false_eq_true, if_false, Int.toNat_natCast, g2, g3, g4, g5, hgv, hsv, hwl, decide_eq_false hc, hw, g7, hcp, g6, hvs, hstep, hw1, List.length_take, hml]
 ·dsimp only
  rw [if_neg (show ¬ (decide (((2 : Nat) : Int) < 2) = true) by decide)]
  rfl
theorem rnext_eq (x : List Int) (hb : ∀ c ∈ x, Byt c) (hl : x.length ≤ 2 ^ 40) : s_65 (x, ()) = some (match nxt x with
  | none => ([], 0, false, ())
  | some (s, p, r) => (p, (x.length : Int) - r.length, true, ())) := by
 unfold s_65
 try simp only [nl]
 try dsimp only
 rw [refRead_eq x hb hl, bd_s]
 dsimp only
 have hlen := len_drop_rdn x
 cases hn : nxt x with
 | none =>
  unfold nxt at hn
  split at hn
  ·rename_i hc
   by_cases h0 : (rdn x).2.2 = 0
   ·have hne : ((rdn x).2.2 != 0) = false := by simpa using h0
    obtain ⟨m, m1, m2, m3⟩ := rdn_ok hb (v := (rdn x).1) (r := (rdn x).2.1) (by rw [← h0])
    rw [if_pos hne]
    by_cases h1 : 65536 < (rdn x).1
    ·have hd : ¬ (decide (65536 < (rdn x).1) = false) := by simpa using h1
     rw [if_neg hd]
     rfl
    ·have hd : decide (65536 < (rdn x).1) = false := by simpa using h1
     have hw : IntKind.i64.wrap (4 + (rdn x).1) = ((4 + m : Nat) : Int) := w64 (by omega) (by omega)
     have h2 : (rdn x).2.1.length < 4 + (rdn x).1.toNat := by
      rcases hc with h | h | h
      ·exact absurd h0 h
      ·exact absurd h h1
      ·exact h
     rw [if_pos hd, hw, bd_s, decide_eq_true (show (((rdn x).2.1.length : Nat) : Int) < ((4 + m : Nat) : Int) by omega)]
     rfl
   ·have hne : ¬ (((rdn x).2.2 != 0) = false) := by simpa using h0
    rw [if_neg hne]
    rfl
  ·cases hn
 | some q =>
  obtain ⟨s, p, r⟩ := q
  obtain ⟨n1, n2, n3⟩ := (nxt_iff hb).1 hn
  have hr := rdn_nb p.length (s ++ (p ++ r)) (by omega)
  rw [← n3] at hr
  have hlx : x.length = (nb p.length).length + (4 + (p.length + r.length)) := by
   conv => lhs; rw [n3]
   simp only [List.length_append, n1]
  have hnb := nb_pos p.length
  have hls : (s ++ (p ++ r)).length = 4 + (p.length + r.length) := by simp only [List.length_append, n1]
  have hw : IntKind.i64.wrap (4 + (p.length : Int)) = ((4 + p.length : Nat) : Int) := w64 (by omega) (by omega)
  have hw2 : IntKind.i64.wrap ((x.length : Int) - ((4 + (p.length + r.length) : Nat) : Int)) = (((nb p.length).length : Nat) : Int) := w64 (by omega) (by omega)
  have hw3 : IntKind.i64.wrap ((((nb p.length).length : Nat) : Int) + 4) = (((nb p.length).length + 4 : Nat) : Int) := w64 (by omega) (by omega)
  have hw4 : IntKind.i64.wrap ((((nb p.length).length + 4 : Nat) : Int) + (p.length : Int)) = (x.length : Int) - (r.length : Int) := by rw [wneg (by omega) (by omega)]; omega
  have hd : decide (65536 < (p.length : Int)) = false := decide_eq_false (by omega)
  have hd2 : decide (((4 + (p.length + r.length) : Nat) : Int) < ((4 + p.length : Nat) : Int)) = false := decide_eq_false (by omega)
  have e : List.drop 4 (List.take (4 + p.length) (s ++ (p ++ r))) = p := by
   rw [List.drop_take, ← n1]; simp
  rw [hr]
  simp only [bne_self_eq_false, if_true, hd, hls, hw, hd2, bd_s, Bool.false_eq_true, if_false]
  rw [gg_t (by omega), hw2, hw3, hw4, Int.toNat_natCast, e]
theorem cmp_iff {y s p r : List Int} (hb : ∀ c ∈ y, Byt c) (hn : nxt y = some (s, p, r)) (g i : Int) : frame g i p = y.take (y.length - r.length) ↔ s = mark g i p := by
 obtain ⟨n1, n2, n3⟩ := (nxt_iff hb).1 hn
 have e : y = (nb p.length ++ (s ++ p)) ++ r := by rw [n3]; simp
 have e2 : y.take (y.length - r.length) = nb p.length ++ (s ++ p) := by
  have : y.length - r.length = (nb p.length ++ (s ++ p)).length := by
   conv => lhs; rw [e]
   rw [List.length_append]; omega
  rw [this]
  conv => lhs; rw [e]
  exact List.take_left' rfl
 rw [e2, frame]
 constructor
 ·intro h
  have h1 := List.append_cancel_left h
  have h2 := (List.append_inj h1 (by rw [len_mark, n1])).1
  exact h2.symm
 ·intro h; rw [h]
abbrev RL0 : (Int × Vector (List Int) 2 × Vector Int 2) := (0, v2 [] [], v2 0 0)
theorem rArea1_ex (x : List Int) (hb : ∀ c ∈ x, Byt c) (hl : x.length ≤ 2 ^ 38) : ∃ e l, s_46 (x, ()) = some (e, (cst x).isSome, l, ()) ∧ ∀ g n ps r, cst x = some (g, n, ps, r) → e = (x.length : Int) - r.length ∧ l = (RL0, (0 : Int), g, n, ps) := by
 unfold s_46
 try simp only [nl]
 try dsimp only
 rw [rnext_eq x hb (by omega), bd_s, vofl_v2, vofl_v2]
 cases hn : nxt x with
 | none =>
  have hc : cst x = none := by unfold cst ara; rw [hn]
  rw [hc]
  dsimp only
  rw [if_pos (by decide)]
  exact ⟨_, _, rfl, fun _ _ _ _ h => nomatch h⟩
 | some q =>
  obtain ⟨s, p, r⟩ := q
  obtain ⟨hbp, hlp⟩ := nxt_byt hb hn
  obtain ⟨n1, n2, n3⟩ := (nxt_iff hb).1 hn
  have hlx : x.length = (nb p.length).length + (4 + (p.length + r.length)) := by
   conv => lhs; rw [n3]
   simp only [List.length_append, n1]
  have hnb := nb_pos p.length
  dsimp only
  rw [if_neg (by decide), refInts_eq p hbp (by omega), bd_s]
  dsimp only
  by_cases c1 : (ints p).2 = 0
  ·rw [if_pos (show ((ints p).2 != 0) = false by simpa using c1)]
   by_cases c2 : (ints p).1.length = 2
   ·obtain ⟨a, b, hab⟩ : ∃ a b, (ints p).1 = [a, b] := by
     match hq : (ints p).1, c2 with
     | [a, b], _ => exact ⟨a, b, rfl⟩
    rw [hab]
    have hg1 : ∀ {α : Type} {m : Option α}, gg ((0 : Int) ≤ 0 ∧ 0 < [a, b].length) m = m := gg_t (by simp)
    have hg2 : ∀ {α : Type} {m : Option α}, gg ((0 : Int) ≤ 1 ∧ 1 < [a, b].length) m = m := gg_t (by simp)
    rw [if_pos (show ((([a, b].length : Nat) : Int) != 2) = false by simp)]
    by_cases c3 : 1 ≤ a
    ·have hd : decide (a < 1) = false := decide_eq_false (by omega)
     have hfr := refFrame_eq a 0 p (by omega)
     have htn : ((x.length : Int) - (r.length : Int)).toNat = x.length - r.length := by omega
     have hgs : ∀ {α : Type} {m : Option α}, gg (0 ≤ (x.length : Int) - (r.length : Int) ∧ x.length - r.length ≤ x.length) m = m := gg_t (by omega)
     have hcmp := same_eq (frame a 0 p) (x.take (x.length - r.length)) (by have := len_frame a 0 p (by omega); omega)
     simp only [hg1, hg2, List.getD_cons_zero, List.getD_cons_succ, hd, if_true, hfr, bd_s, htn, hgs, hcmp]
     by_cases ht0 : s = mark a 0 p
     ·have ht : tk a 0 x = some (p, r) := by unfold tk; rw [hn]; exact if_pos ht0
      obtain ⟨b1, b2⟩ := tk_len hb ht
      obtain ⟨k1, k2, k3⟩ := rws_spec r.length a 1 r b2 (Nat.le_refl _)
      have hara : ara x = some (a, b, (rws r.length a 1 r).1, (rws r.length a 1 r).2) := by
       unfold ara
       rw [hn]
       simp only
       rw [hab, if_pos ⟨c1, rfl, c3⟩]
       simp only [List.getD_cons_zero, List.getD_cons_succ, ht]
      have hx0 := ((tk_iff hb).1 ht).2
      generalize (rws r.length a 1 r).1 = ps at k1 k2 k3 hara
      generalize (rws r.length a 1 r).2 = t at k1 k2 k3 hara
      have hd0 : decide (frame a 0 p = x.take (x.length - r.length)) = true := decide_eq_true ((cmp_iff hb hn a 0).2 ht0)
      have hx : x = frame a 0 p ++ (frs a 1 ps ++ t) := by rw [← k1]; exact hx0
      have hxl : x.length = (frame a 0 p).length + ((frs a 1 ps).length + t.length) := by
       conv => lhs; rw [hx]
       rw [List.length_append, List.length_append]
      have hpl : ps.length ≤ x.length := by
       have : ∀ (i : Int) (qs : List (List Int)), qs.length ≤ (frs a i qs).length := by
        intro i qs
        induction qs generalizing i with
        | nil => simp
        | cons q qs ih =>
         have := ih (i + 1)
         have := frame_pos a i q
         rw [frs, List.length_append, List.length_cons]; omega
       have := this 1 ps; omega
      have hat : ∀ k, k ≤ ps.length → x.drop ((frame a 0 p).length + (frs a 1 (ps.take k)).length) = frs a (1 + k) (ps.drop k) ++ t ∧ (frame a 0 p).length + (frs a 1 (ps.take k)).length ≤ x.length := by
       intro k hk
       have e : frs a 1 ps = frs a 1 (ps.take k) ++ frs a (1 + k) (ps.drop k) := by
        conv => lhs; rw [← List.take_append_drop k ps]
        rw [frs_append, List.length_take, Nat.min_eq_left hk]
       have e2 : x = (frame a 0 p ++ frs a 1 (ps.take k)) ++ (frs a (1 + k) (ps.drop k) ++ t) := by rw [hx, e]; simp
       constructor
       ·conv => lhs; rw [e2]
        exact List.drop_left' (by rw [List.length_append])
       ·rw [e2]; simp only [List.length_append]; omega
      simp only [hd0, Bool.not_true, Bool.false_eq_true, if_false]
      have hres : cst x = if b ≤ (ps.length : Int) then some (a, b, ps, t) else none := by unfold cst; rw [hara]
      have key : ∀ body : Int × Int × Vector Int 2 × Int × Int × Int × Int × Vector Int 2 × Int × Int × Int × List Int × List Int × List (List Int) × List Int × List Int × List (List Int) × Unit → Option ((Int × Int × Vector Int 2 × Int × Int × Int × Int × Vector Int 2 × Int × Int × Int × List Int × List Int × List (List Int) × List Int × List Int × List (List Int) × Unit) ⊕ (Int × Bool × ((Int × Vector (List Int) 2 × Vector Int 2) × Int × Int × Int × List (List Int)) × Unit)),
        (∀ k, k < ps.length → body (((frame a 0 p).length + (frs a 1 (ps.take k)).length : Nat), 0, v2 0 0, 0, 0, 0, 0, v2 0 0, 0, a, b, [], [], ps.take k, [], [], [], ()) = some (.inl (((frame a 0 p).length + (frs a 1 (ps.take (k + 1))).length : Nat), 0, v2 0 0, 0, 0, 0, 0, v2 0 0, 0, a, b, [], [], ps.take (k + 1), [], [], [], ()))) →
        body (((frame a 0 p).length + (frs a 1 ps).length : Nat), 0, v2 0 0, 0, 0, 0, 0, v2 0 0, 0, a, b, [], [], ps, [], [], [], ()) = some (.inr ((x.length : Int) - t.length, decide (b ≤ (ps.length : Int)), (RL0, 0, a, b, ps), ())) →
        ∃ e l, lp ((x.length : Int) - r.length, 0, v2 0 0, 0, 0, 0, 0, v2 0 0, 0, a, b, [], [], [], [], [], [], ()) body = some (e, (cst x).isSome, l, ()) ∧ ∀ g n ps r, cst x = some (g, n, ps, r) → e = (x.length : Int) - r.length ∧ l = (RL0, (0 : Int), g, n, ps) := by
       intro body h1 h2
       refine ⟨(x.length : Int) - t.length, (RL0, 0, a, b, ps), ?_, ?_⟩
       ·have : (cst x).isSome = decide (b ≤ (ps.length : Int)) := by
         rw [hres]
         by_cases hbn : b ≤ (ps.length : Int)
         ·rw [if_pos hbn, decide_eq_true hbn]; rfl
         ·rw [if_neg hbn, decide_eq_false hbn]; rfl
        rw [this]
        have hrl : (frame a 0 p).length + r.length = x.length := by
         conv => rhs; rw [hx0]
         rw [List.length_append]
        refine lp_upto (fun k => ((((frame a 0 p).length + (frs a 1 (ps.take k)).length : Nat) : Int), 0, v2 0 0, 0, 0, 0, 0, v2 0 0, 0, a, b, [], [], ps.take k, [], [], [], ())) ps.length ?_ h1 (by rw [List.take_length]; exact h2)
        simp only [List.take_zero, frs, List.length_nil, Nat.add_zero]
        congr 1; omega
       ·intro g n ps' r' h
        rw [hres] at h
        split at h
        ·cases h; exact ⟨rfl, rfl⟩
        ·cases h
      refine key _ (fun k hk => ?_) ?_
      ·obtain ⟨a1, a2⟩ := hat k (by omega)
       obtain ⟨a3, a4⟩ := hat (k + 1) (by omega)
       have hpk : ps.getD k [] ∈ ps := mem_getD [] hk
       have hlk := k2 _ hpk
       have hdk : ps.drop k = ps.getD k [] :: ps.drop (k + 1) := by rw [List.drop_eq_getElem_cons hk, getDR hk]
       rw [hdk, frs, List.append_assoc] at a1
       have hby : ∀ c ∈ frame a (1 + k) (ps.getD k []) ++ (frs a (1 + k + 1) (ps.drop (k + 1)) ++ t), Byt c := by rw [← a1]; exact fun c hc => hb c (List.mem_of_mem_drop hc)
       have hnk : nxt (frame a (1 + k) (ps.getD k []) ++ (frs a (1 + k + 1) (ps.drop (k + 1)) ++ t)) = some (mark a (1 + k) (ps.getD k []), ps.getD k [], frs a (1 + k + 1) (ps.drop (k + 1)) ++ t) := (nxt_iff hby).2 ⟨len_mark _ _ _, hlk, by rw [frame]; simp⟩
       have hft := frs_take a 1 ps k hk
       have hlt : (frs a 1 (ps.take (k + 1))).length = (frs a 1 (ps.take k)).length + (frame a (1 + k) (ps.getD k [])).length := by rw [hft, List.length_append]
       have hsz : ((frame a (1 + k) (ps.getD k []) ++ (frs a (1 + k + 1) (ps.drop (k + 1)) ++ t)).length : Int) - ((frs a (1 + k + 1) (ps.drop (k + 1)) ++ t).length : Int) = ((frame a (1 + k) (ps.getD k [])).length : Int) := by simp only [List.length_append]; omega
       generalize hA : (frame a 0 p).length + (frs a 1 (ps.take k)).length = A at a1 a2
       have hA2 : (frame a 0 p).length + (frs a 1 (ps.take (k + 1))).length = A + (frame a (1 + k) (ps.getD k [])).length := by omega
       rw [hA2] at a3 a4 ⊢
       have hw1 : IntKind.i64.wrap ((A : Int) + ((frame a (1 + k) (ps.getD k [])).length : Int)) = ((A + (frame a (1 + k) (ps.getD k [])).length : Nat) : Int) := w64 (by omega) (by omega)
       have hlen : ((ps.take k).length : Int) = (k : Int) := by rw [List.length_take]; omega
       have hw2 : IntKind.i64.wrap ((k : Int) + 1) = 1 + (k : Int) := by rw [wneg (by omega) (by omega)]; omega
       have hF := refFrame_eq a (1 + k) (ps.getD k []) (by omega)
       have hdt : List.drop A (List.take (A + (frame a (1 + k) (ps.getD k [])).length) x) = frame a (1 + k) (ps.getD k []) := by
        rw [List.drop_take, a1, Nat.add_sub_cancel_left, List.take_left' rfl]
       have hcmp2 := same_eq (frame a (1 + k) (ps.getD k [])) (frame a (1 + k) (ps.getD k [])) (by omega)
       have hnx := rnext_eq (x.drop A) (fun c hc => hb c (List.mem_of_mem_drop hc)) (by rw [List.length_drop]; omega)
       rw [a1, hnk] at hnx
       have hG1 : ∀ {α : Type} {m : Option α}, gg (0 ≤ (A : Int) ∧ A ≤ x.length) m = m := gg_t (by omega)
       have hG2 : ∀ {α : Type} {m : Option α}, gg (0 ≤ (A : Int) ∧ (A : Int) ≤ ((A + (frame a (1 + k) (ps.getD k [])).length : Nat) : Int) ∧ A + (frame a (1 + k) (ps.getD k [])).length ≤ x.length) m = m := gg_t (by omega)
       have hG3 : ∀ {α : Type} {m : Option α}, gg ((k + 1) * 24 ≤ 2 ^ 47 ∧ k + 1 < 2 ^ 63) m = m := gg_t (by omega)
       have hlen2 : (ps.take k).length = k := by rw [List.length_take]; omega
       have hcp := s15_eq (ps.getD k []) (by omega)
       dsimp only at hnx
       rw [hsz] at hnx
       simp only [Int.toNat_natCast, hG1, a1, hnx, bd_s, Bool.not_true, if_true, hw1, hG2, hlen, hw2, hF, hdt, hcmp2, decide_true, Bool.false_eq_true, if_false, hcp, hlen2, hG3]
       rw [List.take_succ_eq_append_getElem hk, getDR hk]
      ·obtain ⟨a1, a2⟩ := hat ps.length (Nat.le_refl _)
       rw [List.take_length, List.drop_of_length_le (Nat.le_refl _), frs, List.nil_append] at a1
       rw [List.take_length] at a2
       have hbt : ∀ c ∈ t, Byt c := by rw [← a1]; exact fun c hc => hb c (List.mem_of_mem_drop hc)
       have htl : (frame a 0 p).length + (frs a 1 ps).length = x.length - t.length := by omega
       have hxt : ((x.length : Int) - (t.length : Int)) = (((frame a 0 p).length + (frs a 1 ps).length : Nat) : Int) := by omega
       rw [hxt]
       generalize hA : (frame a 0 p).length + (frs a 1 ps).length = A at a1 a2 htl
       have hnx := rnext_eq (x.drop A) (fun c hc => hb c (List.mem_of_mem_drop hc)) (by rw [List.length_drop]; omega)
       rw [a1] at hnx
       have hG1 : ∀ {α : Type} {m : Option α}, gg (0 ≤ (A : Int) ∧ A ≤ x.length) m = m := gg_t (by omega)
       cases hnt : nxt t with
       | none =>
        rw [hnt] at hnx
        dsimp only at hnx
        simp only [Int.toNat_natCast, hG1, a1, hnx, bd_s, Bool.not_false, Bool.true_eq_false, if_false, if_true, vofl_v2]
        rfl
       | some q2 =>
        obtain ⟨s2, p2, r2⟩ := q2
        rw [hnt] at hnx
        dsimp only at hnx
        obtain ⟨m1, m2, m3⟩ := (nxt_iff hbt).1 hnt
        have hr2 : r2.length ≤ t.length := by rw [m3]; simp only [List.length_append]; omega
        have hne : ¬ frame a (1 + ps.length) p2 = t.take (t.length - r2.length) := by
         intro h
         have h2 := (cmp_iff hbt hnt a (1 + ps.length)).1 h
         unfold tk at k3
         rw [hnt] at k3
         simp only at k3
         rw [if_pos h2] at k3
         cases k3
        have hw1 : IntKind.i64.wrap ((A : Int) + ((t.length : Int) - (r2.length : Int))) = ((A + (t.length - r2.length) : Nat) : Int) := w64 (by omega) (by omega)
        have hw2 : IntKind.i64.wrap ((ps.length : Int) + 1) = 1 + (ps.length : Int) := by rw [wneg (by omega) (by omega)]; omega
        have hF := refFrame_eq a (1 + ps.length) p2 (by omega)
        have hdt : List.drop A (List.take (A + (t.length - r2.length)) x) = t.take (t.length - r2.length) := by
         rw [List.drop_take, a1, Nat.add_sub_cancel_left]
        have hlf := len_frame a (1 + ps.length) p2 (by omega)
        have hcmp2 := same_eq (frame a (1 + ps.length) p2) (t.take (t.length - r2.length)) (by omega)
        have hG2 : ∀ {α : Type} {m : Option α}, gg (0 ≤ (A : Int) ∧ (A : Int) ≤ ((A + (t.length - r2.length) : Nat) : Int) ∧ A + (t.length - r2.length) ≤ x.length) m = m := gg_t (by omega)
        rw [decide_eq_false hne] at hcmp2
        simp only [Int.toNat_natCast, hG1, a1, hnx, bd_s, Bool.not_true, if_true, hw1, hG2, hw2, hF, hdt, hcmp2, Bool.not_false, vofl_v2]
        rfl
     ·have hd0 : decide (frame a 0 p = x.take (x.length - r.length)) = false := decide_eq_false (fun h => ht0 ((cmp_iff hb hn a 0).1 h))
      have hc : cst x = none := by
       unfold cst ara
       rw [hn]
       simp only
       rw [hab, if_pos ⟨c1, rfl, c3⟩]
       have ht : tk a 0 x = none := by unfold tk; rw [hn]; exact if_neg ht0
       simp only [List.getD_cons_zero, ht]
      simp only [hd0, Bool.not_false, if_true]
      rw [hc]
      exact ⟨_, _, rfl, fun _ _ _ _ h => nomatch h⟩
    ·have hd : ¬ (decide (a < 1) = false) := by simp; omega
     have hc : cst x = none := by
      unfold cst ara
      rw [hn]
      simp only
      rw [hab, if_neg (fun h => c3 (by simpa using h.2.2))]
     rw [hg1]
     simp only [List.getD_cons_zero]
     rw [if_neg hd, bd_s, hc]
     dsimp only
     rw [if_pos rfl]
     exact ⟨_, _, rfl, fun _ _ _ _ h => nomatch h⟩
   ·have hc : cst x = none := by
     unfold cst ara
     rw [hn]
     simp only
     rw [if_neg (fun h => c2 h.2.1)]
    rw [if_neg (show ¬ ((((ints p).1.length : Int) != 2) = false) by simp; omega), bd_s, hc]
    dsimp only
    rw [if_pos rfl]
    exact ⟨_, _, rfl, fun _ _ _ _ h => nomatch h⟩
  ·have hc : cst x = none := by
    unfold cst ara
    rw [hn]
    simp only
    rw [if_neg (fun h => c1 h.1)]
   rw [if_neg (show ¬ (((ints p).2 != 0) = false) by simpa using c1), bd_s, hc]
   dsimp only
   rw [if_pos rfl]
   exact ⟨_, _, rfl, fun _ _ _ _ h => nomatch h⟩
theorem rWhole_eq (g : Int) (ps : List (List Int)) (hw : wt ps ≤ 2 ^ 38) : s_67 (g, ps, ()) = some (whole g ps.length ps, ()) := by
 unfold s_67
 try simp only [nl]
 try dsimp only
 have hn := len_nums2 g (ps.length : Int)
 have hlen := wt_len ps
 rw [refNums_eq _ (by simp), bd_s]
 dsimp only
 rw [refFrame_geq _ _ _ (by omega), bd_s]
 dsimp only
 have h0 := len_frame g 0 (nums [g, (ps.length : Int)]).1 (by omega)
 refine lp_upto (fun j => ((j : Int), frame g 0 (nums [g, (ps.length : Int)]).1 ++ frs g 1 (ps.take j), ())) ps.length (by simp [frs]) (fun j hj => ?_) ?_
 ·have hlt : decide ((j : Int) < (ps.length : Int)) = true := decide_eq_true (by omega)
  have hm := wt_mem (mem_getD [] hj)
  have h1 := len_frs g 1 (ps.take j) (fun q hq => by have := wt_mem (List.mem_of_mem_take hq); omega)
  have h2 := wt_take ps j
  have h3 := len_frame g (1 + j) (ps.getD j []) (by omega)
  dsimp only
  rw [if_pos hlt, Int.toNat_natCast, gg_t (by omega), show IntKind.i64.wrap ((j : Int) + 1) = 1 + (j : Int) by rw [wneg (by omega) (by omega)]; omega, refFrame_geq _ _ _ (by omega), bd_s]
  dsimp only
  rw [gg_t (by rw [List.length_append]; omega), frs_take g 1 ps j hj, List.append_assoc, show (1 : Int) + (j : Int) = ((j + 1 : Nat) : Int) by omega]
 ·have hlt : ¬ (decide ((ps.length : Int) < (ps.length : Int)) = true) := by simp
  dsimp only
  rw [if_neg hlt, List.take_length]
  rfl
theorem rLaid_eq (D : Dk) {i : Int} (hi : Ar i) (g : Int) (ps : List (List Int)) (hw : wt ps ≤ 2 ^ 38) {L : Nat} (hD : D.Ok L) (hL : L ≤ 2 ^ 39) :
  s_47 (RD D, i, g, ps, ()) = some ((D.lay i g ps.length ps).1, RD (D.lay i g ps.length ps).2, ()) := by
 unfold s_47 Dk.lay
 try simp only [nl]
 try dsimp only
 rw [bd_s]
 dsimp only
 rw [rTrim_eq D hi 0 hD (by omega), bd_s]
 dsimp only
 have hwl := len_whole g ps.length ps (wt_lt (by omega))
 by_cases h1 : (D.trm i 0).1 = 0
 ·rw [if_pos (show (((D.trm i 0).1 == 0) = true) by simpa using h1), if_neg (show ¬ ((D.trm i 0).1 ≠ 0) by simpa using h1), rWhole_eq g ps hw, bd_s]
  dsimp only
  rw [rApp_eq _ hi _ (by omega) hD.trm (by omega), bd_s, bd_s]
  dsimp only
  by_cases h2 : ((D.trm i 0).2.app i (whole g ps.length ps)).1 = 0
  ·rw [if_pos (show ((((D.trm i 0).2.app i (whole g ps.length ps)).1 == 0) = true) by simpa using h2), if_neg (show ¬ (((D.trm i 0).2.app i (whole g ps.length ps)).1 ≠ 0) by simpa using h2), rSync_eq _ hi, bd_s, bd_s]
  ·rw [if_neg (show ¬ ((((D.trm i 0).2.app i (whole g ps.length ps)).1 == 0) = true) by simpa using h2), if_pos h2, bd_s]
 ·rw [if_neg (show ¬ (((D.trm i 0).1 == 0) = true) by simpa using h1), if_pos h1, bd_s]
  dsimp only
  rw [if_neg (show ¬ (((D.trm i 0).1 == 0) = true) by simpa using h1), bd_s]
abbrev RLg (l : Lg) : (Int × Vector (List Int) 2 × Vector Int 2) × Int × Int × Int × List (List Int) := (RD l.D, l.i, l.g, l.n, l.ps)
def rrs (D : Dk) (k : Int) (o : Option (Int × Int × Int × List (List Int) × List Int)) : Int × Bool × Int × ((Int × Vector (List Int) 2 × Vector Int 2) × Int × Int × Int × List (List Int)) × Unit := match o with
 | none => (0, false, k, (RL0, 0, 0, 0, []), ())
 | some (i, g, n, ps, r) => (((D.get i).length : Int) - (r.length : Int), true, k, (RL0, i, g, n, ps), ())
theorem rrs_none (D : Dk) (k : Int) : rrs D k none = (0, false, k, (RL0, 0, 0, 0, []), ()) := rfl
theorem rrs_some (D : Dk) (k i g n : Int) (ps : List (List Int)) (r : List Int) : rrs D k (some (i, g, n, ps, r)) = (((D.get i).length : Int) - (r.length : Int), true, k, (RL0, i, g, n, ps), ()) := rfl
theorem rOpen_eq (D : Dk) {L : Nat} (hD : D.Ok L) (hL : L ≤ 2 ^ 38) : s_25 (RD D, ()) = some (D.opn.1, RLg D.opn.2, ()) := by
 unfold s_25
 try simp only [nl]
 try dsimp only
 rw [bd_s, vofl_v2, vofl_v2]
 dsimp only
 have w1 : IntKind.i64.wrap ((0 : Int) + 1) = 1 := by decide
 have w2 : IntKind.i64.wrap ((1 : Int) + 1) = 2 := by decide
 have G1 : ∀ {α : Type} {m : Option α}, gg ((0 : Int) ≤ 0 ∧ Int.toNat 0 < 2) m = m := gg_t (by decide)
 have G2 : ∀ {α : Type} {m : Option α}, gg ((0 : Int) ≤ 1 ∧ Int.toNat 1 < 2) m = m := gg_t (by decide)
 have G3 : ∀ {α : Type} {m : Option α}, gg (Int.toNat 0 < (v2 D.a D.b).toList.length) m = m := gg_t (show 0 < 2 by decide)
 have G4 : ∀ {α : Type} {m : Option α}, gg (Int.toNat 1 < (v2 D.a D.b).toList.length) m = m := gg_t (show 1 < 2 by decide)
 have g0 : (v2 D.a D.b).toList.getD (Int.toNat 0) [] = D.a := rfl
 have g1 : (v2 D.a D.b).toList.getD (Int.toNat 1) [] = D.b := rfl
 obtain ⟨ea, la, A1, A2⟩ := rArea1_ex D.a hD.ba (by have := hD.la; omega)
 obtain ⟨eb, lb, B1, B2⟩ := rArea1_ex D.b hD.bb (by have := hD.lb; omega)
 unfold lp
 rw [loop_cont (s' := rrs D 1 (match cst D.a with | some u => some (0, u) | none => none)), loop_cont (s' := rrs D 2 D.best)]
 ·refine loop_done ?_
  cases hb : D.best with
  | none =>
   rw [rrs_none]
   dsimp only
   rw [if_neg (show ¬ (decide ((2 : Int) < 2) = true) by decide), if_pos (show (!false) = true from rfl), rLaid_eq D (.inl rfl) 1 [] (by simp [wt]) hD (by omega), bd_s]
   have e : D.opn = ((D.lay 0 1 0 []).1, ⟨(D.lay 0 1 0 []).2, 0, 1, 0, []⟩) := by unfold Dk.opn; rw [hb]
   rw [e]
   rfl
  | some q =>
   obtain ⟨i, g, n, ps, r⟩ := q
   obtain ⟨b1, b2, b3⟩ := best_some hb
   have hr := ar_rng b1
   have hrl : r.length ≤ (D.get i).length := by
    obtain ⟨-, -, -, -, h5, -⟩ := (ara_iff hD.byt).1 b2
    rw [h5, List.length_append]; omega
   rw [rrs_some]
   dsimp only
   rw [if_neg (show ¬ (decide ((2 : Int) < 2) = true) by decide), if_neg (show ¬ ((!true) = true) by decide), gg_t hr, gg_t (by rw [v2_toList]; exact hr.2), get_v2 D b1, bd_s]
   dsimp only
   by_cases h0 : 0 < r.length
   ·have hd : decide (((D.get i).length : Int) - (r.length : Int) < ((D.get i).length : Int)) = true := decide_eq_true (by omega)
    have e : D.opn = ((D.trm i ((D.get i).length - r.length)).1, ⟨(D.trm i ((D.get i).length - r.length)).2, i, g, n, ps⟩) := by unfold Dk.opn; rw [hb]; exact if_pos h0
    rw [if_pos hd, rTrim_eq D b1 _ hD (by omega), bd_s, e]
    rfl
   ·have hd : ¬ (decide (((D.get i).length : Int) - (r.length : Int) < ((D.get i).length : Int)) = true) := by simp; omega
    have e : D.opn = (0, ⟨D, i, g, n, ps⟩) := by unfold Dk.opn; rw [hb]; exact if_neg h0
    rw [if_neg hd, e]
    rfl
 ·cases ha : cst D.a with
  | none =>
   have hbest : D.best = match cst D.b with | some v => some (1, v) | none => none := by
    unfold Dk.best pick; rw [ha]; cases cst D.b <;> rfl
   dsimp only
   rw [rrs_none]
   dsimp only
   rw [if_pos (show decide ((1 : Int) < 2) = true by decide), G2, G4, g1, B1, bd_s, hbest]
   cases hx : cst D.b with
   | none => simp only [Option.isSome_none, Bool.false_eq_true, if_false, bd_s, w2]; rfl
   | some q =>
    obtain ⟨g, n, ps, r⟩ := q
    obtain ⟨rfl, rfl⟩ := B2 g n ps r hx
    simp only [Option.isSome_some, if_true, Bool.not_false, Bool.true_eq_false, if_false, bd_s, w2]
    rfl
  | some u =>
   obtain ⟨ug, un, ups, ur⟩ := u
   have hbest : D.best = match cst D.b with | some v => if ug < v.1 then some (1, v) else some (0, ug, un, ups, ur) | none => some (0, ug, un, ups, ur) := by
    unfold Dk.best pick; rw [ha]; cases cst D.b <;> rfl
   dsimp only
   rw [rrs_some]
   dsimp only
   rw [if_pos (show decide ((1 : Int) < 2) = true by decide), G2, G4, g1, B1, bd_s, hbest]
   cases hx : cst D.b with
   | none => simp only [Option.isSome_none, Bool.false_eq_true, if_false, bd_s, w2]; rfl
   | some q =>
    obtain ⟨g, n, ps, r⟩ := q
    obtain ⟨rfl, rfl⟩ := B2 g n ps r hx
    by_cases hlt : ug < g
    ·simp only [Option.isSome_some, hlt, decide_true, if_true, Bool.not_true, if_false, bd_s, w2]
     rfl
    ·simp only [Option.isSome_some, hlt, decide_false, Bool.false_eq_true, if_true, Bool.not_true, if_false, bd_s, w2]
     rfl
 ·dsimp only
  rw [if_pos (show decide ((0 : Int) < 2) = true by decide), G1, G3, g0, A1, bd_s]
  cases hx : cst D.a with
  | none => simp only [Option.isSome_none, Bool.false_eq_true, if_false, bd_s, w1]; rfl
  | some q =>
   obtain ⟨g, n, ps, r⟩ := q
   obtain ⟨rfl, rfl⟩ := A2 g n ps r hx
   simp only [Option.isSome_some, if_true, Bool.not_false, Bool.true_eq_false, if_false, bd_s, w1]
   rfl
theorem rLong_eq (ps : List (List Int)) (h : ps.length ≤ 2 ^ 40) : s_50 (ps, ()) = some (lng ps, ()) := by
 unfold s_50
 try simp only [nl]
 rcases all_first [] ps (fun p => ¬ 65536 < p.length) with h1 | ⟨h1, k, k1, k2, k3⟩
 ·have hl : lng ps = false := lng_false.2 fun p hp => by have := h1 p hp; omega
  rw [hl]
  refine lp_upto (fun i => ((i : Int), ())) ps.length rfl (fun i hi => ?_) ?_
  ·have hlt : decide ((i : Int) < (ps.length : Int)) = true := decide_eq_true (by omega)
   have h2 := h1 _ (mem_getD [] hi)
   have hd : ¬ (decide ((65536 : Int) < ((ps.getD i []).length : Int)) = true) := by simp only [decide_eq_true_eq]; omega
   dsimp only
   rw [if_pos hlt, Int.toNat_natCast, gg_t (by omega), if_neg hd, w64 (m := i + 1) (by omega) (by omega)]
  ·have hlt : ¬ (decide ((ps.length : Int) < (ps.length : Int)) = true) := by simp
   dsimp only
   rw [if_neg hlt]
   rfl
 ·have hl : lng ps = true := by unfold lng; exact decide_eq_true ⟨ps.getD k [], mem_getD [] k1, by omega⟩
  rw [hl]
  refine lp_upto (fun i => ((i : Int), ())) k rfl (fun i hi => ?_) ?_
  ·have hlt : decide ((i : Int) < (ps.length : Int)) = true := decide_eq_true (by omega)
   have h2 := k2 i hi
   have hd : ¬ (decide ((65536 : Int) < ((ps.getD i []).length : Int)) = true) := by simp only [decide_eq_true_eq]; omega
   dsimp only
   rw [if_pos hlt, Int.toNat_natCast, gg_t (by omega), if_neg hd, w64 (m := i + 1) (by omega) (by omega)]
  ·have hlt : decide ((k : Int) < (ps.length : Int)) = true := decide_eq_true (by omega)
   have hd : decide ((65536 : Int) < ((ps.getD k []).length : Int)) = true := decide_eq_true (by omega)
   dsimp only
   rw [if_pos hlt, Int.toNat_natCast, gg_t (by omega), if_pos hd]
   rfl
theorem wt47 {ps : List (List Int)} (h : wt ps ≤ 2 ^ 40) : ps.length ≤ 2 ^ 40 ∧ ∀ p ∈ ps, p.length ≤ 2 ^ 47 := by
 have := wt_len ps
 exact ⟨by omega, fun p hp => by have := wt_mem hp; omega⟩
theorem rAdd_eq (l : Lg) {L : Nat} (h : l.Ok L) (hL : L ≤ 2 ^ 36) (ps : List (List Int)) (hw : wt ps ≤ 2 ^ 38) :
  s_29 (RLg l, ps, ()) = some ((l.add ps).1, RLg (l.add ps).2, ()) := by
 unfold s_29 Lg.add
 try simp only [nl]
 try dsimp only
 have hlen := wt_len ps
 have hlen2 := wt_len l.ps
 have hps := h.ps
 rw [bd_s]
 dsimp only
 rw [rLong_eq ps (by omega), bd_s]
 dsimp only
 by_cases h1 : lng ps = true
 ·rw [if_pos h1, if_pos h1]
 ·rw [if_neg h1, if_neg h1]
  by_cases h2 : ps.length = 0
  ·rw [if_pos (show (((ps.length : Int) == 0) = true) from beq_iff_eq.2 (by omega)), if_pos h2]
  ·have h2' : ¬ (((ps.length : Int) == 0) = true) := fun h => h2 (by have := beq_iff_eq.1 h; omega)
   rw [if_neg h2', if_neg h2]
   refine lp_upto (fun j => ((j : Int), frs l.g ((l.ps.length : Int) + 1) (ps.take j), ())) ps.length (by simp [frs]) (fun j hj => ?_) ?_
   ·have hlt : decide ((j : Int) < (ps.length : Int)) = true := decide_eq_true (by omega)
    have hm := wt_mem (mem_getD [] hj)
    have k1 := len_frs l.g ((l.ps.length : Int) + 1) (ps.take j) (fun q hq => by have := wt_mem (List.mem_of_mem_take hq); omega)
    have k2 := wt_take ps j
    have k3 := len_frame l.g ((l.ps.length : Int) + 1 + j) (ps.getD j []) (by omega)
    have e1 : IntKind.i64.wrap ((l.ps.length : Int) + 1) = (l.ps.length : Int) + 1 := wneg (by omega) (by omega)
    have e2 : IntKind.i64.wrap ((l.ps.length : Int) + 1 + (j : Int)) = (l.ps.length : Int) + 1 + (j : Int) := wneg (by omega) (by omega)
    dsimp only
    rw [if_pos hlt, Int.toNat_natCast, gg_t (by omega), e1, e2, refFrame_eq _ _ _ (by omega), bd_s]
    dsimp only
    rw [gg_t (by omega), frs_take l.g _ ps j hj, w64 (n := (j : Int) + 1) (m := j + 1) (by omega) (by omega)]
   ·have hlt : ¬ (decide ((ps.length : Int) < (ps.length : Int)) = true) := by simp
    have k1 := len_frs l.g ((l.ps.length : Int) + 1) ps (wt_lt (by omega))
    dsimp only
    rw [if_neg hlt, List.take_length, rApp_eq _ h.i _ (by omega) h.D (by omega), bd_s]
    dsimp only
    by_cases h4 : (l.D.app l.i (frs l.g ((l.ps.length : Int) + 1) ps)).1 = 0
    ·have c1 := wt47 (ps := l.ps) (by omega)
     have c2 := wt47 (ps := ps) (by omega)
     rw [if_neg (show ¬ (((l.D.app l.i (frs l.g ((l.ps.length : Int) + 1) ps)).1 != 0) = true) by simpa using h4), if_pos h4, copyR_g _ c1.1 c1.2, bd_s, copyR_g _ c2.1 c2.2, bd_s]
     dsimp only
     rw [gg_t (by omega)]
     rfl
    ·rw [if_pos (show (((l.D.app l.i (frs l.g ((l.ps.length : Int) + 1) ps)).1 != 0) = true) by simpa using h4), if_neg h4]
     rfl
theorem rLSync_eq (l : Lg) (h : Ar l.i) : s_31 (RLg l, ()) = some (l.syn.1, RLg l.syn.2, ()) := by
 unfold s_31 Lg.syn
 try simp only [nl]
 try dsimp only
 rw [bd_s]
 dsimp only
 rw [rSync_eq l.D h, bd_s]
theorem rLay_eq (l : Lg) {L : Nat} (h : l.Ok L) (hL : L ≤ 2 ^ 36) (ps : List (List Int)) (hw : wt ps ≤ 2 ^ 38) :
  s_32 (RLg l, ps, ()) = some ((l.lay ps).1, RLg (l.lay ps).2, ()) := by
 unfold s_32 Lg.lay
 try simp only [nl]
 try dsimp only
 have hlen := wt_len ps
 have hg0 := h.g0
 have hg1 := h.g1
 rw [bd_s]
 dsimp only
 rw [rLong_eq ps (by omega), bd_s]
 dsimp only
 by_cases h1 : lng ps = true
 ·rw [if_pos h1, if_pos h1]
 ·have ei : IntKind.i64.wrap (1 - l.i) = 1 - l.i := by rcases h.i with e | e <;> rw [e] <;> decide
  have eg : IntKind.i64.wrap (l.g + 1) = l.g + 1 := wrap64 (by omega) (by omega)
  rw [if_neg h1, if_neg h1, ei, eg, rLaid_eq l.D (ar_sub h.i) _ ps hw h.D (by omega), bd_s]
  dsimp only
  by_cases h4 : (l.D.lay (1 - l.i) (l.g + 1) ps.length ps).1 = 0
  ·have c2 := wt47 (ps := ps) (by omega)
   rw [if_neg (show ¬ (((l.D.lay (1 - l.i) (l.g + 1) ps.length ps).1 != 0) = true) by simpa using h4), if_pos h4, s9_eq _ c2.1 c2.2, bd_s]
  ·rw [if_pos (show (((l.D.lay (1 - l.i) (l.g + 1) ps.length ps).1 != 0) = true) by simpa using h4), if_neg h4]
theorem sameDisk_eq (D : Dk) {L : Nat} (hD : D.Ok L) (hL : L ≤ 2 ^ 40) : s_26 (RD D, D.p, D.a, D.sa, D.b, D.sb, ()) = some (true, D.p, D.a, D.sa, D.b, D.sb, ()) := by
 unfold s_26
 refine lp_upto (fun j => ((j : Int), D.p, D.a, D.sa, D.b, D.sb, ())) 2 rfl (fun j hj => ?_) ?_
 ·have hlt : decide ((j : Int) < 2) = true := decide_eq_true (by omega)
  have hA : Ar (j : Int) := by unfold Ar; omega
  have hle := hD.len (i := (j : Int))
  dsimp only
  rw [if_pos hlt, DRead_eq _ hA hD hL, bd_s, rRead_eq D hA hD hL, bd_s]
  dsimp only
  rw [same_eq _ _ (by omega), bd_s, decide_eq_true rfl, if_pos (by decide), if_neg (by decide), w64 (n := (j : Int) + 1) (m := j + 1) (by omega) (by omega)]
 ·have hlt : ¬ (decide (((2 : Nat) : Int) < 2) = true) := by decide
  dsimp only
  rw [if_neg hlt]
  rfl
theorem Ok.opn {D : Dk} {L : Nat} (hD : D.Ok L) : D.opn.2.Ok (L + 31) := by
 unfold Dk.opn
 cases hb : D.best with
 | none =>
  have h := Dk.Ok.lay hD 0 1 0 [] (by simp [wt]) (by simp)
  have h2 : (D.lay 0 1 0 []).2.Ok (L + 31) := h.mono (by simp [wt])
  exact ⟨h2, .inl rfl, by simp, by simp only; omega, by simp [wt], by simp, by simp⟩
 | some q =>
  obtain ⟨i, g, n, ps, r⟩ := q
  have hi := (best_some hb).1
  obtain ⟨a1, a2, a3, a4, a5, a6, a7, a8⟩ := best_bytes hD hi hb
  have hg : g ≤ 2 ^ 62 + (L + 31 : Nat) := by unfold okN at a1; omega
  simp only
  split
  ·exact ⟨hD.trm.mono (by omega), hi, a2, hg, Nat.le_trans a7 (by omega), a4, a8⟩
  ·exact ⟨hD.mono (by omega), hi, a2, hg, Nat.le_trans a7 (by omega), a4, a8⟩
theorem Lg.Ok.mono {l : Lg} {L M : Nat} (h : l.Ok L) (hm : L ≤ M) : l.Ok M := ⟨h.D.mono hm, h.i, h.g0, by have := h.g1; omega, Nat.le_trans h.ps (by omega), h.pl, h.pb⟩
theorem Ok.add' {l : Lg} {L : Nat} (h : l.Ok L) {ps : List (List Int)} (hl : ∀ p ∈ ps, p.length ≤ 65536) (hb : ∀ p ∈ ps, ∀ c ∈ p, Byt c) : (l.add ps).2.Ok (L + wt ps) := by
 have h1 := frs_len l.g (l.ps.length + 1) hl
 have h2 := byt_frs l.g (l.ps.length + 1) ps (l64 hl) hb
 have h3 := (h.D.app (i := l.i) h2).mono (M := L + wt ps) (by omega)
 have h7 := h.g1
 have h6 := h.ps
 unfold Lg.add
 split
 ·exact h.mono (by omega)
 ·split
  ·exact h.mono (by omega)
  ·split
   ·refine ⟨h3, h.i, h.g0, by simp only; omega, by simp only [wt_append]; omega, ?_, ?_⟩
    ·intro p hp
     exact (List.mem_append.1 hp).elim (h.pl p) (hl p)
    ·intro p hp
     exact (List.mem_append.1 hp).elim (h.pb p) (hb p)
   ·exact ⟨h3, h.i, h.g0, by simp only; omega, by simp only; omega, h.pl, h.pb⟩
theorem Ok.lay' {l : Lg} {L : Nat} (h : l.Ok L) {ps : List (List Int)} (hl : ∀ p ∈ ps, p.length ≤ 65536) (hb : ∀ p ∈ ps, ∀ c ∈ p, Byt c) (hw : wt ps < 2 ^ 62) : (l.lay ps).2.Ok (L + wt ps + 31) := by
 have h3 := h.D.lay (1 - l.i) (l.g + 1) ps.length ps hw hb
 have h7 := h.g1
 have h0 := h.g0
 have h6 := h.ps
 unfold Lg.lay
 split
 ·exact h.mono (by omega)
 ·split
  ·exact ⟨h3, ar_sub h.i, by simp only; omega, by simp only; omega, by simp only; omega, hl, hb⟩
  ·exact ⟨h3, h.i, h.g0, by simp only; omega, by simp only; omega, h.pl, h.pb⟩
theorem Ok.syn' {l : Lg} {L : Nat} (h : l.Ok L) : l.syn.2.Ok L := ⟨h.D.syn, h.i, h.g0, h.g1, h.ps, h.pl, h.pb⟩
def Res {σ A : Type} (P : σ → Prop) (μ : σ → Nat) (a : A) (s : σ) (x : Option (σ ⊕ A)) : Prop := x = some (.inr a) ∨ ∃ s', x = some (.inl s') ∧ P s' ∧ μ s' < μ s
theorem lp_res {σ A : Type} {body : σ → Option (σ ⊕ A)} {a : A} (P : σ → Prop) (μ : σ → Nat) (h : ∀ s, P s → Res P μ a s (body s)) (s : σ) (hs : P s) : lp s body = some a := lp_to P μ h s hs
theorem bd_res {α β ι : Type} {C : Option β → Prop} {m : Option α} {F : α → Option β} (P : ι → Prop) (tup : ι → α) (h1 : ∃ i, P i ∧ m = some (tup i)) (h2 : ∀ i, P i → C (F (tup i))) : C (bd m F) := by
 obtain ⟨i, h, e⟩ := h1
 rw [e]; exact h2 i h
theorem jn_res {J A ι : Type} {C : Option A → Prop} {B : J → Option A} {U : (J → Option A) → Option A} (P : ι → Prop) (tup : ι → J) (h1 : ∀ K : J → Option A, (∀ i, P i → C (K (tup i))) → C (U K)) (h2 : ∀ i, P i → C (B (tup i))) : C (jn B U) := h1 B h2
theorem cut_eq (sc : List Opn) (h : sc.length ≤ 2 ^ 60) : s_28 (sc, ()) = some (sc.take 40, ()) := by
 unfold s_28
 dsimp only
 rw [bd_s]
 dsimp only
 rw [bd_s]
 dsimp only
 by_cases hc : 40 < sc.length
 ·rw [if_pos (decide_eq_true (by omega)), gg_t (by omega)]
 ·rw [if_neg (show ¬ (decide ((40 : Int) < (sc.length : Int)) = true) by simp only [decide_eq_true_eq]; omega), List.take_of_length_le (by omega)]
abbrev tupS (k : Nat) (l : Lg) : Bool × Int × Int × List Int × Int × List Int × Int × Bool × Int × Int × Int × List (List Int) × ((Int × Vector (List Int) 2 × Vector Int 2) × Int × Int × Int × List (List Int)) × Unit :=
 (true, (k : Int), l.D.p, l.D.a, l.D.sa, l.D.b, l.D.sb, true, l.i, l.g, l.n, l.ps, RLg l, ())
theorem LogSteps_true (power : Int) (script : List Opn) (k0 : (Lit.int .i64 power).wf = true) (k1 : ok28 script) : s_7 (power, script, ()) = some (true, ()) := by
 unfold s_7
 try simp only [nl]
 have hrb := rb
 have hsl := k1.2
 rw [bd_s]
 dsimp only
 refine jn_intro (ι := Unit) (fun _ => True) (fun _ => (power, script, ())) ?_ ?_
 ·intro K hK
  try dsimp only
  rw [alive_eq, bd_s]
  dsimp only
  rw [if_neg (by decide)]
  exact hK () trivial
 intro _ _
 dsimp only
 rw [cut_eq script (by omega), bd_s, bd_s]
 dsimp only
 have hok : ∀ o ∈ script.take 40, ok27 o := fun o ho => k1.1 o (List.mem_of_mem_take ho)
 generalize hsc : script.take 40 = sc at hok
 have hscl : sc.length ≤ 40 := by rw [← hsc, List.length_take]; omega
 refine jn_intro (ι := Unit) (fun _ => gr sc ≤ 3000) (fun _ => (power, sc, ())) ?_ ?_
 ·intro K hK
  try dsimp only
  rw [great_eq sc (by omega) (fun o ho => great_bounds (hok o ho).2.2.1 (hok o ho).2.2.2.1), bd_s]
  dsimp only
  by_cases hg : 3000 < gr sc
  ·rw [if_pos (decide_eq_true hg)]
  ·rw [if_neg (by simpa using hg)]
   exact hK () (by omega)
 intro _ hgr
 dsimp only
 have hO := Open_eq ⟨power, [], 0, [], 0⟩ (newOk power) (by omega)
 have hR := rOpen_eq ⟨power, [], 0, [], 0⟩ (newOk power) (by omega)
 have hOk : (Dk.opn ⟨power, [], 0, [], 0⟩).2.Ok (0 + 31) := Ok.opn (newOk power)
 dsimp only at hO hR
 rw [New_eq, bd_s, bd_s]
 dsimp only
 rw [bd_s]
 dsimp only
 rw [hO, bd_s, bd_s, vofl_v2, vofl_v2]
 dsimp only
 rw [hR, bd_s, bd_s]
 dsimp only
 generalize (Dk.opn ⟨power, [], 0, [], 0⟩) = q at hOk
 obtain ⟨e, l⟩ := q
 dsimp only at hOk ⊢
 refine jn_intro (ι := Lg) (fun l => l.Ok 100) (fun l => (sc, true, l.D.p, l.D.a, l.D.sa, l.D.b, l.D.sb, true, l.i, l.g, l.n, l.ps, RLg l, ())) ?_ ?_
 ·intro K hK
  by_cases he : e = 0
  ·subst he
   rw [if_neg (show ¬ ((0 : Int) ≠ 0) by decide)]
   dsimp only
   rw [if_pos (by decide), bd_s]
   dsimp only
   rw [if_neg (by decide)]
   exact hK l (hOk.mono (by omega))
  ·rw [if_pos he]
   dsimp only
   rw [if_pos (show (e != e) = false by simp), bd_s]
   dsimp only
   rw [if_pos (by decide), if_pos (by decide), if_pos (show (e == e) = true by simp)]
   simp [he]
 intro l hl
 dsimp only
 rw [bd_s]
 dsimp only
 refine lp_res (fun s => ∃ (k : Nat) (l : Lg), k ≤ sc.length ∧ l.Ok (100 + 14 * gr (sc.take k) + 100 * k) ∧ s = tupS k l) (fun s => sc.length - s.2.1.toNat) ?_ _ ⟨0, l, by omega, hl.mono (by omega), rfl⟩
 rintro s ⟨k, l, hk, hl, rfl⟩
 dsimp only
 by_cases hkl : k < sc.length
 ·have hlt : decide ((k : Int) < (sc.length : Int)) = true := decide_eq_true (by omega)
  have hgk := gr_take sc k hkl ((0 : Int), (0 : Int), ([] : List (List Int)), ([] : List Int))
  have hgl := gr_take_le sc (k + 1)
  have hmo := mem_getD ((0 : Int), (0 : Int), ([] : List (List Int)), ([] : List Int)) hkl
  have hoo := hok _ hmo
  rw [if_pos hlt, Int.toNat_natCast, gg_t (by omega)]
  generalize sc.getD k (0, 0, [], []) = o at hgk hoo
  obtain ⟨w, N, rows, keeps⟩ := o
  dsimp only at hgk hoo ⊢
  obtain ⟨ow, oN, orows, okeeps, -⟩ := hoo
  dsimp only at ow oN orows okeeps
  have hkl2 := okeeps.2
  obtain ⟨s1, s2, s3, s4⟩ := small_len (a := rows) (by omega)
  have hb := rows_byt orows
  have hww := wt_wb rows
  have hL : 100 + 14 * gr (sc.take k) + 100 * k ≤ 50000 := by omega
  rw [s9_eq rows (by omega) s4, bd_s]
  dsimp only
  refine bd_res (C := Res _ _ _ _) (ι := Lg × Int × Int) (fun q => q.1.Ok (100 + 14 * gr (sc.take k) + 100 * k + wt rows + 31)) (fun q => (true, (k : Int), q.2.1, q.2.1, rows, RLg q.1, q.1.D.p, q.1.D.a, q.1.D.sa, q.1.D.b, q.1.D.sb, true, q.1.i, q.1.g, q.1.n, q.1.ps, (q.2.2, N, rows, keeps), ())) ?_ ?_
  ·rw [bd_s]
   dsimp only
   by_cases h1 : w = 1
   ·subst h1
    refine ⟨((l.add rows).2, (l.add rows).1, 1), (Ok.add' hl s1 hb).mono (by omega), ?_⟩
    rw [if_pos (by decide), gg_t (by decide), Add_eq l hl (by omega) rows (by omega), bd_s, rAdd_eq l hl (by omega) rows (by omega), bd_s]
   ·have h1' : ¬ ((w == 1) = true) := by simpa using h1
    rw [if_neg h1']
    by_cases h2 : w = 2
    ·subst h2
     refine ⟨(l.syn.2, l.syn.1, 2), (Ok.syn' hl).mono (by omega), ?_⟩
     rw [if_pos (by decide), gg_t (by decide), LSync_eq l hl.i, bd_s, rLSync_eq l hl.i, bd_s]
    ·have h2' : ¬ ((w == 2) = true) := by simpa using h2
     rw [if_neg h2']
     by_cases h3 : w = 3
     ·subst h3
      rw [if_pos (by decide), gg_t (by decide), Lay_eq l hl (by omega) rows (by omega), bd_s, rLay_eq l hl (by omega) rows (by omega), bd_s]
      dsimp only
      have hOk := Ok.lay' hl s1 hb (by omega)
      by_cases h40 : (l.lay rows).1 = 40
      ·refine ⟨((l.lay rows).2, (l.lay rows).1, 4), hOk, ?_⟩
       rw [if_pos (show ((l.lay rows).1 == 40) = true by simpa using h40), if_pos (show ((l.lay rows).1 == (l.lay rows).1) = true by simp)]
      ·refine ⟨((l.lay rows).2, (l.lay rows).1, 3), hOk, ?_⟩
       rw [if_neg (show ¬ (((l.lay rows).1 == 40) = true) by simpa using h40)]
     ·have h3' : ¬ ((w == 3) = true) := by simpa using h3
      rw [if_neg h3']
      exact ⟨(l, 0, w), hl.mono (by omega), rfl⟩
  ·rintro ⟨m, e, w⟩ hm
   dsimp only at hm ⊢
   rw [if_pos (show (e != e) = false by simp), sameR_eq _ _ (by omega) (fun p hp => by have := s1 p hp; omega), bd_s, decide_eq_true rfl]
   dsimp only
   rw [if_pos (by decide), sameDisk_eq m.D hm.D (by omega), bd_s]
   dsimp only
   rw [if_neg (by decide)]
   refine jn_res (C := Res _ _ _ _) (ι := Lg) (fun l => l.Ok (100 + 14 * gr (sc.take (k + 1)) + 100 * (k + 1))) (fun l => (true, (k : Int), RLg l, l.D.p, l.D.a, l.D.sa, l.D.b, l.D.sb, true, l.i, l.g, l.n, l.ps, ())) ?_ ?_
   ·intro K hK
    by_cases h4 : w = 4
    ·have hC := (hm.D.crs (ks := keeps) (pw := N))
     rw [if_pos (show (w == 4) = true by simpa using h4), copyInts_eq _ (by omega), bd_s]
     dsimp only
     rw [Crash_eq m.D keeps N (by omega) hm.D (by omega), bd_s]
     dsimp only
     rw [rCrash_eq m.D keeps N hm.D (by omega)]
     generalize m.D.crs keeps N = C at hC
     have hO2 := Ok.opn hC
     rw [Open_eq C hC (by omega), bd_s, bd_s]
     dsimp only
     rw [rOpen_eq C hC (by omega), bd_s]
     generalize C.opn = q at hO2
     obtain ⟨e2, l2⟩ := q
     dsimp only at hO2 ⊢
     by_cases he : e2 = 0
     ·subst he
      rw [if_neg (show ¬ ((0 : Int) ≠ 0) by decide)]
      dsimp only
      rw [if_pos (by decide), bd_s]
      dsimp only
      rw [if_neg (by decide)]
      exact hK l2 (hO2.mono (by omega))
     ·rw [if_pos he]
      dsimp only
      rw [if_pos (show (e2 != e2) = false by simp), bd_s]
      dsimp only
      rw [if_pos (by decide), if_pos (by decide), if_pos (show (e2 == e2) = true by simp)]
      left
      simp [he, mr_s]
    ·rw [if_neg (show ¬ ((w == 4) = true) by simpa using h4)]
     exact hK m (hm.mono (by omega))
   ·intro l2 h2
    have hps := h2.ps
    have hpl := h2.pl
    have hlen := wt_len l2.ps
    dsimp only
    rw [gg_t (by decide), Records_eq l2 (by omega), bd_s]
    dsimp only
    rw [sameR_eq _ _ (by omega) (fun p hp => by have := hpl p hp; omega), bd_s, decide_eq_true rfl]
    dsimp only
    rw [if_pos (by decide), gg_t rfl, Laid_eq l2, bd_s]
    dsimp only
    rw [if_pos (show (l2.n != l2.n) = false by simp), sameDisk_eq l2.D h2.D (by omega), bd_s]
    dsimp only
    rw [if_neg (by decide), w64 (n := (k : Int) + 1) (m := k + 1) (by omega) (by omega)]
    right
    exact ⟨_, rfl, ⟨k + 1, l2, by omega, h2, rfl⟩, by simp only [Int.toNat_natCast]; omega⟩
 ·have hlt : ¬ (decide ((k : Int) < (sc.length : Int)) = true) := by simp only [decide_eq_true_eq]; omega
  rw [if_neg hlt]
  left
  rfl
end Go.Proofs.Ytolfnhebnennpaa
end
