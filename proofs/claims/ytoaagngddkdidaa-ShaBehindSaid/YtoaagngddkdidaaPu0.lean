/- Plain laws. -/
import Derived.Test.YtoaagngddkdidaaW
import Derived.Test.YtoaagngddkdidaaY0
import Derived.Test.YtoaagngddkdidaaAlU
set_option linter.unusedVariables false
set_option linter.unusedSimpArgs false
set_option maxRecDepth 100000
noncomputable section
namespace Go.Proofs.Ytoaagngddkdidaa
open Go Go.Al

/-- A step for each number below n. -/
def itn {σ : Type} (f : Nat → σ → σ) : Nat → σ → σ
  | 0, s => s
  | n + 1, s => f n (itn f n s)
def rot (v n : Int) : Int := bitOr .u32 (shrI .u32 v n) (shlI .u32 v (32 - n))
def xr (a b : Int) : Int := bitXor .u32 a b
def an (a b : Int) : Int := bitAnd .u32 a b
def ad (a b : Int) : Int := IntKind.u32.wrap (a + b)
def wd (b : List Int) (i : Nat) : Int :=
  bitOr .u32 (bitOr .u32 (bitOr .u32 (shlI .u32 (IntKind.u32.wrap (b.getD (4 * i) 0)) 24) (shlI .u32 (IntKind.u32.wrap (b.getD (4 * i + 1) 0)) 16)) (shlI .u32 (IntKind.u32.wrap (b.getD (4 * i + 2) 0)) 8)) (IntKind.u32.wrap (b.getD (4 * i + 3) 0))
def sg (v : Int) (a b c : Int) : Int := xr (xr (rot v a) (rot v b)) (rot v c)
def sc (v : Int) (a b c : Int) : Int := xr (xr (rot v a) (rot v b)) (shrI .u32 v c)
abbrev gv {n : Nat} (w : Vector Int n) (i : Nat) : Int := w.toList.getD i 0
def sched (b : List Int) : Vector Int 64 :=
  itn (fun i w => vset w (i + 16) (ad (ad (ad (gv w i) (sc (gv w (i + 1)) 7 18 3)) (gv w (i + 9))) (sc (gv w (i + 14)) 17 19 10))) 48 (itn (fun i w => vset w i (wd b i)) 16 (Vector.replicate 64 0))
def kk : Vector Int 64 := match s_25 () with
  | some (v, _) => v
  | none => Vector.replicate 64 0
def rnd (w : Vector Int 64) (i : Nat) (v : Vector Int 8) : Vector Int 8 :=
  let x := ad (ad (ad (ad (gv v 7) (sg (gv v 4) 6 11 25)) (xr (an (gv v 4) (gv v 5)) (an (xr (gv v 4) 4294967295) (gv v 6)))) (gv kk i)) (gv w i)
  let y := ad (sg (gv v 0) 2 13 22) (xr (xr (an (gv v 0) (gv v 1)) (an (gv v 0) (gv v 2))) (an (gv v 1) (gv v 2)))
  vofl 7 0 [ad x y, gv v 0, gv v 1, gv v 2, ad (gv v 3) x, gv v 4, gv v 5, gv v 6]
def take (b : List Int) (s : Vector Int 8) : Vector Int 8 :=
  let v := itn (rnd (sched b)) 64 s
  itn (fun i t => vset t i (ad (gv t i) (gv v i))) 8 s
def iv : Vector Int 8 := vofl 7 0 [1779033703, 3144134277, 1013904242, 2773480762, 1359893119, 2600822924, 528734635, 1541459225]
/-- How many zeros. -/
def zs (n : Nat) : Nat := (119 - n % 64) % 64
def be8 (n : Nat) : List Int := (List.range 8).map fun i => ((8 * n / 2 ^ (56 - 8 * i) % 256 : Nat) : Int)
def padd (m : List Int) : List Int := m ++ [128] ++ List.replicate (zs m.length) 0 ++ be8 m.length
def b4 (n : Int) : List Int := [IntKind.u8.wrap (shrI .u32 n 24), IntKind.u8.wrap (shrI .u32 n 16), IntKind.u8.wrap (shrI .u32 n 8), IntKind.u8.wrap n]
def outb (s : Vector Int 8) : List Int := s.toList.flatMap b4
def sha (m : List Int) : List Int := outb ((chunks 64 (padd m)).foldl (fun s b => take b s) iv)

set_option maxHeartbeats 0 in
theorem sha_abc : sha [97, 98, 99] = [0xba, 0x78, 0x16, 0xbf, 0x8f, 0x01, 0xcf, 0xea, 0x41, 0x41, 0x40, 0xde, 0x5d, 0xae, 0x22, 0x23, 0xb0, 0x03, 0x61, 0xa3, 0x96, 0x17, 0x7a, 0x9c, 0xb4, 0x10, 0xff, 0x61, 0xf2, 0x00, 0x15, 0xad] := by kernel_rfl

theorem gg_t {α : Type} {p : Prop} {_ : Decidable p} {m : Option α} (h : p) : gg p m = m := gg_eq.trans (gd_eq h)
theorem bd_s {α β : Type} {v : α} {f : α → Option β} : bd (some v) f = f v := rfl
theorem mr_s {σ A : Type} {a : A} : (mr (some a) : Option (σ ⊕ A)) = some (.inr a) := rfl
theorem lp_upto {σ A : Type} {body : σ → Option (σ ⊕ A)} (f : Nat → σ) (n : Nat) {a : A} {s : σ} (h0 : s = f 0) (hs : ∀ i, i < n → body (f i) = some (.inl (f (i + 1)))) (he : body (f n) = some (.inr a)) : lp s body = some a := by
  subst h0; exact loop_upto f n hs he 0 (Nat.zero_le _)
theorem w64 {n : Int} {m : Nat} (h : n = (m : Int)) (h' : m < 2 ^ 62) : IntKind.i64.wrap n = (m : Int) := by rw [h]; exact wrap64 (by omega) (by omega)
theorem itn_succ {σ : Type} (f : Nat → σ → σ) (n : Nat) (s : σ) : itn f (n + 1) s = f n (itn f n s) := rfl
theorem bitOr_comm (k : IntKind) (a b : Int) : bitOr k a b = bitOr k b a := by unfold bitOr; rw [BitVec.or_comm]
theorem bitXor_comm (k : IntKind) (a b : Int) : bitXor k a b = bitXor k b a := by unfold bitXor; rw [BitVec.xor_comm]
/-- Turns that are used. -/
def Trn (n : Int) : Prop := n ∈ [(7 : Int), 18, 17, 19, 6, 11, 25, 2, 13, 22]
theorem s28_eq (x n : Int) (h : Trn n) : s_28 (x, IntKind.i64.wrap (0 - n), ()) = some (rot x n, ()) := by
  simp only [Trn, List.mem_cons, List.not_mem_nil, or_false] at h
  unfold s_28 rot
  rw [bitOr_comm]
  rcases h with rfl | rfl | rfl | rfl | rfl | rfl | rfl | rfl | rfl | rfl <;> kernel_rfl
theorem s21_eq (x n : Int) (h : Trn n) : s_21 (x, n, ()) = some (rot x n, ()) := by
  simp only [Trn, List.mem_cons, List.not_mem_nil, or_false] at h
  unfold s_21 rot
  rcases h with rfl | rfl | rfl | rfl | rfl | rfl | rfl | rfl | rfl | rfl <;> kernel_rfl
theorem s26_eq (x : Int) (l : List Int) (h : ∀ n ∈ l, Trn n) (hl : l.length < 100) : s_26 (x, l, ()) = some (l.foldl (fun s n => bitXor .u32 s (rot x n)) 0, ()) := by
  unfold s_26
  refine lp_upto (fun i => ((l.take i).foldl (fun s n => bitXor .u32 s (rot x n)) 0, (i : Int), ())) l.length rfl (fun i hi => ?_) ?_
  · have hg : l.getD i 0 = l[i] := by simp [List.getD, hi]
    have ht : l.take (i + 1) = l.take i ++ [l[i]] := by rw [List.take_succ_eq_append_getElem hi]
    have hlt : decide ((i : Int) < (l.length : Int)) = true := by simpa using hi
    simp only [hlt, if_true, Int.toNat_natCast]
    rw [gg_t (by omega), hg, s28_eq x _ (h _ (List.getElem_mem hi)), bd_s, w64 (m := i + 1) (by omega) (by omega), ht, List.foldl_append]
    rfl
  · have hlt : decide ((l.length : Int) < (l.length : Int)) = false := by simp
    simp only [hlt]
    rw [List.take_length]
    rfl
theorem u32_wrap (n : Nat) (h : n < 2 ^ 32) : IntKind.u32.wrap (n : Int) = n := by
  rw [IntKind.wrap_u32]; omega
theorem xor0 {n : Int} (h : 0 ≤ n) (h' : n < 2 ^ 32) : bitXor .u32 0 n = n := by
  obtain ⟨m, rfl⟩ := Int.eq_ofNat_of_zero_le h
  unfold bitXor
  have h1 : BitVec.ofInt IntKind.u32.bits (0 : Int) ^^^ BitVec.ofInt IntKind.u32.bits (m : Int) = BitVec.ofNat 32 m := by
    show BitVec.ofInt 32 (0 : Int) ^^^ BitVec.ofInt 32 (m : Int) = _
    rw [BitVec.ofInt_natCast]
    simp
  have h2 : (BitVec.ofInt IntKind.u32.bits (0 : Int) ^^^ BitVec.ofInt IntKind.u32.bits (m : Int)).toNat = m := by
    have := congrArg BitVec.toNat h1
    rw [this]
    show (BitVec.ofNat 32 m).toNat = m
    rw [BitVec.toNat_ofNat, Nat.mod_eq_of_lt (by omega)]
  rw [h2]
  exact u32_wrap m (by omega)
theorem bitOr_rng (a b : Int) : 0 ≤ bitOr .u32 a b ∧ bitOr .u32 a b < 2 ^ 32 := by
  unfold bitOr
  have := (BitVec.ofInt IntKind.u32.bits a ||| BitVec.ofInt IntKind.u32.bits b).isLt
  have h2 : (BitVec.ofInt IntKind.u32.bits a ||| BitVec.ofInt IntKind.u32.bits b).toNat < 2 ^ 32 := this
  rw [u32_wrap _ h2]
  omega
theorem xor0_rot (x n : Int) : bitXor .u32 0 (rot x n) = rot x n := xor0 (bitOr_rng _ _).1 (bitOr_rng _ _).2
theorem turned2 (x a b : Int) (ha : Trn a) (hb : Trn b) : s_26 (x, [a, b], ()) = some (xr (rot x a) (rot x b), ()) := by
  rw [s26_eq x _ (by simp [ha, hb]) (by simp)]
  simp only [List.foldl_cons, List.foldl_nil, xor0_rot, xr]
theorem turned3 (x a b c : Int) (ha : Trn a) (hb : Trn b) (hc : Trn c) : s_26 (x, [a, b, c], ()) = some (sg x a b c, ()) := by
  rw [s26_eq x _ (by simp [ha, hb, hc]) (by simp)]
  simp only [List.foldl_cons, List.foldl_nil, xor0_rot, xr, sg]
theorem trn (n : Int) (h : [(7 : Int), 18, 17, 19, 6, 11, 25, 2, 13, 22].contains n = true) : Trn n := by simpa [Trn] using h

theorem s27_eq (b : List Int) (i : Nat) (h : 4 * i + 4 ≤ b.length) : s_27 (b.drop (4 * i), ()) = some (wd b i, ()) := by
  unfold s_27 wd
  have h1 : (b.drop (4 * i)).length = b.length - 4 * i := List.length_drop
  have hg : ∀ j, (b.drop (4 * i)).getD j 0 = b.getD (4 * i + j) 0 := fun j => by simp [List.getD, List.getElem?_drop]
  simp only [h1, hg]
  rw [gg_t (by omega), gg_t (by omega), gg_t (by omega), gg_t (by omega)]
  rfl
theorem s24_eq (b : List Int) (h : 64 ≤ b.length) : s_24 (b, ()) = some (sched b, ()) := by
  unfold s_24
  refine lp_upto (fun i => ((i : Int), itn (fun i w => vset w i (wd b i)) i (Vector.replicate 64 0), ())) 16 rfl (fun i hi => ?_) ?_
  · have hlt : decide ((i : Int) < 16) = true := by simp; omega
    have e1 : IntKind.i64.wrap (4 * (i : Int)) = ((4 * i : Nat) : Int) := w64 (by omega) (by omega)
    simp only [hlt, if_true, e1, Int.toNat_natCast]
    rw [gg_t (by omega), s27_eq b i (by omega), bd_s, gg_t (by omega), gg_t (by omega), w64 (m := i + 1) (by omega) (by omega)]
    rfl
  · have hlt : decide (((16 : Nat) : Int) < 16) = false := rfl
    simp only [hlt]
    refine congrArg mr (a₂ := some (sched b, ())) (lp_upto (fun i => (((i + 16 : Nat) : Int), itn (fun i w => vset w (i + 16) (ad (ad (ad (gv w i) (sc (gv w (i + 1)) 7 18 3)) (gv w (i + 9))) (sc (gv w (i + 14)) 17 19 10))) i (itn (fun i w => vset w i (wd b i)) 16 (Vector.replicate 64 0)), Vector.replicate 64 (0 : Int), ())) 48 rfl (fun i hi => ?_) ?_)
    · have hlt : decide (((i + 16 : Nat) : Int) < 64) = true := by simp; omega
      have e1 : IntKind.i64.wrap (((i + 16 : Nat) : Int) - 15) = ((i + 1 : Nat) : Int) := w64 (by omega) (by omega)
      have e2 : IntKind.i64.wrap (((i + 16 : Nat) : Int) - 2) = ((i + 14 : Nat) : Int) := w64 (by omega) (by omega)
      have e3 : IntKind.i64.wrap (((i + 16 : Nat) : Int) - 16) = ((i : Nat) : Int) := w64 (by omega) (by omega)
      have e4 : IntKind.i64.wrap (((i + 16 : Nat) : Int) - 7) = ((i + 9 : Nat) : Int) := w64 (by omega) (by omega)
      simp only [hlt, if_true, e1, e2, Int.toNat_natCast, Vector.length_toList]
      rw [gg_t (by omega), gg_t (by omega), gg_t (by omega), gg_t (by omega), bd_s]
      simp only [e3, e4, Int.toNat_natCast, Vector.length_toList]
      rw [gg_t (by omega), gg_t (by omega), gg_t (by omega), gg_t (by omega), turned2 _ _ _ (trn _ rfl) (trn _ rfl), bd_s, turned2 _ _ _ (trn _ rfl) (trn _ rfl), bd_s, gg_t (by omega), gg_t (by omega), w64 (m := i + 1 + 16) (by omega) (by omega)]
      rfl
    · have hlt : decide (((48 + 16 : Nat) : Int) < 64) = false := rfl
      simp only [hlt]
      rfl

theorem bitNot_eq (a : Int) : bitNot .u32 a = xr a 4294967295 := by
  unfold bitNot xr bitXor
  rw [BitVec.xor_comm]
  rfl
/-- Eight words, one by one. -/
theorem eight (v : Vector Int 8) : v.toList = [gv v 0, gv v 1, gv v 2, gv v 3, gv v 4, gv v 5, gv v 6, gv v 7] := by
  have hl : v.toList.length = 8 := Vector.length_toList
  simp only [gv]
  generalize v.toList = l at *
  match l, hl with
  | [a, b, c, d, e, f, g, h], _ => rfl
theorem vofl_toList {n : Nat} (l : List Int) (h : l.length = n + 1) : (vofl n 0 l).toList = l := by
  apply List.ext_getElem
  · simp [h]
  · intro i h1 h2
    simp [vofl, List.getD, h2]
theorem shift (v : Vector Int 8) (a b : Int) : vset (vset (vofl (nat_lit 7) 0 (spl 1 (List.take 7 (List.take 7 (List.drop 0 v.toList))) v.toList)) 4 (IntKind.u32.wrap (a))) 0 b = vofl 7 0 [b, gv v 0, gv v 1, gv v 2, IntKind.u32.wrap a, gv v 4, gv v 5, gv v 6] := by
  apply Vector.toList_inj.1
  have e := eight v
  rw [vset_toList, vset_toList, vofl_toList _ (by rw [e]; rfl), vofl_toList _ rfl, e]
  rfl
theorem s25_eq : s_25 () = some (kk, ()) := rfl
theorem s20_eq : s_20 () = some (kk, ()) := rfl
theorem s19_eq (b : List Int) (s : Vector Int 8) (h : 64 ≤ b.length) : s_19 (b, s, ()) = some (take b s, ()) := by
  unfold s_19
  rw [s24_eq b h, bd_s, s25_eq, bd_s]
  refine lp_upto (fun i => ((i : Int), s, sched b, kk, itn (rnd (sched b)) i s, ())) 64 rfl (fun i hi => ?_) ?_
  · have hlt : decide ((i : Int) < 64) = true := by simp; omega
    generalize hv : itn (rnd (sched b)) i s = v
    simp only [hlt, if_true, Vector.length_toList]
    rw [gg_t (by omega), gg_t (by omega), bd_s]
    simp only [Vector.length_toList, Int.toNat_natCast]
    rw [gg_t (by omega), gg_t (by omega), gg_t (by omega), gg_t (by omega), gg_t (by omega), gg_t (by omega), gg_t (by omega), turned3 _ _ _ _ (trn _ rfl) (trn _ rfl) (trn _ rfl), bd_s, bd_s]
    simp only [Vector.length_toList]
    rw [gg_t (by omega), gg_t (by omega), gg_t (by omega), gg_t (by omega)]
    rw [turned3 _ _ _ _ (trn _ rfl) (trn _ rfl) (trn _ rfl), bd_s, bd_s, gg_t (by omega)]
    dsimp only
    rw [w64 (m := i + 1) (by omega) (by omega), itn_succ, hv, bitNot_eq, shift]
    rw [eight v]
    rfl
  · have hlt : decide (((64 : Nat) : Int) < 64) = false := rfl
    simp only [hlt]
    refine congrArg mr (a₂ := some (take b s, ())) (lp_upto (fun i => ((i : Int), itn (fun i t => vset t i (ad (gv t i) (gv (itn (rnd (sched b)) 64 s) i))) i s, ())) 8 rfl (fun i hi => ?_) ?_)
    · have hlt : decide ((i : Int) < 8) = true := by simp; omega
      simp only [hlt, if_true, Vector.length_toList, Int.toNat_natCast]
      rw [gg_t (by omega), gg_t (by omega), gg_t (by omega), gg_t (by omega), gg_t (by omega), gg_t (by omega), w64 (m := i + 1) (by omega) (by omega)]
      rfl
    · have hlt : decide (((8 : Nat) : Int) < 8) = false := rfl
      simp only [hlt]
      rfl

theorem take_flat {α : Type} (l : List (List α)) {i : Nat} (h : i < l.length) : (l.take (i + 1)).flatten = (l.take i).flatten ++ l.getD i [] := by
  have hg : l.getD i [] = l[i] := by simp [List.getD, h]
  rw [List.take_succ_eq_append_getElem h, List.flatten_append, hg]; simp
theorem flat_le {α : Type} (l : List (List α)) (i : Nat) : (l.take i).flatten.length ≤ l.flatten.length := by
  have := congrArg (fun l => l.flatten.length) (List.take_append_drop i l)
  simp only [List.flatten_append, List.length_append] at this
  omega
theorem s17g_eq (p : List (List Int)) (h : p.flatten.length ≤ 2 ^ 40) (h' : p.length ≤ 2 ^ 44) : s_17g (p, ()) = some (p.flatten, ()) := by
  unfold s_17g
  refine lp_upto (fun i => (((p.take i).flatten.length : Int), (i : Int), ())) p.length rfl (fun i hi => ?_) ?_
  · have hlt : decide ((i : Int) < (p.length : Int)) = true := by simpa using hi
    have h1 := flat_le p (i + 1)
    have h2 := congrArg List.length (take_flat p hi)
    rw [List.length_append] at h2
    simp only [hlt, if_true, Int.toNat_natCast]
    have e1 : IntKind.i64.wrap (((p.take i).flatten.length : Int) + ((p.getD i []).length : Int)) = ((p.take (i + 1)).flatten.length : Int) := w64 (by omega) (by omega)
    have hn : decide (((p.take (i + 1)).flatten.length : Int) < 0) = false := by simp
    rw [gg_t (by omega)]
    simp only [e1, hn]
    rw [w64 (m := i + 1) (by omega) (by omega)]
    rfl
  · have hlt : decide ((p.length : Int) < (p.length : Int)) = false := by simp
    simp only [hlt, List.take_length]
    show mr (gg _ _) = _
    rw [gg_t (by omega)]
    refine congrArg mr (a₂ := some (p.flatten, ())) (lp_upto (fun i => ((i : Int), (p.take i).flatten, ())) p.length rfl (fun i hi => ?_) ?_)
    · have hlt : decide ((i : Int) < (p.length : Int)) = true := by simpa using hi
      have h1 := flat_le p (i + 1)
      have h2 := congrArg List.length (take_flat p hi)
      rw [List.length_append] at h2
      simp only [hlt, if_true, Int.toNat_natCast]
      rw [gg_t (by omega), gg_t (by omega), w64 (m := i + 1) (by omega) (by omega), take_flat p hi]
    · have hlt : decide ((p.length : Int) < (p.length : Int)) = false := by simp
      simp only [hlt, List.take_length]
      rfl
theorem tm64 (n : Nat) : ((n : Int).tmod (64 : Int) != 56) = !decide (n % 64 = 56) := by
  rw [Int.tmod_eq_emod_of_nonneg (by omega)]
  by_cases h : n % 64 = 56
  · have : ((n : Int) % 64) = 56 := by omega
    simp [h, this]
  · have : ((n : Int) % 64) ≠ 56 := by omega
    simp [h, this]
theorem len_be8 (n : Nat) : (be8 n).length = 8 := by simp [be8]
theorem len_padd (m : List Int) : (padd m).length % 64 = 0 ∧ (padd m).length ≤ m.length + 100 := by
  simp only [padd, List.length_append, List.length_cons, List.length_nil, List.length_replicate, len_be8, zs]
  omega
theorem be8_get (n i : Nat) (h : i < 8) : (be8 n).take (i + 1) = (be8 n).take i ++ [((8 * n / 2 ^ (56 - 8 * i) % 256 : Nat) : Int)] := by
  rw [List.take_succ_eq_append_getElem (by simpa [be8] using h)]
  simp [be8]
theorem shr_nat (k : IntKind) (n s : Nat) (h : s ≤ k.bits) : shrI k (n : Int) (s : Int) = ((n / 2 ^ s : Nat) : Int) := by
  unfold shrI
  rw [Int.toNat_natCast, Nat.min_eq_left h]
  have : (2 : Int) ^ s = ((2 ^ s : Nat) : Int) := by simp
  rw [this, Int.fdiv_eq_ediv_of_nonneg _ (Int.natCast_nonneg _)]
  rfl
theorem u8_nat (n : Nat) : IntKind.u8.wrap (n : Int) = ((n % 256 : Nat) : Int) := by rw [IntKind.wrap_u8]; omega
theorem u64_8 (n : Nat) (h : n < 2 ^ 60) : IntKind.u64.wrap (IntKind.u64.wrap (n : Int) * 8) = ((8 * n : Nat) : Int) := by
  rw [IntKind.wrap_u64, IntKind.wrap_u64]; omega
theorem rgl_eq {D X : Type} {b : D → X → Option D} {f : D → X → D} {cs : List X} {s : D} (h : ∀ x ∈ cs, ∀ s, b s x = some (f s x)) : rgl b cs s = some (cs.foldl f s) := by
  have h1 : ∀ x ∈ cs, ∀ s, (b s x).isSome = true := fun x hx s => by rw [h x hx s]; rfl
  unfold rgl
  rw [if_pos h1]
  clear h1
  induction cs generalizing s with
  | nil => rfl
  | cons x cs ih =>
    rw [List.foldlM_cons, h x (by simp) s]
    exact ih fun y hy s => h y (by simp [hy]) s
theorem chunk_len {m : List Int} (h : m.length % 64 = 0) {c : List Int} (hc : c ∈ chunks 64 m) : c.length = 64 := by
  simp only [chunks, List.mem_map, List.mem_range] at hc
  obtain ⟨i, hi, rfl⟩ := hc
  rw [List.length_take, List.length_drop]
  omega
theorem fold_fst (cs : List (List Int)) (s : Vector Int 8) : cs.foldl (fun (s : Vector Int 8 × PUnit) ch => (take ch s.1, ())) (s, ()) = (cs.foldl (fun s b => take b s) s, ()) := by
  induction cs generalizing s with
  | nil => rfl
  | cons c cs ih => simp only [List.foldl_cons]; exact ih _
theorem flatMap_b4 (l : List Int) (i : Nat) (h : i < l.length) : (l.take (i + 1)).flatMap b4 = (l.take i).flatMap b4 ++ b4 (l.getD i 0) := by
  have hg : l.getD i 0 = l[i] := by simp [List.getD, h]
  rw [List.take_succ_eq_append_getElem h, List.flatMap_append, hg]; simp
theorem len_fm (l : List Int) : (l.flatMap b4).length = 4 * l.length := by
  induction l with
  | nil => rfl
  | cons x l ih => simp only [List.flatMap_cons, List.length_append, ih, List.length_cons]; simp [b4]; omega

theorem s11_eq (p : List (List Int)) (h : p.flatten.length ≤ 2 ^ 40) (h' : p.length ≤ 2 ^ 44) : s_11 (p, ()) = some (sha p.flatten, ()) := by
  unfold s_11
  rw [s17g_eq p h h', bd_s]
  generalize p.flatten = m at h
  simp only [bd_s]
  rw [gg_t (by omega)]
  refine lp_upto (fun i => (m ++ [128] ++ List.replicate i 0, ())) (zs m.length) (by simp) (fun i hi => ?_) ?_
  · have hl : (m ++ [128] ++ List.replicate i (0 : Int)).length = m.length + 1 + i := by simp; omega
    simp only [hl, tm64]
    have hz : ¬ (m.length + 1 + i) % 64 = 56 := by unfold zs at hi; omega
    have hz' : zs m.length ≤ 64 := by unfold zs; omega
    simp only [hz, decide_false, Bool.not_false, if_true]
    rw [gg_t (by omega)]
    simp [List.replicate_succ']
  · have hl : (m ++ [128] ++ List.replicate (zs m.length) (0 : Int)).length = m.length + 1 + zs m.length := by simp; omega
    have hz : (m.length + 1 + zs m.length) % 64 = 56 := by unfold zs; omega
    have hz' : zs m.length ≤ 64 := by unfold zs; omega
    simp only [hl, tm64, hz, decide_true, Bool.not_true, Bool.false_eq_true, if_false]
    refine congrArg mr (a₂ := some (sha m, ())) (lp_upto (fun i => ((i : Int), m ++ [128] ++ List.replicate (zs m.length) (0 : Int) ++ (be8 m.length).take i, ())) 8 (by simp) (fun i hi => ?_) ?_)
    · have hlt : decide ((i : Int) < 8) = true := by simp; omega
      have hl2 : (m ++ [128] ++ List.replicate (zs m.length) (0 : Int) ++ (be8 m.length).take i).length = m.length + 1 + zs m.length + i := by
        rw [List.length_append, hl, List.length_take, len_be8]; omega
      have e1 : IntKind.i64.wrap (56 - IntKind.i64.wrap (8 * (i : Int))) = ((56 - 8 * i : Nat) : Int) := by
        rw [w64 (n := 8 * (i : Int)) (m := 8 * i) (by omega) (by omega)]
        exact w64 (by omega) (by omega)
      simp only [hlt, if_true, e1, hl2]
      rw [gg_t (by omega), gg_t (by omega), w64 (m := i + 1) (by omega) (by omega), u64_8 _ (by omega), shr_nat _ _ _ (by show _ ≤ 64; omega), u8_nat, be8_get _ _ hi]
      simp
    · have hlt : decide (((8 : Nat) : Int) < 8) = false := rfl
      have hb : (be8 m.length).take 8 = be8 m.length := by rw [List.take_of_length_le]; rw [len_be8]; omega
      simp only [hlt, hb]
      have hp : m ++ [128] ++ List.replicate (zs m.length) (0 : Int) ++ be8 m.length = padd m := rfl
      obtain ⟨q1, q2⟩ := len_padd m
      rw [hp]
      show mr (gg _ _) = _
      rw [gg_t (by omega), rgl_eq (f := fun s ch => (take ch s.1, ())) (fun c hc s => by rw [s19_eq c s.1 (by have := chunk_len q1 hc; omega), bd_s]), bd_s, fold_fst]
      generalize hs : (chunks 64 (padd m)).foldl (fun s b => take b s) iv = st
      have hs' : (chunks 64 (padd m)).foldl (fun s b => take b s) (vofl (nat_lit 7) 0 [1779033703, (3144134277 : Int), (1013904242 : Int), (2773480762 : Int), (1359893119 : Int), (2600822924 : Int), (528734635 : Int), (1541459225 : Int)]) = st := hs
      rw [hs']
      have hsl : st.toList.length = 8 := Vector.length_toList
      refine congrArg mr (a₂ := some (sha m, ())) (lp_upto (fun i => ((i : Int), (st.toList.take i).flatMap b4, ())) 8 rfl (fun i hi => ?_) ?_)
      · have hlt : decide ((i : Int) < 8) = true := by simp; omega
        have hl3 : ((st.toList.take i).flatMap b4).length = 4 * i := by rw [len_fm, List.length_take, hsl]; omega
        simp only [hlt, if_true, Int.toNat_natCast]
        rw [gg_t (by omega), bd_s]
        simp only [hl3]
        rw [gg_t (by omega), w64 (m := i + 1) (by omega) (by omega), flatMap_b4 _ _ (by omega)]
        rfl
      · have hlt : decide (((8 : Nat) : Int) < 8) = false := rfl
        simp only [hlt]
        rw [show (st.toList.take 8) = st.toList from List.take_of_length_le (by omega)]
        show mr (some _) = mr (some _)
        unfold sha outb
        rw [hs]

theorem wneg {n : Int} (h : -2 ^ 62 ≤ n) (h' : n < 2 ^ 62) : IntKind.i64.wrap n = n := wrap64 (by omega) (by omega)
theorem chunk_getD (m : List Int) (j i : Nat) (h : i < 64) : ((m.drop (j * 64)).take 64).getD i 0 = m.getD (64 * j + i) 0 := by
  simp [List.getD, List.getElem?_take, List.getElem?_drop, h, Nat.mul_comm]
theorem wd_chunk (m : List Int) (j i : Nat) (h : i < 16) : wd ((m.drop (j * 64)).take 64) i =
    bitOr .u32 (bitOr .u32 (bitOr .u32 (shlI .u32 (IntKind.u32.wrap (m.getD (64 * j + 4 * i) 0)) 24) (shlI .u32 (IntKind.u32.wrap (m.getD (64 * j + 4 * i + 1) 0)) 16)) (shlI .u32 (IntKind.u32.wrap (m.getD (64 * j + 4 * i + 2) 0)) 8)) (IntKind.u32.wrap (m.getD (64 * j + 4 * i + 3) 0)) := by
  unfold wd
  rw [chunk_getD _ _ _ (by omega), chunk_getD _ _ _ (by omega), chunk_getD _ _ _ (by omega), chunk_getD _ _ _ (by omega)]
  rfl
theorem chunks_take {m : List Int} (h : m.length % 64 = 0) {j : Nat} (hj : j < m.length / 64) : (chunks 64 m).take (j + 1) = (chunks 64 m).take j ++ [(m.drop (j * 64)).take 64] := by
  have hl : (chunks 64 m).length = m.length / 64 := by simp [chunks]; omega
  rw [List.take_succ_eq_append_getElem (by omega)]
  simp [chunks]

set_option maxHeartbeats 1000000 in
theorem s12_eq (m : List Int) (h : m.length ≤ 2 ^ 40) : s_12 (m, ()) = some (sha m, ()) := by
  unfold s_12
  simp only
  rw [gg_t (by omega), gg_t (by omega)]
  refine lp_upto (fun i => (m ++ [128] ++ List.replicate i 0, ())) (zs m.length) (by simp) (fun i hi => ?_) ?_
  · have hl : (m ++ [128] ++ List.replicate i (0 : Int)).length = m.length + 1 + i := by simp; omega
    simp only [hl, tm64]
    have hz : ¬ (m.length + 1 + i) % 64 = 56 := by unfold zs at hi; omega
    have hz' : zs m.length ≤ 64 := by unfold zs; omega
    simp only [hz, decide_false, Bool.not_false, if_true]
    rw [gg_t (by omega)]
    simp [List.replicate_succ']
  · have hl : (m ++ [128] ++ List.replicate (zs m.length) (0 : Int)).length = m.length + 1 + zs m.length := by simp; omega
    have hz : (m.length + 1 + zs m.length) % 64 = 56 := by unfold zs; omega
    have hz' : zs m.length ≤ 64 := by unfold zs; omega
    simp only [hl, tm64, hz, decide_true, Bool.not_true, Bool.false_eq_true, if_false, bd_s]
    refine congrArg mr (a₂ := some (sha m, ())) (lp_upto (fun i => ((7 : Int) - (i : Int), m ++ [128] ++ List.replicate (zs m.length) (0 : Int) ++ (be8 m.length).take i, ())) 8 (by simp) (fun i hi => ?_) ?_)
    · have hlt : decide (0 ≤ (7 : Int) - (i : Int)) = true := by simp; omega
      have hl2 : (m ++ [128] ++ List.replicate (zs m.length) (0 : Int) ++ (be8 m.length).take i).length = m.length + 1 + zs m.length + i := by
        rw [List.length_append, hl, List.length_take, len_be8]; omega
      have e1 : IntKind.u64.wrap (IntKind.i64.wrap (8 * ((7 : Int) - (i : Int)))) = ((56 - 8 * i : Nat) : Int) := by
        rw [w64 (n := 8 * ((7 : Int) - (i : Int))) (m := 56 - 8 * i) (by omega) (by omega), IntKind.wrap_u64]
        omega
      simp only [hlt, if_true, e1, hl2]
      rw [gg_t (by omega), gg_t (by omega), wneg (by omega) (by omega), u64_8 _ (by omega), shr_nat _ _ _ (by show _ ≤ 64; omega), u8_nat, be8_get _ _ hi]
      have : (7 : Int) - (i : Int) - 1 = 7 - ((i + 1 : Nat) : Int) := by omega
      rw [this]
      simp
    · have hlt : decide (0 ≤ (7 : Int) - ((8 : Nat) : Int)) = false := rfl
      have hb : (be8 m.length).take 8 = be8 m.length := by rw [List.take_of_length_le]; rw [len_be8]; omega
      simp only [hlt, hb]
      have hp : m ++ [128] ++ List.replicate (zs m.length) (0 : Int) ++ be8 m.length = padd m := rfl
      obtain ⟨q1, q2⟩ := len_padd m
      rw [hp]
      generalize hM : padd m = M at q1 q2
      show mr (bd _ _) = _
      rw [s20_eq, bd_s]
      have hcl : (chunks 64 M).length = M.length / 64 := by simp [chunks]; omega
      refine congrArg mr (a₂ := some (sha m, ())) (lp_upto (fun j => (((64 * j : Nat) : Int), M, kk, ((chunks 64 M).take j).foldl (fun s b => take b s) iv, ())) (M.length / 64) rfl (fun j hj => ?_) ?_)
      · have hlt : decide (((64 * j : Nat) : Int) < (M.length : Int)) = true := by simp; omega
        simp only [hlt, if_true]
        rw [chunks_take q1 hj, List.foldl_append]
        generalize ((chunks 64 M).take j).foldl (fun s b => take b s) iv = S
        simp only [List.foldl_cons, List.foldl_nil]
        generalize hc : (M.drop (j * 64)).take 64 = c
        have hwd := fun i hi => (congrArg (fun c => wd c i) hc).symm.trans (wd_chunk M j i hi)
        refine lp_upto (fun i => ((i : Int), M, kk, S, itn (fun i w => vset w i (wd c i)) i (Vector.replicate 64 0), ())) 16 rfl (fun i hi => ?_) ?_
        · have hlt : decide ((i : Int) < 16) = true := by simp; omega
          have e1 : IntKind.i64.wrap (((64 * j : Nat) : Int) + IntKind.i64.wrap (4 * (i : Int))) = ((64 * j + 4 * i : Nat) : Int) := by
            rw [w64 (n := 4 * (i : Int)) (m := 4 * i) (by omega) (by omega)]
            exact w64 (by omega) (by omega)
          have f1 : IntKind.i64.wrap (((64 * j + 4 * i : Nat) : Int) + 1) = ((64 * j + 4 * i + 1 : Nat) : Int) := w64 (by omega) (by omega)
          have f2 : IntKind.i64.wrap (((64 * j + 4 * i : Nat) : Int) + 2) = ((64 * j + 4 * i + 2 : Nat) : Int) := w64 (by omega) (by omega)
          have f3 : IntKind.i64.wrap (((64 * j + 4 * i : Nat) : Int) + 3) = ((64 * j + 4 * i + 3 : Nat) : Int) := w64 (by omega) (by omega)
          simp only [hlt, if_true, bd_s, e1, f1, f2, f3, Int.toNat_natCast]
          rw [gg_t (by omega), gg_t (by omega), gg_t (by omega), gg_t (by omega), gg_t (by omega), gg_t (by omega), w64 (m := i + 1) (by omega) (by omega), itn_succ, hwd i hi]
        · have hlt : decide (((16 : Nat) : Int) < 16) = false := rfl
          simp only [hlt]
          refine congrArg mr (a₂ := some (Sum.inl (((64 * (j + 1) : Nat) : Int), M, kk, take c S, ()))) ?_
          refine lp_upto (fun i => (((i + 16 : Nat) : Int), M, kk, S, itn (fun i w => vset w (i + 16) (ad (ad (ad (gv w i) (sc (gv w (i + 1)) 7 18 3)) (gv w (i + 9))) (sc (gv w (i + 14)) 17 19 10))) i (itn (fun i w => vset w i (wd c i)) 16 (Vector.replicate 64 0)), ())) 48 rfl (fun i hi => ?_) ?_
          · have hlt : decide (((i + 16 : Nat) : Int) < 64) = true := by simp; omega
            have e1 : IntKind.i64.wrap (((i + 16 : Nat) : Int) - 15) = ((i + 1 : Nat) : Int) := w64 (by omega) (by omega)
            have e2 : IntKind.i64.wrap (((i + 16 : Nat) : Int) - 2) = ((i + 14 : Nat) : Int) := w64 (by omega) (by omega)
            have e3 : IntKind.i64.wrap (((i + 16 : Nat) : Int) - 16) = ((i : Nat) : Int) := w64 (by omega) (by omega)
            have e4 : IntKind.i64.wrap (((i + 16 : Nat) : Int) - 7) = ((i + 9 : Nat) : Int) := w64 (by omega) (by omega)
            simp only [hlt, if_true, e1, Int.toNat_natCast, Vector.length_toList]
            rw [gg_t (by omega), gg_t (by omega), gg_t (by omega), gg_t (by omega), gg_t (by omega), gg_t (by omega), s21_eq _ _ (trn _ rfl), bd_s, s21_eq _ _ (trn _ rfl), bd_s, bd_s]
            simp only [e2, Int.toNat_natCast, Vector.length_toList]
            rw [gg_t (by omega), gg_t (by omega), gg_t (by omega), gg_t (by omega), gg_t (by omega), gg_t (by omega), s21_eq _ _ (trn _ rfl), bd_s, s21_eq _ _ (trn _ rfl), bd_s, bd_s]
            simp only [e3, e4, Int.toNat_natCast, Vector.length_toList]
            rw [gg_t (by omega), gg_t (by omega), gg_t (by omega), gg_t (by omega), gg_t (by omega), gg_t (by omega), w64 (m := i + 1 + 16) (by omega) (by omega)]
            rfl
          · have hlt : decide (((48 + 16 : Nat) : Int) < 64) = false := rfl
            simp only [hlt]
            refine congrArg mr (a₂ := some (Sum.inl (((64 * (j + 1) : Nat) : Int), M, kk, take c S, ()))) ?_
            show lp ((0 : Int), M, kk, S, sched c, S, ()) _ = _
            refine lp_upto (fun i => ((i : Int), M, kk, S, sched c, itn (rnd (sched c)) i S, ())) 64 rfl (fun i hi => ?_) ?_
            · have hlt : decide ((i : Int) < 64) = true := by simp; omega
              generalize hv : itn (rnd (sched c)) i S = v
              simp only [hlt, if_true, Vector.length_toList, Int.toNat_natCast]
              rw [gg_t (by omega), gg_t (by omega), gg_t (by omega), gg_t (by omega), gg_t (by omega), gg_t (by omega), gg_t (by omega), gg_t (by omega), gg_t (by omega), gg_t (by omega), gg_t (by omega), gg_t (by omega),
                s21_eq _ _ (trn _ rfl), bd_s, s21_eq _ _ (trn _ rfl), bd_s, s21_eq _ _ (trn _ rfl), bd_s, bd_s]
              simp only [Vector.length_toList]
              rw [gg_t (by omega), gg_t (by omega), gg_t (by omega), gg_t (by omega), gg_t (by omega), gg_t (by omega), gg_t (by omega), gg_t (by omega), gg_t (by omega),
                s21_eq _ _ (trn _ rfl), bd_s, s21_eq _ _ (trn _ rfl), bd_s, s21_eq _ _ (trn _ rfl), bd_s, bd_s]
              simp only [Vector.length_toList]
              rw [gg_t (by omega), gg_t (by omega), gg_t (by omega), gg_t (by omega), gg_t (by omega), gg_t (by omega), gg_t (by omega), w64 (m := i + 1) (by omega) (by omega), itn_succ, hv]
              rfl
            · have hlt : decide (((64 : Nat) : Int) < 64) = false := rfl
              simp only [hlt]
              refine congrArg mr (a₂ := some (Sum.inl (((64 * (j + 1) : Nat) : Int), M, kk, take c S, ()))) ?_
              refine lp_upto (fun i => ((i : Int), itn (fun i t => vset t i (ad (gv t i) (gv (itn (rnd (sched c)) 64 S) i))) i S, ())) 8 rfl (fun i hi => ?_) ?_
              · have hlt : decide ((i : Int) < 8) = true := by simp; omega
                simp only [hlt, if_true, Vector.length_toList, Int.toNat_natCast]
                rw [gg_t (by omega), gg_t (by omega), gg_t (by omega), gg_t (by omega), gg_t (by omega), gg_t (by omega), w64 (m := i + 1) (by omega) (by omega)]
                rfl
              · have hlt : decide (((8 : Nat) : Int) < 8) = false := rfl
                simp only [hlt]
                rw [w64 (n := ((64 * j : Nat) : Int) + 64) (m := 64 * (j + 1)) (by omega) (by omega)]
                rfl
      · have hlt : decide (((64 * (M.length / 64) : Nat) : Int) < (M.length : Int)) = false := by simp; omega
        simp only [hlt]
        rw [List.take_of_length_le (by omega)]
        generalize hs : (chunks 64 M).foldl (fun s b => take b s) iv = st
        have hsl : st.toList.length = 8 := Vector.length_toList
        refine congrArg mr (a₂ := some (sha m, ())) (lp_upto (fun i => ((i : Int), (st.toList.take i).flatMap b4, ())) 8 rfl (fun i hi => ?_) ?_)
        · have hlt : decide ((i : Int) < 8) = true := by simp; omega
          have hl3 : ((st.toList.take i).flatMap b4).length = 4 * i := by rw [len_fm, List.length_take, hsl]; omega
          simp only [hlt, if_true, Int.toNat_natCast, hl3, Vector.length_toList]
          rw [gg_t (by omega), gg_t (by omega), gg_t (by omega), gg_t (by omega), gg_t (by omega), gg_t (by omega), gg_t (by omega), gg_t (by omega), gg_t (by omega), w64 (m := i + 1) (by omega) (by omega), flatMap_b4 _ _ (by omega)]
          rfl
        · have hlt : decide (((8 : Nat) : Int) < 8) = false := rfl
          simp only [hlt]
          rw [show (st.toList.take 8) = st.toList from List.take_of_length_le (by omega)]
          show mr (some _) = mr (some _)
          unfold sha outb
          rw [hM, hs]

def Byt (c : Int) : Prop := 0 ≤ c ∧ c < 256
theorem byt_wf {c : Int} (h : (Lit.int .u8 c).wf = true) : Byt c := by
  simp only [Lit.wf, IntKind.min, IntKind.max, IntKind.bits, IntKind.signed, Bool.and_eq_true, decide_eq_true_eq] at h
  unfold Byt
  simp at h
  omega
def tb : List UInt8 := [48, 49, 50, 51, 52, 53, 54, 55, 56, 57, 97, 98, 99, 100, 101, 102]
def hx (c : Int) : List Int := [((tb.getD (shrI .u8 c 4).toNat 0).toNat : Int), ((tb.getD (bitAnd .u8 c 15).toNat 0).toNat : Int)]
def hexs (x : List Int) : ByteArray := strOfNums (x.flatMap hx)
theorem hi4 {c : Int} (h : Byt c) : 0 ≤ shrI .u8 c 4 ∧ (shrI .u8 c 4).toNat < 16 := by
  obtain ⟨n, rfl⟩ := Int.eq_ofNat_of_zero_le h.1
  have := h.2
  rw [show (4 : Int) = ((4 : Nat) : Int) from rfl, shr_nat _ _ _ (by decide)]
  refine ⟨Int.natCast_nonneg _, ?_⟩
  rw [Int.toNat_natCast]
  omega
theorem lo4 (c : Int) : 0 ≤ bitAnd .u8 c 15 ∧ (bitAnd .u8 c 15).toNat < 16 := by
  have h : (BitVec.ofInt IntKind.u8.bits c &&& BitVec.ofInt IntKind.u8.bits 15).toNat ≤ 15 := by
    rw [BitVec.toNat_and]; exact Nat.and_le_right
  unfold bitAnd
  generalize (BitVec.ofInt IntKind.u8.bits c &&& BitVec.ofInt IntKind.u8.bits 15).toNat = n at h
  rw [u8_nat, Int.toNat_natCast]
  omega
theorem len_hx (x : List Int) : (x.flatMap hx).length = 2 * x.length := by
  induction x with
  | nil => rfl
  | cons c x ih => simp only [List.flatMap_cons, List.length_append, ih, List.length_cons]; simp [hx]; omega
theorem flatMap_take {α β : Type} (f : α → List β) (d : α) (l : List α) (i : Nat) (h : i < l.length) : (l.take (i + 1)).flatMap f = (l.take i).flatMap f ++ f (l.getD i d) := by
  have hg : l.getD i d = l[i] := by simp [List.getD, h]
  rw [List.take_succ_eq_append_getElem h, List.flatMap_append, hg]; simp
theorem getD_mem {l : List Int} {i : Nat} (h : i < l.length) : l.getD i 0 ∈ l := by
  have hg : l.getD i 0 = l[i] := by simp [List.getD, h]
  rw [hg]; exact List.getElem_mem h
theorem s14_eq (x : List Int) (hb : ∀ c ∈ x, Byt c) (h : x.length ≤ 2 ^ 40) : s_14 (x, ()) = some (hexs x, ()) := by
  unfold s_14
  have e0 : IntKind.i64.wrap ((2 : Int) * (x.length : Int)) = ((2 * x.length : Nat) : Int) := w64 (by omega) (by omega)
  simp only [e0]
  rw [gg_t (by omega)]
  refine lp_upto (fun i => ((i : Int), (x.take i).flatMap hx, ())) x.length (by simp) (fun i hi => ?_) ?_
  · have hlt : decide ((i : Int) < (x.length : Int)) = true := by simpa using hi
    have hl : ((x.take i).flatMap hx).length = 2 * i := by rw [len_hx, List.length_take]; omega
    obtain ⟨p1, p2⟩ := hi4 (hb _ (getD_mem hi))
    obtain ⟨p3, p4⟩ := lo4 (x.getD i 0)
    simp only [hlt, if_true, Int.toNat_natCast, hl]
    rw [gg_t (by omega), gg_t ⟨p1, p2⟩, gg_t ⟨p3, p4⟩, gg_t (by omega), w64 (m := i + 1) (by omega) (by omega), flatMap_take _ 0 _ _ hi]
    rfl
  · have hlt : decide ((x.length : Int) < (x.length : Int)) = false := by simp
    simp only [hlt, List.take_length]
    rfl
theorem s16_eq (x : List Int) (hb : ∀ c ∈ x, Byt c) (h : x.length ≤ 2 ^ 40) : s_16 (x, ()) = some (hexs x, ()) := by
  unfold s_16
  simp only [bd_s]
  refine lp_upto (fun i => ((i : Int), (x.take i).flatMap hx, ())) x.length (by simp) (fun i hi => ?_) ?_
  · have hlt : decide ((i : Int) < (x.length : Int)) = true := by simpa using hi
    have hl : ((x.take i).flatMap hx).length = 2 * i := by rw [len_hx, List.length_take]; omega
    obtain ⟨p1, p2⟩ := hi4 (hb _ (getD_mem hi))
    obtain ⟨p3, p4⟩ := lo4 (x.getD i 0)
    simp only [hlt, if_true, Int.toNat_natCast, hl]
    rw [gg_t (by omega), gg_t ⟨p1, p2⟩, gg_t (by omega), gg_t ⟨p3, p4⟩, gg_t (by omega), w64 (m := i + 1) (by omega) (by omega), flatMap_take _ 0 _ _ hi]
    rfl
  · have hlt : decide ((x.length : Int) < (x.length : Int)) = false := by simp
    simp only [hlt, List.take_length]
    rfl
theorem len_sha (m : List Int) : (sha m).length = 32 := by
  unfold sha outb
  rw [len_fm, Vector.length_toList]
theorem byt_sha (m : List Int) : ∀ c ∈ sha m, Byt c := by
  intro c hc
  unfold sha outb at hc
  rw [List.mem_flatMap] at hc
  obtain ⟨w, _, hc⟩ := hc
  have : ∀ n : Int, Byt (IntKind.u8.wrap n) := fun n => by rw [IntKind.wrap_u8]; unfold Byt; omega
  simp only [b4, List.mem_cons, List.not_mem_nil, or_false] at hc
  rcases hc with rfl | rfl | rfl | rfl <;> exact this _
theorem alive_eq : s_7 () = some (true, ()) := by
  unfold s_7
  rw [s11_eq _ (by decide) (by decide), bd_s]
  show bd (s_14 (sha [97, 98, 99], ())) _ = _
  rw [s14_eq _ (byt_sha _) (by rw [len_sha]; omega), bd_s, sha_abc]
  kernel_rfl
theorem s10_eq (x : List Int) (h : x.length ≤ 2 ^ 50) : s_10 (x, x, ()) = some (true, ()) := by
  unfold s_10
  simp only [bne_self_eq_false, Bool.false_eq_true, if_false]
  refine lp_upto (fun i => ((i : Int), ())) x.length rfl (fun i hi => ?_) ?_
  · have hlt : decide ((i : Int) < (x.length : Int)) = true := by simpa using hi
    simp only [hlt, if_true, Int.toNat_natCast]
    rw [gg_t (by omega), gg_t (by omega), w64 (m := i + 1) (by omega) (by omega)]
  · have hlt : decide ((x.length : Int) < (x.length : Int)) = false := by simp
    simp only [hlt]
    rfl
theorem s13_eq (p : List (List Int)) (h : p.length ≤ 2 ^ 50) (h' : ∀ x ∈ p, x.length ≤ 2 ^ 50) : s_13 (p, p, ()) = some (true, ()) := by
  unfold s_13
  simp only [bne_self_eq_false, Bool.false_eq_true, if_false]
  refine lp_upto (fun i => ((i : Int), ())) p.length rfl (fun i hi => ?_) ?_
  · have hlt : decide ((i : Int) < (p.length : Int)) = true := by simpa using hi
    have hg : p.getD i [] = p[i] := by simp [List.getD, hi]
    simp only [hlt, if_true, Int.toNat_natCast]
    rw [gg_t (by omega), gg_t (by omega), hg, s10_eq _ (h' _ (List.getElem_mem hi)), bd_s, w64 (m := i + 1) (by omega) (by omega)]
    rfl
  · have hlt : decide ((p.length : Int) < (p.length : Int)) = false := by simp
    simp only [hlt]
    rfl
theorem s15_eq (x : List Int) (h : x.length ≤ 2 ^ 47) : s_15 (x, ()) = some (x, ()) := by
  unfold s_15
  simp only
  rw [gg_t (by omega)]
theorem s15g_eq (x : List Int) (h : x.length ≤ 2 ^ 47) : s_15g (x, ()) = some (x, ()) := s15_eq x h
theorem s9_eq (p : List (List Int)) (h : p.length ≤ 2 ^ 40) (h' : ∀ x ∈ p, x.length ≤ 2 ^ 47) : s_9 (p, ()) = some (p, ()) := by
  unfold s_9
  refine lp_upto (fun i => ((i : Int), p.take i, ())) p.length rfl (fun i hi => ?_) ?_
  · have hlt : decide ((i : Int) < (p.length : Int)) = true := by simpa using hi
    have hg : p.getD i [] = p[i] := by simp [List.getD, hi]
    have hl : (p.take i).length = i := by rw [List.length_take]; omega
    simp only [hlt, if_true, Int.toNat_natCast, hl]
    rw [gg_t (by omega), hg, s15_eq _ (h' _ (List.getElem_mem hi)), bd_s, gg_t (by omega), w64 (m := i + 1) (by omega) (by omega), List.take_succ_eq_append_getElem hi]
  · have hlt : decide ((p.length : Int) < (p.length : Int)) = false := by simp
    simp only [hlt, List.take_length]
    rfl
def tot (p : List (List Int)) (i : Nat) : Nat := (p.take i).flatten.length + i
theorem tot_succ (p : List (List Int)) {i : Nat} (h : i < p.length) : tot p (i + 1) = tot p i + (1 + (p.getD i []).length) := by
  unfold tot
  rw [take_flat p h, List.length_append]; omega
theorem first_over (p : List (List Int)) (L : Nat) : ∀ n, L < tot p n → ∃ k, k < n ∧ tot p k ≤ L ∧ L < tot p (k + 1)
  | 0, h => by simp [tot] at h
  | n + 1, h => by
    by_cases h1 : L < tot p n
    · obtain ⟨k, a, b, c⟩ := first_over p L n h1
      exact ⟨k, by omega, b, c⟩
    · exact ⟨n, by omega, by omega, h⟩
theorem s8_eq (p : List (List Int)) (L : Nat) (hL : L ≤ 2 ^ 40) (h : p.length ≤ 2 ^ 50) (h' : ∀ x ∈ p, x.length ≤ 2 ^ 50) : s_8 (p, (L : Int), ()) = some (decide (L < tot p p.length), ()) := by
  unfold s_8
  have step : ∀ i, i < p.length → tot p i ≤ L → decide ((i : Int) < (p.length : Int)) = true ∧ IntKind.i64.wrap ((tot p i : Int) + IntKind.i64.wrap ((1 : Int) + ((p.getD i []).length : Int))) = (tot p (i + 1) : Int) := by
    intro i hi hle
    have hg : p.getD i [] = p[i] := by simp [List.getD, hi]
    have hl := h' _ (List.getElem_mem hi)
    have h1 := tot_succ p hi
    rw [hg] at h1 ⊢
    refine ⟨by simpa using hi, ?_⟩
    rw [w64 (n := (1 : Int) + (p[i].length : Int)) (m := 1 + p[i].length) (by omega) (by omega)]
    exact w64 (by omega) (by omega)
  by_cases hov : L < tot p p.length
  · obtain ⟨k, k1, k2, k3⟩ := first_over p L _ hov
    have mono : ∀ i, i ≤ k → tot p i ≤ L := by
      intro i hi
      obtain ⟨j, hj⟩ : ∃ j, k = i + j := ⟨k - i, by omega⟩
      have : ∀ j, i + j ≤ p.length → tot p i ≤ tot p (i + j) := by
        intro j
        induction j with
        | zero => intro _; exact Nat.le_refl _
        | succ j ih => intro hh; have := tot_succ p (i := i + j) (by omega); have := ih (by omega); rw [show i + (j + 1) = i + j + 1 by omega]; omega
      have := this j (by omega)
      rw [← hj] at this; omega
    refine lp_upto (fun i => ((tot p i : Int), (i : Int), ())) k rfl (fun i hi => ?_) ?_
    · obtain ⟨e1, e2⟩ := step i (by omega) (mono i (by omega))
      simp only [e1, if_true, Int.toNat_natCast, e2]
      rw [gg_t (by omega), bd_s]
      have hn : decide ((L : Int) < (tot p (i + 1) : Int)) = false := by simp; exact mono (i + 1) (by omega)
      simp only [hn, Bool.false_eq_true, if_false]
      rw [w64 (m := i + 1) (by omega) (by omega)]
    · obtain ⟨e1, e2⟩ := step k k1 k2
      simp only [e1, if_true, Int.toNat_natCast, e2]
      rw [gg_t (by omega), bd_s]
      have hn : decide ((L : Int) < (tot p (k + 1) : Int)) = true := by simpa using k3
      simp only [hn, if_true, hov, decide_true]
      rfl
  · have mono : ∀ i, i ≤ p.length → tot p i ≤ L := by
      intro i hi
      obtain ⟨j, hj⟩ : ∃ j, p.length = i + j := ⟨p.length - i, by omega⟩
      have : ∀ j, i + j ≤ p.length → tot p i ≤ tot p (i + j) := by
        intro j
        induction j with
        | zero => intro _; exact Nat.le_refl _
        | succ j ih => intro hh; have := tot_succ p (i := i + j) (by omega); have := ih (by omega); rw [show i + (j + 1) = i + j + 1 by omega]; omega
      have := this j (by omega)
      rw [← hj] at this; omega
    refine lp_upto (fun i => ((tot p i : Int), (i : Int), ())) p.length rfl (fun i hi => ?_) ?_
    · obtain ⟨e1, e2⟩ := step i hi (mono i (by omega))
      simp only [e1, if_true, Int.toNat_natCast, e2]
      rw [gg_t (by omega), bd_s]
      have hn : decide ((L : Int) < (tot p (i + 1) : Int)) = false := by simp; exact mono (i + 1) (by omega)
      simp only [hn, Bool.false_eq_true, if_false]
      rw [w64 (m := i + 1) (by omega) (by omega)]
    · have hlt : decide ((p.length : Int) < (p.length : Int)) = false := by simp
      simp only [hlt, hov, decide_false]
      rfl
theorem rb : reachBytes < 2 ^ 47 := reachBytes_lt

theorem ShaSums_true (p : List (List Int)) (k : ok22 p) : s_3 (p, ()) = some (true, ()) := by
  obtain ⟨k1, k2⟩ := k
  have hr := rb
  have hlen : p.length ≤ 2 ^ 43 := by omega
  have hx : ∀ x ∈ p, x.length ≤ 2 ^ 47 := fun x hx => by have := (k1 x hx).2; omega
  unfold s_3
  rw [alive_eq, bd_s]
  simp only [Bool.not_true, Bool.false_eq_true, if_false]
  rw [show (20000 : Int) = ((20000 : Nat) : Int) from rfl, s8_eq p 20000 (by decide) (by omega) (fun x h => by have := hx x h; omega), bd_s]
  by_cases hov : 20000 < tot p p.length
  · simp only [hov, decide_true, if_true]
  simp only [hov, decide_false, Bool.false_eq_true, if_false]
  have hT : p.flatten.length + p.length ≤ 20000 := by
    unfold tot at hov; rw [List.take_length] at hov; omega
  refine lp_upto (fun i => ((i : Int), (p.take i).flatten, ())) p.length rfl (fun i hi => ?_) ?_
  · have hlt : decide ((i : Int) < (p.length : Int)) = true := by simpa using hi
    have h1 := flat_le p (i + 1)
    have h2 := congrArg List.length (take_flat p hi)
    rw [List.length_append] at h2
    simp only [hlt, if_true, Int.toNat_natCast]
    rw [gg_t (by omega), gg_t (by omega), w64 (m := i + 1) (by omega) (by omega), take_flat p hi]
  · have hlt : decide ((p.length : Int) < (p.length : Int)) = false := by simp
    simp only [hlt, List.take_length]
    show mr (bd _ _) = _
    rw [s9_eq p (by omega) hx, bd_s, s11_eq p (by omega) (by omega), bd_s, s12_eq _ (by omega), bd_s, s10_eq _ (by rw [len_sha]; omega), bd_s]
    simp only [if_true]
    rw [s13_eq p (by omega) (fun x h => by have := hx x h; omega), bd_s]
    rfl
theorem ShaHexes_true (x : List Int) (k : ok25 x) : s_4 (x, ()) = some (true, ()) := by
  obtain ⟨k1, k2⟩ := k
  have hr := rb
  unfold s_4
  rw [alive_eq, bd_s]
  simp only [Bool.not_true, Bool.false_eq_true, if_false]
  split
  · rename_i h
    have hl : x.length ≤ 20000 := by simp at h; omega
    have hb : ∀ c ∈ x, Byt c := fun c h => byt_wf (k1 c h)
    rw [s15_eq x (by omega), bd_s, s14_eq x hb (by omega), bd_s, s16_eq x hb (by omega), bd_s, beq_self_eq_true]
  · rfl
theorem size_str (l : List Int) : (strOfNums l).size = l.length := by
  simp [strOfNums, ByteArray.size]
theorem str_app (a b : List Int) : strOfNums (a ++ b) = strOfNums a ++ strOfNums b := by
  apply ByteArray.ext
  simp [strOfNums, ByteArray.data_append]
theorem ShaBehind_true (a b : List Int) (ka : ok25 a) (kb : ok25 b) : s_6 (a, b, ()) = some (true, ()) := by
  obtain ⟨k1, k2⟩ := ka
  obtain ⟨k3, k4⟩ := kb
  have hr := rb
  unfold s_6
  rw [alive_eq, bd_s]
  simp only [Bool.not_true, Bool.false_eq_true, if_false]
  rw [w64 (n := (a.length : Int) + (b.length : Int)) (m := a.length + b.length) (by omega) (by omega)]
  split
  · rfl
  · rename_i h
    have hl : a.length + b.length ≤ 20000 := by simp only [decide_eq_true_eq] at h; omega
    have ha : ∀ c ∈ a, Byt c := fun c h => byt_wf (k1 c h)
    have hb : ∀ c ∈ b, Byt c := fun c h => byt_wf (k3 c h)
    have hab : ∀ c ∈ a ++ b, Byt c := fun c h => (List.mem_append.1 h).elim (ha c) (hb c)
    rw [s15g_eq a (by omega), bd_s]
    simp only
    rw [gg_t (by omega), s14_eq _ hab (by rw [List.length_append]; omega), bd_s, s14_eq a ha (by omega), bd_s, s14_eq b hb (by omega), bd_s]
    have e1 : hexs (a ++ b) = hexs a ++ hexs b := by unfold hexs; rw [List.flatMap_append, str_app]
    have s1 : (hexs a).size = 2 * a.length := by unfold hexs; rw [size_str, len_hx]
    have s2 : (hexs b).size = 2 * b.length := by unfold hexs; rw [size_str, len_hx]
    have hm : IntKind.i64.max = 9223372036854775807 := rfl
    simp only [s1, s2, hm]
    rw [gg_t (by omega), e1, beq_self_eq_true, if_pos rfl, bd_s, s1, w64 (n := (2 : Int) * (a.length : Int)) (m := 2 * a.length) (by omega) (by omega), beq_self_eq_true]
def nn (l : Int) (r : List Int) : Nat := if (r.length : Int) < bitAnd .i64 l 127 then r.length else (bitAnd .i64 l 127).toNat
theorem nn_and (l : Int) : 0 ≤ bitAnd .i64 l 127 ∧ bitAnd .i64 l 127 ≤ 127 := by
  have h : (BitVec.ofInt IntKind.i64.bits l &&& BitVec.ofInt IntKind.i64.bits 127).toNat ≤ 127 := by
    rw [BitVec.toNat_and]; exact Nat.and_le_right
  unfold bitAnd
  generalize (BitVec.ofInt IntKind.i64.bits l &&& BitVec.ofInt IntKind.i64.bits 127).toNat = n at h
  rw [wrap64 (by omega) (by omega)]
  omega
def cut (ls : List Int) (i : Nat) (s : List Int × List (List Int)) : List Int × List (List Int) := (s.1.drop (nn (ls.getD i 0) s.1), s.2 ++ [s.1.take (nn (ls.getD i 0) s.1)])
theorem cut_inv (ls b : List Int) : ∀ i, (itn (cut ls) i (b, [])).2.flatten ++ (itn (cut ls) i (b, [])).1 = b ∧ (itn (cut ls) i (b, [])).2.length = i
  | 0 => ⟨rfl, rfl⟩
  | i + 1 => by
    obtain ⟨h1, h2⟩ := cut_inv ls b i
    rw [itn_succ]
    simp only [cut]
    refine ⟨?_, by simp [h2]⟩
    rw [List.flatten_append, List.flatten_singleton, List.append_assoc, List.take_append_drop, h1]
theorem ShaParts_true (b ls : List Int) (kb : ok25 b) (kl : ok34 ls) : s_5 (b, ls, ()) = some (true, ()) := by
  obtain ⟨k1, k2⟩ := kb
  obtain ⟨k3, k4⟩ := kl
  have hr := rb
  unfold s_5
  rw [alive_eq, bd_s]
  simp only [Bool.not_true, Bool.false_eq_true, if_false]
  split
  case isFalse => rfl
  rename_i h
  have hl : b.length ≤ 20000 := by simp at h; omega
  split
  · rfl
  rename_i h2
  have hl2 : ls.length ≤ 200 := by simp at h2; omega
  rw [s15_eq b (by omega), bd_s]
  refine lp_upto (fun i => ((itn (cut ls) i (b, [])).1, (i : Int), (itn (cut ls) i (b, [])).2, ())) ls.length rfl (fun i hi => ?_) ?_
  · have hlt : decide ((i : Int) < (ls.length : Int)) = true := by simpa using hi
    obtain ⟨c1, c2⟩ := cut_inv ls b i
    rw [itn_succ]
    generalize itn (cut ls) i (b, []) = s at c1 c2
    simp only [hlt, if_true, Int.toNat_natCast]
    rw [gg_t (by omega), bd_s]
    obtain ⟨n1, n2⟩ := nn_and (ls.getD i 0)
    have hcl : s.1.length ≤ 20000 := by have := congrArg List.length c1; rw [List.length_append] at this; omega
    have key : (if decide ((s.1.length : Int) < bitAnd .i64 (ls.getD i 0) 127) = true then some (s.1, (i : Int), (s.1.length : Int), s.2, ()) else some (s.1, (i : Int), bitAnd .i64 (ls.getD i 0) 127, s.2, ())) = some (s.1, (i : Int), ((nn (ls.getD i 0) s.1 : Nat) : Int), s.2, ()) := by
      unfold nn
      by_cases hc : (s.1.length : Int) < bitAnd .i64 (ls.getD i 0) 127
      · simp only [hc, decide_true, if_true]
      · simp only [hc, decide_false, Bool.false_eq_true, if_false]
        rw [show ((bitAnd .i64 (ls.getD i 0) 127).toNat : Int) = bitAnd .i64 (ls.getD i 0) 127 by omega]
    have hnn : nn (ls.getD i 0) s.1 ≤ s.1.length := by unfold nn; split <;> omega
    simp only [key, bd_s, Int.toNat_natCast]
    rw [gg_t (by omega), gg_t (by omega), gg_t (by omega), w64 (m := i + 1) (by omega) (by omega)]
    rfl
  · have hlt : decide ((ls.length : Int) < (ls.length : Int)) = false := by simp
    obtain ⟨c1, c2⟩ := cut_inv ls b ls.length
    generalize itn (cut ls) ls.length (b, []) = s at c1 c2
    simp only [hlt]
    have hf : (s.2 ++ [s.1]).flatten = b := by rw [List.flatten_append, List.flatten_singleton, c1]
    have hb1 : ([b] : List (List Int)).flatten = b := by simp
    show mr (gg _ _) = _
    rw [gg_t (by omega), s11_eq (s.2 ++ [s.1]) (by rw [hf]; omega) (by simp; omega), hf, bd_s, len_sha]
    rw [if_pos (by rfl), s11_eq [b] (by rw [hb1]; omega) (by simp), hb1, bd_s, s10_eq _ (by rw [len_sha]; omega), bd_s]
    simp only [if_true]
    rw [s14_eq _ (byt_sha b) (by rw [len_sha]; omega), bd_s]
    have s1 : (hexs (sha b)).size = 64 := by unfold hexs; rw [size_str, len_hx, len_sha]
    rw [s1]
    rfl
end Go.Proofs.Ytoaagngddkdidaa
end
