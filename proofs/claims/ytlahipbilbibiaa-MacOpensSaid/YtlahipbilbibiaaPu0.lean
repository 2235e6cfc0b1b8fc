/- Plain laws. -/
import Derived.Test.YtlahipbilbibiaaW
import Derived.Test.YtlahipbilbibiaaY0
import Derived.Test.YtlahipbilbibiaaAlU
set_option linter.unusedVariables false
set_option linter.unusedSimpArgs false
set_option maxRecDepth 100000
noncomputable section
namespace Go.Proofs.Ytlahipbilbibiaa
open Go Go.Al
/-- A step for each number below n. -/
def itn {σ : Type} (f : Nat → σ → σ) : Nat → σ → σ
  | 0, s => s
  | n + 1, s => f n (itn f n s)
def rot (v n : Int) : Int := bitOr .u32 (shrI .u32 v n) (shlI .u32 v (32 - n))
def xr (a b : Int) : Int := bitXor .u32 a b
def an (a b : Int) : Int := bitAnd .u32 a b
def ad (a b : Int) : Int := IntKind.u32.wrap (a + b)
def wd (b : List Int) (i : Nat) : Int :=
  bitOr .u32 (bitOr .u32 (bitOr .u32 (shlI .u32 (IntKind.u32.wrap (b.getD (4 * i) 0)) 24) (shlI .u32 (IntKind.u32.wrap (b.getD (4 * i + 1) 0)) 16)) (shlI .u32 (IntKind.u32.wrap (b.getD (4 * i + 2) 0)) 8)) (IntKind.u32.wrap (b.getD (4 * i + 3) 0))
def sg (v : Int) (a b c : Int) : Int := xr (xr (rot v a) (rot v b)) (rot v c)
def sc (v : Int) (a b c : Int) : Int := xr (xr (rot v a) (rot v b)) (shrI .u32 v c)
abbrev gv {n : Nat} (w : Vector Int n) (i : Nat) : Int := w.toList.getD i 0
def sched (b : List Int) : Vector Int 64 :=
  itn (fun i w => vset w (i + 16) (ad (ad (ad (gv w i) (sc (gv w (i + 1)) 7 18 3)) (gv w (i + 9))) (sc (gv w (i + 14)) 17 19 10))) 48 (itn (fun i w => vset w i (wd b i)) 16 (Vector.replicate 64 0))
def kk : Vector Int 64 := match s_56 () with
  | some (v, _) => v
  | none => Vector.replicate 64 0
def rnd (w : Vector Int 64) (i : Nat) (v : Vector Int 8) : Vector Int 8 :=
  let x := ad (ad (ad (ad (gv v 7) (sg (gv v 4) 6 11 25)) (xr (an (gv v 4) (gv v 5)) (an (xr (gv v 4) 4294967295) (gv v 6)))) (gv kk i)) (gv w i)
  let y := ad (sg (gv v 0) 2 13 22) (xr (xr (an (gv v 0) (gv v 1)) (an (gv v 0) (gv v 2))) (an (gv v 1) (gv v 2)))
  vofl 7 0 [ad x y, gv v 0, gv v 1, gv v 2, ad (gv v 3) x, gv v 4, gv v 5, gv v 6]
def take (b : List Int) (s : Vector Int 8) : Vector Int 8 :=
  let v := itn (rnd (sched b)) 64 s
  itn (fun i t => vset t i (ad (gv t i) (gv v i))) 8 s
def iv : Vector Int 8 := vofl 7 0 [1779033703, 3144134277, 1013904242, 2773480762, 1359893119, 2600822924, 528734635, 1541459225]
/-- How many zeros. -/
def zs (n : Nat) : Nat := (119 - n % 64) % 64
def be8 (n : Nat) : List Int := (List.range 8).map fun i => ((8 * n / 2 ^ (56 - 8 * i) % 256 : Nat) : Int)
def padd (m : List Int) : List Int := m ++ [128] ++ List.replicate (zs m.length) 0 ++ be8 m.length
def b4 (n : Int) : List Int := [IntKind.u8.wrap (shrI .u32 n 24), IntKind.u8.wrap (shrI .u32 n 16), IntKind.u8.wrap (shrI .u32 n 8), IntKind.u8.wrap n]
def outb (s : Vector Int 8) : List Int := s.toList.flatMap b4
def sha (m : List Int) : List Int := outb ((chunks 64 (padd m)).foldl (fun s b => take b s) iv)
theorem gg_t {α : Type} {p : Prop} {_ : Decidable p} {m : Option α} (h : p) : gg p m = m := gg_eq.trans (gd_eq h)
theorem bd_s {α β : Type} {v : α} {f : α → Option β} : bd (some v) f = f v := rfl
theorem lp_upto {σ A : Type} {body : σ → Option (σ ⊕ A)} (f : Nat → σ) (n : Nat) {a : A} {s : σ} (h0 : s = f 0) (hs : ∀ i, i < n → body (f i) = some (.inl (f (i + 1)))) (he : body (f n) = some (.inr a)) : lp s body = some a := by
  subst h0; exact loop_upto f n hs he 0 (Nat.zero_le _)
theorem w64 {n : Int} {m : Nat} (h : n = (m : Int)) (h' : m < 2 ^ 62) : IntKind.i64.wrap n = (m : Int) := by rw [h]; exact wrap64 (by omega) (by omega)
theorem itn_succ {σ : Type} (f : Nat → σ → σ) (n : Nat) (s : σ) : itn f (n + 1) s = f n (itn f n s) := rfl
theorem bitOr_comm (k : IntKind) (a b : Int) : bitOr k a b = bitOr k b a := by unfold bitOr; rw [BitVec.or_comm]
/-- Turns that are used. -/
def Trn (n : Int) : Prop := n ∈ [(7 : Int), 18, 17, 19, 6, 11, 25, 2, 13, 22]
theorem s28_eq (x n : Int) (h : Trn n) : s_59 (x, IntKind.i64.wrap (0 - n), ()) = some (rot x n, ()) := by
  simp only [Trn, List.mem_cons, List.not_mem_nil, or_false] at h
  unfold s_59 rot
  rw [bitOr_comm]
  rcases h with rfl | rfl | rfl | rfl | rfl | rfl | rfl | rfl | rfl | rfl <;> kernel_rfl
theorem s21_eq (x n : Int) (h : Trn n) : s_49 (x, n, ()) = some (rot x n, ()) := by
  simp only [Trn, List.mem_cons, List.not_mem_nil, or_false] at h
  unfold s_49 rot
  rcases h with rfl | rfl | rfl | rfl | rfl | rfl | rfl | rfl | rfl | rfl <;> kernel_rfl
theorem s26_eq (x : Int) (l : List Int) (h : ∀ n ∈ l, Trn n) (hl : l.length < 100) : s_57 (x, l, ()) = some (l.foldl (fun s n => bitXor .u32 s (rot x n)) 0, ()) := by
  unfold s_57
  try simp only [nl]
  refine lp_upto (fun i => ((l.take i).foldl (fun s n => bitXor .u32 s (rot x n)) 0, (i : Int), ())) l.length rfl (fun i hi => ?_) ?_
  · have hg : l.getD i 0 = l[i] := by simp [List.getD, hi]
    have ht : l.take (i + 1) = l.take i ++ [l[i]] := by rw [List.take_succ_eq_append_getElem hi]
    have hlt : decide ((i : Int) < (l.length : Int)) = true := by simpa using hi
    simp only [hlt, if_true, Int.toNat_natCast]
    rw [gg_t (by omega), hg, s28_eq x _ (h _ (List.getElem_mem hi)), bd_s, w64 (m := i + 1) (by omega) (by omega), ht, List.foldl_append]
    rfl
  · have hlt : decide ((l.length : Int) < (l.length : Int)) = false := by simp
    simp only [hlt]
    rw [List.take_length]
    rfl
theorem u32_wrap (n : Nat) (h : n < 2 ^ 32) : IntKind.u32.wrap (n : Int) = n := by
  rw [IntKind.wrap_u32]; omega
theorem xor0 {n : Int} (h : 0 ≤ n) (h' : n < 2 ^ 32) : bitXor .u32 0 n = n := by
  obtain ⟨m, rfl⟩ := Int.eq_ofNat_of_zero_le h
  unfold bitXor
  have h1 : BitVec.ofInt IntKind.u32.bits (0 : Int) ^^^ BitVec.ofInt IntKind.u32.bits (m : Int) = BitVec.ofNat 32 m := by
    show BitVec.ofInt 32 (0 : Int) ^^^ BitVec.ofInt 32 (m : Int) = _
    rw [BitVec.ofInt_natCast]
    simp
  have h2 : (BitVec.ofInt IntKind.u32.bits (0 : Int) ^^^ BitVec.ofInt IntKind.u32.bits (m : Int)).toNat = m := by
    have := congrArg BitVec.toNat h1
    rw [this]
    show (BitVec.ofNat 32 m).toNat = m
    rw [BitVec.toNat_ofNat, Nat.mod_eq_of_lt (by omega)]
  rw [h2]
  exact u32_wrap m (by omega)
theorem bitOr_rng (a b : Int) : 0 ≤ bitOr .u32 a b ∧ bitOr .u32 a b < 2 ^ 32 := by
  unfold bitOr
  have := (BitVec.ofInt IntKind.u32.bits a ||| BitVec.ofInt IntKind.u32.bits b).isLt
  have h2 : (BitVec.ofInt IntKind.u32.bits a ||| BitVec.ofInt IntKind.u32.bits b).toNat < 2 ^ 32 := this
  rw [u32_wrap _ h2]
  omega
theorem xor0_rot (x n : Int) : bitXor .u32 0 (rot x n) = rot x n := xor0 (bitOr_rng _ _).1 (bitOr_rng _ _).2
theorem turned2 (x a b : Int) (ha : Trn a) (hb : Trn b) : s_57 (x, [a, b], ()) = some (xr (rot x a) (rot x b), ()) := by
  rw [s26_eq x _ (by simp [ha, hb]) (by simp)]
  simp only [List.foldl_cons, List.foldl_nil, xor0_rot, xr]
theorem turned3 (x a b c : Int) (ha : Trn a) (hb : Trn b) (hc : Trn c) : s_57 (x, [a, b, c], ()) = some (sg x a b c, ()) := by
  rw [s26_eq x _ (by simp [ha, hb, hc]) (by simp)]
  simp only [List.foldl_cons, List.foldl_nil, xor0_rot, xr, sg]
theorem trn (n : Int) (h : [(7 : Int), 18, 17, 19, 6, 11, 25, 2, 13, 22].contains n = true) : Trn n := by simpa [Trn] using h
theorem s27_eq (b : List Int) (i : Nat) (h : 4 * i + 4 ≤ b.length) : s_58 (b.drop (4 * i), ()) = some (wd b i, ()) := by
  unfold s_58 wd
  have h1 : (b.drop (4 * i)).length = b.length - 4 * i := List.length_drop
  have hg : ∀ j, (b.drop (4 * i)).getD j 0 = b.getD (4 * i + j) 0 := fun j => by simp [List.getD, List.getElem?_drop]
  simp only [h1, hg]
  rw [gg_t (by omega), gg_t (by omega), gg_t (by omega), gg_t (by omega)]
  rfl
theorem s24_eq (b : List Int) (h : 64 ≤ b.length) : s_55 (b, ()) = some (sched b, ()) := by
  unfold s_55
  try simp only [nl]
  refine lp_upto (fun i => ((i : Int), itn (fun i w => vset w i (wd b i)) i (Vector.replicate 64 0), ())) 16 rfl (fun i hi => ?_) ?_
  · have hlt : decide ((i : Int) < 16) = true := by simp; omega
    have e1 : IntKind.i64.wrap (4 * (i : Int)) = ((4 * i : Nat) : Int) := w64 (by omega) (by omega)
    simp only [hlt, if_true, e1, Int.toNat_natCast]
    rw [gg_t (by omega), s27_eq b i (by omega), bd_s, gg_t (by omega), gg_t (by omega), w64 (m := i + 1) (by omega) (by omega)]
    rfl
  · have hlt : decide (((16 : Nat) : Int) < 16) = false := rfl
    simp only [hlt]
    refine congrArg mr (a₂ := some (sched b, ())) (lp_upto (fun i => (((i + 16 : Nat) : Int), itn (fun i w => vset w (i + 16) (ad (ad (ad (gv w i) (sc (gv w (i + 1)) 7 18 3)) (gv w (i + 9))) (sc (gv w (i + 14)) 17 19 10))) i (itn (fun i w => vset w i (wd b i)) 16 (Vector.replicate 64 0)), ())) 48 rfl (fun i hi => ?_) ?_)
    · have hlt : decide (((i + 16 : Nat) : Int) < 64) = true := by simp; omega
      have e1 : IntKind.i64.wrap (((i + 16 : Nat) : Int) - 15) = ((i + 1 : Nat) : Int) := w64 (by omega) (by omega)
      have e2 : IntKind.i64.wrap (((i + 16 : Nat) : Int) - 2) = ((i + 14 : Nat) : Int) := w64 (by omega) (by omega)
      have e3 : IntKind.i64.wrap (((i + 16 : Nat) : Int) - 16) = ((i : Nat) : Int) := w64 (by omega) (by omega)
      have e4 : IntKind.i64.wrap (((i + 16 : Nat) : Int) - 7) = ((i + 9 : Nat) : Int) := w64 (by omega) (by omega)
      simp only [hlt, if_true, e1, e2, Int.toNat_natCast, Vector.length_toList]
      rw [gg_t (by omega), gg_t (by omega), gg_t (by omega), gg_t (by omega), bd_s]
      simp only [e3, e4, Int.toNat_natCast, Vector.length_toList]
      rw [gg_t (by omega), gg_t (by omega), gg_t (by omega), gg_t (by omega), turned2 _ _ _ (trn _ rfl) (trn _ rfl), bd_s, turned2 _ _ _ (trn _ rfl) (trn _ rfl), bd_s, gg_t (by omega), gg_t (by omega), w64 (m := i + 1 + 16) (by omega) (by omega)]
      rfl
    · have hlt : decide (((48 + 16 : Nat) : Int) < 64) = false := rfl
      simp only [hlt]
      rfl
theorem bitNot_eq (a : Int) : bitNot .u32 a = xr a 4294967295 := by
  unfold bitNot xr bitXor
  rw [BitVec.xor_comm]
  rfl
/-- Eight words, one by one. -/
theorem eight (v : Vector Int 8) : v.toList = [gv v 0, gv v 1, gv v 2, gv v 3, gv v 4, gv v 5, gv v 6, gv v 7] := by
  have hl : v.toList.length = 8 := Vector.length_toList
  simp only [gv]
  generalize v.toList = l at *
  match l, hl with
  | [a, b, c, d, e, f, g, h], _ => rfl
theorem vofl_toList {n : Nat} (l : List Int) (h : l.length = n + 1) : (vofl n 0 l).toList = l := by
  apply List.ext_getElem
  · simp [h]
  · intro i h1 h2
    simp [vofl, List.getD, h2]
theorem shift (v : Vector Int 8) (a b : Int) : vset (vset (vofl (nat_lit 7) 0 (spl 1 (List.take 7 (List.take 7 (List.drop 0 v.toList))) v.toList)) 4 (IntKind.u32.wrap (a))) 0 b = vofl 7 0 [b, gv v 0, gv v 1, gv v 2, IntKind.u32.wrap a, gv v 4, gv v 5, gv v 6] := by
  apply Vector.toList_inj.1
  have e := eight v
  rw [vset_toList, vset_toList, vofl_toList _ (by rw [e]; rfl), vofl_toList _ rfl, e]
  rfl
theorem s25_eq : s_56 () = some (kk, ()) := rfl
theorem s20_eq : s_48 () = some (kk, ()) := rfl
theorem s19_eq (b : List Int) (s : Vector Int 8) (h : 64 ≤ b.length) : s_47 (b, s, ()) = some (take b s, ()) := by
  unfold s_47
  try simp only [nl]
  rw [s24_eq b h, bd_s, s25_eq, bd_s]
  refine lp_upto (fun i => ((i : Int), itn (rnd (sched b)) i s, ())) 64 rfl (fun i hi => ?_) ?_
  · have hlt : decide ((i : Int) < 64) = true := by simp; omega
    generalize hv : itn (rnd (sched b)) i s = v
    simp only [hlt, if_true, Vector.length_toList]
    rw [gg_t (by omega), gg_t (by omega), bd_s]
    simp only [Vector.length_toList, Int.toNat_natCast]
    rw [gg_t (by omega), gg_t (by omega), gg_t (by omega), gg_t (by omega), gg_t (by omega), gg_t (by omega), gg_t (by omega), turned3 _ _ _ _ (trn _ rfl) (trn _ rfl) (trn _ rfl), bd_s, bd_s]
    simp only [Vector.length_toList]
    rw [gg_t (by omega), gg_t (by omega), gg_t (by omega), gg_t (by omega)]
    rw [turned3 _ _ _ _ (trn _ rfl) (trn _ rfl) (trn _ rfl), bd_s, bd_s, gg_t (by omega)]
    dsimp only
    rw [w64 (m := i + 1) (by omega) (by omega), itn_succ, hv, bitNot_eq, shift]
    rw [eight v]
    rfl
  · have hlt : decide (((64 : Nat) : Int) < 64) = false := rfl
    simp only [hlt]
    refine congrArg mr (a₂ := some (take b s, ())) (lp_upto (fun i => ((i : Int), itn (fun i t => vset t i (ad (gv t i) (gv (itn (rnd (sched b)) 64 s) i))) i s, ())) 8 rfl (fun i hi => ?_) ?_)
    · have hlt : decide ((i : Int) < 8) = true := by simp; omega
      simp only [hlt, if_true, Vector.length_toList, Int.toNat_natCast]
      rw [gg_t (by omega), gg_t (by omega), gg_t (by omega), gg_t (by omega), gg_t (by omega), gg_t (by omega), w64 (m := i + 1) (by omega) (by omega)]
      rfl
    · have hlt : decide (((8 : Nat) : Int) < 8) = false := rfl
      simp only [hlt]
      rfl
theorem take_flat {α : Type} (l : List (List α)) {i : Nat} (h : i < l.length) : (l.take (i + 1)).flatten = (l.take i).flatten ++ l.getD i [] := by
  have hg : l.getD i [] = l[i] := by simp [List.getD, h]
  rw [List.take_succ_eq_append_getElem h, List.flatten_append, hg]; simp
theorem flat_le {α : Type} (l : List (List α)) (i : Nat) : (l.take i).flatten.length ≤ l.flatten.length := by
  have := congrArg (fun l => l.flatten.length) (List.take_append_drop i l)
  simp only [List.flatten_append, List.length_append] at this
  omega
theorem s17g_eq (p : List (List Int)) (h : p.flatten.length ≤ 2 ^ 40) (h' : p.length ≤ 2 ^ 44) : s_45g (p, ()) = some (p.flatten, ()) := by
  unfold s_45g
  try simp only [nl]
  refine lp_upto (fun i => (((p.take i).flatten.length : Int), (i : Int), ())) p.length rfl (fun i hi => ?_) ?_
  · have hlt : decide ((i : Int) < (p.length : Int)) = true := by simpa using hi
    have h1 := flat_le p (i + 1)
    have h2 := congrArg List.length (take_flat p hi)
    rw [List.length_append] at h2
    simp only [hlt, if_true, Int.toNat_natCast]
    have e1 : IntKind.i64.wrap (((p.take i).flatten.length : Int) + ((p.getD i []).length : Int)) = ((p.take (i + 1)).flatten.length : Int) := w64 (by omega) (by omega)
    have hn : decide (((p.take (i + 1)).flatten.length : Int) < 0) = false := by simp
    rw [gg_t (by omega)]
    simp only [e1, hn]
    rw [w64 (m := i + 1) (by omega) (by omega)]
    rfl
  · have hlt : decide ((p.length : Int) < (p.length : Int)) = false := by simp
    simp only [hlt, List.take_length]
    show mr (gg _ _) = _
    rw [gg_t (by omega)]
    refine congrArg mr (a₂ := some (p.flatten, ())) (lp_upto (fun i => ((i : Int), (p.take i).flatten, ())) p.length rfl (fun i hi => ?_) ?_)
    · have hlt : decide ((i : Int) < (p.length : Int)) = true := by simpa using hi
      have h1 := flat_le p (i + 1)
      have h2 := congrArg List.length (take_flat p hi)
      rw [List.length_append] at h2
      simp only [hlt, if_true, Int.toNat_natCast]
      rw [gg_t (by omega), gg_t (by omega), w64 (m := i + 1) (by omega) (by omega), take_flat p hi]
    · have hlt : decide ((p.length : Int) < (p.length : Int)) = false := by simp
      simp only [hlt, List.take_length]
      rfl
theorem tm64 (n : Nat) : ((n : Int).tmod (64 : Int) != 56) = !decide (n % 64 = 56) := by
  rw [Int.tmod_eq_emod_of_nonneg (by omega)]
  by_cases h : n % 64 = 56
  · have : ((n : Int) % 64) = 56 := by omega
    simp [h, this]
  · have : ((n : Int) % 64) ≠ 56 := by omega
    simp [h, this]
theorem len_be8 (n : Nat) : (be8 n).length = 8 := by simp [be8]
theorem len_padd (m : List Int) : (padd m).length % 64 = 0 ∧ (padd m).length ≤ m.length + 100 := by
  simp only [padd, List.length_append, List.length_cons, List.length_nil, List.length_replicate, len_be8, zs]
  omega
theorem be8_get (n i : Nat) (h : i < 8) : (be8 n).take (i + 1) = (be8 n).take i ++ [((8 * n / 2 ^ (56 - 8 * i) % 256 : Nat) : Int)] := by
  rw [List.take_succ_eq_append_getElem (by simpa [be8] using h)]
  simp [be8]
theorem shr_nat (k : IntKind) (n s : Nat) (h : s ≤ k.bits) : shrI k (n : Int) (s : Int) = ((n / 2 ^ s : Nat) : Int) := by
  unfold shrI
  rw [Int.toNat_natCast, Nat.min_eq_left h]
  have : (2 : Int) ^ s = ((2 ^ s : Nat) : Int) := by simp
  rw [this, Int.fdiv_eq_ediv_of_nonneg _ (Int.natCast_nonneg _)]
  rfl
theorem u8_nat (n : Nat) : IntKind.u8.wrap (n : Int) = ((n % 256 : Nat) : Int) := by rw [IntKind.wrap_u8]; omega
theorem u64_8 (n : Nat) (h : n < 2 ^ 60) : IntKind.u64.wrap (IntKind.u64.wrap (n : Int) * 8) = ((8 * n : Nat) : Int) := by
  rw [IntKind.wrap_u64, IntKind.wrap_u64]; omega
theorem rgl_eq {D X : Type} {b : D → X → Option D} {f : D → X → D} {cs : List X} {s : D} (h : ∀ x ∈ cs, ∀ s, b s x = some (f s x)) : rgl b cs s = some (cs.foldl f s) := by
  have h1 : ∀ x ∈ cs, ∀ s, (b s x).isSome = true := fun x hx s => by rw [h x hx s]; rfl
  unfold rgl
  rw [if_pos h1]
  clear h1
  induction cs generalizing s with
  | nil => rfl
  | cons x cs ih =>
    rw [List.foldlM_cons, h x (by simp) s]
    exact ih fun y hy s => h y (by simp [hy]) s
theorem chunk_len {m : List Int} (h : m.length % 64 = 0) {c : List Int} (hc : c ∈ chunks 64 m) : c.length = 64 := by
  simp only [chunks, List.mem_map, List.mem_range] at hc
  obtain ⟨i, hi, rfl⟩ := hc
  rw [List.length_take, List.length_drop]
  omega
theorem fold_fst (cs : List (List Int)) (s : Vector Int 8) : cs.foldl (fun (s : Vector Int 8 × PUnit) ch => (take ch s.1, ())) (s, ()) = (cs.foldl (fun s b => take b s) s, ()) := by
  induction cs generalizing s with
  | nil => rfl
  | cons c cs ih => simp only [List.foldl_cons]; exact ih _
theorem flatMap_b4 (l : List Int) (i : Nat) (h : i < l.length) : (l.take (i + 1)).flatMap b4 = (l.take i).flatMap b4 ++ b4 (l.getD i 0) := by
  have hg : l.getD i 0 = l[i] := by simp [List.getD, h]
  rw [List.take_succ_eq_append_getElem h, List.flatMap_append, hg]; simp
theorem len_fm (l : List Int) : (l.flatMap b4).length = 4 * l.length := by
  induction l with
  | nil => rfl
  | cons x l ih => simp only [List.flatMap_cons, List.length_append, ih, List.length_cons]; simp [b4]; omega
theorem s11_eq (p : List (List Int)) (h : p.flatten.length ≤ 2 ^ 40) (h' : p.length ≤ 2 ^ 44) : s_30 (p, ()) = some (sha p.flatten, ()) := by
  unfold s_30
  try simp only [nl]
  rw [s17g_eq p h h', bd_s]
  generalize p.flatten = m at h
  simp only [bd_s]
  rw [gg_t (by omega)]
  refine lp_upto (fun i => (m ++ [128] ++ List.replicate i 0, ())) (zs m.length) (by simp) (fun i hi => ?_) ?_
  · have hl : (m ++ [128] ++ List.replicate i (0 : Int)).length = m.length + 1 + i := by simp; omega
    simp only [hl, tm64]
    have hz : ¬ (m.length + 1 + i) % 64 = 56 := by unfold zs at hi; omega
    have hz' : zs m.length ≤ 64 := by unfold zs; omega
    simp only [hz, decide_false, Bool.not_false, if_true]
    rw [gg_t (by omega)]
    simp [List.replicate_succ']
  · have hl : (m ++ [128] ++ List.replicate (zs m.length) (0 : Int)).length = m.length + 1 + zs m.length := by simp; omega
    have hz : (m.length + 1 + zs m.length) % 64 = 56 := by unfold zs; omega
    have hz' : zs m.length ≤ 64 := by unfold zs; omega
    simp only [hl, tm64, hz, decide_true, Bool.not_true, Bool.false_eq_true, if_false]
    refine congrArg mr (a₂ := some (sha m, ())) (lp_upto (fun i => ((i : Int), m ++ [128] ++ List.replicate (zs m.length) (0 : Int) ++ (be8 m.length).take i, ())) 8 (by simp) (fun i hi => ?_) ?_)
    · have hlt : decide ((i : Int) < 8) = true := by simp; omega
      have hl2 : (m ++ [128] ++ List.replicate (zs m.length) (0 : Int) ++ (be8 m.length).take i).length = m.length + 1 + zs m.length + i := by
        rw [List.length_append, hl, List.length_take, len_be8]; omega
      have e1 : IntKind.i64.wrap (56 - IntKind.i64.wrap (8 * (i : Int))) = ((56 - 8 * i : Nat) : Int) := by
        rw [w64 (n := 8 * (i : Int)) (m := 8 * i) (by omega) (by omega)]
        exact w64 (by omega) (by omega)
      simp only [hlt, if_true, e1, hl2]
      rw [gg_t (by omega), gg_t (by omega), w64 (m := i + 1) (by omega) (by omega), u64_8 _ (by omega), shr_nat _ _ _ (by show _ ≤ 64; omega), u8_nat, be8_get _ _ hi]
      simp
    · have hlt : decide (((8 : Nat) : Int) < 8) = false := rfl
      have hb : (be8 m.length).take 8 = be8 m.length := by rw [List.take_of_length_le]; rw [len_be8]; omega
      simp only [hlt, hb]
      have hp : m ++ [128] ++ List.replicate (zs m.length) (0 : Int) ++ be8 m.length = padd m := rfl
      obtain ⟨q1, q2⟩ := len_padd m
      rw [hp]
      show mr (gg _ _) = _
      rw [gg_t (by omega), rgl_eq (f := fun s ch => (take ch s.1, ())) (fun c hc s => by rw [s19_eq c s.1 (by have := chunk_len q1 hc; omega), bd_s]), bd_s, fold_fst]
      generalize hs : (chunks 64 (padd m)).foldl (fun s b => take b s) iv = st
      have hs' : (chunks 64 (padd m)).foldl (fun s b => take b s) (vofl (nat_lit 7) 0 [1779033703, (3144134277 : Int), (1013904242 : Int), (2773480762 : Int), (1359893119 : Int), (2600822924 : Int), (528734635 : Int), (1541459225 : Int)]) = st := hs
      rw [hs']
      have hsl : st.toList.length = 8 := Vector.length_toList
      refine congrArg mr (a₂ := some (sha m, ())) (lp_upto (fun i => ((i : Int), (st.toList.take i).flatMap b4, ())) 8 rfl (fun i hi => ?_) ?_)
      · have hlt : decide ((i : Int) < 8) = true := by simp; omega
        have hl3 : ((st.toList.take i).flatMap b4).length = 4 * i := by rw [len_fm, List.length_take, hsl]; omega
        simp only [hlt, if_true, Int.toNat_natCast]
        rw [gg_t (by omega), bd_s]
        simp only [hl3]
        rw [gg_t (by omega), w64 (m := i + 1) (by omega) (by omega), flatMap_b4 _ _ (by omega)]
        rfl
      · have hlt : decide (((8 : Nat) : Int) < 8) = false := rfl
        simp only [hlt]
        rw [show (st.toList.take 8) = st.toList from List.take_of_length_le (by omega)]
        show mr (some _) = mr (some _)
        unfold sha outb
        rw [hs]
theorem wneg {n : Int} (h : -2 ^ 62 ≤ n) (h' : n < 2 ^ 62) : IntKind.i64.wrap n = n := wrap64 (by omega) (by omega)
theorem chunk_getD (m : List Int) (j i : Nat) (h : i < 64) : ((m.drop (j * 64)).take 64).getD i 0 = m.getD (64 * j + i) 0 := by
  simp [List.getD, List.getElem?_take, List.getElem?_drop, h, Nat.mul_comm]
theorem wd_chunk (m : List Int) (j i : Nat) (h : i < 16) : wd ((m.drop (j * 64)).take 64) i =
    bitOr .u32 (bitOr .u32 (bitOr .u32 (shlI .u32 (IntKind.u32.wrap (m.getD (64 * j + 4 * i) 0)) 24) (shlI .u32 (IntKind.u32.wrap (m.getD (64 * j + 4 * i + 1) 0)) 16)) (shlI .u32 (IntKind.u32.wrap (m.getD (64 * j + 4 * i + 2) 0)) 8)) (IntKind.u32.wrap (m.getD (64 * j + 4 * i + 3) 0)) := by
  unfold wd
  rw [chunk_getD _ _ _ (by omega), chunk_getD _ _ _ (by omega), chunk_getD _ _ _ (by omega), chunk_getD _ _ _ (by omega)]
  rfl
theorem chunks_take {m : List Int} (h : m.length % 64 = 0) {j : Nat} (hj : j < m.length / 64) : (chunks 64 m).take (j + 1) = (chunks 64 m).take j ++ [(m.drop (j * 64)).take 64] := by
  have hl : (chunks 64 m).length = m.length / 64 := by simp [chunks]; omega
  rw [List.take_succ_eq_append_getElem (by omega)]
  simp [chunks]
set_option maxHeartbeats 1000000 in
theorem s12_eq (m : List Int) (h : m.length ≤ 2 ^ 40) : s_32 (m, ()) = some (sha m, ()) := by
  unfold s_32
  try simp only [nl]
  try simp only
  rw [gg_t (by omega), gg_t (by omega)]
  refine lp_upto (fun i => (m ++ [128] ++ List.replicate i 0, ())) (zs m.length) (by simp) (fun i hi => ?_) ?_
  · have hl : (m ++ [128] ++ List.replicate i (0 : Int)).length = m.length + 1 + i := by simp; omega
    simp only [hl, tm64]
    have hz : ¬ (m.length + 1 + i) % 64 = 56 := by unfold zs at hi; omega
    have hz' : zs m.length ≤ 64 := by unfold zs; omega
    simp only [hz, decide_false, Bool.not_false, if_true]
    rw [gg_t (by omega)]
    simp [List.replicate_succ']
  · have hl : (m ++ [128] ++ List.replicate (zs m.length) (0 : Int)).length = m.length + 1 + zs m.length := by simp; omega
    have hz : (m.length + 1 + zs m.length) % 64 = 56 := by unfold zs; omega
    have hz' : zs m.length ≤ 64 := by unfold zs; omega
    simp only [hl, tm64, hz, decide_true, Bool.not_true, Bool.false_eq_true, if_false, bd_s]
    refine congrArg mr (a₂ := some (sha m, ())) (lp_upto (fun i => ((7 : Int) - (i : Int), m ++ [128] ++ List.replicate (zs m.length) (0 : Int) ++ (be8 m.length).take i, ())) 8 (by simp) (fun i hi => ?_) ?_)
    · have hlt : decide (0 ≤ (7 : Int) - (i : Int)) = true := by simp; omega
      have hl2 : (m ++ [128] ++ List.replicate (zs m.length) (0 : Int) ++ (be8 m.length).take i).length = m.length + 1 + zs m.length + i := by
        rw [List.length_append, hl, List.length_take, len_be8]; omega
      have e1 : IntKind.u64.wrap (IntKind.i64.wrap (8 * ((7 : Int) - (i : Int)))) = ((56 - 8 * i : Nat) : Int) := by
        rw [w64 (n := 8 * ((7 : Int) - (i : Int))) (m := 56 - 8 * i) (by omega) (by omega), IntKind.wrap_u64]
        omega
      simp only [hlt, if_true, e1, hl2]
      rw [gg_t (by omega), gg_t (by omega), wneg (by omega) (by omega), u64_8 _ (by omega), shr_nat _ _ _ (by show _ ≤ 64; omega), u8_nat, be8_get _ _ hi]
      have : (7 : Int) - (i : Int) - 1 = 7 - ((i + 1 : Nat) : Int) := by omega
      rw [this]
      simp
    · have hlt : decide (0 ≤ (7 : Int) - ((8 : Nat) : Int)) = false := rfl
      have hb : (be8 m.length).take 8 = be8 m.length := by rw [List.take_of_length_le]; rw [len_be8]; omega
      simp only [hlt, hb]
      have hp : m ++ [128] ++ List.replicate (zs m.length) (0 : Int) ++ be8 m.length = padd m := rfl
      obtain ⟨q1, q2⟩ := len_padd m
      rw [hp]
      generalize hM : padd m = M at q1 q2
      show mr (bd _ _) = _
      rw [s20_eq, bd_s]
      have hcl : (chunks 64 M).length = M.length / 64 := by simp [chunks]; omega
      refine congrArg mr (a₂ := some (sha m, ())) (lp_upto (fun j => (((64 * j : Nat) : Int), ((chunks 64 M).take j).foldl (fun s b => take b s) iv, ())) (M.length / 64) rfl (fun j hj => ?_) ?_)
      · have hlt : decide (((64 * j : Nat) : Int) < (M.length : Int)) = true := by simp; omega
        simp only [hlt, if_true]
        rw [chunks_take q1 hj, List.foldl_append]
        generalize ((chunks 64 M).take j).foldl (fun s b => take b s) iv = S
        simp only [List.foldl_cons, List.foldl_nil]
        generalize hc : (M.drop (j * 64)).take 64 = c
        have hwd := fun i hi => (congrArg (fun c => wd c i) hc).symm.trans (wd_chunk M j i hi)
        refine lp_upto (fun i => ((i : Int), itn (fun i w => vset w i (wd c i)) i (Vector.replicate 64 0), ())) 16 rfl (fun i hi => ?_) ?_
        · have hlt : decide ((i : Int) < 16) = true := by simp; omega
          have e1 : IntKind.i64.wrap (((64 * j : Nat) : Int) + IntKind.i64.wrap (4 * (i : Int))) = ((64 * j + 4 * i : Nat) : Int) := by
            rw [w64 (n := 4 * (i : Int)) (m := 4 * i) (by omega) (by omega)]
            exact w64 (by omega) (by omega)
          have f1 : IntKind.i64.wrap (((64 * j + 4 * i : Nat) : Int) + 1) = ((64 * j + 4 * i + 1 : Nat) : Int) := w64 (by omega) (by omega)
          have f2 : IntKind.i64.wrap (((64 * j + 4 * i : Nat) : Int) + 2) = ((64 * j + 4 * i + 2 : Nat) : Int) := w64 (by omega) (by omega)
          have f3 : IntKind.i64.wrap (((64 * j + 4 * i : Nat) : Int) + 3) = ((64 * j + 4 * i + 3 : Nat) : Int) := w64 (by omega) (by omega)
          simp only [hlt, if_true, bd_s, e1, f1, f2, f3, Int.toNat_natCast]
          rw [gg_t (by omega), gg_t (by omega), gg_t (by omega), gg_t (by omega), gg_t (by omega), gg_t (by omega), w64 (m := i + 1) (by omega) (by omega), itn_succ, hwd i hi]
        · have hlt : decide (((16 : Nat) : Int) < 16) = false := rfl
          simp only [hlt]
          refine congrArg mr (a₂ := some (Sum.inl (((64 * (j + 1) : Nat) : Int), take c S, ()))) ?_
          refine lp_upto (fun i => (((i + 16 : Nat) : Int), itn (fun i w => vset w (i + 16) (ad (ad (ad (gv w i) (sc (gv w (i + 1)) 7 18 3)) (gv w (i + 9))) (sc (gv w (i + 14)) 17 19 10))) i (itn (fun i w => vset w i (wd c i)) 16 (Vector.replicate 64 0)), ())) 48 rfl (fun i hi => ?_) ?_
          · have hlt : decide (((i + 16 : Nat) : Int) < 64) = true := by simp; omega
            have e1 : IntKind.i64.wrap (((i + 16 : Nat) : Int) - 15) = ((i + 1 : Nat) : Int) := w64 (by omega) (by omega)
            have e2 : IntKind.i64.wrap (((i + 16 : Nat) : Int) - 2) = ((i + 14 : Nat) : Int) := w64 (by omega) (by omega)
            have e3 : IntKind.i64.wrap (((i + 16 : Nat) : Int) - 16) = ((i : Nat) : Int) := w64 (by omega) (by omega)
            have e4 : IntKind.i64.wrap (((i + 16 : Nat) : Int) - 7) = ((i + 9 : Nat) : Int) := w64 (by omega) (by omega)
            simp only [hlt, if_true, e1, Int.toNat_natCast, Vector.length_toList]
            rw [gg_t (by omega), gg_t (by omega), gg_t (by omega), gg_t (by omega), gg_t (by omega), gg_t (by omega), s21_eq _ _ (trn _ rfl), bd_s, s21_eq _ _ (trn _ rfl), bd_s, bd_s]
            simp only [e2, Int.toNat_natCast, Vector.length_toList]
            rw [gg_t (by omega), gg_t (by omega), gg_t (by omega), gg_t (by omega), gg_t (by omega), gg_t (by omega), s21_eq _ _ (trn _ rfl), bd_s, s21_eq _ _ (trn _ rfl), bd_s, bd_s]
            simp only [e3, e4, Int.toNat_natCast, Vector.length_toList]
            rw [gg_t (by omega), gg_t (by omega), gg_t (by omega), gg_t (by omega), gg_t (by omega), gg_t (by omega), w64 (m := i + 1 + 16) (by omega) (by omega)]
            rfl
          · have hlt : decide (((48 + 16 : Nat) : Int) < 64) = false := rfl
            simp only [hlt]
            refine congrArg mr (a₂ := some (Sum.inl (((64 * (j + 1) : Nat) : Int), take c S, ()))) ?_
            show lp ((0 : Int), S, ()) _ = _
            refine lp_upto (fun i => ((i : Int), itn (rnd (sched c)) i S, ())) 64 rfl (fun i hi => ?_) ?_
            · have hlt : decide ((i : Int) < 64) = true := by simp; omega
              generalize hv : itn (rnd (sched c)) i S = v
              simp only [hlt, if_true, Vector.length_toList, Int.toNat_natCast]
              rw [gg_t (by omega), gg_t (by omega), gg_t (by omega), gg_t (by omega), gg_t (by omega), gg_t (by omega), gg_t (by omega), gg_t (by omega), gg_t (by omega), gg_t (by omega), gg_t (by omega), gg_t (by omega),
                s21_eq _ _ (trn _ rfl), bd_s, s21_eq _ _ (trn _ rfl), bd_s, s21_eq _ _ (trn _ rfl), bd_s, bd_s]
              simp only [Vector.length_toList]
              rw [gg_t (by omega), gg_t (by omega), gg_t (by omega), gg_t (by omega), gg_t (by omega), gg_t (by omega), gg_t (by omega), gg_t (by omega), gg_t (by omega),
                s21_eq _ _ (trn _ rfl), bd_s, s21_eq _ _ (trn _ rfl), bd_s, s21_eq _ _ (trn _ rfl), bd_s, bd_s]
              simp only [Vector.length_toList]
              rw [gg_t (by omega), gg_t (by omega), gg_t (by omega), gg_t (by omega), gg_t (by omega), gg_t (by omega), gg_t (by omega), w64 (m := i + 1) (by omega) (by omega), itn_succ _ i, hv]
              rfl
            · have hlt : decide (((64 : Nat) : Int) < 64) = false := rfl
              simp only [hlt]
              refine congrArg mr (a₂ := some (Sum.inl (((64 * (j + 1) : Nat) : Int), take c S, ()))) ?_
              refine lp_upto (fun i => ((i : Int), itn (fun i t => vset t i (ad (gv t i) (gv (itn (rnd (sched c)) 64 S) i))) i S, ())) 8 rfl (fun i hi => ?_) ?_
              · have hlt : decide ((i : Int) < 8) = true := by simp; omega
                simp only [hlt, if_true, Vector.length_toList, Int.toNat_natCast]
                rw [gg_t (by omega), gg_t (by omega), gg_t (by omega), gg_t (by omega), gg_t (by omega), gg_t (by omega), w64 (m := i + 1) (by omega) (by omega)]
                rfl
              · have hlt : decide (((8 : Nat) : Int) < 8) = false := rfl
                simp only [hlt]
                rw [w64 (n := ((64 * j : Nat) : Int) + 64) (m := 64 * (j + 1)) (by omega) (by omega)]
                rfl
      · have hlt : decide (((64 * (M.length / 64) : Nat) : Int) < (M.length : Int)) = false := by simp; omega
        simp only [hlt]
        rw [List.take_of_length_le (by omega)]
        generalize hs : (chunks 64 M).foldl (fun s b => take b s) iv = st
        have hsl : st.toList.length = 8 := Vector.length_toList
        refine congrArg mr (a₂ := some (sha m, ())) (lp_upto (fun i => ((i : Int), (st.toList.take i).flatMap b4, ())) 8 rfl (fun i hi => ?_) ?_)
        · have hlt : decide ((i : Int) < 8) = true := by simp; omega
          have hl3 : ((st.toList.take i).flatMap b4).length = 4 * i := by rw [len_fm, List.length_take, hsl]; omega
          simp only [hlt, if_true, Int.toNat_natCast, hl3, Vector.length_toList]
          rw [gg_t (by omega), gg_t (by omega), gg_t (by omega), gg_t (by omega), gg_t (by omega), gg_t (by omega), gg_t (by omega), gg_t (by omega), gg_t (by omega), w64 (m := i + 1) (by omega) (by omega), flatMap_b4 _ _ (by omega)]
          rfl
        · have hlt : decide (((8 : Nat) : Int) < 8) = false := rfl
          simp only [hlt]
          rw [show (st.toList.take 8) = st.toList from List.take_of_length_le (by omega)]
          show mr (some _) = mr (some _)
          unfold sha outb
          rw [hM, hs]
def Byt (c : Int) : Prop := 0 ≤ c ∧ c < 256
def tb : List UInt8 := [48, 49, 50, 51, 52, 53, 54, 55, 56, 57, 97, 98, 99, 100, 101, 102]
def hx (c : Int) : List Int := [((tb.getD (shrI .u8 c 4).toNat 0).toNat : Int), ((tb.getD (bitAnd .u8 c 15).toNat 0).toNat : Int)]
def hexs (x : List Int) : ByteArray := strOfNums (x.flatMap hx)
theorem hi4 {c : Int} (h : Byt c) : 0 ≤ shrI .u8 c 4 ∧ (shrI .u8 c 4).toNat < 16 := by
  obtain ⟨n, rfl⟩ := Int.eq_ofNat_of_zero_le h.1
  have := h.2
  rw [show (4 : Int) = ((4 : Nat) : Int) from rfl, shr_nat _ _ _ (by decide)]
  refine ⟨Int.natCast_nonneg _, ?_⟩
  rw [Int.toNat_natCast]
  omega
theorem lo4 (c : Int) : 0 ≤ bitAnd .u8 c 15 ∧ (bitAnd .u8 c 15).toNat < 16 := by
  have h : (BitVec.ofInt IntKind.u8.bits c &&& BitVec.ofInt IntKind.u8.bits 15).toNat ≤ 15 := by
    rw [BitVec.toNat_and]; exact Nat.and_le_right
  unfold bitAnd
  generalize (BitVec.ofInt IntKind.u8.bits c &&& BitVec.ofInt IntKind.u8.bits 15).toNat = n at h
  rw [u8_nat, Int.toNat_natCast]
  omega
theorem len_hx (x : List Int) : (x.flatMap hx).length = 2 * x.length := by
  induction x with
  | nil => rfl
  | cons c x ih => simp only [List.flatMap_cons, List.length_append, ih, List.length_cons]; simp [hx]; omega
theorem flatMap_take {α β : Type} (f : α → List β) (d : α) (l : List α) (i : Nat) (h : i < l.length) : (l.take (i + 1)).flatMap f = (l.take i).flatMap f ++ f (l.getD i d) := by
  have hg : l.getD i d = l[i] := by simp [List.getD, h]
  rw [List.take_succ_eq_append_getElem h, List.flatMap_append, hg]; simp
theorem getD_mem {l : List Int} {i : Nat} (h : i < l.length) : l.getD i 0 ∈ l := by
  have hg : l.getD i 0 = l[i] := by simp [List.getD, h]
  rw [hg]; exact List.getElem_mem h
theorem s14_eq (x : List Int) (hb : ∀ c ∈ x, Byt c) (h : x.length ≤ 2 ^ 40) : s_29 (x, ()) = some (hexs x, ()) := by
  unfold s_29
  try simp only [nl]
  have e0 : IntKind.i64.wrap ((2 : Int) * (x.length : Int)) = ((2 * x.length : Nat) : Int) := w64 (by omega) (by omega)
  simp only [e0]
  rw [gg_t (by omega)]
  refine lp_upto (fun i => ((i : Int), (x.take i).flatMap hx, ())) x.length (by simp) (fun i hi => ?_) ?_
  · have hlt : decide ((i : Int) < (x.length : Int)) = true := by simpa using hi
    have hl : ((x.take i).flatMap hx).length = 2 * i := by rw [len_hx, List.length_take]; omega
    obtain ⟨p1, p2⟩ := hi4 (hb _ (getD_mem hi))
    obtain ⟨p3, p4⟩ := lo4 (x.getD i 0)
    simp only [hlt, if_true, Int.toNat_natCast, hl]
    rw [gg_t (by omega), gg_t ⟨p1, p2⟩, gg_t ⟨p3, p4⟩, gg_t (by omega), w64 (m := i + 1) (by omega) (by omega), flatMap_take _ 0 _ _ hi]
    rfl
  · have hlt : decide ((x.length : Int) < (x.length : Int)) = false := by simp
    simp only [hlt, List.take_length]
    rfl
theorem len_sha (m : List Int) : (sha m).length = 32 := by
  unfold sha outb
  rw [len_fm, Vector.length_toList]
theorem byt_sha (m : List Int) : ∀ c ∈ sha m, Byt c := by
  intro c hc
  unfold sha outb at hc
  rw [List.mem_flatMap] at hc
  obtain ⟨w, _, hc⟩ := hc
  have : ∀ n : Int, Byt (IntKind.u8.wrap n) := fun n => by rw [IntKind.wrap_u8]; unfold Byt; omega
  simp only [b4, List.mem_cons, List.not_mem_nil, or_false] at hc
  rcases hc with rfl | rfl | rfl | rfl <;> exact this _
theorem s15_eq (x : List Int) (h : x.length ≤ 2 ^ 47) : s_14 (x, ()) = some (x, ()) := by
  unfold s_14
  try simp only [nl]
  try simp only
  rw [gg_t (by omega)]
theorem s9_eq (p : List (List Int)) (h : p.length ≤ 2 ^ 40) (h' : ∀ x ∈ p, x.length ≤ 2 ^ 47) : s_43 (p, ()) = some (p, ()) := by
  unfold s_43
  try simp only [nl]
  refine lp_upto (fun i => ((i : Int), p.take i, ())) p.length rfl (fun i hi => ?_) ?_
  · have hlt : decide ((i : Int) < (p.length : Int)) = true := by simpa using hi
    have hg : p.getD i [] = p[i] := by simp [List.getD, hi]
    have hl : (p.take i).length = i := by rw [List.length_take]; omega
    simp only [hlt, if_true, Int.toNat_natCast, hl]
    rw [gg_t (by omega), hg, s15_eq _ (h' _ (List.getElem_mem hi)), bd_s, gg_t (by omega), w64 (m := i + 1) (by omega) (by omega), List.take_succ_eq_append_getElem hi]
  · have hlt : decide ((p.length : Int) < (p.length : Int)) = false := by simp
    simp only [hlt, List.take_length]
    rfl
def tot (p : List (List Int)) (i : Nat) : Nat := (p.take i).flatten.length + i
theorem tot_succ (p : List (List Int)) {i : Nat} (h : i < p.length) : tot p (i + 1) = tot p i + (1 + (p.getD i []).length) := by
  unfold tot
  rw [take_flat p h, List.length_append]; omega
theorem first_over (p : List (List Int)) (L : Nat) : ∀ n, L < tot p n → ∃ k, k < n ∧ tot p k ≤ L ∧ L < tot p (k + 1)
  | 0, h => by simp [tot] at h
  | n + 1, h => by
    by_cases h1 : L < tot p n
    · obtain ⟨k, a, b, c⟩ := first_over p L n h1
      exact ⟨k, by omega, b, c⟩
    · exact ⟨n, by omega, by omega, h⟩
theorem s8_eq (p : List (List Int)) (L : Nat) (hL : L ≤ 2 ^ 40) (h : p.length ≤ 2 ^ 50) (h' : ∀ x ∈ p, x.length ≤ 2 ^ 50) : s_42 (p, (L : Int), ()) = some (decide (L < tot p p.length), ()) := by
  unfold s_42
  try simp only [nl]
  have step : ∀ i, i < p.length → tot p i ≤ L → decide ((i : Int) < (p.length : Int)) = true ∧ IntKind.i64.wrap ((tot p i : Int) + IntKind.i64.wrap ((1 : Int) + ((p.getD i []).length : Int))) = (tot p (i + 1) : Int) := by
    intro i hi hle
    have hg : p.getD i [] = p[i] := by simp [List.getD, hi]
    have hl := h' _ (List.getElem_mem hi)
    have h1 := tot_succ p hi
    rw [hg] at h1 ⊢
    refine ⟨by simpa using hi, ?_⟩
    rw [w64 (n := (1 : Int) + (p[i].length : Int)) (m := 1 + p[i].length) (by omega) (by omega)]
    exact w64 (by omega) (by omega)
  by_cases hov : L < tot p p.length
  · obtain ⟨k, k1, k2, k3⟩ := first_over p L _ hov
    have mono : ∀ i, i ≤ k → tot p i ≤ L := by
      intro i hi
      obtain ⟨j, hj⟩ : ∃ j, k = i + j := ⟨k - i, by omega⟩
      have : ∀ j, i + j ≤ p.length → tot p i ≤ tot p (i + j) := by
        intro j
        induction j with
        | zero => intro _; exact Nat.le_refl _
        | succ j ih => intro hh; have := tot_succ p (i := i + j) (by omega); have := ih (by omega); rw [show i + (j + 1) = i + j + 1 by omega]; omega
      have := this j (by omega)
      rw [← hj] at this; omega
    refine lp_upto (fun i => ((tot p i : Int), (i : Int), ())) k rfl (fun i hi => ?_) ?_
    · obtain ⟨e1, e2⟩ := step i (by omega) (mono i (by omega))
      simp only [e1, if_true, Int.toNat_natCast, e2]
      rw [gg_t (by omega), bd_s]
      have hn : decide ((L : Int) < (tot p (i + 1) : Int)) = false := by simp; exact mono (i + 1) (by omega)
      simp only [hn, Bool.false_eq_true, if_false]
      rw [w64 (m := i + 1) (by omega) (by omega)]
    · obtain ⟨e1, e2⟩ := step k k1 k2
      simp only [e1, if_true, Int.toNat_natCast, e2]
      rw [gg_t (by omega), bd_s]
      have hn : decide ((L : Int) < (tot p (k + 1) : Int)) = true := by simpa using k3
      simp only [hn, if_true, hov, decide_true]
      rfl
  · have mono : ∀ i, i ≤ p.length → tot p i ≤ L := by
      intro i hi
      obtain ⟨j, hj⟩ : ∃ j, p.length = i + j := ⟨p.length - i, by omega⟩
      have : ∀ j, i + j ≤ p.length → tot p i ≤ tot p (i + j) := by
        intro j
        induction j with
        | zero => intro _; exact Nat.le_refl _
        | succ j ih => intro hh; have := tot_succ p (i := i + j) (by omega); have := ih (by omega); rw [show i + (j + 1) = i + j + 1 by omega]; omega
      have := this j (by omega)
      rw [← hj] at this; omega
    refine lp_upto (fun i => ((tot p i : Int), (i : Int), ())) p.length rfl (fun i hi => ?_) ?_
    · obtain ⟨e1, e2⟩ := step i hi (mono i (by omega))
      simp only [e1, if_true, Int.toNat_natCast, e2]
      rw [gg_t (by omega), bd_s]
      have hn : decide ((L : Int) < (tot p (i + 1) : Int)) = false := by simp; exact mono (i + 1) (by omega)
      simp only [hn, Bool.false_eq_true, if_false]
      rw [w64 (m := i + 1) (by omega) (by omega)]
    · have hlt : decide ((p.length : Int) < (p.length : Int)) = false := by simp
      simp only [hlt, hov, decide_false]
      rfl
theorem rb : reachBytes < 2 ^ 47 := reachBytes_lt
theorem first_not (P : Nat → Prop) [DecidablePred P] : ∀ n, (∀ i, i < n → P i) ∨ ∃ k, k < n ∧ (∀ i, i < k → P i) ∧ ¬ P k
  | 0 => .inl fun i h => absurd h (by omega)
  | n + 1 => by
    rcases first_not P n with h | ⟨k, h1, h2, h3⟩
    · by_cases hp : P n
      · exact .inl fun i hi => if e : i = n then e ▸ hp else h i (by omega)
      · exact .inr ⟨n, by omega, h, hp⟩
    · exact .inr ⟨k, by omega, h2, h3⟩
/-- A loop that asks something of each number. -/
theorem lp_all {A : Type} {body : Int × Unit → Option ((Int × Unit) ⊕ A)} (n : Nat) (P : Nat → Prop) [DecidablePred P] (t f : A)
    (hs : ∀ i, i < n → P i → body ((i : Int), ()) = some (.inl (((i + 1 : Nat) : Int), ()))) (hf : ∀ i, i < n → ¬ P i → body ((i : Int), ()) = some (.inr f)) (he : body ((n : Int), ()) = some (.inr t)) :
    lp ((0 : Int), ()) body = some (if ∀ i, i < n → P i then t else f) := by
  rcases first_not P n with h | ⟨k, h1, h2, h3⟩
  · rw [if_pos h]
    exact lp_upto (fun i => ((i : Int), ())) n rfl (fun i hi => hs i hi (h i hi)) he
  · rw [if_neg (fun h => h3 (h k h1))]
    exact lp_upto (fun i => ((i : Int), ())) k rfl (fun i hi => hs i (by omega) (h2 i hi)) (hf k h1 h3)
theorem eq_getD {α : Type} (d : α) {x y : List α} (h : x.length = y.length) : (∀ i, i < x.length → x.getD i d = y.getD i d) ↔ x = y := by
  constructor
  · intro h1
    refine List.ext_getElem h fun i h2 h3 => ?_
    have := h1 i h2
    simpa [List.getD, h2, h3] using this
  · rintro rfl i _; rfl
theorem same_lp (x y : List Int) (h : x.length ≤ 2 ^ 50) : (if ((↑(List.length x) : Int) != (↑(List.length y) : Int)) = true then some (false, ()) else lp ((0 : Int), ()) fun s => if decide (s.1 < (↑(List.length x) : Int)) = true then gg (0 ≤ s.1 ∧ Int.toNat s.1 < List.length x) (gg (0 ≤ s.1 ∧ Int.toNat s.1 < List.length y) (if (List.getD x (Int.toNat s.1) 0 != List.getD y (Int.toNat s.1) 0) = true then mr (some (false, ())) else some (Sum.inl (IntKind.i64.wrap (s.1 + 1), ())))) else mr (some (true, ()))) = some (decide (x = y), ()) := by
  by_cases hl : x.length = y.length
  · have : ((↑(List.length x) : Int) != (↑(List.length y) : Int)) = false := by simp [hl]
    simp only [this, Bool.false_eq_true, if_false]
    rw [lp_all x.length (fun i => x.getD i 0 = y.getD i 0) (true, ()) (false, ()) ?_ ?_ ?_]
    · by_cases e : x = y
      · rw [if_pos ((eq_getD 0 hl).2 e)]; simp [e]
      · rw [if_neg (fun h => e ((eq_getD 0 hl).1 h))]; simp [e]
    · intro i hi hp
      have hlt : decide ((i : Int) < (x.length : Int)) = true := by simpa using hi
      simp only [hlt, if_true, Int.toNat_natCast]
      rw [gg_t (by omega), gg_t (by omega), w64 (m := i + 1) (by omega) (by omega), hp]
      simp
    · intro i hi hp
      have hlt : decide ((i : Int) < (x.length : Int)) = true := by simpa using hi
      have hb : (List.getD x i 0 != List.getD y i 0) = true := by simp only [bne_iff_ne, ne_eq]; exact hp
      simp only [hlt, if_true, Int.toNat_natCast]
      rw [gg_t (by omega), gg_t (by omega), if_pos hb]; rfl
    · have hlt : decide ((x.length : Int) < (x.length : Int)) = false := by simp
      simp only [hlt]
      rfl
  · have : ((↑(List.length x) : Int) != (↑(List.length y) : Int)) = true := by simp; omega
    have e : x ≠ y := fun e => hl (by rw [e])
    simp [this, e]
theorem SameBytes_eq (x y : List Int) (h : x.length ≤ 2 ^ 50) : s_12 (x, y, ()) = some (decide (x = y), ()) := same_lp x y h
theorem Equal_eq (x y : List Int) (h : x.length ≤ 2 ^ 50) : s_44 (x, y, ()) = some (decide (x = y), ()) := same_lp x y h
theorem SameRows_eq (x y : List (List Int)) (h : x.length ≤ 2 ^ 50) (h' : ∀ z ∈ x, z.length ≤ 2 ^ 50) : s_40 (x, y, ()) = some (decide (x = y), ()) := by
  unfold s_40
  try simp only [nl]
  by_cases hl : x.length = y.length
  · have : ((↑(List.length x) : Int) != (↑(List.length y) : Int)) = false := by simp [hl]
    simp only [this, Bool.false_eq_true, if_false]
    have hsb : ∀ i, i < x.length → s_12 (x.getD i [], y.getD i [], ()) = some (decide (x.getD i [] = y.getD i []), ()) := fun i hi => SameBytes_eq _ _ (h' _ (by
      have hg : x.getD i [] = x[i] := by simp [List.getD, hi]
      rw [hg]; exact List.getElem_mem hi))
    rw [lp_all x.length (fun i => x.getD i [] = y.getD i []) (true, ()) (false, ()) ?_ ?_ ?_]
    · by_cases e : x = y
      · rw [if_pos ((eq_getD [] hl).2 e)]; simp [e]
      · rw [if_neg (fun h => e ((eq_getD [] hl).1 h))]; simp [e]
    · intro i hi hp
      have hlt : decide ((i : Int) < (x.length : Int)) = true := by simpa using hi
      simp only [hlt, if_true, Int.toNat_natCast]
      rw [gg_t (by omega), gg_t (by omega), hsb i hi, bd_s, w64 (m := i + 1) (by omega) (by omega), hp]
      simp
    · intro i hi hp
      have hlt : decide ((i : Int) < (x.length : Int)) = true := by simpa using hi
      simp only [hlt, if_true, Int.toNat_natCast]
      rw [gg_t (by omega), gg_t (by omega), hsb i hi, bd_s]
      simp only [decide_eq_false hp]; rfl
    · have hlt : decide ((x.length : Int) < (x.length : Int)) = false := by simp
      simp only [hlt]
      rfl
  · have : ((↑(List.length x) : Int) != (↑(List.length y) : Int)) = true := by simp; omega
    have e : x ≠ y := fun e => hl (by rw [e])
    simp [this, e]
/-- A byte laid over another. -/
def x8 (a b : Int) : Int := bitXor .u8 a b
def padk (k : List Int) (v : Int) : List Int := (List.range 64).map fun i => x8 (k.getD i 0) v
def key64 (k : List Int) : List Int := if 64 < k.length then sha k else k
def hmac (k b : List Int) : List Int := sha (padk (key64 k) 92 ++ sha (padk (key64 k) 54 ++ b))
theorem len_padk (k : List Int) (v : Int) : (padk k v).length = 64 := by simp [padk]
theorem len_hmac (k b : List Int) : (hmac k b).length = 32 := len_sha _
theorem len_key64 (k : List Int) : (key64 k).length ≤ 64 := by
  unfold key64
  split
  · rw [len_sha]; omega
  · omega
theorem spl_pad (k : List Int) (h : k.length ≤ 64) (z : List Int) (hz : z = List.replicate 64 0) : spl 0 (List.take 64 k) z = (List.range 64).map fun i => k.getD i 0 := by
  subst hz
  apply List.ext_getElem
  · simp [spl]; omega
  · intro i h1 h2
    have hi : i < 64 := by simpa using h2
    simp only [spl, List.take_zero, List.nil_append, List.getElem_map, List.getElem_range]
    by_cases hk : i < k.length
    · rw [List.getElem_append_left (by simp; omega)]
      simp [List.getD, hk]
    · rw [List.getElem_append_right (by simp; omega)]
      rw [List.getElem_drop, List.getElem_replicate]
      simp [List.getD, hk]
theorem pad_eq (k : List Int) (v : Int) (h : k.length ≤ 64) : s_31 (k, v, ()) = some (padk k v, ()) := by
  unfold s_31
  simp only [bd_s]
  rw [gg_t (by show 64 ≤ 64; omega), bd_s]
  show (lp ((0 : Int), spl 0 (List.take 64 k) (List.replicate 64 (0 : Int)), ()) _) = _
  rw [spl_pad k h _ rfl]
  refine lp_upto (fun i => ((i : Int), (List.range 64).map (fun j => if j < i then x8 (k.getD j 0) v else k.getD j 0), ())) 64 (by simp) (fun i hi => ?_) ?_
  · have hlt : decide ((i : Int) < 64) = true := by simp; omega
    simp only [hlt, if_true, Int.toNat_natCast, List.length_map, List.length_range]
    rw [gg_t (by omega), gg_t (by omega), gg_t (by omega), gg_t (by omega), w64 (m := i + 1) (by omega) (by omega)]
    refine congrArg some (congrArg Sum.inl (Prod.ext rfl (Prod.ext ?_ rfl)))
    apply List.ext_getElem
    · simp
    · intro j h1 h2
      have hj : j < 64 := by simpa using h2
      simp only [List.getElem_map, List.getElem_range, List.getElem_set]
      by_cases e : i = j
      · subst e
        simp [List.getD, hi, x8]
      · by_cases hji : j < i
        · simp [e, hji, show j < i + 1 by omega]
        · simp [e, hji, show ¬ j < i + 1 by omega]
  · have hlt : decide (((64 : Nat) : Int) < ((64 : Nat) : Int)) = false := rfl
    simp only [hlt, List.length_map, List.length_range]
    show mr (gg _ _) = _
    rw [gg_t trivial]
    refine congrArg some (congrArg Sum.inr (Prod.ext ?_ rfl))
    unfold padk
    show List.map _ _ = List.map _ _
    refine List.map_congr_left fun j hj => ?_
    simp only [List.mem_range] at hj
    simp [hj]
theorem Hmac_eq (k b : List Int) (hk : k.length ≤ 2 ^ 39) (hb : b.length ≤ 2 ^ 39) : s_13 (k, b, ()) = some (hmac k b, ()) := by
  unfold s_13
  have hkey : (if decide ((64 : Int) < (↑(List.length k) : Int)) = true then bd (s_30 ([k], ())) fun y => some (y.1, b, ()) else some (k, b, ())) = some (key64 k, b, ()) := by
    unfold key64
    by_cases hc : 64 < k.length
    · have : decide ((64 : Int) < (↑(List.length k) : Int)) = true := by simp; omega
      simp only [this, if_true, if_pos hc]
      rw [s11_eq _ (by simp; omega) (by simp), bd_s]
      simp
    · have : decide ((64 : Int) < (↑(List.length k) : Int)) = false := by simp; omega
      simp only [this, Bool.false_eq_true, if_false, if_neg hc]
  simp only [hkey, bd_s]
  have hl := len_key64 k
  rw [pad_eq _ _ hl, bd_s, pad_eq _ _ hl, bd_s, s11_eq _ (by simp [len_padk]; omega) (by simp), bd_s, s11_eq _ (by simp [len_padk, len_sha]) (by simp), bd_s]
  simp [hmac]
theorem refHmac_eq (k b : List Int) (hk : k.length ≤ 2 ^ 39) (hb : b.length ≤ 2 ^ 39) : s_15 (k, b, ()) = some (hmac k b, ()) := by
  unfold s_15
  try simp only [nl]
  have hkey : (if decide ((64 : Int) < (↑(List.length k) : Int)) = true then bd (s_32 (k, ())) fun y => some (y.1, b, ()) else some (k, b, ())) = some (key64 k, b, ()) := by
    unfold key64
    by_cases hc : 64 < k.length
    · have : decide ((64 : Int) < (↑(List.length k) : Int)) = true := by simp; omega
      simp only [this, if_true, if_pos hc]
      rw [s12_eq _ (by omega), bd_s]
    · have : decide ((64 : Int) < (↑(List.length k) : Int)) = false := by simp; omega
      simp only [this, Bool.false_eq_true, if_false, if_neg hc]
  simp only [hkey, bd_s]
  have hl := len_key64 k
  unfold hmac
  generalize key64 k = q at hl
  refine lp_upto (fun i => ((i : Int), (List.range i).map (fun j => x8 (q.getD j 0) 54), (List.range i).map (fun j => x8 (q.getD j 0) 92), ())) 64 rfl (fun i hi => ?_) ?_
  · have hlt : decide ((i : Int) < 64) = true := by simp; omega
    have hmid : (if decide ((i : Int) < (↑(List.length q) : Int)) = true then gg (0 ≤ (i : Int) ∧ Int.toNat (i : Int) < List.length q) (some ((i : Int), List.getD q (Int.toNat (i : Int)) 0, (List.range i).map (fun j => x8 (q.getD j 0) 54), (List.range i).map (fun j => x8 (q.getD j 0) 92), ())) else some ((i : Int), (0 : Int), (List.range i).map (fun j => x8 (q.getD j 0) 54), (List.range i).map (fun j => x8 (q.getD j 0) 92), ())) = some ((i : Int), q.getD i 0, (List.range i).map (fun j => x8 (q.getD j 0) 54), (List.range i).map (fun j => x8 (q.getD j 0) 92), ()) := by
      by_cases hq : i < q.length
      · have : decide ((i : Int) < (↑(List.length q) : Int)) = true := by simpa using hq
        simp only [this, if_true, Int.toNat_natCast]
        rw [gg_t (by omega)]
      · have h1 : decide ((i : Int) < (↑(List.length q) : Int)) = false := by simp; omega
        have h2 : q.getD i 0 = 0 := by simp [List.getD, hq]
        simp only [h1, Bool.false_eq_true, if_false, h2]
    simp only [hlt, if_true, hmid, bd_s, List.length_map, List.length_range]
    rw [gg_t (by omega), gg_t (by omega), w64 (m := i + 1) (by omega) (by omega), List.range_succ, List.map_append, List.map_append]
    rfl
  · have hlt : decide (((64 : Nat) : Int) < 64) = false := rfl
    have h54 : (List.range 64).map (fun j => x8 (q.getD j 0) 54) = padk q 54 := rfl
    have h92 : (List.range 64).map (fun j => x8 (q.getD j 0) 92) = padk q 92 := rfl
    simp only [hlt, h54, h92, len_padk]
    show mr (gg _ _) = _
    rw [gg_t (by omega), s12_eq _ (by rw [List.length_append, len_padk]; omega), bd_s, len_sha, gg_t (by omega), s12_eq _ (by rw [List.length_append, len_padk, len_sha]; omega), bd_s]
    rfl
/-- A number's bytes. -/
def nb (v : Nat) : List Int := if h : v < 128 then [(v : Int)] else ((v % 128 + 128 : Nat) : Int) :: nb (v / 128)
termination_by v
theorem nb_lt {v : Nat} (h : v < 128) : nb v = [(v : Int)] := by rw [nb, dif_pos h]
theorem nb_ge {v : Nat} (h : ¬ v < 128) : nb v = ((v % 128 + 128 : Nat) : Int) :: nb (v / 128) := by rw [nb, dif_neg h]
theorem len_nb : ∀ (k : Nat) (v : Nat), v < 128 ^ (k + 1) → (nb v).length ≤ k + 1
  | 0, v, h => by rw [nb_lt (by simpa using h)]; simp
  | k + 1, v, h => by
    by_cases hc : v < 128
    · rw [nb_lt hc]; simp
    · rw [nb_ge hc, List.length_cons]
      have := len_nb k (v / 128) (by rw [Nat.div_lt_iff_lt_mul (by decide)]; rw [Nat.pow_succ] at h; omega)
      omega
theorem len_nb9 {v : Nat} (h : v < 2 ^ 62) : (nb v).length ≤ 9 := len_nb 8 v (by have : (128 : Nat) ^ (8 + 1) = 2 ^ 63 := by decide
                                                                                 omega)
theorem or128 (v : Nat) : bitOr .u8 (IntKind.u8.wrap (v : Int)) 128 = ((v % 128 + 128 : Nat) : Int) := by
  have key : ∀ n : Nat, n < 256 → bitOr .u8 (n : Int) 128 = ((n % 128 + 128 : Nat) : Int) := by decide +kernel
  rw [u8_nat, key _ (Nat.mod_lt _ (by decide))]
  congr 1
  omega
theorem num_eq (v : Nat) (o : List Int) (hv : v < 2 ^ 62) (ho : o.length ≤ 2 ^ 41) : s_50 ((v : Int), o, ()) = some (o ++ nb v, ()) := by
  unfold s_50
  show lp ((v : Int), o, ()) _ = _
  have main : ∀ (k : Nat) (v : Nat) (o : List Int), v < 128 ^ (k + 1) → v < 2 ^ 62 → o.length + k ≤ 2 ^ 42 → loop (fun s : Int × List Int × Unit => if decide (128 ≤ s.1) = true then gg ((s.2.1.length + 1) * 1 ≤ 2 ^ 47 ∧ s.2.1.length + 1 < 2 ^ 63) (some (Sum.inl (shrI IntKind.i64 s.1 7, s.2.1 ++ [bitOr IntKind.u8 (IntKind.u8.wrap s.1) 128], ()))) else mr (gg ((s.2.1.length + 1) * 1 ≤ 2 ^ 47 ∧ s.2.1.length + 1 < 2 ^ 63) (some (s.2.1 ++ [IntKind.u8.wrap s.1], ())))) ((v : Int), o, ()) = some (o ++ nb v, ()) := by
    intro k
    induction k with
    | zero =>
      intro v o h1 h2 h3
      have hv : v < 128 := by simpa using h1
      have hlt : decide ((128 : Int) ≤ (v : Int)) = false := decide_eq_false (by omega)
      refine loop_done ?_
      simp only [hlt, Bool.false_eq_true, if_false]
      rw [gg_t (by omega), u8_nat, nb_lt hv, Nat.mod_eq_of_lt (by omega)]
      rfl
    | succ k ih =>
      intro v o h1 h2 h3
      by_cases hv : v < 128
      · have hlt : decide ((128 : Int) ≤ (v : Int)) = false := decide_eq_false (by omega)
        refine loop_done ?_
        simp only [hlt, Bool.false_eq_true, if_false]
        rw [gg_t (by omega), u8_nat, nb_lt hv, Nat.mod_eq_of_lt (by omega)]
        rfl
      · have hlt : decide ((128 : Int) ≤ (v : Int)) = true := decide_eq_true (by omega)
        rw [loop_cont (s' := (((v / 128 : Nat) : Int), o ++ [((v % 128 + 128 : Nat) : Int)], ()))]
        · rw [ih (v / 128) _ (by rw [Nat.div_lt_iff_lt_mul (by decide)]; rw [Nat.pow_succ] at h1; omega) (by omega) (by simp; omega), nb_ge hv, List.append_assoc]
          rfl
        · simp only [hlt, if_true]
          rw [gg_t (by omega), or128, show (7 : Int) = ((7 : Nat) : Int) from rfl, shr_nat _ _ _ (by decide)]
  exact main 8 v o (by have : (128 : Nat) ^ (8 + 1) = 2 ^ 63 := by decide
                       omega) hv (by omega)
theorem refNum_bad (v : Int) (h : v < 0 ∨ 4611686018427387904 ≤ v) : s_51 (v, ()) = some ([], 10, ()) := by
  unfold s_51
  try simp only [nl]
  rcases h with h | h
  · have : decide (v < 0) = true := by simpa using h
    simp only [this, Bool.true_eq_false, if_false]
  · have h1 : decide (v < 0) = false := decide_eq_false (by omega)
    have h2 : decide (4611686018427387904 ≤ v) = true := by simpa using h
    simp only [h1, h2, if_true]
theorem refNum_eq (v : Nat) (hv : v < 2 ^ 62) : s_51 ((v : Int), ()) = some (nb v, 0, ()) := by
  unfold s_51
  try simp only [nl]
  have h1 : decide ((v : Int) < 0) = false := by simp
  have h2 : decide (4611686018427387904 ≤ (v : Int)) = false := decide_eq_false (by omega)
  simp only [h1, h2, if_true, Bool.false_eq_true, if_false]
  have tm : ∀ v : Nat, IntKind.u8.wrap (Int.tmod (v : Int) 128) = ((v % 128 : Nat) : Int) := fun v => by
    rw [Int.tmod_eq_emod_of_nonneg (by omega), show ((v : Int) % 128) = ((v % 128 : Nat) : Int) by omega, u8_nat]; omega
  rw [tm]
  have main : ∀ (k : Nat) (v : Nat) (o : List Int), v < 128 ^ (k + 1) → v < 2 ^ 62 → o.length + k ≤ 100 → loop (fun s : Int × List Int × Unit => if decide (128 ≤ s.1) = true then gg (0 ≤ IntKind.i64.wrap ((↑s.2.1.length : Int) - 1) ∧ (IntKind.i64.wrap ((↑s.2.1.length : Int) - 1)).toNat < s.2.1.length) (gg (0 ≤ IntKind.i64.wrap ((↑s.2.1.length : Int) - 1) ∧ (IntKind.i64.wrap ((↑s.2.1.length : Int) - 1)).toNat < s.2.1.length) (gg (((s.2.1.set (IntKind.i64.wrap ((↑s.2.1.length : Int) - 1)).toNat (IntKind.u8.wrap (s.2.1.getD (IntKind.i64.wrap ((↑s.2.1.length : Int) - 1)).toNat (0 : Int) + 128))).length + 1) * 1 ≤ 2 ^ 47 ∧ (s.2.1.set (IntKind.i64.wrap ((↑s.2.1.length : Int) - 1)).toNat (IntKind.u8.wrap (s.2.1.getD (IntKind.i64.wrap ((↑s.2.1.length : Int) - 1)).toNat (0 : Int) + 128))).length + 1 < 2 ^ 63) (some (Sum.inl (IntKind.i64.wrap (Int.tdiv s.1 128), s.2.1.set (IntKind.i64.wrap ((↑s.2.1.length : Int) - 1)).toNat (IntKind.u8.wrap (s.2.1.getD (IntKind.i64.wrap ((↑s.2.1.length : Int) - 1)).toNat (0 : Int) + 128)) ++ [IntKind.u8.wrap ((IntKind.i64.wrap (Int.tdiv s.1 128)).tmod 128)], ()))))) else mr (some (s.2.1, (0 : Int), ()))) ((v : Int), o ++ [((v % 128 : Nat) : Int)], ()) = some (o ++ nb v, 0, ()) := by
    intro k
    induction k with
    | zero =>
      intro v o h1 h2 h3
      have hv : v < 128 := by simpa using h1
      have hlt : decide ((128 : Int) ≤ (v : Int)) = false := decide_eq_false (by omega)
      refine loop_done ?_
      simp only [hlt, Bool.false_eq_true, if_false]
      rw [nb_lt hv, Nat.mod_eq_of_lt (by omega)]
      rfl
    | succ k ih =>
      intro v o h1 h2 h3
      by_cases hv : v < 128
      · have hlt : decide ((128 : Int) ≤ (v : Int)) = false := decide_eq_false (by omega)
        refine loop_done ?_
        simp only [hlt, Bool.false_eq_true, if_false]
        rw [nb_lt hv, Nat.mod_eq_of_lt (by omega)]
        rfl
      · have hlt : decide ((128 : Int) ≤ (v : Int)) = true := decide_eq_true (by omega)
        rw [loop_cont (s' := (((v / 128 : Nat) : Int), (o ++ [((v % 128 + 128 : Nat) : Int)]) ++ [((v / 128 % 128 : Nat) : Int)], ()))]
        · rw [ih (v / 128) _ (by rw [Nat.div_lt_iff_lt_mul (by decide)]; rw [Nat.pow_succ] at h1; omega) (by omega) (by simp; omega), nb_ge hv, List.append_assoc]
          rfl
        · have hl : (o ++ [((v % 128 : Nat) : Int)]).length = o.length + 1 := by simp
          have e1 : IntKind.i64.wrap ((↑(o.length + 1) : Int) - 1) = (o.length : Int) := w64 (by omega) (by omega)
          have e2 : IntKind.i64.wrap (Int.tdiv (v : Int) 128) = ((v / 128 : Nat) : Int) := by
            rw [Int.tdiv_eq_ediv_of_nonneg (by omega)]; exact w64 (by omega) (by omega)
          have e3 : (o ++ [((v % 128 : Nat) : Int)]).getD o.length 0 = ((v % 128 : Nat) : Int) := by simp [List.getD]
          have e4 : IntKind.u8.wrap (((v % 128 : Nat) : Int) + 128) = ((v % 128 + 128 : Nat) : Int) := by
            rw [show (((v % 128 : Nat) : Int) + 128) = ((v % 128 + 128 : Nat) : Int) by omega, u8_nat, Nat.mod_eq_of_lt (by omega)]
          have e5 : (o ++ [((v % 128 : Nat) : Int)]).set o.length ((v % 128 + 128 : Nat) : Int) = o ++ [((v % 128 + 128 : Nat) : Int)] := by simp
          simp only [hlt, if_true, hl, e1, e2, Int.toNat_natCast, e3, e4, e5, tm, List.length_append, List.length_cons, List.length_nil]
          rw [gg_t (by omega), gg_t (by omega), gg_t (by omega)]
  exact main 8 v [] (by have : (128 : Nat) ^ (8 + 1) = 2 ^ 63 := by decide
                        omega) hv (by simp)
/-- Is it a number that may be written? -/
def okN (v : Int) : Prop := 0 ≤ v ∧ v < 4611686018427387904
instance (v : Int) : Decidable (okN v) := by unfold okN; infer_instance
def nums (l : List Int) : List Int × Int := if ∀ v ∈ l, okN v then (l.flatMap fun v => nb v.toNat, 0) else ([], 10)
theorem len_nums {l : List Int} : (nums l).1.length ≤ 9 * l.length := by
  unfold nums
  split
  · rename_i h
    induction l with
    | nil => simp
    | cons v l ih =>
      have := ih fun x hx => h x (by simp [hx])
      have h2 := h v (by simp)
      have h3 := len_nb9 (v := v.toNat) (by unfold okN at h2; omega)
      simp only [List.flatMap_cons, List.length_append, List.length_cons] at *
      omega
  · simp
theorem mem_getD {α : Type} (d : α) {l : List α} {i : Nat} (h : i < l.length) : l.getD i d ∈ l := by
  have hg : l.getD i d = l[i] := by simp [List.getD, h]
  rw [hg]; exact List.getElem_mem h
/-- Either all are so, or there is a first that isn't. -/
theorem all_first {α : Type} (d : α) (l : List α) (P : α → Prop) [DecidablePred P] : (∀ v ∈ l, P v) ∨ ¬ (∀ v ∈ l, P v) ∧ ∃ k, k < l.length ∧ (∀ i, i < k → P (l.getD i d)) ∧ ¬ P (l.getD k d) := by
  rcases first_not (fun i => P (l.getD i d)) l.length with h | ⟨k, h1, h2, h3⟩
  · refine .inl fun v hv => ?_
    obtain ⟨i, hi, e⟩ := List.getElem_of_mem hv
    have := h i hi
    rwa [show l.getD i d = v by simp [List.getD, hi, e]] at this
  · exact .inr ⟨fun h => h3 (h _ (mem_getD d h1)), k, h1, h2, h3⟩
theorem len_flat_nb (l : List Int) (h : ∀ v ∈ l, okN v) : (l.flatMap fun v => nb v.toNat).length ≤ 9 * l.length := by
  have := len_nums (l := l)
  unfold nums at this
  rwa [if_pos h] at this
theorem Nums_eq (l : List Int) (hl : l.length ≤ 2 ^ 30) : s_34 (l, ()) = some ((nums l).1, (nums l).2, ()) := by
  unfold s_34 nums
  try simp only [nl]
  have step : ∀ i, i < l.length → (∀ j, j ≤ i → okN (l.getD j 0)) → ((l.take i).flatMap fun v => nb v.toNat).length ≤ 9 * i ∧ s_50 (l.getD i 0, (l.take i).flatMap (fun v => nb v.toNat), ()) = some ((l.take (i + 1)).flatMap (fun v => nb v.toNat), ()) := by
    intro i hi hj
    have hf : ((l.take i).flatMap fun v => nb v.toNat).length ≤ 9 * i := by
      have := len_flat_nb (l.take i) (fun v hv => by
        obtain ⟨q, hq, e⟩ := List.getElem_of_mem hv
        have hq2 : q < i := by simp at hq; omega
        have := hj q (by omega)
        rwa [show l.getD q 0 = v by rw [List.getElem_take] at e; simp [List.getD, show q < l.length by omega, e]] at this)
      rw [List.length_take] at this; omega
    refine ⟨hf, ?_⟩
    have h1 := hj i (Nat.le_refl _)
    obtain ⟨n, hn⟩ := Int.eq_ofNat_of_zero_le h1.1
    have h2 := h1.2
    rw [flatMap_take _ 0 _ _ hi, hn, num_eq n _ (by rw [hn] at h2; omega) (by omega)]
    simp
  rcases all_first 0 l okN with h | ⟨h, k, k1, k2, k3⟩
  · rw [if_pos h]
    have hh : ∀ j, j < l.length → okN (l.getD j 0) := fun j hj => h _ (mem_getD 0 hj)
    refine lp_upto (fun i => ((i : Int), (l.take i).flatMap (fun v => nb v.toNat), ())) l.length rfl (fun i hi => ?_) ?_
    · have hlt : decide ((i : Int) < (l.length : Int)) = true := by simpa using hi
      have h1 : decide (l.getD i 0 < 0) = false := decide_eq_false (by have := (hh i hi).1; omega)
      have h2 : decide (4611686018427387904 ≤ l.getD i 0) = false := decide_eq_false (by have := (hh i hi).2; omega)
      simp only [hlt, if_true, Int.toNat_natCast, h1, h2, Bool.false_eq_true, if_false]
      rw [gg_t (by omega), (step i hi fun j hj => hh j (by omega)).2, bd_s, w64 (m := i + 1) (by omega) (by omega)]
    · have hlt : decide ((l.length : Int) < (l.length : Int)) = false := by simp
      simp only [hlt, List.take_length]
      rfl
  · rw [if_neg h]
    refine lp_upto (fun i => ((i : Int), (l.take i).flatMap (fun v => nb v.toNat), ())) k rfl (fun i hi => ?_) ?_
    · have hlt : decide ((i : Int) < (l.length : Int)) = true := decide_eq_true (by omega)
      have h1 : decide (l.getD i 0 < 0) = false := decide_eq_false (by have := (k2 i hi).1; omega)
      have h2 : decide (4611686018427387904 ≤ l.getD i 0) = false := decide_eq_false (by have := (k2 i hi).2; omega)
      simp only [hlt, if_true, Int.toNat_natCast, h1, h2, Bool.false_eq_true, if_false]
      rw [gg_t (by omega), (step i (by omega) fun j hj => k2 j (by omega)).2, bd_s, w64 (m := i + 1) (by omega) (by omega)]
    · have hlt : decide ((k : Int) < (l.length : Int)) = true := decide_eq_true (by omega)
      simp only [hlt, if_true, Int.toNat_natCast]
      rw [gg_t (by omega)]
      by_cases h1 : l.getD k 0 < 0
      · have : decide (l.getD k 0 < 0) = true := by simpa using h1
        simp only [this, Bool.true_eq_false, if_false]
        rfl
      · have h0 : decide (l.getD k 0 < 0) = false := by simpa using h1
        have h2 : decide (4611686018427387904 ≤ l.getD k 0) = true := decide_eq_true (by unfold okN at k3; omega)
        simp only [h0, h2, if_true]
        rfl
theorem refNums_eq (l : List Int) (hl : l.length ≤ 2 ^ 30) : s_37 (l, ()) = some ((nums l).1, (nums l).2, ()) := by
  unfold s_37 nums
  try simp only [nl]
  have step : ∀ i, i < l.length → (∀ j, j ≤ i → okN (l.getD j 0)) → ((l.take i).flatMap fun v => nb v.toNat).length ≤ 9 * i ∧ (nb (l.getD i 0).toNat).length ≤ 9 ∧ s_51 (l.getD i 0, ()) = some (nb (l.getD i 0).toNat, 0, ()) := by
    intro i hi hj
    have hf : ((l.take i).flatMap fun v => nb v.toNat).length ≤ 9 * i := by
      have := len_flat_nb (l.take i) (fun v hv => by
        obtain ⟨q, hq, e⟩ := List.getElem_of_mem hv
        have hq2 : q < i := by simp at hq; omega
        have := hj q (by omega)
        rwa [show l.getD q 0 = v by rw [List.getElem_take] at e; simp [List.getD, show q < l.length by omega, e]] at this)
      rw [List.length_take] at this; omega
    have h1 := hj i (Nat.le_refl _)
    have h2 := h1.2
    refine ⟨hf, len_nb9 (by omega), ?_⟩
    obtain ⟨n, hn⟩ := Int.eq_ofNat_of_zero_le h1.1
    rw [hn, refNum_eq n (by rw [hn] at h2; omega)]
    simp
  rcases all_first 0 l okN with h | ⟨h, k, k1, k2, k3⟩
  · rw [if_pos h]
    have hh : ∀ j, j < l.length → okN (l.getD j 0) := fun j hj => h _ (mem_getD 0 hj)
    refine lp_upto (fun i => ((i : Int), (l.take i).flatMap (fun v => nb v.toNat), ())) l.length rfl (fun i hi => ?_) ?_
    · have hlt : decide ((i : Int) < (l.length : Int)) = true := by simpa using hi
      obtain ⟨a1, a2, a3⟩ := step i hi fun j hj => hh j (by omega)
      simp only [hlt, if_true, Int.toNat_natCast]
      rw [gg_t (by omega), a3, bd_s]
      simp only [bne_self_eq_false, Bool.false_eq_true, if_false]
      rw [gg_t (by omega), w64 (m := i + 1) (by omega) (by omega), flatMap_take _ 0 _ _ hi]
    · have hlt : decide ((l.length : Int) < (l.length : Int)) = false := by simp
      simp only [hlt, List.take_length]
      rfl
  · rw [if_neg h]
    refine lp_upto (fun i => ((i : Int), (l.take i).flatMap (fun v => nb v.toNat), ())) k rfl (fun i hi => ?_) ?_
    · have hlt : decide ((i : Int) < (l.length : Int)) = true := decide_eq_true (by omega)
      obtain ⟨a1, a2, a3⟩ := step i (by omega) fun j hj => k2 j (by omega)
      simp only [hlt, if_true, Int.toNat_natCast]
      rw [gg_t (by omega), a3, bd_s]
      simp only [bne_self_eq_false, Bool.false_eq_true, if_false]
      rw [gg_t (by omega), w64 (m := i + 1) (by omega) (by omega), flatMap_take _ 0 _ _ (by omega)]
    · have hlt : decide ((k : Int) < (l.length : Int)) = true := decide_eq_true (by omega)
      simp only [hlt, if_true, Int.toNat_natCast]
      rw [gg_t (by omega), refNum_bad _ (by unfold okN at k3; omega), bd_s]
      rfl
/-- Fields, one behind the other, each with its length ahead. -/
def okF (f : List Int) : Prop := f.length ≤ 65536
instance (f : List Int) : Decidable (okF f) := by unfold okF; infer_instance
def fld (f : List Int) : List Int := nb f.length ++ f
def join (p : List (List Int)) : List Int × Int := if p.length ≤ 1024 ∧ ∀ f ∈ p, okF f then (p.flatMap fld, 0) else ([], 13)
theorem len_fld {f : List Int} (h : okF f) : (fld f).length ≤ 65545 := by
  unfold okF at h
  have := len_nb9 (v := f.length) (by omega)
  simp only [fld, List.length_append]; omega
theorem len_join (p : List (List Int)) (h : ∀ f ∈ p, okF f) : (p.flatMap fld).length ≤ 65545 * p.length := by
  induction p with
  | nil => simp
  | cons f p ih =>
    have h1 := ih fun x hx => h x (by simp [hx])
    have h2 := len_fld (h f (by simp))
    simp only [List.flatMap_cons, List.length_append, List.length_cons]
    omega
theorem take_okF {p : List (List Int)} {i : Nat} (hi : i ≤ p.length) (hj : ∀ j, j < i → okF (p.getD j [])) : ∀ f ∈ p.take i, okF f := by
  intro v hv
  obtain ⟨q, hq, e⟩ := List.getElem_of_mem hv
  have hq2 : q < i := by simp at hq; omega
  have := hj q (by omega)
  rwa [show p.getD q [] = v by rw [List.getElem_take] at e; simp [List.getD, show q < p.length by omega, e]] at this
theorem Join_eq (p : List (List Int)) (hp : p.length ≤ 2 ^ 30) : s_35 (p, ()) = some ((join p).1, (join p).2, ()) := by
  unfold s_35 join
  try simp only [nl]
  by_cases h0 : p.length ≤ 1024
  case neg =>
    have : decide ((1024 : Int) < (p.length : Int)) = true := decide_eq_true (by omega)
    rw [if_neg (c := p.length ≤ 1024 ∧ ∀ f ∈ p, okF f) (fun h => h0 h.1)]
    simp only [this, if_true]
  have hlt0 : decide ((1024 : Int) < (p.length : Int)) = false := decide_eq_false (by omega)
  simp only [hlt0, Bool.false_eq_true, if_false]
  have step : ∀ i, i < p.length → (∀ j, j ≤ i → okF (p.getD j [])) → ∃ a, a.length ≤ 65545 * i + 10 ∧ s_50 (((p.getD i []).length : Int), (p.take i).flatMap fld, ()) = some (a, ()) ∧ a ++ p.getD i [] = (p.take (i + 1)).flatMap fld := by
    intro i hi hj
    have h1 := len_join _ (take_okF (i := i) (by omega) fun j hj' => hj j (by omega))
    rw [List.length_take] at h1
    have h2 : (p.getD i []).length ≤ 65536 := hj i (Nat.le_refl _)
    refine ⟨(p.take i).flatMap fld ++ nb (p.getD i []).length, ?_, num_eq _ _ (by omega) (by omega), ?_⟩
    · have := len_nb9 (v := (p.getD i []).length) (by omega)
      rw [List.length_append]; omega
    · rw [flatMap_take _ [] _ _ hi, List.append_assoc]; rfl
  rcases all_first [] p okF with h | ⟨h, k, k1, k2, k3⟩
  · rw [if_pos ⟨h0, h⟩]
    have hh : ∀ j, j < p.length → okF (p.getD j []) := fun j hj => h _ (mem_getD [] hj)
    refine lp_upto (fun i => ((i : Int), (p.take i).flatMap fld, ())) p.length rfl (fun i hi => ?_) ?_
    · have hlt : decide ((i : Int) < (p.length : Int)) = true := by simpa using hi
      have h2 : (p.getD i []).length ≤ 65536 := hh i hi
      have h1 : decide ((65536 : Int) < ((p.getD i []).length : Int)) = false := decide_eq_false (by omega)
      obtain ⟨a, a1, a2, a3⟩ := step i hi fun j hj => hh j (by omega)
      simp only [hlt, if_true, Int.toNat_natCast, h1, Bool.false_eq_true, if_false]
      rw [gg_t (by omega), a2, bd_s]
      dsimp only
      rw [gg_t (by omega), w64 (m := i + 1) (by omega) (by omega), a3]
    · have hlt : decide ((p.length : Int) < (p.length : Int)) = false := by simp
      simp only [hlt, List.take_length]
      rfl
  · rw [if_neg (fun q => h q.2)]
    refine lp_upto (fun i => ((i : Int), (p.take i).flatMap fld, ())) k rfl (fun i hi => ?_) ?_
    · have hlt : decide ((i : Int) < (p.length : Int)) = true := decide_eq_true (by omega)
      have h2 : (p.getD i []).length ≤ 65536 := k2 i hi
      have h1 : decide ((65536 : Int) < ((p.getD i []).length : Int)) = false := decide_eq_false (by omega)
      obtain ⟨a, a1, a2, a3⟩ := step i (by omega) fun j hj => k2 j (by omega)
      simp only [hlt, if_true, Int.toNat_natCast, h1, Bool.false_eq_true, if_false]
      rw [gg_t (by omega), a2, bd_s]
      dsimp only
      rw [gg_t (by omega), w64 (m := i + 1) (by omega) (by omega), a3]
    · have hlt : decide ((k : Int) < (p.length : Int)) = true := decide_eq_true (by omega)
      have h1 : decide ((65536 : Int) < ((p.getD k []).length : Int)) = true := decide_eq_true (by unfold okF at k3; omega)
      simp only [hlt, if_true, Int.toNat_natCast, h1]
      rw [gg_t (by omega)]
      rfl
theorem refJoin_eq (p : List (List Int)) (hp : p.length ≤ 2 ^ 30) : s_38 (p, ()) = some ((join p).1, (join p).2, ()) := by
  unfold s_38 join
  try simp only [nl]
  by_cases h0 : p.length ≤ 1024
  case neg =>
    have : decide ((1024 : Int) < (p.length : Int)) = true := decide_eq_true (by omega)
    rw [if_neg (c := p.length ≤ 1024 ∧ ∀ f ∈ p, okF f) (fun h => h0 h.1)]
    simp only [this, if_true]
  have hlt0 : decide ((1024 : Int) < (p.length : Int)) = false := decide_eq_false (by omega)
  simp only [hlt0, Bool.false_eq_true, if_false]
  have step : ∀ i, i < p.length → (∀ j, j ≤ i → okF (p.getD j [])) → ((p.take i).flatMap fld).length ≤ 65545 * i ∧ (nb (p.getD i []).length).length ≤ 9 ∧ s_51 (((p.getD i []).length : Int), ()) = some (nb (p.getD i []).length, 0, ()) ∧ (p.take i).flatMap fld ++ nb (p.getD i []).length ++ p.getD i [] = (p.take (i + 1)).flatMap fld := by
    intro i hi hj
    have h1 := len_join _ (take_okF (i := i) (by omega) fun j hj' => hj j (by omega))
    rw [List.length_take] at h1
    have h2 : (p.getD i []).length ≤ 65536 := hj i (Nat.le_refl _)
    refine ⟨by omega, len_nb9 (by omega), refNum_eq _ (by omega), ?_⟩
    rw [flatMap_take _ [] _ _ hi, List.append_assoc]; rfl
  rcases all_first [] p okF with h | ⟨h, k, k1, k2, k3⟩
  · rw [if_pos ⟨h0, h⟩]
    have hh : ∀ j, j < p.length → okF (p.getD j []) := fun j hj => h _ (mem_getD [] hj)
    refine lp_upto (fun i => ((i : Int), (p.take i).flatMap fld, ())) p.length rfl (fun i hi => ?_) ?_
    · have hlt : decide ((i : Int) < (p.length : Int)) = true := by simpa using hi
      have h2 : (p.getD i []).length ≤ 65536 := hh i hi
      have h1 : decide ((65536 : Int) < ((p.getD i []).length : Int)) = false := decide_eq_false (by omega)
      obtain ⟨a1, a2, a3, a4⟩ := step i hi fun j hj => hh j (by omega)
      simp only [hlt, if_true, Int.toNat_natCast, h1, Bool.false_eq_true, if_false]
      rw [gg_t (by omega), gg_t (by omega), a3, bd_s]
      dsimp only
      rw [gg_t (by omega), gg_t (by omega), gg_t (by rw [List.length_append]; omega), w64 (m := i + 1) (by omega) (by omega), a4]
    · have hlt : decide ((p.length : Int) < (p.length : Int)) = false := by simp
      simp only [hlt, List.take_length]
      rfl
  · rw [if_neg (fun q => h q.2)]
    refine lp_upto (fun i => ((i : Int), (p.take i).flatMap fld, ())) k rfl (fun i hi => ?_) ?_
    · have hlt : decide ((i : Int) < (p.length : Int)) = true := decide_eq_true (by omega)
      have h2 : (p.getD i []).length ≤ 65536 := k2 i hi
      have h1 : decide ((65536 : Int) < ((p.getD i []).length : Int)) = false := decide_eq_false (by omega)
      obtain ⟨a1, a2, a3, a4⟩ := step i (by omega) fun j hj => k2 j (by omega)
      simp only [hlt, if_true, Int.toNat_natCast, h1, Bool.false_eq_true, if_false]
      rw [gg_t (by omega), gg_t (by omega), a3, bd_s]
      dsimp only
      rw [gg_t (by omega), gg_t (by omega), gg_t (by rw [List.length_append]; omega), w64 (m := i + 1) (by omega) (by omega), a4]
    · have hlt : decide ((k : Int) < (p.length : Int)) = true := decide_eq_true (by omega)
      have h1 : decide ((65536 : Int) < ((p.getD k []).length : Int)) = true := decide_eq_true (by unfold okF at k3; omega)
      simp only [hlt, if_true, Int.toNat_natCast, h1]
      rw [gg_t (by omega)]
      rfl
def lessI (a b : Int × Int) : Bool := decide (a.1 < b.1) || (a.1 == b.1 && decide (a.2 < b.2))
theorem less_aux (a b c d : Int) : (if decide (a < c) = false then if (a == c) = true then some (decide (b < d), ()) else some (false, ()) else some (true, ())) = some (lessI (a, b) (c, d), ()) := by
  unfold lessI
  by_cases h : a < c
  · simp [h]
  · by_cases h2 : a = c
    · simp [h2]
    · simp [h, h2]
theorem less_eq (a b : Int × Int) : s_33 (a, b, ()) = some (lessI a b, ()) := by
  unfold s_33
  exact less_aux _ _ _ _
theorem refless_eq (a b : Int × Int) : s_36 (a, b, ()) = some (lessI a b, ()) := by
  unfold s_36
  exact less_aux _ _ _ _
def z32 : List Int := List.replicate 32 0
def key1 (s : List Int) (a b : Int × Int) : List Int :=
  if (nums [a.1, a.2, b.1, b.2]).2 ≠ 0 then z32 else if (join [s, (nums [a.1, a.2, b.1, b.2]).1]).2 ≠ 0 then z32 else sha (join [s, (nums [a.1, a.2, b.1, b.2]).1]).1
def key2 (s : List Int) (a b : Int × Int) : List Int := if lessI b a then key1 s b a else key1 s a b
theorem len_join2 (a b : List Int) : (join [a, b]).1.length ≤ 131090 := by
  unfold join
  split
  · rename_i h
    have := len_join [a, b] h.2
    simpa using this
  · simp
theorem len_key1 (s : List Int) (a b : Int × Int) : (key1 s a b).length = 32 := by
  unfold key1
  split
  · simp [z32]
  · split
    · simp [z32]
    · exact len_sha _
theorem len_key2 (s : List Int) (a b : Int × Int) : (key2 s a b).length = 32 := by
  unfold key2
  split <;> exact len_key1 _ _ _
theorem Key_eq (s : List Int) (a b : Int × Int) : s_16 (s, a, b, ()) = some (key2 s a b, ()) := by
  obtain ⟨a1, a2⟩ := a
  obtain ⟨b1, b2⟩ := b
  have main : ∀ a1 a2 b1 b2 : Int, (bd (s_34 ([a1, a2, b1, b2], ())) fun y => if (y.2.1 != 0) = true then some (z32, ()) else bd (s_35 ([s, y.1], ())) fun y => if (y.2.1 != 0) = true then some (z32, ()) else bd (s_30 ([y.1], ())) fun y => some (y.1, ())) = some (key1 s (a1, a2) (b1, b2), ()) := by
    intro a1 a2 b1 b2
    rw [Nums_eq _ (by simp), bd_s]
    unfold key1
    dsimp only
    by_cases h1 : (nums [a1, a2, b1, b2]).2 = 0
    · simp only [h1, bne_self_eq_false, Bool.false_eq_true, if_false, ne_eq, not_true]
      rw [Join_eq _ (by simp), bd_s]
      dsimp only
      by_cases h2 : (join [s, (nums [a1, a2, b1, b2]).1]).2 = 0
      · have := len_join2 s (nums [a1, a2, b1, b2]).1
        simp only [h2, bne_self_eq_false, Bool.false_eq_true, if_false, ne_eq, not_true]
        rw [s11_eq _ (by simp; omega) (by simp), bd_s]
        simp
      · have : ((join [s, (nums [a1, a2, b1, b2]).1]).2 != 0) = true := by simpa using h2
        simp only [this, if_true, ne_eq, h2, not_false_eq_true]
    · have : ((nums [a1, a2, b1, b2]).2 != 0) = true := by simpa using h1
      simp only [this, if_true, ne_eq, h1, not_false_eq_true]
  unfold s_16 key2
  simp only [bd_s, less_eq]
  by_cases h : lessI (b1, b2) (a1, a2) = true
  · simp only [h, if_true, bd_s]
    exact main b1 b2 a1 a2
  · have h : lessI (b1, b2) (a1, a2) = false := by simpa using h
    simp only [h, Bool.false_eq_true, if_false, bd_s]
    exact main a1 a2 b1 b2
theorem refKey_eq (s : List Int) (a b : Int × Int) : s_17 (s, a, b, ()) = some (key2 s a b, ()) := by
  obtain ⟨a1, a2⟩ := a
  obtain ⟨b1, b2⟩ := b
  have main : ∀ a1 a2 b1 b2 : Int, (bd (s_37 ([a1, a2, b1, b2], ())) fun y => bd (s_38 ([s, y.1], ())) fun y_1 => if (y.2.1 != 0) = false then if (y_1.2.1 != 0) = true then some (z32, ()) else bd (s_32 (y_1.1, ())) fun y => some (y.1, ()) else some (z32, ())) = some (key1 s (a1, a2) (b1, b2), ()) := by
    intro a1 a2 b1 b2
    rw [refNums_eq _ (by simp), bd_s]
    unfold key1
    dsimp only
    rw [refJoin_eq _ (by simp), bd_s]
    dsimp only
    by_cases h1 : (nums [a1, a2, b1, b2]).2 = 0
    · simp only [h1, bne_self_eq_false, Bool.false_eq_true, if_false, ne_eq, not_true, if_true]
      by_cases h2 : (join [s, (nums [a1, a2, b1, b2]).1]).2 = 0
      · have := len_join2 s (nums [a1, a2, b1, b2]).1
        simp only [h2, bne_self_eq_false, Bool.false_eq_true, if_false, ne_eq, not_true]
        rw [s12_eq _ (by omega), bd_s]
      · have : ((join [s, (nums [a1, a2, b1, b2]).1]).2 != 0) = true := by simpa using h2
        simp only [this, if_true, ne_eq, h2, not_false_eq_true]
    · have : ((nums [a1, a2, b1, b2]).2 != 0) = true := by simpa using h1
      simp only [this, if_true, ne_eq, h1, not_false_eq_true, Bool.true_eq_false, if_false]
  unfold s_17 key2
  simp only [bd_s, refless_eq]
  by_cases h : lessI (b1, b2) (a1, a2) = true
  · simp only [h, if_true, bd_s]
    exact main b1 b2 a1 a2
  · have h : lessI (b1, b2) (a1, a2) = false := by simpa using h
    simp only [h, Bool.false_eq_true, if_false, bd_s]
    exact main a1 a2 b1 b2
def tag (s : List Int) (a b : Int × Int) (body : List Int) : List Int :=
  if (join [(nums [a.1, a.2, b.1]).1, body]).2 ≠ 0 then [] else (hmac (key2 s a b) (join [(nums [a.1, a.2, b.1]).1, body]).1).take 16
theorem len_tag' (s : List Int) (a b : Int × Int) (body : List Int) : (tag s a b body).length ≤ 16 := by
  unfold tag
  split <;> simp <;> omega
theorem len_tag (s : List Int) (a b : Int × Int) (body : List Int) (h : body.length ≤ 65536) : (tag s a b body).length = 16 := by
  have h1 : (join [(nums [a.1, a.2, b.1]).1, body]).2 = 0 := by
    unfold join
    rw [if_pos]
    refine ⟨by simp, ?_⟩
    have := len_nums (l := [a.1, a.2, b.1])
    simp only [List.length_cons, List.length_nil] at this
    simp only [List.mem_cons, List.not_mem_nil, or_false, forall_eq_or_imp, forall_eq]
    exact ⟨by unfold okF; omega, h⟩
  unfold tag
  rw [if_neg (by simp [h1]), List.length_take, len_hmac]
  rfl
theorem Clone_b (x : List Int) (h : 0 < x.length) (h' : x.length ≤ 2 ^ 40) : s_39b (x, ()) = some (x, ()) := by
  unfold s_39b
  dsimp only
  rw [gg_t (by omega), gg_t (by omega)]
theorem Tag_eq (s : List Int) (a b : Int × Int) (body : List Int) : s_18 (s, a, b, body, ()) = some (tag s a b body, ()) := by
  obtain ⟨a1, a2⟩ := a
  obtain ⟨b1, b2⟩ := b
  unfold s_18 tag
  simp only [bd_s]
  rw [Nums_eq _ (by simp), bd_s]
  dsimp only
  rw [Join_eq _ (by simp), bd_s]
  dsimp only
  by_cases h : (join [(nums [a1, a2, b1]).1, body]).2 = 0
  · have h2 := len_join2 (nums [a1, a2, b1]).1 body
    simp only [h, bne_self_eq_false, Bool.false_eq_true, if_false, ne_eq, not_true]
    rw [Key_eq, bd_s]
    dsimp only
    rw [Hmac_eq _ _ (by rw [len_key2]; omega) (by omega), bd_s]
    dsimp only
    rw [gg_t (by rw [len_hmac]; omega), gg_t (by rw [List.length_take, len_hmac]; omega)]
  · have : ((join [(nums [a1, a2, b1]).1, body]).2 != 0) = true := by simpa using h
    simp only [this, if_true, ne_eq, h, not_false_eq_true]
theorem Tag_b (s : List Int) (a b : Int × Int) (body : List Int) : s_18b (s, a, b, body, ()) = some (tag s a b body, ()) := by
  obtain ⟨a1, a2⟩ := a
  obtain ⟨b1, b2⟩ := b
  unfold s_18b tag
  simp only [bd_s]
  rw [Nums_eq _ (by simp), bd_s]
  dsimp only
  rw [Join_eq _ (by simp), bd_s]
  dsimp only
  by_cases h : (join [(nums [a1, a2, b1]).1, body]).2 = 0
  · have h2 := len_join2 (nums [a1, a2, b1]).1 body
    simp only [h, bne_self_eq_false, Bool.false_eq_true, if_false, ne_eq, not_true]
    rw [Key_eq, bd_s]
    dsimp only
    rw [Hmac_eq _ _ (by rw [len_key2]; omega) (by omega), bd_s]
    dsimp only
    rw [gg_t (by rw [len_hmac]; omega), Clone_b _ (by rw [List.length_take, len_hmac]; omega) (by rw [List.length_take, len_hmac]; omega), bd_s]
  · have : ((join [(nums [a1, a2, b1]).1, body]).2 != 0) = true := by simpa using h
    simp only [this, if_true, ne_eq, h, not_false_eq_true]
theorem refTag_eq (s : List Int) (a b : Int × Int) (body : List Int) : s_19 (s, a, b, body, ()) = some (tag s a b body, ()) := by
  obtain ⟨a1, a2⟩ := a
  obtain ⟨b1, b2⟩ := b
  unfold s_19 tag
  simp only [bd_s]
  rw [refNums_eq _ (by simp), bd_s]
  dsimp only
  rw [refJoin_eq _ (by simp), bd_s]
  dsimp only
  by_cases h : (join [(nums [a1, a2, b1]).1, body]).2 = 0
  · have h2 := len_join2 (nums [a1, a2, b1]).1 body
    simp only [h, bne_self_eq_false, Bool.false_eq_true, if_false, ne_eq, not_true]
    rw [refKey_eq, bd_s]
    dsimp only
    rw [refHmac_eq _ _ (by rw [len_key2]; omega) (by omega), bd_s]
    dsimp only
    rw [gg_t (by rw [len_hmac]; omega), s15_eq _ (by rw [List.length_take, len_hmac]; omega), bd_s]
  · have : ((join [(nums [a1, a2, b1]).1, body]).2 != 0) = true := by simpa using h
    simp only [this, if_true, ne_eq, h, not_false_eq_true]
/-- Each byte turned. -/
def turn (t : List Int) : List Int := t.map fun c => x8 c 255
def turnN (n : Nat) (t : List Int) : List Int := (t.take n).map (fun c => x8 c 255) ++ t.drop n
theorem turnN_succ {n : Nat} {t : List Int} (h : n < t.length) : (turnN n t).set n (x8 ((turnN n t).getD n 0) 255) = turnN (n + 1) t := by
  have hl : ((t.take n).map fun c => x8 c 255).length = n := by simp; omega
  have hd : t.drop n = t[n] :: t.drop (n + 1) := List.drop_eq_getElem_cons h
  have h1 : (turnN n t).getD n 0 = t[n] := by
    unfold turnN
    rw [hd, List.getD_eq_getElem?_getD, List.getElem?_append_right (by omega), hl, Nat.sub_self]
    rfl
  rw [h1]
  unfold turnN
  rw [hd, List.set_append_right _ _ (by omega), hl, Nat.sub_self, List.set_cons_zero, List.take_succ_eq_append_getElem h, List.map_append, List.append_assoc]
  rfl
theorem turn_lp {B : Type} (t : List Int) (ht : t.length ≤ 2 ^ 40) (g : List Int → Option B) (k : Int × List Int × Unit → Option ((Int × List Int × Unit) ⊕ B)) (hk : ∀ s, k s = (match g s.2.1 with | some b => some (.inr b) | none => none)) {b : B} (hb : g (turn t) = some b) :
    lp ((0 : Int), t, ()) (fun s_1 => if decide (s_1.1 < (↑t.length : Int)) = true then gg (0 ≤ s_1.1 ∧ Int.toNat s_1.1 < s_1.2.1.length) (gg (0 ≤ s_1.1 ∧ Int.toNat s_1.1 < s_1.2.1.length) (some (Sum.inl (IntKind.i64.wrap (s_1.1 + 1), s_1.2.1.set (Int.toNat s_1.1) (bitXor IntKind.u8 (s_1.2.1.getD (Int.toNat s_1.1) 0) 255), ())))) else k s_1) = some b := by
  refine lp_upto (fun i => ((i : Int), turnN i t, ())) t.length rfl (fun i hi => ?_) ?_
  · have hlt : decide ((i : Int) < (t.length : Int)) = true := decide_eq_true (by omega)
    have hl : (turnN i t).length = t.length := by unfold turnN; simp; omega
    simp only [hlt, if_true, Int.toNat_natCast, hl]
    rw [gg_t (by omega), gg_t (by omega), w64 (m := i + 1) (by omega) (by omega)]
    have := turnN_succ hi
    unfold x8 at this
    rw [this]
  · have hlt : decide ((t.length : Int) < (t.length : Int)) = false := decide_eq_false (by omega)
    have e : turnN t.length t = turn t := by simp [turnN, turn]
    simp only [hlt, Bool.false_eq_true, if_false, hk, e, hb]
theorem Contains_eq (l : List Int) (v : Int) (h : l.length ≤ 2 ^ 40) : s_41 (l, v, ()) = some (decide (v ∈ l), ()) := by
  unfold s_41
  have key : ∃ r, s_52 (l, v, ()) = some (r, ()) ∧ decide (0 ≤ r) = decide (v ∈ l) := by
    unfold s_52
    rcases all_first 0 l (fun x => v ≠ x) with h1 | ⟨h1, k, k1, k2, k3⟩
    · refine ⟨-1, ?_, ?_⟩
      · refine lp_upto (fun i => ((i : Int), ())) l.length rfl (fun i hi => ?_) ?_
        · have hlt : decide ((i : Int) < (l.length : Int)) = true := decide_eq_true (by omega)
          have hne : (v == l.getD i 0) = false := by simpa using h1 _ (mem_getD 0 hi)
          simp only [hlt, if_true, Int.toNat_natCast, hne, Bool.false_eq_true, if_false]
          rw [gg_t (by omega), w64 (m := i + 1) (by omega) (by omega)]
        · have hlt : decide ((l.length : Int) < (l.length : Int)) = false := decide_eq_false (by omega)
          simp only [hlt]
          rfl
      · have : v ∉ l := fun hm => h1 v hm rfl
        simp [this]
    · refine ⟨(k : Int), ?_, ?_⟩
      · refine lp_upto (fun i => ((i : Int), ())) k rfl (fun i hi => ?_) ?_
        · have hlt : decide ((i : Int) < (l.length : Int)) = true := decide_eq_true (by omega)
          have hne : (v == l.getD i 0) = false := by simpa using k2 i hi
          simp only [hlt, if_true, Int.toNat_natCast, hne, Bool.false_eq_true, if_false]
          rw [gg_t (by omega), w64 (m := i + 1) (by omega) (by omega)]
        · have hlt : decide ((k : Int) < (l.length : Int)) = true := decide_eq_true (by omega)
          have hne : (v == l.getD k 0) = true := by simpa using k3
          simp only [hlt, if_true, Int.toNat_natCast, hne]
          rw [gg_t (by omega)]
          rfl
      · have e : v = l.getD k 0 := by simpa using k3
        have : v ∈ l := e ▸ mem_getD 0 k1
        simp [this]
  obtain ⟨r, h1, h2⟩ := key
  simp only [h1, bd_s, h2]
abbrev Ltr := (Int × Int) × Int × List Int × List (List Int)
def tagB (s : List Int) (a : Int × Int) (role : Int) (body bad : List Int) (i : Nat) : List Int := if (i : Int) ∈ bad then turn (tag s a (role, (i : Int)) body) else tag s a (role, (i : Int)) body
def cnt (c : Int) : Nat := (min c 64).toNat
theorem cnt_le (c : Int) : cnt c ≤ 64 := by unfold cnt; omega
def letr (s : List Int) (a : Int × Int) (role count : Int) (body bad : List Int) : Ltr := (a, role, body, (List.range (cnt count)).map (tagB s a role body bad))
theorem cnt_eq (c : Int) : (if (if 64 < c then 64 else c) > 0 then if 64 < c then 64 else c else 0) = (cnt c : Int) := by
  unfold cnt
  split <;> split <;> omega
theorem Seal_eq (s : List Int) (a : Int × Int) (role count : Int) (body bad : List Int) (hb : body.length ≤ 2 ^ 40) (hd : bad.length ≤ 2 ^ 40) : s_22 (s, a, role, count, body, bad, ()) = some (letr s a role count body bad, ()) := by
  obtain ⟨a1, a2⟩ := a
  unfold s_22 letr
  try simp only [nl]
  simp only [bd_s, cnt_eq]
  rw [gg_t (by omega)]
  refine lp_upto (fun i => ((i : Int), (a1, a2), ((0 : Int), (0 : Int)), (0 : Int), (a1, a2), role, body, [], [], (List.range i).map (tagB s (a1, a2) role body bad), ())) (cnt count) rfl (fun i hi => ?_) ?_
  · have hlt : decide ((i : Int) < (cnt count : Int)) = true := decide_eq_true (by omega)
    have h64 := cnt_le count
    simp only [hlt, if_true]
    rw [Tag_b, bd_s, Contains_eq _ _ hd, bd_s]
    dsimp only
    have hmid : ∀ (X : Int × (Int × Int) × (Int × Int) × Int × (Int × Int) × Int × List Int × List Int × List Int × List (List Int) × List (List Int) × Unit → Option ((Int × (Int × Int) × (Int × Int) × Int × (Int × Int) × Int × List Int × List Int × List (List Int) × List (List Int) × Unit) ⊕ (Ltr × Unit))), 
      (bd (if decide ((i : Int) ∈ bad) = true then lp ((0 : Int), tag s (a1, a2) (role, (i : Int)) body, ()) fun s_1 => if decide (s_1.1 < (↑(tag s (a1, a2) (role, (i : Int)) body).length : Int)) = true then gg (0 ≤ s_1.1 ∧ Int.toNat s_1.1 < s_1.2.1.length) (gg (0 ≤ s_1.1 ∧ Int.toNat s_1.1 < s_1.2.1.length) (some (Sum.inl (IntKind.i64.wrap (s_1.1 + 1), s_1.2.1.set (Int.toNat s_1.1) (bitXor IntKind.u8 (s_1.2.1.getD (Int.toNat s_1.1) 0) 255), ())))) else mr (some ((i : Int), (a1, a2), ((0 : Int), (0 : Int)), (0 : Int), (a1, a2), role, body, s_1.2.1, [], [], (List.range i).map (tagB s (a1, a2) role body bad), ())) else some ((i : Int), (a1, a2), ((0 : Int), (0 : Int)), (0 : Int), (a1, a2), role, body, tag s (a1, a2) (role, (i : Int)) body, [], [], (List.range i).map (tagB s (a1, a2) role body bad), ())) X) = X ((i : Int), (a1, a2), ((0 : Int), (0 : Int)), (0 : Int), (a1, a2), role, body, tagB s (a1, a2) role body bad i, [], [], (List.range i).map (tagB s (a1, a2) role body bad), ()) := by
      intro X
      generalize (List.range i).map (tagB s (a1, a2) role body bad) = L
      unfold tagB
      by_cases hm : (i : Int) ∈ bad
      · simp only [hm, decide_true, if_true]
        have key := turn_lp (tag s (a1, a2) (role, (i : Int)) body) (by have := len_tag' s (a1, a2) (role, (i : Int)) body; omega) (fun t => some ((i : Int), (a1, a2), ((0 : Int), (0 : Int)), (0 : Int), (a1, a2), role, body, t, ([] : List Int), ([] : List (List Int)), L, ())) (fun s_2 => mr (some ((i : Int), (a1, a2), ((0 : Int), (0 : Int)), (0 : Int), (a1, a2), role, body, s_2.2.1, [], [], L, ()))) (fun s => rfl) rfl
        exact (congrArg (fun z => bd z X) key).trans rfl
      · simp only [hm, decide_false, Bool.false_eq_true, if_false]
        rfl
    rw [hmid]
    dsimp only
    rw [List.length_map, List.length_range, gg_t (by omega), w64 (m := i + 1) (by omega) (by omega), List.range_succ, List.map_append]
    rfl
  · have hlt : decide ((cnt count : Int) < (cnt count : Int)) = false := decide_eq_false (by omega)
    simp only [hlt]
    rfl
def opens (s : List Int) (me : Int × Int) (l : Ltr) : Bool :=
  decide (l.2.1 = me.1 ∧ 0 ≤ me.2 ∧ me.2 < l.2.2.2.length ∧ (tag s l.1 me l.2.2.1).length = 16 ∧ tag s l.1 me l.2.2.1 = l.2.2.2.getD me.2.toNat [])
theorem Open_eq (s : List Int) (me : Int × Int) (l : Ltr) : s_27 (s, me, l, ()) = some (opens s me l, ()) := by
  obtain ⟨m1, m2⟩ := me
  obtain ⟨⟨a1, a2⟩, r, b, ts⟩ := l
  unfold s_27 opens
  try simp only [nl]
  simp only [bd_s]
  by_cases h1 : r = m1
  case neg =>
    have : (r != m1) = true := by simpa using h1
    simp [this, h1]
  by_cases h2 : 0 ≤ m2
  case neg =>
    have : decide (m2 < 0) = true := decide_eq_true (by omega)
    simp [h1, h2]
  by_cases h3 : m2 < ts.length
  case neg => simp [h1, h2, h3]
  have e1 : (r != m1) = false := by simpa using h1
  have e2 : decide (m2 < 0) = false := decide_eq_false (by omega)
  have e3 : decide ((ts.length : Int) ≤ m2) = false := decide_eq_false (by omega)
  simp only [e1, e2, e3, if_true, Bool.false_eq_true, if_false]
  rw [Tag_eq, bd_s]
  dsimp only
  have ht := len_tag' s (a1, a2) (m1, m2) b
  by_cases h4 : (tag s (a1, a2) (m1, m2) b).length = 16
  case neg =>
    have : (((tag s (a1, a2) (m1, m2) b).length : Int) == 16) = false := by simpa using (by omega : ¬ ((tag s (a1, a2) (m1, m2) b).length : Int) = 16)
    simp [this, h4]
  have e4 : (((tag s (a1, a2) (m1, m2) b).length : Int) == 16) = true := by rw [h4]; rfl
  simp only [e4, if_true]
  rw [gg_t (by omega), Equal_eq _ _ (by omega), bd_s]
  simp only [h1, h2, h3, h4, true_and]
theorem refOpen_eq (s : List Int) (me : Int × Int) (l : Ltr) : s_28 (s, me, l, ()) = some (opens s me l, ()) := by
  obtain ⟨m1, m2⟩ := me
  obtain ⟨⟨a1, a2⟩, r, b, ts⟩ := l
  unfold s_28 opens
  try simp only [nl]
  simp only [bd_s]
  by_cases h1 : r = m1
  case neg =>
    have : (r != m1) = true := by simpa using h1
    simp [this, h1]
  by_cases h2 : 0 ≤ m2
  case neg =>
    have : decide (m2 < 0) = true := decide_eq_true (by omega)
    simp [h1, h2]
  by_cases h3 : m2 < ts.length
  case neg => simp [h1, h2, h3]
  have e1 : (r != m1) = false := by simpa using h1
  have e2 : decide (m2 < 0) = false := decide_eq_false (by omega)
  have e3 : decide ((ts.length : Int) ≤ m2) = false := decide_eq_false (by omega)
  simp only [e1, e2, e3, if_true, Bool.false_eq_true, if_false]
  rw [refTag_eq, bd_s]
  dsimp only
  have ht := len_tag' s (a1, a2) (m1, m2) b
  by_cases h4 : (tag s (a1, a2) (m1, m2) b).length = 16
  case neg =>
    have : (((tag s (a1, a2) (m1, m2) b).length : Int) == 16) = false := by simpa using (by omega : ¬ ((tag s (a1, a2) (m1, m2) b).length : Int) = 16)
    simp [this, h4]
  have e4 : (((tag s (a1, a2) (m1, m2) b).length : Int) == 16) = true := by rw [h4]; rfl
  simp only [e4, if_true]
  rw [gg_t (by omega), SameBytes_eq _ _ (by omega), bd_s]
  simp only [h1, h2, h3, h4, true_and]
/-- A letter is not too long for the machine. -/
def okL (l : Ltr) : Prop := l.2.2.1.length ≤ 2 ^ 40 ∧ l.2.2.2.length ≤ 2 ^ 40 ∧ ∀ t ∈ l.2.2.2, t.length ≤ 2 ^ 40
theorem SameLetter_eq (x y : Ltr) (h : okL x) : s_21 (x, y, ()) = some (decide (x = y), ()) := by
  obtain ⟨⟨a1, a2⟩, r, b, ts⟩ := x
  obtain ⟨⟨c1, c2⟩, r', b', ts'⟩ := y
  obtain ⟨k1, k2, k3⟩ := h
  unfold s_21
  simp only [bd_s]
  by_cases h1 : a1 = c1 ∧ a2 = c2
  case neg =>
    have : (a1 == c1 && a2 == c2) = false := by
      rw [Bool.eq_false_iff]; intro q; simp at q; exact h1 q
    have h2 : ¬ (((a1, a2), r, b, ts) : Ltr) = ((c1, c2), r', b', ts') := fun q => h1 (by simp only [Prod.mk.injEq] at q; exact q.1)
    simp [this, h2]
  obtain ⟨rfl, rfl⟩ := h1
  simp only [beq_self_eq_true, Bool.and_self, if_true]
  by_cases h2 : r = r'
  case neg =>
    have : (r == r') = false := by simpa using h2
    simp [this, h2]
  subst h2
  simp only [beq_self_eq_true, if_true]
  rw [SameBytes_eq _ _ (by simp only at k1; omega), bd_s]
  dsimp only
  by_cases h3 : b = b'
  case neg => simp [h3]
  subst h3
  simp only [decide_true, if_true]
  rw [SameRows_eq _ _ (by simp only at k2; omega) (fun z hz => by have := k3 z hz; omega), bd_s]
  simp
theorem CopyLetter_eq (x : Ltr) (h : okL x) : s_26 (x, ()) = some (x, ()) := by
  obtain ⟨⟨a1, a2⟩, r, b, ts⟩ := x
  obtain ⟨k1, k2, k3⟩ := h
  unfold s_26
  simp only [bd_s]
  rw [s15_eq _ (by simp only at k1; omega), bd_s]
  dsimp only
  rw [s9_eq _ (by simp only at k2; omega) (fun z hz => by have := k3 z hz; omega), bd_s]
def fox : List Int := [84, 104, 101, 32, 113, 117, 105, 99, 107, 32, 98, 114, 111, 119, 110, 32, 102, 111, 120, 32, 106, 117, 109, 112, 115, 32, 111, 118, 101, 114, 32, 116, 104, 101, 32, 108, 97, 122, 121, 32, 100, 111, 103]
set_option maxHeartbeats 0 in
theorem hmac_fox : hmac [107, 101, 121] fox = [0xf7, 0xbc, 0x83, 0xf4, 0x30, 0x53, 0x84, 0x24, 0xb1, 0x32, 0x98, 0xe6, 0xaa, 0x6f, 0xb1, 0x43, 0xef, 0x4d, 0x59, 0xa1, 0x49, 0x46, 0x17, 0x59, 0x97, 0x47, 0x9d, 0xbc, 0x2d, 0x1a, 0x3c, 0xd8] := by kernel_rfl
theorem x8_ne (c : Int) : x8 c 255 ≠ c ∨ ¬ Byt c := by
  by_cases h : Byt c
  · left
    obtain ⟨n, rfl⟩ := Int.eq_ofNat_of_zero_le h.1
    have key : ∀ n : Nat, n < 256 → x8 (n : Int) 255 ≠ (n : Int) := by decide +kernel
    exact key n (by have := h.2; omega)
  · exact .inr h
theorem byt_hmac (k b : List Int) : ∀ c ∈ hmac k b, Byt c := byt_sha _
theorem byt_tag (s : List Int) (a b : Int × Int) (body : List Int) : ∀ c ∈ tag s a b body, Byt c := by
  intro c hc
  unfold tag at hc
  split at hc
  · simp at hc
  · exact byt_hmac _ _ c (List.mem_of_mem_take hc)
theorem turn_ne (s : List Int) (a b : Int × Int) (body : List Int) (h : body.length ≤ 65536) : tag s a b body ≠ turn (tag s a b body) := by
  have hl := len_tag s a b body h
  have hb := byt_tag s a b body
  generalize tag s a b body = t at *
  match t, hl with
  | c :: t, _ =>
    intro e
    simp only [turn, List.map_cons, List.cons.injEq] at e
    rcases x8_ne c with h1 | h1
    · exact h1 e.1.symm
    · exact h1 (hb c (by simp))
/-- Who opens what is sealed. -/
theorem opens_letr (s : List Int) (a : Int × Int) (role count : Int) (body bad : List Int) (h : body.length ≤ 65536) (role' i : Int) :
    opens s (role', i) (letr s a role count body bad) = decide (role = role' ∧ 0 ≤ i ∧ i < cnt count ∧ i ∉ bad) := by
  unfold opens letr
  refine decide_eq_decide.2 ?_
  simp only [List.length_map, List.length_range]
  by_cases h1 : role = role' ∧ 0 ≤ i ∧ i < (cnt count : Int)
  · obtain ⟨rfl, h2, h3⟩ := h1
    obtain ⟨n, rfl⟩ := Int.eq_ofNat_of_zero_le h2
    have hn : n < cnt count := by omega
    have hg : ((List.range (cnt count)).map (tagB s a role body bad)).getD n [] = tagB s a role body bad n := by
      simp [List.getD, hn]
    simp only [Int.toNat_natCast, hg, len_tag s a (role, (n : Int)) body h, true_and, h2, h3]
    unfold tagB
    by_cases hm : (n : Int) ∈ bad
    · simp only [hm, if_true, not_true, iff_false]
      exact turn_ne s a _ body h
    · simp [hm]
  · constructor
    · rintro ⟨q1, q2, q3, _⟩; exact absurd ⟨q1, q2, q3⟩ h1
    · rintro ⟨q1, q2, q3, _⟩; exact absurd ⟨q1, q2, q3⟩ h1
theorem alive_eq : s_10 () = some (true, ()) := by
  unfold s_10
  have e1 := Hmac_eq [107, 101, 121] fox (by decide) (by decide)
  rw [hmac_fox] at e1
  have e2 := s14_eq (hmac [107, 101, 121] fox) (byt_hmac _ _) (by rw [len_hmac]; omega)
  rw [hmac_fox] at e2
  show bd (s_13 ([107, 101, 121], fox, ())) _ = _
  rw [e1, bd_s]
  show bd (s_29 ([0xf7, 0xbc, 0x83, 0xf4, 0x30, 0x53, 0x84, 0x24, 0xb1, 0x32, 0x98, 0xe6, 0xaa, 0x6f, 0xb1, 0x43, 0xef, 0x4d, 0x59, 0xa1, 0x49, 0x46, 0x17, 0x59, 0x97, 0x47, 0x9d, 0xbc, 0x2d, 0x1a, 0x3c, 0xd8], ())) _ = _
  rw [e2, bd_s, if_neg (by rw [show ∀ b : Bool, (b = true) = (b = true) from fun _ => rfl]; exact Bool.false_ne_true ∘ (fun h => h ▸ by kernel_rfl))]
  rw [Seal_eq _ _ _ _ _ _ (by decide) (by decide), bd_s]
  have hl : ((letr [115] (1, 2) 2 3 [98, 111, 100, 121] [1]).2.2.2.length : Int) = 3 := by simp only [letr, List.length_map, List.length_range]; rfl
  dsimp only
  rw [hl]
  rw [if_pos (by rfl)]
  show bd (s_27 ([115], (2, 2), letr [115] (1, 2) 2 3 [98, 111, 100, 121] [1], ())) _ = _
  rw [Open_eq, bd_s, opens_letr _ _ _ _ _ _ (by decide)]
  rw [if_pos (by decide)]
  show bd (s_27 ([115], (2, 1), letr [115] (1, 2) 2 3 [98, 111, 100, 121] [1], ())) _ = _
  rw [Open_eq, bd_s, opens_letr _ _ _ _ _ _ (by decide)]
  rfl
theorem len_mem {x : List Int} : ∀ {p : List (List Int)}, x ∈ p → x.length ≤ p.flatten.length
  | y :: p, h => by
    rw [List.flatten_cons, List.length_append]
    rcases List.mem_cons.1 h with rfl | h
    · omega
    · have := len_mem h; omega
theorem MacOpens_true (s : List Int) (me : Int × Int) (l : Ltr) (k1 : ok22 s) (km : ok28 me) (kl : ok37 l) : s_6 (s, me, l, ()) = some (true, ()) := by
  have hr := rb
  have h1 := k1.2
  obtain ⟨m1, m2⟩ := me
  obtain ⟨⟨a1, a2⟩, r, b, ts⟩ := l
  obtain ⟨_, _, kb, kt, _⟩ := kl
  have h2 : b.length * 1 ≤ reachBytes := kb.2
  have h3 : ts.length * 24 ≤ reachBytes := kt.2
  have h4 : ∀ t ∈ ts, t.length ≤ 2 ^ 47 := fun t ht => by have := (kt.1 t ht).2; omega
  unfold s_6
  simp only [bd_s]
  rw [alive_eq, bd_s]
  simp only [Bool.not_true, Bool.false_eq_true, if_false]
  split
  case isFalse => rfl
  rename_i h
  have hs : s.length ≤ 1000 := by simp only [decide_eq_false_iff_not] at h; omega
  unfold s_25
  dsimp only
  by_cases h5 : (5000 : Int) < (b.length : Int)
  · simp only [h5, decide_true, Bool.true_eq_false, if_false, bd_s, if_true]
  simp only [h5, decide_false, if_true]
  rw [show (5000 : Int) = ((5000 : Nat) : Int) from rfl, s8_eq ts 5000 (by decide) (by omega) (fun t ht => by have := h4 t ht; omega), bd_s, bd_s]
  dsimp only
  split
  · rfl
  rename_i h6
  have h7 : ts.flatten.length + ts.length ≤ 5000 := by
    simp only [decide_eq_true_eq] at h6
    unfold tot at h6
    rw [List.take_length] at h6
    omega
  have hL : okL ((a1, a2), r, b, ts) := ⟨by simp only; omega, by simp only; omega, fun t ht => by have h8 : t.length ≤ ts.flatten.length := len_mem ht; omega⟩
  rw [CopyLetter_eq _ hL, bd_s, s15_eq _ (by omega), bd_s]
  dsimp only
  rw [Open_eq, bd_s, refOpen_eq, bd_s]
  simp only [beq_self_eq_true, if_true]
  rw [SameLetter_eq _ _ hL, bd_s]
  simp
end Go.Proofs.Ytlahipbilbibiaa
end
