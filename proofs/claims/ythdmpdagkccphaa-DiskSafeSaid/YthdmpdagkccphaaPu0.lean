/- What the disk's functions and those of its reference answer, in plain terms. -/
import Derived.Test.YthdmpdagkccphaaAlU
import Derived.Test.YthdmpdagkccphaaY0
set_option linter.unusedSimpArgs false
set_option linter.unusedVariables false
set_option maxRecDepth 100000
namespace Go.Proofs.Ythdmpdagkccphaa
open Go Go.Al
theorem take_flat {α : Type} {ps : List (List α)} {k : Nat} (h : k < ps.length) : (ps.take (k + 1)).flatten = (ps.take k).flatten ++ ps.getD k [] := by
  rw [List.take_add_one, List.flatten_append]
  simp [List.getElem?_eq_getElem h, List.getD]
theorem take_snoc {α : Type} {ps : List α} {k : Nat} {z : α} (h : k < ps.length) : ps.take (k + 1) = ps.take k ++ [ps.getD k z] := by
  rw [List.take_add_one]
  simp [List.getElem?_eq_getElem h, List.getD]
theorem take_flat_le {α : Type} (ps : List (List α)) (k : Nat) : (ps.take k).flatten.length ≤ ps.flatten.length := by
  have h : (ps.take k).flatten.length + (ps.drop k).flatten.length = ps.flatten.length := by
    rw [← List.length_append, ← List.flatten_append, List.take_append_drop]
  omega
theorem succ64 {k : Nat} (h : k < 2 ^ 62) : IntKind.i64.wrap ((k : Int) + 1) = ((k + 1 : Nat) : Int) := by rw [wrap64 (by omega) (by omega)]; rfl
/-- Concat. -/
theorem concat_eq (ps : List (List Int)) (h1 : ps.length < 2 ^ 60) (h2 : ps.flatten.length ≤ 140737488355328) : s_slices_Concat_byte_byte ps = some ps.flatten := by
  unfold s_slices_Concat_byte_byte
  refine loop_upto (fun k => (((ps.take k).flatten.length : Int), (k : Int))) ps.length ?_ ?_ 0 (Nat.zero_le _)
  · intro k hk
    have hle := take_flat_le ps (k + 1)
    rw [take_flat hk, List.length_append] at hle
    have e : IntKind.i64.wrap (((ps.take k).flatten.length : Int) + ((ps.getD k []).length : Int)) = ((ps.take (k + 1)).flatten.length : Int) := by
      rw [wrap64 (by omega) (by omega), take_flat hk, List.length_append]; rfl
    simp only [s_slices_Concat_byte_byte_b1, Int.toNat_natCast]
    rw [ite_t (by simp; omega), gd_eq ⟨by omega, hk⟩]
    simp only [e]
    rw [ite_f (by simp), succ64 (by omega)]
  · simp only [s_slices_Concat_byte_byte_b1, List.take_length]
    rw [ite_f (by simp)]
    have hg : s_slices_Grow_byte_byte [] (ps.flatten.length : Int) = some [] := gd_eq ⟨by omega, by omega⟩
    rw [bd_eq hg]
    have : loop (s_slices_Concat_byte_byte_b2 ps) ([], 0) = some ps.flatten := by
      refine loop_upto (fun k => ((ps.take k).flatten, (k : Int))) ps.length ?_ ?_ 0 (Nat.zero_le _)
      · intro k hk
        have hle := take_flat_le ps (k + 1)
        rw [take_flat hk, List.length_append] at hle
        simp only [s_slices_Concat_byte_byte_b2, Int.toNat_natCast]
        rw [ite_t (by simp; omega), gd_eq ⟨by omega, hk⟩, gd_eq ⟨by omega, by omega⟩, succ64 (by omega), take_flat hk]
      · simp only [s_slices_Concat_byte_byte_b2, List.take_length]
        rw [ite_f (by simp)]; rfl
    rw [this]; rfl
theorem bytes_eq (b : List Int) (h : b.length ≤ 140737488355328) : s_stanchionref00_CopyBytes b = some b := gd_eq ⟨by omega, by omega⟩
theorem bytesT_eq (b : List Int) (h : b.length ≤ 140737488355328) : s_stanchionref00_CopyBytes_T b = some b := gd_eq ⟨by omega, by omega⟩
theorem clone_eq (b : List Int) (h : b.length ≤ 140737488355328) : s_slices_Clone_byte_byte b = some b := gd_eq ⟨by omega, by omega⟩
theorem ints_eq (b : List Int) (h : b.length ≤ 17592186044416) : s_stanchionref00_CopyInts b = some b := gd_eq ⟨by omega, by omega⟩
theorem rows_eq (s : List (List Int)) (h1 : s.length ≤ 5000000) (h2 : ∀ b ∈ s, b.length ≤ 140737488355328) : s_stanchionref00_CopyRows s = some s := by
  unfold s_stanchionref00_CopyRows
  refine loop_upto (fun k => (s.take k, (k : Int))) s.length ?_ ?_ 0 (Nat.zero_le _)
  · intro k hk
    simp only [s_stanchionref00_CopyRows_b1, Int.toNat_natCast]
    have hm : s.getD k [] ∈ s := by simp [List.getD, hk]
    rw [ite_t (by simp; omega), gd_eq ⟨by omega, hk⟩, bd_eq (bytes_eq _ (h2 _ hm)), gd_eq ⟨by simp; omega, by simp; omega⟩, succ64 (by omega), take_snoc hk]
  · simp only [s_stanchionref00_CopyRows_b1, List.take_length]
    rw [ite_f (by simp)]; rfl
/-- Is there such an area? -/
def isA (n : Int) : Bool := decide (n = 0 ∨ n = 1)
theorem getD_mem {xs : List Int} {k : Nat} (h : k < xs.length) : xs.getD k 0 ∈ xs := by simp [List.getD, h]
theorem all_drop {xs : List Int} {k : Nat} (h : k < xs.length) : (xs.drop k).all isA = (isA (xs.getD k 0) && (xs.drop (k + 1)).all isA) := by rw [drop_getD h]; rfl
theorem there_loop (l : List Int) (h : l.length < 2 ^ 60) : ∀ m k, l.length - k ≤ m → k ≤ l.length → ∃ v : Int, loop (s_slices_IndexFunc_int_int_b1 l s_disk_there_1) (k : Int) = some v ∧ decide (0 ≤ v) = !((l.drop k).all isA) := by
  intro m
  induction m with
  | zero =>
    intro k h1 h2
    have : k = l.length := by omega
    subst this
    exact ⟨-1, loop_done (by rw [s_slices_IndexFunc_int_int_b1, ite_f (by simp)]; rfl), by simp⟩
  | succ m ih =>
    intro k h1 h2
    by_cases hk : k < l.length
    · have hb : s_disk_there_1 (l.getD k 0) = some (!(isA (l.getD k 0))) := by
        unfold s_disk_there_1 isA
        congr 1
        rw [Bool.eq_iff_iff]; simp; omega
      by_cases ha : isA (l.getD k 0) = true
      · obtain ⟨v, g1, g2⟩ := ih (k + 1) (by omega) hk
        refine ⟨v, ?_, by rw [g2, all_drop hk, ha]; rfl⟩
        rw [← g1]
        refine loop_cont ?_
        rw [s_slices_IndexFunc_int_int_b1, ite_t (by simp; omega), Int.toNat_natCast, gd_eq ⟨by omega, hk⟩, bd_eq hb, ite_f (by rw [ha]; rfl), succ64 (by omega)]
      · replace ha : isA (l.getD k 0) = false := by simpa only [Bool.not_eq_true] using ha
        refine ⟨(k : Int), loop_done ?_, by rw [all_drop hk, ha]; simp⟩
        rw [s_slices_IndexFunc_int_int_b1, ite_t (by simp; omega), Int.toNat_natCast, gd_eq ⟨by omega, hk⟩, bd_eq hb, ite_t (by rw [ha]; rfl)]; rfl
    · have : k = l.length := by omega
      subst this
      exact ⟨-1, loop_done (by rw [s_slices_IndexFunc_int_int_b1, ite_f (by simp)]; rfl), by simp⟩
theorem there_eq (l : List Int) (h : l.length < 2 ^ 60) : s_disk_there l = some (l.all isA) := by
  obtain ⟨v, g1, g2⟩ := there_loop l h _ 0 (Nat.le_refl _) (Nat.zero_le _)
  unfold s_disk_there s_slices_ContainsFunc_int_int s_slices_IndexFunc_int_int
  rw [show ((0 : Nat) : Int) = 0 from rfl] at g1
  rw [g1]
  show some (!(decide (0 ≤ v))) = _
  rw [g2]; simp
/-- What lies in an area, and what is put there. -/
def getA (D : GdiskDisk) (n : Int) : Gdiskarea := if n = 0 then D.areas.x0 else D.areas.x1
def putA (D : GdiskDisk) (n : Int) (a : Gdiskarea) : GdiskDisk := if n = 0 then ⟨D.power, ⟨a, D.areas.x1⟩⟩ else ⟨D.power, ⟨D.areas.x0, a⟩⟩
def drawS (D : GdiskDisk) : Int × GdiskDisk := if D.power = 0 then (40, D) else if 0 < D.power then (0, ⟨D.power - 1, D.areas⟩) else (0, D)
def appendS (D : GdiskDisk) (n : Int) (bs : List Int) : Int × GdiskDisk :=
  if isA n = true then if (drawS D).1 = 0 then (0, putA (drawS D).2 n ⟨(getA D n).data ++ bs, (getA D n).safe⟩) else drawS D else (41, D)
def trimS (D : GdiskDisk) (n size : Int) : Int × GdiskDisk :=
  if isA n = true ∧ 0 ≤ size ∧ size ≤ (getA D n).data.length then
    if (drawS D).1 = 0 then (0, putA (drawS D).2 n ⟨(getA D n).data.take size.toNat, if size < (getA D n).safe then size else (getA D n).safe⟩) else drawS D
  else (41, D)
def safeA (a : Gdiskarea) (b : Bool) : Gdiskarea := ⟨a.data, if b then a.data.length else a.safe⟩
def syncd (D : GdiskDisk) (l : List Int) : GdiskDisk := ⟨D.power, ⟨safeA D.areas.x0 (l.contains 0), safeA D.areas.x1 (l.contains 1)⟩⟩
def syncS (D : GdiskDisk) (l : List Int) : Int × GdiskDisk :=
  if l.all isA = true then if (drawS D).1 = 0 then (0, syncd (drawS D).2 (if l.length = 0 then [0, 1] else l)) else drawS D else (41, D)
def leftN (a : Gdiskarea) (keep : Int) : Int := a.safe + max 0 (min keep (a.data.length - a.safe))
def leftS (a : Gdiskarea) (keep : Int) : Gdiskarea := ⟨a.data.take (leftN a keep).toNat, leftN a keep⟩
def crashS (D : GdiskDisk) (ks : List Int) (p : Int) : GdiskDisk := ⟨p, ⟨leftS D.areas.x0 (ks.getD 0 0), leftS D.areas.x1 (ks.getD 1 0)⟩⟩
def readS (D : GdiskDisk) (n : Int) : List Int × Int := if isA n = true then ((getA D n).data, 0) else ([], 41)
/-- A disk that can be. -/
structure OkA (B : Nat) (a : Gdiskarea) : Prop where
  lo : 0 ≤ a.safe
  hi : a.safe ≤ a.data.length
  len : a.data.length ≤ B
structure OkD (B : Nat) (D : GdiskDisk) : Prop where
  p1 : -2 ^ 63 ≤ D.power
  p2 : D.power < 2 ^ 63
  a : OkA B D.areas.x0
  b : OkA B D.areas.x1
theorem OkA.mono {B C : Nat} {a : Gdiskarea} (h : OkA B a) (hc : B ≤ C) : OkA C a := ⟨h.lo, h.hi, Nat.le_trans h.len hc⟩
theorem OkD.mono {B C : Nat} {D : GdiskDisk} (h : OkD B D) (hc : B ≤ C) : OkD C D := ⟨h.p1, h.p2, h.a.mono hc, h.b.mono hc⟩
theorem OkD.get {B : Nat} {D : GdiskDisk} (h : OkD B D) (n : Int) : OkA B (getA D n) := by
  unfold getA; split
  · exact h.a
  · exact h.b
theorem OkD.put {B : Nat} {D : GdiskDisk} (h : OkD B D) (n : Int) {a : Gdiskarea} (ha : OkA B a) : OkD B (putA D n a) := by
  unfold putA; split
  · exact ⟨h.p1, h.p2, ha, h.b⟩
  · exact ⟨h.p1, h.p2, h.a, ha⟩
theorem OkD.draw {B : Nat} {D : GdiskDisk} (h : OkD B D) : OkD B (drawS D).2 := by
  have := h.p1; have := h.p2
  unfold drawS; split
  · exact h
  · split
    · exact ⟨by simp only; omega, by simp only; omega, h.a, h.b⟩
    · exact h
theorem draw_areas (D : GdiskDisk) : (drawS D).2.areas = D.areas := by
  unfold drawS; split
  · rfl
  · split <;> rfl
theorem get_draw (D : GdiskDisk) (n : Int) : getA (drawS D).2 n = getA D n := by unfold getA; rw [draw_areas]
theorem OkD.append {B : Nat} {D : GdiskDisk} (h : OkD B D) (n : Int) (bs : List Int) : OkD (B + bs.length) (appendS D n bs).2 := by
  have hb : B ≤ B + bs.length := by omega
  unfold appendS; split
  · split
    · refine (h.draw.mono hb).put n ?_
      have := h.get n
      exact ⟨this.lo, by have := this.hi; simp only [List.length_append]; omega, by have := this.len; simp only [List.length_append]; omega⟩
    · exact h.draw.mono hb
  · exact h.mono hb
theorem OkD.trim {B : Nat} {D : GdiskDisk} (h : OkD B D) (n size : Int) : OkD B (trimS D n size).2 := by
  unfold trimS; split
  · rename_i hc
    split
    · refine h.draw.put n ?_
      have h1 := h.get n
      have h2 := h1.lo; have h3 := h1.hi; have h4 := h1.len
      refine ⟨?_, ?_, ?_⟩ <;> simp only [List.length_take] <;> (try split) <;> omega
    · exact h.draw
  · exact h
theorem OkA.safe {B : Nat} {a : Gdiskarea} (h : OkA B a) (b : Bool) : OkA B (safeA a b) := by
  have h2 := h.lo; have h3 := h.hi; have h4 := h.len
  refine ⟨?_, ?_, h4⟩ <;> simp only [safeA] <;> split <;> omega
theorem OkD.sync {B : Nat} {D : GdiskDisk} (h : OkD B D) (l : List Int) : OkD B (syncS D l).2 := by
  unfold syncS; split
  · split
    · exact ⟨h.draw.p1, h.draw.p2, h.draw.a.safe _, h.draw.b.safe _⟩
    · exact h.draw
  · exact h
theorem OkA.left {B : Nat} {a : Gdiskarea} (h : OkA B a) (k : Int) : OkA B (leftS a k) := by
  have h2 := h.lo; have h3 := h.hi; have h4 := h.len
  refine ⟨?_, ?_, ?_⟩ <;> simp only [leftS, leftN, List.length_take] <;> omega
theorem OkD.crash {B : Nat} {D : GdiskDisk} (h : OkD B D) (ks : List Int) {p : Int} (h1 : -2 ^ 63 ≤ p) (h2 : p < 2 ^ 63) : OkD B (crashS D ks p) := ⟨h1, h2, h.a.left _, h.b.left _⟩
/-- The code's functions. -/
theorem draw_eq {B : Nat} {D : GdiskDisk} (h : OkD B D) : s_disk_Disk_draw D = some (drawS D) := by
  have := h.p1; have := h.p2
  unfold s_disk_Disk_draw drawS s_disk_Disk_draw_j1
  by_cases h0 : D.power = 0
  · rw [ite_t (by simp [h0]), if_pos h0]
  · rw [ite_f (by simp [h0]), if_neg h0]
    by_cases h1 : 0 < D.power
    · rw [ite_t (by simp [h1]), if_pos h1, wrap64 (by omega) (by omega)]
    · rw [ite_f (by simp [h1]), if_neg h1]
theorem isA_iff {n : Int} : isA n = true ↔ n = 0 ∨ n = 1 := by unfold isA; exact decide_eq_true_iff
theorem there1 (n : Int) : s_disk_there [n] = some (isA n) := by rw [there_eq _ (by simp)]; simp
theorem append_eq {B : Nat} {D : GdiskDisk} (h : OkD B D) (n : Int) (ps : List (List Int)) (h1 : ps.length < 2 ^ 60) (h2 : B + ps.flatten.length ≤ 140737488355328) : s_disk_Disk_Append D n ps = some (appendS D n ps.flatten) := by
  unfold s_disk_Disk_Append appendS
  rw [bd_eq (there1 n)]
  by_cases hn : isA n = true
  · rw [ite_f (by rw [hn]; rfl), if_pos hn, bd_eq (draw_eq h)]
    have hd := h.draw
    by_cases h0 : (drawS D).1 = 0
    · rw [ite_t (by simp [h0]), if_pos h0]
      have ha := h.a.len; have hb := h.b.len
      have e := draw_areas D
      rcases isA_iff.1 hn with rfl | rfl
      · rw [if_pos rfl, bd_eq (concat_eq ps h1 (by omega)), e, gd_eq ⟨by omega, by omega⟩]
        unfold s_disk_Disk_Append_j1
        simp only [h0, e, putA, getA, if_true]
      · rw [if_neg (by decide), if_pos rfl, bd_eq (concat_eq ps h1 (by omega)), e, gd_eq ⟨by omega, by omega⟩]
        unfold s_disk_Disk_Append_j1
        simp [h0, e, putA, getA]
    · rw [ite_f (by simp [h0]), if_neg h0]
      rfl
  · rw [ite_t (by simp [hn]), if_neg hn]
theorem trim_eq {B : Nat} {D : GdiskDisk} (h : OkD B D) (n size : Int) : s_disk_Disk_Trim D n size = some (trimS D n size) := by
  unfold s_disk_Disk_Trim trimS
  have e := draw_areas D
  by_cases h0 : n = 0
  · subst h0
    rw [if_pos rfl, bd_eq (there1 0)]
    by_cases hc : 0 ≤ size ∧ size ≤ D.areas.x0.data.length
    · rw [ite_f (by simp [isA] <;> omega), if_pos (by simp [isA, getA] <;> omega)]
      unfold s_disk_Disk_Trim_j1 s_disk_Disk_Trim_j2
      rw [bd_eq (draw_eq h)]
      by_cases hd : (drawS D).1 = 0
      · rw [ite_t (by simp [hd]), if_pos hd, if_pos rfl, e, gd_eq (by omega)]
        simp [hd, putA, getA, e]
      · rw [ite_f (by simp [hd]), if_neg hd]
    · rw [ite_t (by simp [isA] <;> omega), if_neg (by simp [isA, getA] <;> omega)]
  · rw [if_neg h0]
    by_cases h1 : n = 1
    · subst h1
      rw [if_pos rfl, bd_eq (there1 1)]
      by_cases hc : 0 ≤ size ∧ size ≤ D.areas.x1.data.length
      · rw [ite_f (by simp [isA] <;> omega), if_pos (by simp [isA, getA] <;> omega)]
        unfold s_disk_Disk_Trim_j1 s_disk_Disk_Trim_j2
        rw [bd_eq (draw_eq h)]
        by_cases hd : (drawS D).1 = 0
        · rw [ite_t (by simp [hd]), if_pos hd, if_neg (by decide), if_pos rfl, e, gd_eq (by omega)]
          simp [hd, putA, getA, e]
        · rw [ite_f (by simp [hd]), if_neg hd]
      · rw [ite_t (by simp [isA] <;> omega), if_neg (by simp [isA, getA] <;> omega)]
    · have hn : isA n = false := by simp [isA, h0, h1]
      rw [if_neg h1, bd_eq (there1 n), gd_eq (by simp [hn]), ite_t (by simp), if_neg (by simp [hn])]
theorem contains_snoc {l : List Int} {k : Nat} (h : k < l.length) (v : Int) : (l.take (k + 1)).contains v = ((l.take k).contains v || (v == l.getD k 0)) := by
  rw [take_snoc (z := 0) h, Bool.eq_iff_iff]; simp
theorem isA_at {l : List Int} (ha : l.all isA = true) {k : Nat} (hk : k < l.length) : l.getD k 0 = 0 ∨ l.getD k 0 = 1 := isA_iff.1 (List.all_eq_true.1 ha _ (getD_mem hk))
theorem sync_loop (c : Int) (D : GdiskDisk) (l : List Int) (h : l.length < 2 ^ 60) (ha : l.all isA = true) : s_disk_Disk_Sync_j1 (c, D) l = some (0, syncd D l) := by
  unfold s_disk_Disk_Sync_j1
  have e0 : ((0 : Int), D.areas.x0.safe, D.areas.x1.safe) = (fun k : Nat => ((k : Int), (safeA D.areas.x0 ((l.take k).contains 0)).safe, (safeA D.areas.x1 ((l.take k).contains 1)).safe)) 0 := by
    simp [safeA]
  simp only
  rw [e0]
  refine loop_upto (fun k : Nat => ((k : Int), (safeA D.areas.x0 ((l.take k).contains 0)).safe, (safeA D.areas.x1 ((l.take k).contains 1)).safe)) l.length ?_ ?_ 0 (Nat.zero_le _)
  · intro k hk
    simp only [s_disk_Disk_Sync_b1, s_disk_Disk_Sync_j2, Int.toNat_natCast]
    rw [ite_t (by simp; omega), gd_eq ⟨by omega, hk⟩, succ64 (by omega), contains_snoc hk, contains_snoc hk]
    rcases isA_at ha hk with h0 | h0
    · rw [if_pos h0, h0]; simp [safeA]
    · rw [if_neg (by omega), if_pos h0, h0]; simp [safeA]
  · simp only [s_disk_Disk_Sync_b1, List.take_length]
    rw [ite_f (by simp)]; rfl
theorem sync_eq {B : Nat} {D : GdiskDisk} (h : OkD B D) (l : List Int) (hl : l.length < 2 ^ 60) : s_disk_Disk_Sync D l = some (syncS D l) := by
  unfold s_disk_Disk_Sync syncS
  rw [bd_eq (there_eq l hl)]
  by_cases ha : l.all isA = true
  · rw [ite_f (by rw [ha]; rfl), if_pos ha, bd_eq (draw_eq h)]
    by_cases hd : (drawS D).1 = 0
    · rw [ite_f (by simp [hd]), if_pos hd]
      by_cases h0 : l.length = 0
      · rw [ite_t (by simp [h0]), if_pos h0]
        exact sync_loop _ _ _ (by simp) (by decide)
      · rw [ite_f (by simpa using h0), if_neg h0]
        exact sync_loop _ _ _ hl ha
    · rw [ite_t (by simp [hd]), if_neg hd]
  · rw [ite_t (by simp at ha; simp; exact ha), if_neg ha]
theorem left_eq {B : Nat} {a : Gdiskarea} (h : OkA B a) (hB : B ≤ 140737488355328) {k : Int} (h1 : -2 ^ 63 ≤ k) (h2 : k < 2 ^ 63) : s_disk_area_left a k = some (leftS a k) := by
  have g1 := h.lo; have g2 := h.hi; have g3 := h.len
  have e : dleftN a k = leftN a k := by
    unfold dleftN leftN
    rw [wrap64 (n := (a.data.length : Int) - a.safe) (by omega) (by omega)]
    rw [wrap64] <;> (split <;> split) <;> omega
  unfold s_disk_area_left leftS
  rw [e, gd_eq]
  have : leftN a k ≤ a.data.length := by unfold leftN; omega
  have : 0 ≤ leftN a k := by unfold leftN; omega
  omega
theorem crash_eq {B : Nat} {D : GdiskDisk} (h : OkD B D) (hB : B ≤ 140737488355328) (ks : List Int) (hk : ∀ k ∈ ks, -2 ^ 63 ≤ k ∧ k < 2 ^ 63) (p : Int) : s_disk_Disk_Crash D ks p = some (crashS D ks p) := by
  have kb : ∀ i, -2 ^ 63 ≤ ks.getD i 0 ∧ ks.getD i 0 < 2 ^ 63 := by
    intro i
    by_cases hi : i < ks.length
    · exact hk _ (getD_mem hi)
    · have : ks.getD i 0 = 0 := by simp [List.getD, List.getElem?_eq_none (Nat.le_of_not_lt hi)]
      rw [this]; decide
  have kn : ∀ i, ¬ i < ks.length → ks.getD i 0 = 0 := by
    intro i hi
    simp [List.getD, List.getElem?_eq_none (Nat.le_of_not_lt hi)]
  unfold s_disk_Disk_Crash
  rw [bd_eq (show s_disk_New p = some _ from rfl)]
  simp only
  have l0 : s_disk_area_left ⟨D.areas.x0.data, D.areas.x0.safe⟩ (ks.getD (Int.toNat 0) 0) = some (leftS D.areas.x0 (ks.getD 0 0)) := left_eq h.a hB (kb 0).1 (kb 0).2
  have m0 : ¬ 0 < ks.length → s_disk_area_left ⟨D.areas.x0.data, D.areas.x0.safe⟩ 0 = some (leftS D.areas.x0 (ks.getD 0 0)) := by
    intro hi
    have := l0
    rw [show Int.toNat 0 = 0 from rfl, kn 0 hi] at this
    rw [kn 0 hi]; exact this
  have l1 : s_disk_area_left ⟨D.areas.x1.data, D.areas.x1.safe⟩ (ks.getD (Int.toNat 1) 0) = some (leftS D.areas.x1 (ks.getD 1 0)) := left_eq h.b hB (kb 1).1 (kb 1).2
  have m1 : ¬ 1 < ks.length → s_disk_area_left ⟨D.areas.x1.data, D.areas.x1.safe⟩ 0 = some (leftS D.areas.x1 (ks.getD 1 0)) := by
    intro hi
    have := l1
    rw [show Int.toNat 1 = 1 from rfl, kn 1 hi] at this
    rw [kn 1 hi]; exact this
  refine Eq.trans (loop_cont (s' := (1, (leftS D.areas.x0 (ks.getD 0 0)).data, (leftS D.areas.x0 (ks.getD 0 0)).safe, [], 0)) ?_) (Eq.trans (loop_cont (s' := (2, (leftS D.areas.x0 (ks.getD 0 0)).data, (leftS D.areas.x0 (ks.getD 0 0)).safe, (leftS D.areas.x1 (ks.getD 1 0)).data, (leftS D.areas.x1 (ks.getD 1 0)).safe)) ?_) (loop_done ?_))
  · simp only [s_disk_Disk_Crash_b1, s_disk_Disk_Crash_j3, s_disk_Disk_Crash_j1]
    rw [ite_t (by decide), if_pos True.intro]
    by_cases hi : 0 < ks.length
    · rw [ite_t (by simp; omega), gd_eq (by omega), bd_eq l0]
      rfl
    · rw [ite_f (by simp only [decide_eq_false_iff_not]; omega), bd_eq (m0 hi)]
      rfl
  · simp only [s_disk_Disk_Crash_b1, s_disk_Disk_Crash_j2, s_disk_Disk_Crash_j1]
    rw [ite_t (by decide), if_neg (by decide), if_pos True.intro]
    by_cases hi : 1 < ks.length
    · rw [ite_t (by simp; omega), gd_eq (by omega), bd_eq l1]
      rfl
    · rw [ite_f (by simp only [decide_eq_false_iff_not]; omega), bd_eq (m1 hi)]
      rfl
  · simp only [s_disk_Disk_Crash_b1]
    rw [ite_f (by decide)]; rfl
theorem read_eq {B : Nat} {D : GdiskDisk} (h : OkD B D) (hB : B ≤ 140737488355328) (n : Int) : s_disk_Disk_Read D n = some (readS D n) := by
  have := h.a.len; have := h.b.len
  unfold s_disk_Disk_Read readS
  rw [bd_eq (there1 n)]
  by_cases hn : isA n = true
  · rw [ite_f (by rw [hn]; rfl), if_pos hn]
    rcases isA_iff.1 hn with rfl | rfl
    · rw [if_pos rfl, bd_eq (clone_eq _ (by omega))]; rfl
    · rw [if_neg (by decide), if_pos rfl, bd_eq (clone_eq _ (by omega))]; rfl
  · rw [ite_t (by simp [hn]), if_neg hn]
/-- Are they the same bytes? -/
theorem same_refl (a : List Int) (h : a.length < 2 ^ 60) : s_stanchionref00_SameBytes a a = some true := by
  unfold s_stanchionref00_SameBytes
  rw [ite_f (by simp)]
  refine loop_upto (fun k => (k : Int)) a.length ?_ ?_ 0 (Nat.zero_le _)
  · intro k hk
    rw [s_stanchionref00_SameBytes_b1, ite_t (by simp; omega), Int.toNat_natCast, gd_eq ⟨by omega, hk⟩, gd_eq ⟨by omega, hk⟩, ite_f (by simp), succ64 (by omega)]
  · rw [s_stanchionref00_SameBytes_b1, ite_f (by simp)]; rfl
theorem read_len {B : Nat} {D : GdiskDisk} (h : OkD B D) (n : Int) : (readS D n).1.length ≤ B := by
  unfold readS; split
  · exact (h.get n).len
  · exact Nat.zero_le _
/-- How much a script holds. -/
def pn (ps : List (List Int)) : Nat := (ps.map fun b => 1 + b.length).sum
def wt (o : Glaw04Op) : Nat := pn o.Parts + o.Areas.length
theorem pn_flat (ps : List (List Int)) : ps.flatten.length ≤ pn ps ∧ ps.length ≤ pn ps ∧ ∀ b ∈ ps, b.length ≤ pn ps := by
  induction ps with
  | nil => simp [pn]
  | cons b ps ih =>
    obtain ⟨i1, i2, i3⟩ := ih
    have e : pn (b :: ps) = 1 + b.length + pn ps := by simp [pn]
    refine ⟨by rw [List.flatten_cons, List.length_append]; omega, by rw [List.length_cons]; omega, fun c hc => ?_⟩
    rcases List.mem_cons.1 hc with rfl | hc
    · omega
    · have := i3 c hc; omega
theorem drop_getD' {α : Type} {xs : List α} {i : Nat} {z : α} (h : i < xs.length) : xs.drop i = xs.getD i z :: xs.drop (i + 1) := by
  rw [List.drop_eq_getElem_cons h]; simp [List.getD, h]
theorem wt_mem {o : Glaw04Op} : ∀ {l : List Glaw04Op}, o ∈ l → wt o ≤ (l.map wt).sum
  | p :: l, h => by
    rcases List.mem_cons.1 h with rfl | h
    · simp
    · have := wt_mem h; simp; omega
/-- A script that can be handed in, cut. -/
structure OkS (l : List Glaw04Op) : Prop where
  len : l.length ≤ 60
  ok : ∀ o ∈ l, okGlaw04Op o
theorem great_in {l : List Glaw04Op} (hl : OkS l) {i : Nat} (hi : i < l.length) : ∀ m j (n : Int), (l.getD i yGlaw04Op.dflt).Parts.length - j ≤ m → j ≤ (l.getD i yGlaw04Op.dflt).Parts.length → 0 ≤ n → n ≤ 2 ^ 58 →
    ∃ n' : Int, loop (s_stanchionlaw04_great_b2 l i) (n, (j : Int)) = some (.inl (n', ((i + 1 : Nat) : Int))) ∧ n ≤ n' ∧ n' ≤ max n (100001 + 2 ^ 47) + 2 ^ 45 ∧ (n' ≤ 100000 → n' = n + (pn ((l.getD i yGlaw04Op.dflt).Parts.drop j) + (l.getD i yGlaw04Op.dflt).Areas.length : Nat)) := by
  have hm : l.getD i yGlaw04Op.dflt ∈ l := by simp [List.getD, hi]
  obtain ⟨_, _, _, ⟨k1, k2⟩, ⟨_, k3⟩, _⟩ := hl.ok _ hm
  generalize hO : l.getD i yGlaw04Op.dflt = O at *
  have rb : reachBytes = 140737488351232 := rfl
  have hlen := hl.len
  have fin : ∀ j (n : Int), 0 ≤ n → n ≤ 2 ^ 59 → ¬ ((j : Int) < (O.Parts.length : Int) ∧ n ≤ 100000) → loop (s_stanchionlaw04_great_b2 l i) (n, (j : Int)) = some (.inl (n + O.Areas.length, ((i + 1 : Nat) : Int))) := by
    intro j n h0 h1 hc
    refine loop_done ?_
    simp only [s_stanchionlaw04_great_b2, Int.toNat_natCast, hO]
    rw [gd_eq ⟨by omega, hi⟩, ite_f (by simp only [Bool.and_eq_false_iff, decide_eq_false_iff_not]; omega), gd_eq ⟨by omega, hi⟩, wrap64 (by omega) (by omega), succ64 (by omega)]
    rfl
  intro m
  induction m with
  | zero =>
    intro j n h1 h2 h3 h4
    have : j = O.Parts.length := by omega
    subst this
    exact ⟨_, fin _ n h3 (by omega) (by omega), by omega, by omega, fun _ => by simp [pn]⟩
  | succ m ih =>
    intro j n h1 h2 h3 h4
    by_cases hc : j < O.Parts.length ∧ n ≤ 100000
    · have hb := (k1 _ (show O.Parts.getD j [] ∈ O.Parts by simp [List.getD, hc.1])).2
      obtain ⟨n', g1, g2, g3, g4⟩ := ih (j + 1) (n + (1 + ((O.Parts.getD j []).length : Int))) (by omega) hc.1 (by omega) (by omega)
      refine ⟨n', ?_, by omega, by omega, fun hn => ?_⟩
      · rw [← g1]
        refine loop_cont ?_
        simp only [s_stanchionlaw04_great_b2, Int.toNat_natCast, hO]
        rw [gd_eq ⟨by omega, hi⟩, ite_t (by simp only [Bool.and_eq_true, decide_eq_true_eq]; omega), gd_eq ⟨by omega, hi⟩, gd_eq ⟨by omega, hc.1⟩, wrap64 (n := 1 + _) (by omega) (by omega), wrap64 (n := n + _) (by omega) (by omega), succ64 (by omega)]
      · have := g4 hn
        rw [drop_getD' (z := []) hc.1]
        simp only [pn, List.map_cons, List.sum_cons] at this ⊢
        omega
    · by_cases hj : j < O.Parts.length
      · exact ⟨_, fin _ n h3 (by omega) (by omega), by omega, by omega, fun hn => by omega⟩
      · have : j = O.Parts.length := by omega
        subst this
        exact ⟨_, fin _ n h3 (by omega) (by omega), by omega, by omega, fun _ => by simp [pn]⟩
theorem great_out {l : List Glaw04Op} (hl : OkS l) : ∀ m i (n : Int), l.length - i ≤ m → i ≤ l.length → 0 ≤ n → n ≤ 100000 + (i : Int) * 2 ^ 50 → ∃ b, loop (s_stanchionlaw04_great_b1 l) (n, (i : Int)) = some b ∧ (b = false → n + ((l.drop i).map wt).sum ≤ 5000) := by
  have hlen := hl.len
  have fin : ∀ i (n : Int), ¬ ((i : Int) < (l.length : Int) ∧ n ≤ 100000) → loop (s_stanchionlaw04_great_b1 l) (n, (i : Int)) = some (decide (5000 < n)) := by
    intro i n hc
    refine loop_done ?_
    simp only [s_stanchionlaw04_great_b1]
    rw [ite_f (by simp only [Bool.and_eq_false_iff, decide_eq_false_iff_not]; omega)]; rfl
  intro m
  induction m with
  | zero =>
    intro i n h1 h2 h3 h4
    have : i = l.length := by omega
    subst this
    exact ⟨_, fin _ n (by omega), fun hb => by simp at hb; simp; omega⟩
  | succ m ih =>
    intro i n h1 h2 h3 h4
    by_cases hc : i < l.length ∧ n ≤ 100000
    · obtain ⟨n', g1, g2, g3, g4⟩ := great_in hl hc.1 _ 0 n (Nat.le_refl _) (Nat.zero_le _) h3 (by omega)
      obtain ⟨b, f1, f2⟩ := ih (i + 1) n' (by omega) hc.1 (by omega) (by omega)
      refine ⟨b, ?_, fun hb => ?_⟩
      · rw [← f1]
        refine loop_cont ?_
        simp only [s_stanchionlaw04_great_b1]
        rw [ite_t (by simp only [Bool.and_eq_true, decide_eq_true_eq]; omega)]
        exact g1
      · have := f2 hb
        have := g4 (by omega)
        rw [drop_getD' (z := yGlaw04Op.dflt) hc.1]
        simp only [List.map_cons, List.sum_cons, wt, List.drop_zero] at this ⊢
        omega
    · by_cases hj : i < l.length
      · exact ⟨_, fin _ n (by omega), fun hb => by simp at hb; omega⟩
      · have : i = l.length := by omega
        subst this
        exact ⟨_, fin _ n (by omega), fun hb => by simp at hb; simp; omega⟩
theorem great_eq {l : List Glaw04Op} (hl : OkS l) : ∃ b, s_stanchionlaw04_great l = some b ∧ (b = false → (l.map wt).sum ≤ 5000) := by
  obtain ⟨b, h1, h2⟩ := great_out hl _ 0 0 (Nat.le_refl _) (Nat.zero_le _) (by omega) (by omega)
  exact ⟨b, h1, fun hb => by have := h2 hb; simp at this; omega⟩
theorem cut_eq (l : List Glaw04Op) : s_stanchionlaw04_cut l = some (l.take 60) := by
  unfold s_stanchionlaw04_cut
  by_cases h : 60 < l.length
  · rw [ite_t (by simp; omega), gd_eq ⟨by omega, by omega, by show 60 ≤ _; omega⟩]; rfl
  · rw [ite_f (by simp; omega), List.take_of_length_le (by omega)]
theorem cut_ok {l : List Glaw04Op} (h : ∀ o ∈ l, okGlaw04Op o) : OkS (l.take 60) := ⟨by simp; omega, fun o ho => h o (List.mem_of_mem_take ho)⟩
def newD (p : Int) : GdiskDisk := ⟨p, ⟨⟨[], 0⟩, ⟨[], 0⟩⟩⟩
theorem new_eq (p : Int) : s_disk_New p = some (newD p) := rfl
theorem okA0 : OkA 0 ⟨[], 0⟩ := ⟨Int.le_refl _, by decide, Nat.le_refl _⟩
theorem new_ok {p : Int} (h1 : -2 ^ 63 ≤ p) (h2 : p < 2 ^ 63) : OkD 0 (newD p) := ⟨h1, h2, okA0, okA0⟩
theorem alive_eq : s_stanchionlaw04_alive = some true := by
  have k0 : OkD 0 (newD (-1)) := new_ok (by decide) (by decide)
  have e1 : appendS (newD (-1)) 1 [[97, 98], [99]].flatten = (0, ⟨-1, ⟨⟨[], 0⟩, ⟨[97, 98, 99], 0⟩⟩⟩) := by rfl
  have k1 : OkD 10 ⟨-1, ⟨⟨[], 0⟩, ⟨[97, 98, 99], 0⟩⟩⟩ := ⟨by decide, by decide, okA0.mono (by decide), ⟨by decide, by decide, by decide⟩⟩
  have e2 : syncS ⟨-1, ⟨⟨[], 0⟩, ⟨[97, 98, 99], 0⟩⟩⟩ [] = (0, ⟨-1, ⟨⟨[], 0⟩, ⟨[97, 98, 99], 3⟩⟩⟩) := by rfl
  have k2 : OkD 10 ⟨-1, ⟨⟨[], 0⟩, ⟨[97, 98, 99], 3⟩⟩⟩ := ⟨by decide, by decide, okA0.mono (by decide), ⟨by decide, by decide, by decide⟩⟩
  have e3 : appendS ⟨-1, ⟨⟨[], 0⟩, ⟨[97, 98, 99], 3⟩⟩⟩ 1 [[100, 101]].flatten = (0, ⟨-1, ⟨⟨[], 0⟩, ⟨[97, 98, 99, 100, 101], 3⟩⟩⟩) := by rfl
  have k3 : OkD 10 ⟨-1, ⟨⟨[], 0⟩, ⟨[97, 98, 99, 100, 101], 3⟩⟩⟩ := ⟨by decide, by decide, okA0.mono (by decide), ⟨by decide, by decide, by decide⟩⟩
  have e4 : crashS ⟨-1, ⟨⟨[], 0⟩, ⟨[97, 98, 99, 100, 101], 3⟩⟩⟩ [9, 1] (-1) = ⟨-1, ⟨⟨[], 0⟩, ⟨[97, 98, 99, 100], 4⟩⟩⟩ := by rfl
  have k4 : OkD 10 ⟨-1, ⟨⟨[], 0⟩, ⟨[97, 98, 99, 100], 4⟩⟩⟩ := ⟨by decide, by decide, okA0.mono (by decide), ⟨by decide, by decide, by decide⟩⟩
  unfold s_stanchionlaw04_alive
  rw [bd_eq (new_eq _), bd_eq ((append_eq k0 1 _ (by decide) (by decide)).trans (congrArg some e1)), ite_t (by rfl), bd_eq ((sync_eq k1 [] (by decide)).trans (congrArg some e2)), ite_t (by rfl),
    bd_eq ((append_eq k2 1 _ (by decide) (by decide)).trans (congrArg some e3)), ite_f (by rfl), bd_eq ((crash_eq k3 (by decide) [9, 1] (by decide) (-1)).trans (congrArg some e4)), bd_eq (read_eq k4 (by decide) 1)]
  have e5 : readS ⟨-1, ⟨⟨[], 0⟩, ⟨[97, 98, 99, 100], 4⟩⟩⟩ 1 = ([97, 98, 99, 100], 0) := by rfl
  have e6 : strOfNums [97, 98, 99, 100] = (⟨#[97, 98, 99, 100]⟩ : ByteArray) := by rfl
  rw [e5]
  simp only [e6, beq_self_eq_true, Bool.and_self]
def actS (D : GdiskDisk) (o : Glaw04Op) : Int × GdiskDisk :=
  if o.What = 1 then appendS D o.Area o.Parts.flatten else if o.What = 2 then trimS D o.Area o.N else if o.What = 3 then syncS D o.Areas else (0, D)
theorem OkD.act {B : Nat} {D : GdiskDisk} (h : OkD B D) {o : Glaw04Op} (hw : wt o ≤ 6000) : OkD (B + 6000) (actS D o).2 := by
  have hb : B ≤ B + 6000 := by omega
  unfold actS
  split
  · have := (pn_flat o.Parts).1
    exact (h.append _ _).mono (by unfold wt at hw; omega)
  · split
    · exact (h.trim _ _).mono hb
    · split
      · exact (h.sync _).mono hb
      · exact h.mono hb
theorem act_eq {B : Nat} {D : GdiskDisk} (h : OkD B D) (hB : B ≤ 1000000) {o : Glaw04Op} (hw : wt o ≤ 6000) : s_stanchionlaw04_act D o = some (actS D o) := by
  obtain ⟨p1, p2, p3⟩ := pn_flat o.Parts
  unfold wt at hw
  unfold s_stanchionlaw04_act actS
  by_cases h1 : o.What = 1
  · rw [ite_t (by simp [h1]), if_pos h1, bd_eq (rows_eq _ (by omega) (fun b hb => by have := p3 b hb; omega)), bd_eq (append_eq h _ _ (by omega) (by omega))]
  · rw [ite_f (by simp [h1]), if_neg h1]
    by_cases h2 : o.What = 2
    · rw [ite_t (by simp [h2]), if_pos h2, bd_eq (trim_eq h _ _)]
    · rw [ite_f (by simp [h2]), if_neg h2]
      by_cases h3 : o.What = 3
      · rw [ite_t (by simp [h3]), if_pos h3, bd_eq (ints_eq _ (by omega)), bd_eq (sync_eq h _ (by omega))]
      · rw [ite_f (by simp [h3]), if_neg h3]
theorem wf64 {n : Int} (h : (Lit.int .i64 n).wf = true) : -2 ^ 63 ≤ n ∧ n < 2 ^ 63 := by
  simp only [Lit.wf, Bool.and_eq_true, decide_eq_true_eq] at h
  have e1 : IntKind.i64.min = -9223372036854775808 := by decide
  have e2 : IntKind.i64.max = 9223372036854775807 := by decide
  rw [e1, e2] at h
  omega
theorem ok_op {o : Glaw04Op} (h : okGlaw04Op o) : (-2 ^ 63 ≤ o.N ∧ o.N < 2 ^ 63) ∧ ∀ k ∈ o.Areas, -2 ^ 63 ≤ k ∧ k < 2 ^ 63 := by
  obtain ⟨_, _, k1, _, ⟨k2, _⟩, _⟩ := h
  exact ⟨wf64 k1, fun k hk => wf64 (k2 k hk)⟩
theorem get_put_same (D : GdiskDisk) (n : Int) (a : Gdiskarea) : getA (putA D n a) n = a := by
  unfold putA getA; by_cases h : n = 0 <;> simp [h]
theorem get_put_ne {D : GdiskDisk} {n k : Int} (hn : n = 0 ∨ n = 1) (hk : k = 0 ∨ k = 1) (h : n ≠ k) (a : Gdiskarea) : getA (putA D n a) k = getA D k := by
  rcases hn with rfl | rfl <;> rcases hk with rfl | rfl <;> simp_all [putA, getA]
theorem get_sync (D : GdiskDisk) (l : List Int) {k : Int} (hk : k = 0 ∨ k = 1) : getA (syncd D l) k = safeA (getA D k) (l.contains k) := by
  rcases hk with rfl | rfl <;> simp [syncd, getA]
/-- The operation as the law does it: a sync touches its own area. -/
def own1 (o : Glaw04Op) : Glaw04Op := ⟨o.What, o.Area, o.N, o.Parts, if o.What = 3 then [o.Area] else o.Areas⟩
theorem act_free {D : GdiskDisk} (hp : D.power = -1) (o : Glaw04Op) : (actS D o).2.power = -1 := by
  have hd : drawS D = (0, D) := by unfold drawS; rw [if_neg (by omega), if_neg (by omega)]
  unfold actS
  split
  · unfold appendS; rw [hd]; split
    · simp only [if_true]; unfold putA; split <;> exact hp
    · exact hp
  · split
    · unfold trimS; rw [hd]; split
      · simp only [if_true]; unfold putA; split <;> exact hp
      · exact hp
    · split
      · unfold syncS; rw [hd]; split
        · simp only [if_true, syncd]; exact hp
        · exact hp
      · exact hp
theorem act_other {D : GdiskDisk} (hp : D.power = -1) {o : Glaw04Op} {k : Int} (hk : k = 0 ∨ k = 1) (h : o.Area ≠ k) : getA (actS D (own1 o)).2 k = getA D k := by
  have hd : drawS D = (0, D) := by unfold drawS; rw [if_neg (by omega), if_neg (by omega)]
  unfold actS own1
  simp only
  split
  · unfold appendS; rw [hd]; split
    · rename_i ha; simp only [if_true]; exact get_put_ne (isA_iff.1 ha) hk h _
    · rfl
  · split
    · unfold trimS; rw [hd]; split
      · rename_i ha; simp only [if_true]; exact get_put_ne (isA_iff.1 ha.1) hk h _
      · rfl
    · split
      · rename_i h3
        unfold syncS; rw [hd]; split
        · simp only [if_true, List.length_singleton]
          rw [if_neg (by decide), get_sync _ _ hk]
          have : ([o.Area] : List Int).contains k = false := by simp; exact fun e => h e.symm
          rw [this]; rfl
        · rfl
      · rfl
theorem act_same {D E : GdiskDisk} (hp : D.power = -1) (hq : E.power = -1) {o : Glaw04Op} {k : Int} (hk : k = 0 ∨ k = 1) (h : o.Area = k) (he : getA D k = getA E k) : getA (actS D (own1 o)).2 k = getA (actS E (own1 o)).2 k := by
  have hd : drawS D = (0, D) := by unfold drawS; rw [if_neg (by omega), if_neg (by omega)]
  have hd' : drawS E = (0, E) := by unfold drawS; rw [if_neg (by omega), if_neg (by omega)]
  unfold actS own1
  simp only [h]
  split
  · unfold appendS; rw [hd, hd', he]; split
    · simp only [if_true, get_put_same]
    · exact he
  · split
    · unfold trimS; rw [hd, hd', he]; split
      · simp only [if_true, get_put_same]
      · exact he
    · split
      · unfold syncS; rw [hd, hd']; split
        · simp only [if_true, List.length_singleton]
          rw [if_neg (by decide), get_sync _ _ hk, get_sync _ _ hk, he]
        · exact he
      · exact he
theorem get_crash (D : GdiskDisk) (ks : List Int) (p : Int) {k : Int} (hk : k = 0 ∨ k = 1) : getA (crashS D ks p) k = leftS (getA D k) (ks.getD k.toNat 0) := by
  rcases hk with rfl | rfl <;> rfl
theorem wt_own {o : Glaw04Op} (h : wt o ≤ 5000) : wt (own1 o) ≤ 6000 := by
  unfold wt own1 at *; split <;> simp <;> omega
theorem read_get {D E : GdiskDisk} {k : Int} (h : getA D k = getA E k) : readS D k = readS E k := by unfold readS; rw [h]
theorem areas_j2 {B : Nat} {D E : GdiskDisk} (h : OkD B D) (hE : OkD B E) (hB : B ≤ 900000) {l : List Glaw04Op} {i : Nat} (hi : i < 2 ^ 60) (o : Int) (hw : wt (l.getD i yGlaw04Op.dflt) ≤ 5000) {m : List Int}
    (hm : m = if (l.getD i yGlaw04Op.dflt).What = 3 then [(l.getD i yGlaw04Op.dflt).Area] else (l.getD i yGlaw04Op.dflt).Areas) :
    s_stanchionlaw04_DiskAreas_j2 o l (i : Int) D E m = some (.inl (((i + 1 : Nat) : Int), (actS D (own1 (l.getD i yGlaw04Op.dflt))).2, if (l.getD i yGlaw04Op.dflt).Area = o then (actS E (own1 (l.getD i yGlaw04Op.dflt))).2 else E)) := by
  subst hm
  unfold s_stanchionlaw04_DiskAreas_j2 s_stanchionlaw04_DiskAreas_j1
  simp only [Int.toNat_natCast]
  change bd (s_stanchionlaw04_act D (own1 (l.getD i yGlaw04Op.dflt))) (fun v_5 => if ((l.getD i yGlaw04Op.dflt).Area == o) = true then bd (s_stanchionlaw04_act E (own1 (l.getD i yGlaw04Op.dflt))) (fun v_6 => some (Sum.inl (IntKind.i64.wrap ((i : Int) + 1), v_5.2, v_6.2))) else some (Sum.inl (IntKind.i64.wrap ((i : Int) + 1), v_5.2, E))) = _
  rw [bd_eq (act_eq h (by omega) (wt_own hw)), succ64 (by omega)]
  by_cases ha : (l.getD i yGlaw04Op.dflt).Area = o
  · rw [ite_t (by rw [ha]; simp), if_pos ha, bd_eq (act_eq hE (by omega) (wt_own hw))]
  · rw [ite_f (by simpa using ha), if_neg ha]
theorem areas_end {B : Nat} {D E : GdiskDisk} (h : OkD B D) (hE : OkD B E) (hB : B ≤ 900000) {o : Int} (ho : o = 0 ∨ o = 1) (he : getA D o = getA E o) {A : List Int} (hA : A.length ≤ 17592186044416) (hk : ∀ k ∈ A, -2 ^ 63 ≤ k ∧ k < 2 ^ 63) {l : List Glaw04Op} :
    loop (s_stanchionlaw04_DiskAreas_b1 o A l) ((l.length : Int), D, E) = some true := by
  refine loop_done ?_
  simp only [s_stanchionlaw04_DiskAreas_b1]
  have c1 := h.crash A (p := -1) (by decide) (by decide)
  have c2 := hE.crash A (p := -1) (by decide) (by decide)
  have hc : getA (crashS D A (-1)) o = getA (crashS E A (-1)) o := by rw [get_crash _ _ _ ho, get_crash _ _ _ ho, he]
  rw [ite_f (by simp), bd_eq (read_eq h (by omega) o), bd_eq (read_eq hE (by omega) o), bd_eq (ints_eq A hA), bd_eq (crash_eq h (by omega) A hk (-1)), bd_eq (ints_eq A hA), bd_eq (crash_eq hE (by omega) A hk (-1)),
    ← read_get he, bd_eq (same_refl _ (by have := read_len h o; omega)), ite_f (by rfl), bd_eq (read_eq c1 (by omega) o), bd_eq (read_eq c2 (by omega) o), ← read_get hc, bd_eq (same_refl _ (by have := read_len c1 o; omega))]
  rfl
theorem areas_loop {l : List Glaw04Op} (hl : OkS l) (hw : (l.map wt).sum ≤ 5000) {o : Int} (ho : o = 0 ∨ o = 1) {A : List Int} (hA : A.length ≤ 17592186044416) (hk : ∀ k ∈ A, -2 ^ 63 ≤ k ∧ k < 2 ^ 63) :
    ∀ m i D E, l.length - i ≤ m → i ≤ l.length → OkD (6000 * i) D → OkD (6000 * i) E → D.power = -1 → E.power = -1 → getA D o = getA E o → loop (s_stanchionlaw04_DiskAreas_b1 o A l) ((i : Int), D, E) = some true := by
  have hlen := hl.len
  intro m
  induction m with
  | zero =>
    intro i D E h1 h2 h3 h4 _ _ h5
    have : i = l.length := by omega
    subst this
    exact areas_end h3 h4 (by omega) ho h5 hA hk
  | succ m ih =>
    intro i D E h1 h2 h3 h4 hp hE h5
    by_cases hi : i < l.length
    · have hm : l.getD i yGlaw04Op.dflt ∈ l := by simp [List.getD, hi]
      have hwo := Nat.le_trans (wt_mem hm) hw
      have a1 : OkD (6000 * (i + 1)) (actS D (own1 (l.getD i yGlaw04Op.dflt))).2 := (h3.act (wt_own hwo)).mono (by omega)
      have a2 : OkD (6000 * (i + 1)) (if (l.getD i yGlaw04Op.dflt).Area = o then (actS E (own1 (l.getD i yGlaw04Op.dflt))).2 else E) := by
        split
        · exact (h4.act (wt_own hwo)).mono (by omega)
        · exact h4.mono (by omega)
      rw [← ih (i + 1) _ _ (by omega) hi a1 a2 (act_free hp _) (by split; exact act_free hE _; exact hE) (by
        split
        · rename_i ha; exact act_same hp hE ho ha h5
        · rename_i ha; rw [act_other hp ho ha]; exact h5)]
      refine loop_cont ?_
      simp only [s_stanchionlaw04_DiskAreas_b1, Int.toNat_natCast]
      rw [ite_t (by simp; omega), gd_eq ⟨by omega, hi⟩]
      by_cases h3w : (l.getD i yGlaw04Op.dflt).What = 3
      · rw [ite_t (by rw [h3w]; rfl)]
        exact areas_j2 h3 h4 (by omega) (by omega) o hwo (by rw [if_pos h3w])
      · rw [ite_f (by simpa using h3w)]
        exact areas_j2 h3 h4 (by omega) (by omega) o hwo (by rw [if_neg h3w])
    · have : i = l.length := by omega
      subst this
      exact areas_end h3 h4 (by omega) ho h5 hA hk
theorem DiskAreas_true (l : List Glaw04Op) (o : Int) (A : List Int) (k0 : (∀ z ∈ l, okGlaw04Op z) ∧ l.length * 72 ≤ reachBytes) (k1 : (Lit.int .i64 o).wf = true) (k2 : (∀ z ∈ A, (Lit.int .i64 z).wf = true) ∧ A.length * 8 ≤ reachBytes) : s_stanchionlaw04_DiskAreas l o A = some true := by
  have hs := cut_ok k0.1
  obtain ⟨b, g1, g2⟩ := great_eq hs
  have rb : reachBytes = 140737488351232 := rfl
  unfold s_stanchionlaw04_DiskAreas
  rw [bd_eq alive_eq, ite_f (by rfl), bd_eq (cut_eq l), bd_eq g1]
  by_cases hb : b = true ∨ ¬ (o = 0 ∨ o = 1)
  · rw [ite_t]
    rcases hb with hb | hb
    · rw [hb]; rfl
    · have h0 : o ≠ 0 := fun e => hb (.inl e)
      have h1 : o ≠ 1 := fun e => hb (.inr e)
      simp [h0, h1]
  · have hb1 : b = false := by simpa using fun e => hb (.inl e)
    have ho : o = 0 ∨ o = 1 := Classical.not_not.1 fun e => hb (.inr e)
    rw [ite_f (by rw [hb1]; rcases ho with rfl | rfl <;> rfl), bd_eq (new_eq (-1)), bd_eq (new_eq (-1))]
    exact areas_loop hs (g2 hb1) ho (by omega) (fun k hk => wf64 (k2.1 k hk)) _ 0 (newD (-1)) (newD (-1)) (Nat.le_refl _) (Nat.zero_le _) (new_ok (by decide) (by decide)) (new_ok (by decide) (by decide)) rfl rfl rfl
theorem safe_end {B : Nat} {D : GdiskDisk} (h : OkD B D) (hB : B ≤ 900000) (hp : D.power = -1) {o : Int} {A rx : List Int} (hA : A.length ≤ 5000) (hr : rx.length ≤ 17592186044416) (hk : ∀ k ∈ rx, -2 ^ 63 ≤ k ∧ k < 2 ^ 63) {l : List Glaw04Op} :
    loop (s_stanchionlaw04_DiskSafe_b1 o A rx l) ((l.length : Int), D) = some true := by
  refine loop_done ?_
  simp only [s_stanchionlaw04_DiskSafe_b1]
  have hd : drawS D = (0, D) := by unfold drawS; rw [if_neg (by omega), if_neg (by omega)]
  have es : syncS D [] = (0, syncd D [0, 1]) := by simp [syncS, hd]
  have ks : OkD B (syncd D [0, 1]) := by have := h.sync []; rw [es] at this; exact this
  rw [ite_f (by simp), bd_eq ((sync_eq h [] (by simp)).trans (congrArg some es)), ite_f (by rfl), bd_eq (read_eq ks (by omega) o)]
  by_cases ho : isA o = true
  · have ho' := isA_iff.1 ho
    have hs : getA (syncd D [0, 1]) o = ⟨(getA D o).data, (getA D o).data.length⟩ := by
      rcases ho' with rfl | rfl <;> rfl
    generalize hX : syncd D [0, 1] = X at *
    have hpX : X.power = -1 := by rw [← hX]; exact hp
    have hdX : drawS X = (0, X) := by unfold drawS; rw [if_neg (by omega), if_neg (by omega)]
    have hdl := (h.get o).len
    generalize hd0 : (getA D o).data = d at *
    have r6 : readS X o = (d, 0) := by unfold readS; rw [if_pos ho, hs]
    have e8 : appendS X o [A].flatten = (0, putA X o ⟨d ++ A, d.length⟩) := by
      unfold appendS; rw [if_pos ho, hdX, hs]; simp
    have k8 : OkD (B + 5000) (putA X o ⟨d ++ A, d.length⟩) := (ks.mono (by omega)).put o ⟨by simp only; omega, by simp only [List.length_append]; omega, by simp only [List.length_append]; omega⟩
    have g8 : getA (putA X o ⟨d ++ A, d.length⟩) o = ⟨d ++ A, d.length⟩ := get_put_same _ _ _
    have r16 : readS (putA X o ⟨d ++ A, d.length⟩) o = (d ++ A, 0) := by unfold readS; rw [if_pos ho, g8]
    generalize putA X o ⟨d ++ A, d.length⟩ = Y at *
    have k10 := k8.crash rx (p := -1) (by decide) (by decide)
    obtain ⟨e, he, hle⟩ : ∃ e : Nat, (max 0 (min (rx.getD o.toNat 0) ((d ++ A).length - d.length)) : Int) = e ∧ e ≤ A.length := by
      refine ⟨(max 0 (min (rx.getD o.toNat 0) (((d ++ A).length : Int) - d.length))).toNat, ?_, ?_⟩
      · omega
      · simp only [List.length_append]; omega
    have hlt : (A.take e).length = e := by rw [List.length_take]; omega
    have g10 : getA (crashS Y rx (-1)) o = ⟨d ++ A.take e, ((d.length + e : Nat) : Int)⟩ := by
      rw [get_crash _ _ _ ho', g8]
      unfold leftS leftN
      simp only
      rw [he]
      have : ((d.length : Int) + (e : Int)).toNat = d.length + e := by omega
      rw [this, List.take_append, List.take_of_length_le (by omega)]
      simp
    have r11 : readS (crashS Y rx (-1)) o = (d ++ A.take e, 0) := by unfold readS; rw [if_pos ho, g10]
    have ec := crash_eq k8 (by omega) rx hk (-1)
    generalize crashS Y rx (-1) = Z at *
    have k14 := k10.crash [] (p := -1) (by decide) (by decide)
    have g14 : getA (crashS Z [] (-1)) o = ⟨d ++ A.take e, ((d.length + e : Nat) : Int)⟩ := by
      rw [get_crash _ _ _ ho', g10]
      have : ([] : List Int).getD o.toNat 0 = 0 := by simp
      rw [this]
      unfold leftS leftN
      simp only
      have h1 : ((d.length + e : Nat) : Int) + max 0 (min 0 (((d ++ A.take e).length : Int) - ((d.length + e : Nat) : Int))) = ((d.length + e : Nat) : Int) := by omega
      rw [h1, Int.toNat_natCast, List.take_of_length_le (by rw [List.length_append, hlt]; omega)]
    have r15 : readS (crashS Z [] (-1)) o = (d ++ A.take e, 0) := by unfold readS; rw [if_pos ho, g14]
    rw [r6, ite_f (by rfl), bd_eq (bytes_eq A (by omega)), bd_eq ((append_eq ks o [A] (by simp) (by simp; omega)).trans (congrArg some e8)), ite_f (by rfl), bd_eq (ints_eq rx hr), bd_eq ec, bd_eq ((read_eq k10 (by omega) o).trans (congrArg some r11))]
    simp only
    have w1 : IntKind.i64.wrap ((d.length : Int) + (A.length : Int)) = (d.length : Int) + A.length := wrap64 (by omega) (by omega)
    have w2 : IntKind.i64.wrap (((d ++ A.take e).length : Int) - (d.length : Int)) = (e : Int) := by
      rw [List.length_append, hlt, wrap64 (by omega) (by omega)]; omega
    have c1 : (!((((0 : Int) != 0) || decide (((d ++ A.take e).length : Int) < (d.length : Int))) || decide (IntKind.i64.wrap ((d.length : Int) + (A.length : Int)) < ((d ++ A.take e).length : Int)))) = true := by
      rw [w1, List.length_append, hlt]; simp; omega
    have t1 : List.drop (Int.toNat 0) (List.take (Int.toNat (d.length : Int)) (d ++ A.take e)) = d := by simp
    have t2 : List.drop (Int.toNat (d.length : Int)) (List.take (Int.toNat ((d ++ A.take e).length : Int)) (d ++ A.take e)) = A.take e := by
      rw [Int.toNat_natCast, Int.toNat_natCast, List.take_length]; simp
    have t3 : List.drop (Int.toNat 0) (List.take (Int.toNat (e : Int)) A) = A.take e := by simp
    have hlen : (d ++ A.take e).length = d.length + e := by rw [List.length_append, hlt]
    rw [gd_eq (fun _ => ⟨by omega, by omega, by rw [Int.toNat_natCast, hlen]; omega⟩), ite_t c1, t1, bd_eq (same_refl d (by omega))]
    have c2 : (!(((((0 : Int) != 0) || decide (((d ++ A.take e).length : Int) < (d.length : Int))) || decide (IntKind.i64.wrap ((d.length : Int) + (A.length : Int)) < ((d ++ A.take e).length : Int))) || (!true))) = true := by
      rw [w1, List.length_append, hlt]; simp; omega
    rw [gd_eq (fun _ => ⟨by omega, by omega, by rw [Int.toNat_natCast]; exact Nat.le_refl _⟩), gd_eq (fun _ => ⟨by omega, by rw [w2]; omega, by rw [w2, Int.toNat_natCast]; exact hle⟩), ite_t c2, t2]
    simp only [w2, t3]
    rw [bd_eq (same_refl (A.take e) (by omega)), ite_f (by rw [w1, List.length_append, hlt]; simp; omega), bd_eq (crash_eq k10 (by omega) [] (by simp) (-1)), bd_eq ((read_eq k14 (by omega) o).trans (congrArg some r15)), bd_eq ((read_eq k8 (by omega) o).trans (congrArg some r16)),
      bd_eq (same_refl _ (by show (d ++ A.take e).length < 2 ^ 60; omega)), w1]
    simp
  · have r6 : readS (syncd D [0, 1]) o = ([], 41) := by unfold readS; rw [if_neg ho]
    rw [r6, ite_t (by rfl)]
    have : ¬ (o = 0 ∨ o = 1) := fun e => ho (isA_iff.2 e)
    have h0 : o ≠ 0 := fun e => this (.inl e)
    have h1 : o ≠ 1 := fun e => this (.inr e)
    simp [h0, h1]
theorem safe_loop {l : List Glaw04Op} (hl : OkS l) (hw : (l.map wt).sum ≤ 5000) {o : Int} {A rx : List Int} (hA : A.length ≤ 5000) (hr : rx.length ≤ 17592186044416) (hk : ∀ k ∈ rx, -2 ^ 63 ≤ k ∧ k < 2 ^ 63) :
    ∀ m i D, l.length - i ≤ m → i ≤ l.length → OkD (6000 * i) D → D.power = -1 → loop (s_stanchionlaw04_DiskSafe_b1 o A rx l) ((i : Int), D) = some true := by
  have hlen := hl.len
  intro m
  induction m with
  | zero =>
    intro i D h1 h2 h3 hp
    have : i = l.length := by omega
    subst this
    exact safe_end h3 (by omega) hp hA hr hk
  | succ m ih =>
    intro i D h1 h2 h3 hp
    by_cases hi : i < l.length
    · have hm : l.getD i yGlaw04Op.dflt ∈ l := by simp [List.getD, hi]
      have hwo : wt (l.getD i yGlaw04Op.dflt) ≤ 6000 := Nat.le_trans (Nat.le_trans (wt_mem hm) hw) (by decide)
      rw [← ih (i + 1) _ (by omega) hi ((h3.act hwo).mono (by omega)) (act_free hp _)]
      refine loop_cont ?_
      simp only [s_stanchionlaw04_DiskSafe_b1, Int.toNat_natCast]
      rw [ite_t (by simp; omega), gd_eq ⟨by omega, hi⟩, bd_eq (act_eq h3 (by omega) hwo), succ64 (by omega)]
    · have : i = l.length := by omega
      subst this
      exact safe_end h3 (by omega) hp hA hr hk
theorem DiskSafe_true (l : List Glaw04Op) (o : Int) (A rx : List Int) (k0 : (∀ z ∈ l, okGlaw04Op z) ∧ l.length * 72 ≤ reachBytes) (k1 : (Lit.int .i64 o).wf = true) (k2 : (∀ z ∈ A, (Lit.int .u8 z).wf = true) ∧ A.length * 1 ≤ reachBytes) (k3 : (∀ z ∈ rx, (Lit.int .i64 z).wf = true) ∧ rx.length * 8 ≤ reachBytes) : s_stanchionlaw04_DiskSafe l o A rx = some true := by
  have hs := cut_ok k0.1
  obtain ⟨b, g1, g2⟩ := great_eq hs
  have rb : reachBytes = 140737488351232 := rfl
  unfold s_stanchionlaw04_DiskSafe
  rw [bd_eq alive_eq, ite_f (by rfl), bd_eq (cut_eq l), bd_eq g1]
  by_cases hb : b = true ∨ (5000 : Int) < A.length
  · rw [ite_t (by simpa using hb)]
  · have hb1 : b = false := by simpa using fun e => hb (.inl e)
    have hA : ¬ (5000 : Int) < A.length := fun e => hb (.inr e)
    rw [ite_f (by rw [hb1]; simp; omega), bd_eq (new_eq (-1))]
    exact safe_loop hs (g2 hb1) (by omega) (by omega) (fun k hk => wf64 (k3.1 k hk)) _ 0 (newD (-1)) (Nat.le_refl _) (Nat.zero_le _) (new_ok (by decide) (by decide)) rfl
end Go.Proofs.Ythdmpdagkccphaa
