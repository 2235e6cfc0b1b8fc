/- Arrays in boxes, by index; conditions: as stated. -/
import Derived.Test.YtoaagngddkdidaaAlX
set_option linter.unusedSimpArgs false
set_option linter.unusedVariables false
namespace Go.Al
open Go Go.RowKit

section
variable {P : Program} {T : Tab} {S : AHeap} {c : Nat} {kv : AV → AHeap → Nat → Prop} {α : Type} {L : Lay α} {n : Name} {t : TypeId}
/-- A load, of an array's cell. -/
def vload1 (T : Tab) (t : TypeId) (n : Name) (o i s : Nat) (S : AHeap) (c : Nat) [kv : Kont] : Prop := post1 (aload T S t (vptr n o i s)) S c kv.k
@[go_sem] theorem vload1_eq {o i s : Nat} : post1 (aload T S t (vptr n o i s)) S c kv = vload1 T t n o i s S c (kv := ⟨kv⟩) := rfl
theorem vload_go {xs : List α} {i s : Nat} {ti : TI} {x : AV} (hS : S n = some (.box (flat L xs))) (hi : i < xs.length) (ht : T t = some ti) (hsz : ti.size = L.sz) (hs : s = L.sz)
    (hx : (if ti.d.isAgg then AV.agg (L.cells (xs.getD i L.dflt)) else (L.cells (xs.getD i L.dflt)).headD .any) = x) (h : kv x S c) : vload1 T t n 0 i s S c (kv := ⟨kv⟩) := by
  subst hs
  unfold vload1 vptr
  rw [aload_ptr, hS]
  simp only
  rw [Nat.zero_add, flat_dropAt hi, readC_def, ht]
  simp only
  have hl := L.len (xs.getD i L.dflt)
  have hp := L.pos
  split
  · rename_i ha
    rw [if_pos ha] at hx
    subst hx
    rw [post1_some]
    refine ⟨by rw [List.length_append, hl, hsz]; omega, ?_⟩
    rw [hsz, List.take_append, hl, Nat.sub_self, List.take_zero, List.append_nil, List.take_of_length_le (by omega)]
    exact h
  · rename_i ha
    rw [if_neg ha] at hx
    subst hx
    rw [post1_some]
    refine ⟨by rw [List.length_append, hl]; omega, ?_⟩
    cases hc : L.cells (xs.getD i L.dflt) with
    | nil => rw [hc] at hl; simp at hl; omega
    | cons a r => rw [hc] at h; exact h
theorem vstore_go {xs : List α} {i s : Nat} {ti : TI} {x : AV} {v : α} (hS : S n = some (.box (flat L xs))) (hi : i < xs.length) (ht : T t = some ti) (hsz : ti.size = L.sz) (hs : s = L.sz)
    (hx : x.cells = L.cells v) (hl : x.laid = true) (h : kv .any (S.set n (.box (flat L (xs.set i v)))) c) : store1 T t (vptr n 0 i s) x S c (kv := ⟨kv⟩) := by
  subst hs
  unfold vptr
  rw [store1_ptr, ht]
  simp only [hS]
  have hlen := L.len v
  refine ⟨hl, by rw [hx, hlen, hsz], ?_, ?_⟩
  · rw [hx, hlen, flat_length, Nat.zero_add, ← Nat.succ_mul]
    exact Nat.mul_le_mul_right _ hi
  · rw [hx, Nat.zero_add, flat_splice hi]
    exact h
/-- An array with one cell set. -/
def vset {m : Nat} (v : Vector α m) (i : Nat) (x : α) : Vector α m := v.setIfInBounds i x
theorem vset_toList {m : Nat} {v : Vector α m} {i : Nat} {x : α} : (vset v i x).toList = v.toList.set i x := by simp [vset]
theorem vstore_vec {m : Nat} {w : Vector α m} {i s : Nat} {ti : TI} {x : AV} {v : α} (hS : S n = some (.box (flat L w.toList))) (hi : i < m) (ht : T t = some ti) (hsz : ti.size = L.sz) (hs : s = L.sz)
    (hx : x.cells = L.cells v) (hl : x.laid = true) (h : kv .any (S.set n (.box (flat L (vset w i v).toList))) c) : store1 T t (vptr n 0 i s) x S c (kv := ⟨kv⟩) :=
  vstore_go hS (by simpa using hi) ht hsz hs hx hl (by rw [vset_toList] at h; exact h)
@[go_sem] theorem flat_vec_length {m : Nat} {w : Vector α m} : (flat L w.toList).length = m * L.sz := by simp [flat_length]
@[go_sem] theorem splice_vec {m : Nat} {v w : Vector α m} : splice 0 (flat L v.toList) (flat L w.toList) = flat L v.toList := by
  have := splice_all (flat L v.toList) (flat L w.toList) (bs := []) (by simp [flat_length])
  simpa using this
theorem take_vec {m k : Nat} {w : Vector α m} (h : m * L.sz ≤ k) : (flat L w.toList).take k = flat L w.toList := List.take_of_length_le (by simpa [flat_length] using h)
@[go_sem] theorem take_vecI {m : Nat} {k : IntKind} {w : Vector Int m} : (flat (lI k) w.toList).take m = flat (lI k) w.toList := take_vec (by simp [lI_sz])
@[go_sem] theorem take_vecB {m : Nat} {w : Vector Bool m} : (flat lB w.toList).take m = flat lB w.toList := take_vec (by show m * 1 ≤ m; omega)
@[go_sem] theorem take_vecS {m : Nat} {w : Vector (List α) m} : (flat (lS L) w.toList).take m = flat (lS L) w.toList := take_vec (by show m * 1 ≤ m; omega)
@[go_sem] theorem all_flat {xs : List α} : (flat L xs).all AV.one = true := by
  simp only [List.all_eq_true]
  exact fun c hc => flat_one c hc
@[go_sem] theorem laid_vec {m : Nat} {v : Vector α m} : (AV.agg (flat L v.toList)).laid = true := by
  simp only [AV.laid, List.all_eq_true]
  exact fun c hc => flat_one c hc
end
end Go.Al
