/- Arrays in boxes, by index; conditions: as stated. -/
import Derived.Test.YtlahipbilbibiaaAlX
set_option linter.unusedSimpArgs false
set_option linter.unusedVariables false
namespace Go.Al
open Go Go.RowKit
section
variable {P : Program} {T : Tab} {S : AHeap} {c : Nat} {kv : AV → AHeap → Nat → Prop} {α : Type} {L : Lay α} {n : Name} {t : TypeId}
/-- A load, of an array's cell. -/
def vload1 (T : Tab) (t : TypeId) (n : Name) (o i s : Nat) (S : AHeap) (c : Nat) [kv : Kont] : Prop := post1 (aload T S t (vptr n o i s)) S c kv.k
@[go_sem] theorem vload1_eq {o i s : Nat} : post1 (aload T S t (vptr n o i s)) S c kv = vload1 T t n o i s S c (kv := ⟨kv⟩) := rfl
/-- An array with one cell set. -/
def vset {m : Nat} (v : Vector α m) (i : Nat) (x : α) : Vector α m := v.setIfInBounds i x
theorem vset_toList {m : Nat} {v : Vector α m} {i : Nat} {x : α} : (vset v i x).toList = v.toList.set i x := by simp [vset]
@[go_sem] theorem flat_vec_length {m : Nat} {w : Vector α m} : (flat L w.toList).length = m * L.sz := by simp [flat_length]
@[go_sem] theorem splice_vec {m : Nat} {v w : Vector α m} : splice 0 (flat L v.toList) (flat L w.toList) = flat L v.toList := by
  have := splice_all (flat L v.toList) (flat L w.toList) (bs := []) (by simp [flat_length])
  simpa using this
theorem take_vec {m k : Nat} {w : Vector α m} (h : m * L.sz ≤ k) : (flat L w.toList).take k = flat L w.toList := List.take_of_length_le (by simpa [flat_length] using h)
@[go_sem] theorem take_vecI {m : Nat} {k : IntKind} {w : Vector Int m} : (flat (lI k) w.toList).take m = flat (lI k) w.toList := take_vec (by simp [lI_sz])
@[go_sem] theorem take_vecB {m : Nat} {w : Vector Bool m} : (flat lB w.toList).take m = flat lB w.toList := take_vec (by show m * 1 ≤ m; omega)
@[go_sem] theorem take_vecS {m : Nat} {w : Vector (List α) m} : (flat (lS L) w.toList).take m = flat (lS L) w.toList := take_vec (by show m * 1 ≤ m; omega)
@[go_sem] theorem all_flat {xs : List α} : (flat L xs).all AV.one = true := by
  simp only [List.all_eq_true]
  exact fun c hc => flat_one c hc
@[go_sem] theorem laid_vec {m : Nat} {v : Vector α m} : (AV.agg (flat L v.toList)).laid = true := by
  simp only [AV.laid, List.all_eq_true]
  exact fun c hc => flat_one c hc
end
end Go.Al
