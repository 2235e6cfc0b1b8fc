import Derived.Test.YtolfnhebnennpaaAlX
set_option linter.unusedSimpArgs false
set_option linter.unusedVariables false
namespace Go.Al
open Go Go.RowKit
section
variable {P : Program} {T : Tab} {S : AHeap} {c : Nat} {kv : AV → AHeap → Nat → Prop} {α : Type} {L : Lay α} {n : Name} {t : TypeId}
def vset {m : Nat} (v : Vector α m) (i : Nat) (x : α) : Vector α m := v.setIfInBounds i x
theorem vset_toList {m : Nat} {v : Vector α m} {i : Nat} {x : α} : (vset v i x).toList = v.toList.set i x := by simp [vset]
end
end Go.Al
