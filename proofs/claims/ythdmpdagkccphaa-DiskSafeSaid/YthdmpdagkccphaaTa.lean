/- The types of the program as a table, and that it is right. Printed by a program of this work. -/
import Derived.Test.YthdmpdagkccphaaAlZ
import Derived.Test.YthdmpdagkccphaaProg
import Derived.KernelRfl
set_option linter.unusedVariables false
set_option linter.unusedSimpArgs false
namespace Go.Proofs.Ythdmpdagkccphaa
open Go.Al

abbrev ti1 : TI := ⟨.func, 1, 8, [.nilFunc]⟩
abbrev ti2 : TI := ⟨.int .i64, 1, 8, [(.int .i64 0)]⟩
abbrev ti3 : TI := ⟨.int .i64, 1, 8, [(.int .i64 0)]⟩
abbrev ti4 : TI := ⟨.bool, 1, 1, [(.bool false)]⟩
abbrev ti5 : TI := ⟨.int .u8, 1, 1, [(.int .u8 0)]⟩
abbrev ti9 : TI := ⟨.string, 1, 16, [(.string ⟨#[]⟩)]⟩
abbrev ti22 : TI := ⟨.slice 5, 1, 24, [(.slice none 0 0)]⟩
abbrev ti24 : TI := ⟨.pointer 60, 1, 8, [(.pointer none)]⟩
abbrev ti27 : TI := ⟨.int .i64, 1, 8, [(.int .i64 0)]⟩
abbrev ti30 : TI := ⟨.slice 3, 1, 24, [(.slice none 0 0)]⟩
abbrev ti34 : TI := ⟨.slice 43, 1, 24, [(.slice none 0 0)]⟩
def zr37 : List Value := [(.slice none 0 0), (.slice none 0 0)]
abbrev ti37 : TI := ⟨.array 2 22, 2, 48, zr37⟩
def zr38 : List Value := [(.int .i64 0), (.int .i64 0)]
abbrev ti38 : TI := ⟨.array 2 3, 2, 16, zr38⟩
abbrev ti40 : TI := ⟨.struct [(0, 3), (1, 37), (3, 38)], 5, 72, [(.int .i64 0), (.slice none 0 0), (.slice none 0 0), (.int .i64 0), (.int .i64 0)]⟩
abbrev ti41 : TI := ⟨.slice 22, 1, 24, [(.slice none 0 0)]⟩
abbrev ti43 : TI := ⟨.struct [(0, 3), (1, 3), (2, 3), (3, 41), (4, 30)], 5, 72, [(.int .i64 0), (.int .i64 0), (.int .i64 0), (.slice none 0 0), (.slice none 0 0)]⟩
abbrev ti57 : TI := ⟨.struct [(0, 22), (1, 3)], 2, 32, [(.slice none 0 0), (.int .i64 0)]⟩
def zr58 : List Value := [(.slice none 0 0), (.int .i64 0), (.slice none 0 0), (.int .i64 0)]
abbrev ti58 : TI := ⟨.array 2 57, 4, 64, zr58⟩
abbrev ti60 : TI := ⟨.struct [(0, 3), (1, 58)], 5, 72, [(.int .i64 0), (.slice none 0 0), (.int .i64 0), (.slice none 0 0), (.int .i64 0)]⟩
abbrev ti71 : TI := ⟨.func, 1, 8, [.nilFunc]⟩
def Tg : TypeId → Option TI := fun t => match t with
  | 1 => some ti1
  | 2 => some ti2
  | 3 => some ti3
  | 4 => some ti4
  | 5 => some ti5
  | 9 => some ti9
  | 22 => some ti22
  | 24 => some ti24
  | 27 => some ti27
  | 30 => some ti30
  | 34 => some ti34
  | 37 => some ti37
  | 38 => some ti38
  | 40 => some ti40
  | 41 => some ti41
  | 43 => some ti43
  | 57 => some ti57
  | 58 => some ti58
  | 60 => some ti60
  | 71 => some ti71
  | _ => none
def Te : TypeId → Bool := fun t => match t with
  | 38 => true
  | _ => false
def T : Tab := ⟨Tg, Te⟩
@[go_sem] theorem Teq38 : T.eq 38 = true := rfl
@[go_sem] theorem T1 : T 1 = some ⟨.func, 1, 8, [.nilFunc]⟩ := rfl
@[go_sem] theorem T2 : T 2 = some ⟨.int .i64, 1, 8, [(.int .i64 0)]⟩ := rfl
@[go_sem] theorem T3 : T 3 = some ⟨.int .i64, 1, 8, [(.int .i64 0)]⟩ := rfl
@[go_sem] theorem T4 : T 4 = some ⟨.bool, 1, 1, [(.bool false)]⟩ := rfl
@[go_sem] theorem T5 : T 5 = some ⟨.int .u8, 1, 1, [(.int .u8 0)]⟩ := rfl
@[go_sem] theorem T9 : T 9 = some ⟨.string, 1, 16, [(.string ⟨#[]⟩)]⟩ := rfl
@[go_sem] theorem T22 : T 22 = some ⟨.slice 5, 1, 24, [(.slice none 0 0)]⟩ := rfl
@[go_sem] theorem T24 : T 24 = some ⟨.pointer 60, 1, 8, [(.pointer none)]⟩ := rfl
@[go_sem] theorem T27 : T 27 = some ⟨.int .i64, 1, 8, [(.int .i64 0)]⟩ := rfl
@[go_sem] theorem T30 : T 30 = some ⟨.slice 3, 1, 24, [(.slice none 0 0)]⟩ := rfl
@[go_sem] theorem T34 : T 34 = some ⟨.slice 43, 1, 24, [(.slice none 0 0)]⟩ := rfl
@[go_sem] theorem T37 : T 37 = some ⟨.array 2 22, 2, 48, zr37⟩ := rfl
@[go_sem] theorem T38 : T 38 = some ⟨.array 2 3, 2, 16, zr38⟩ := rfl
@[go_sem] theorem T40 : T 40 = some ⟨.struct [(0, 3), (1, 37), (3, 38)], 5, 72, [(.int .i64 0), (.slice none 0 0), (.slice none 0 0), (.int .i64 0), (.int .i64 0)]⟩ := rfl
@[go_sem] theorem T41 : T 41 = some ⟨.slice 22, 1, 24, [(.slice none 0 0)]⟩ := rfl
@[go_sem] theorem T43 : T 43 = some ⟨.struct [(0, 3), (1, 3), (2, 3), (3, 41), (4, 30)], 5, 72, [(.int .i64 0), (.int .i64 0), (.int .i64 0), (.slice none 0 0), (.slice none 0 0)]⟩ := rfl
@[go_sem] theorem T57 : T 57 = some ⟨.struct [(0, 22), (1, 3)], 2, 32, [(.slice none 0 0), (.int .i64 0)]⟩ := rfl
@[go_sem] theorem T58 : T 58 = some ⟨.array 2 57, 4, 64, zr58⟩ := rfl
@[go_sem] theorem T60 : T 60 = some ⟨.struct [(0, 3), (1, 58)], 5, 72, [(.int .i64 0), (.slice none 0 0), (.int .i64 0), (.slice none 0 0), (.int .i64 0)]⟩ := rfl
@[go_sem] theorem T71 : T 71 = some ⟨.func, 1, 8, [.nilFunc]⟩ := rfl
theorem tok1 : TIOk Try.prog 1 ti1 := ⟨⟨_, Try.underlying1, ⟨_, _, _, rfl⟩⟩, info_of (z := .nilFunc) (by kernel_rfl) rfl (fun h => by cases h) (fun _ => rfl), rfl⟩
theorem tok2 : TIOk Try.prog 2 ti2 := ⟨⟨_, Try.underlying2, rfl⟩, info_of (z := (.int .i64 0)) (by kernel_rfl) rfl (fun h => by cases h) (fun _ => rfl), rfl⟩
theorem tok3 : TIOk Try.prog 3 ti3 := ⟨⟨_, Try.underlying3, rfl⟩, info_of (z := (.int .i64 0)) (by kernel_rfl) rfl (fun h => by cases h) (fun _ => rfl), rfl⟩
theorem tok4 : TIOk Try.prog 4 ti4 := ⟨⟨_, Try.underlying4, rfl⟩, info_of (z := (.bool false)) (by kernel_rfl) rfl (fun h => by cases h) (fun _ => rfl), rfl⟩
theorem tok5 : TIOk Try.prog 5 ti5 := ⟨⟨_, Try.underlying5, rfl⟩, info_of (z := (.int .u8 0)) (by kernel_rfl) rfl (fun h => by cases h) (fun _ => rfl), rfl⟩
theorem tok9 : TIOk Try.prog 9 ti9 := ⟨⟨_, Try.underlying9, rfl⟩, info_of (z := (.string ⟨#[]⟩)) (by kernel_rfl) rfl (fun h => by cases h) (fun _ => rfl), rfl⟩
theorem tok22 : TIOk Try.prog 22 ti22 := ⟨⟨_, Try.underlying22, rfl⟩, info_of (z := (.slice none 0 0)) (by kernel_rfl) rfl (fun h => by cases h) (fun _ => rfl), rfl⟩
theorem tok24 : TIOk Try.prog 24 ti24 := ⟨⟨_, Try.underlying24, rfl⟩, info_of (z := (.pointer none)) (by kernel_rfl) rfl (fun h => by cases h) (fun _ => rfl), rfl⟩
theorem tok27 : TIOk Try.prog 27 ti27 := ⟨⟨_, Try.underlying27, rfl⟩, info_of (z := (.int .i64 0)) (by kernel_rfl) rfl (fun h => by cases h) (fun _ => rfl), rfl⟩
theorem tok30 : TIOk Try.prog 30 ti30 := ⟨⟨_, Try.underlying30, rfl⟩, info_of (z := (.slice none 0 0)) (by kernel_rfl) rfl (fun h => by cases h) (fun _ => rfl), rfl⟩
theorem tok34 : TIOk Try.prog 34 ti34 := ⟨⟨_, Try.underlying34, rfl⟩, info_of (z := (.slice none 0 0)) (by kernel_rfl) rfl (fun h => by cases h) (fun _ => rfl), rfl⟩
theorem tok37 : TIOk Try.prog 37 ti37 := ⟨⟨_, Try.underlying37, rfl⟩, info_of (z := (.agg #[(.slice none 0 0), (.slice none 0 0)])) (by kernel_rfl) rfl (fun _ => ⟨_, rfl⟩) (fun h => by cases h), rfl⟩
theorem tok38 : TIOk Try.prog 38 ti38 := ⟨⟨_, Try.underlying38, rfl⟩, info_of (z := (.agg #[(.int .i64 0), (.int .i64 0)])) (by kernel_rfl) rfl (fun _ => ⟨_, rfl⟩) (fun h => by cases h), rfl⟩
theorem tok40 : TIOk Try.prog 40 ti40 := ⟨⟨_, Try.underlying40, ⟨_, rfl, rfl⟩⟩, info_of (z := (.agg #[(.int .i64 0), (.slice none 0 0), (.slice none 0 0), (.int .i64 0), (.int .i64 0)])) (by kernel_rfl) rfl (fun _ => ⟨_, rfl⟩) (fun h => by cases h), rfl⟩
theorem tok41 : TIOk Try.prog 41 ti41 := ⟨⟨_, Try.underlying41, rfl⟩, info_of (z := (.slice none 0 0)) (by kernel_rfl) rfl (fun h => by cases h) (fun _ => rfl), rfl⟩
theorem tok43 : TIOk Try.prog 43 ti43 := ⟨⟨_, Try.underlying43, ⟨_, rfl, rfl⟩⟩, info_of (z := (.agg #[(.int .i64 0), (.int .i64 0), (.int .i64 0), (.slice none 0 0), (.slice none 0 0)])) (by kernel_rfl) rfl (fun _ => ⟨_, rfl⟩) (fun h => by cases h), rfl⟩
theorem tok57 : TIOk Try.prog 57 ti57 := ⟨⟨_, Try.underlying57, ⟨_, rfl, rfl⟩⟩, info_of (z := (.agg #[(.slice none 0 0), (.int .i64 0)])) (by kernel_rfl) rfl (fun _ => ⟨_, rfl⟩) (fun h => by cases h), rfl⟩
theorem tok58 : TIOk Try.prog 58 ti58 := ⟨⟨_, Try.underlying58, rfl⟩, info_of (z := (.agg #[(.slice none 0 0), (.int .i64 0), (.slice none 0 0), (.int .i64 0)])) (by kernel_rfl) rfl (fun _ => ⟨_, rfl⟩) (fun h => by cases h), rfl⟩
theorem tok60 : TIOk Try.prog 60 ti60 := ⟨⟨_, Try.underlying60, ⟨_, rfl, rfl⟩⟩, info_of (z := (.agg #[(.int .i64 0), (.slice none 0 0), (.int .i64 0), (.slice none 0 0), (.int .i64 0)])) (by kernel_rfl) rfl (fun _ => ⟨_, rfl⟩) (fun h => by cases h), rfl⟩
theorem tok71 : TIOk Try.prog 71 ti71 := ⟨⟨_, Try.underlying71, ⟨_, _, _, rfl⟩⟩, info_of (z := .nilFunc) (by kernel_rfl) rfl (fun h => by cases h) (fun _ => rfl), rfl⟩
theorem tokg : ∀ t i, T t = some i → TIOk Try.prog t i := by
  intro t i h
  change Tg t = some i at h
  unfold Tg at h
  split at h
  · cases h; exact tok1
  · cases h; exact tok2
  · cases h; exact tok3
  · cases h; exact tok4
  · cases h; exact tok5
  · cases h; exact tok9
  · cases h; exact tok22
  · cases h; exact tok24
  · cases h; exact tok27
  · cases h; exact tok30
  · cases h; exact tok34
  · cases h; exact tok37
  · cases h; exact tok38
  · cases h; exact tok40
  · cases h; exact tok41
  · cases h; exact tok43
  · cases h; exact tok57
  · cases h; exact tok58
  · cases h; exact tok60
  · cases h; exact tok71
  · cases h
theorem toke : ∀ t, T.eq t = true → Try.prog.stoodInHeld t = false ∧ Try.prog.eqGuardType Try.prog.depth t = false ∧ ∀ f ∈ (Try.prog.fieldsOf t).toList, f.name ≠ "_" := by
  intro t h
  change Te t = true at h
  unfold Te at h
  split at h
  · exact ⟨by kernel_rfl, by kernel_rfl, of_decide_eq_true (by kernel_rfl)⟩
  · cases h
theorem tok : TOk Try.prog T := ⟨tokg, toke⟩
theorem mixed : Try.prog.follows .mixedOrders = true := by kernel_rfl
end Go.Proofs.Ythdmpdagkccphaa
