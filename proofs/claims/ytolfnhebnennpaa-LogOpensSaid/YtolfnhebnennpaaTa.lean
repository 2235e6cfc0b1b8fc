import Derived.Test.YtolfnhebnennpaaAlZ
import Derived.Test.YtolfnhebnennpaaProg
import Derived.KernelRfl
set_option linter.unusedVariables false
set_option linter.unusedSimpArgs false
namespace Go.Proofs.Ytolfnhebnennpaa
open Go.Al
abbrev ti1 : TI := ⟨.func, 1, 8, [.nilFunc]⟩
abbrev ti2 : TI := ⟨.int .i64, 1, 8, [(.int .i64 0)]⟩
abbrev ti3 : TI := ⟨.int .i64, 1, 8, [(.int .i64 0)]⟩
abbrev ti4 : TI := ⟨.bool, 1, 1, [(.bool false)]⟩
abbrev ti5 : TI := ⟨.int .u8, 1, 1, [(.int .u8 0)]⟩
abbrev ti6 : TI := ⟨.int .u8, 1, 1, [(.int .u8 0)]⟩
abbrev ti7 : TI := ⟨.struct [(0, 2), (1, 3), (2, 4), (3, 6)], 4, 24, [(.int .i64 0), (.int .i64 0), (.bool false), (.int .u8 0)]⟩
abbrev ti8 : TI := ⟨.struct [(0, 2), (1, 3), (2, 4), (3, 6)], 4, 24, [(.int .i64 0), (.int .i64 0), (.bool false), (.int .u8 0)]⟩
abbrev ti9 : TI := ⟨.string, 1, 16, [(.string ⟨#[]⟩)]⟩
abbrev ti10 : TI := ⟨.string, 1, 16, [(.string ⟨#[]⟩)]⟩
abbrev ti11 : TI := ⟨.string, 1, 16, [(.string ⟨#[]⟩)]⟩
abbrev ti12 : TI := ⟨.int .u64, 1, 8, [(.int .u64 0)]⟩
abbrev ti13 : TI := ⟨.struct [(0, 9), (1, 12)], 2, 24, [(.string ⟨#[]⟩), (.int .u64 0)]⟩
abbrev ti14 : TI := ⟨.struct [(0, 9), (1, 12)], 2, 24, [(.string ⟨#[]⟩), (.int .u64 0)]⟩
abbrev ti15 : TI := ⟨.pointer 144, 1, 8, [(.pointer none)]⟩
abbrev ti16 : TI := ⟨.pointer 147, 1, 8, [(.pointer none)]⟩
abbrev ti17 : TI := ⟨.pointer 155, 1, 8, [(.pointer none)]⟩
abbrev ti18 : TI := ⟨.struct [(0, 17)], 1, 8, [(.pointer none)]⟩
abbrev ti19 : TI := ⟨.struct [(0, 17)], 1, 8, [(.pointer none)]⟩
abbrev ti20 : TI := ⟨.iface, 1, 16, [.nilIface]⟩
abbrev ti21 : TI := ⟨.int .i32, 1, 4, [(.int .i32 0)]⟩
abbrev ti22 : TI := ⟨.slice 37, 1, 24, [(.slice none 0 0)]⟩
abbrev ti23 : TI := ⟨.func, 1, 8, [.nilFunc]⟩
abbrev ti24 : TI := ⟨.func, 1, 8, [.nilFunc]⟩
abbrev ti25 : TI := ⟨.slice 3, 1, 24, [(.slice none 0 0)]⟩
abbrev ti26 : TI := ⟨.struct [(0, 3), (1, 3), (2, 22), (3, 25)], 4, 64, [(.int .i64 0), (.int .i64 0), (.slice none 0 0), (.slice none 0 0)]⟩
abbrev ti27 : TI := ⟨.struct [(0, 3), (1, 3), (2, 22), (3, 25)], 4, 64, [(.int .i64 0), (.int .i64 0), (.slice none 0 0), (.slice none 0 0)]⟩
abbrev ti28 : TI := ⟨.slice 27, 1, 24, [(.slice none 0 0)]⟩
abbrev ti29 : TI := ⟨.pointer 73, 1, 8, [(.pointer none)]⟩
abbrev ti30 : TI := ⟨.func, 1, 8, [.nilFunc]⟩
abbrev ti31 : TI := ⟨.pointer 79, 1, 8, [(.pointer none)]⟩
abbrev ti32 : TI := ⟨.int .i64, 1, 8, [(.int .i64 0)]⟩
abbrev ti34 : TI := ⟨.func, 1, 8, [.nilFunc]⟩
abbrev ti35 : TI := ⟨.func, 1, 8, [.nilFunc]⟩
abbrev ti36 : TI := ⟨.func, 1, 8, [.nilFunc]⟩
abbrev ti37 : TI := ⟨.slice 5, 1, 24, [(.slice none 0 0)]⟩
abbrev ti38 : TI := ⟨.func, 1, 8, [.nilFunc]⟩
abbrev ti39 : TI := ⟨.func, 1, 8, [.nilFunc]⟩
abbrev ti40 : TI := ⟨.func, 1, 8, [.nilFunc]⟩
abbrev ti41 : TI := ⟨.func, 1, 8, [.nilFunc]⟩
abbrev ti43 : TI := ⟨.func, 1, 8, [.nilFunc]⟩
abbrev ti44 : TI := ⟨.func, 1, 8, [.nilFunc]⟩
abbrev ti45 : TI := ⟨.func, 1, 8, [.nilFunc]⟩
abbrev ti46 : TI := ⟨.func, 1, 8, [.nilFunc]⟩
abbrev ti47 : TI := ⟨.func, 1, 8, [.nilFunc]⟩
abbrev ti48 : TI := ⟨.func, 1, 8, [.nilFunc]⟩
def zr49 : List Value := [(.slice none 0 0), (.slice none 0 0)]
abbrev ti49 : TI := ⟨.array 2 37, 2, 48, zr49⟩
def zr50 : List Value := [(.int .i64 0), (.int .i64 0)]
abbrev ti50 : TI := ⟨.array 2 3, 2, 16, zr50⟩
abbrev ti51 : TI := ⟨.struct [(0, 3), (1, 49), (3, 50)], 5, 72, [(.int .i64 0), (.slice none 0 0), (.slice none 0 0), (.int .i64 0), (.int .i64 0)]⟩
abbrev ti52 : TI := ⟨.struct [(0, 3), (1, 49), (3, 50)], 5, 72, [(.int .i64 0), (.slice none 0 0), (.slice none 0 0), (.int .i64 0), (.int .i64 0)]⟩
abbrev ti53 : TI := ⟨.struct [(0, 52), (5, 3), (6, 3), (7, 3), (8, 22)], 9, 120, [(.int .i64 0), (.slice none 0 0), (.slice none 0 0), (.int .i64 0), (.int .i64 0), (.int .i64 0), (.int .i64 0), (.int .i64 0), (.slice none 0 0)]⟩
abbrev ti54 : TI := ⟨.struct [(0, 52), (5, 3), (6, 3), (7, 3), (8, 22)], 9, 120, [(.int .i64 0), (.slice none 0 0), (.slice none 0 0), (.int .i64 0), (.int .i64 0), (.int .i64 0), (.int .i64 0), (.int .i64 0), (.slice none 0 0)]⟩
abbrev ti56 : TI := ⟨.func, 1, 8, [.nilFunc]⟩
abbrev ti57 : TI := ⟨.func, 1, 8, [.nilFunc]⟩
abbrev ti58 : TI := ⟨.func, 1, 8, [.nilFunc]⟩
abbrev ti59 : TI := ⟨.func, 1, 8, [.nilFunc]⟩
abbrev ti60 : TI := ⟨.func, 1, 8, [.nilFunc]⟩
abbrev ti61 : TI := ⟨.func, 1, 8, [.nilFunc]⟩
abbrev ti62 : TI := ⟨.func, 1, 8, [.nilFunc]⟩
abbrev ti63 : TI := ⟨.func, 1, 8, [.nilFunc]⟩
abbrev ti70 : TI := ⟨.struct [(0, 37), (1, 3)], 2, 32, [(.slice none 0 0), (.int .i64 0)]⟩
def zr71 : List Value := [(.slice none 0 0), (.int .i64 0), (.slice none 0 0), (.int .i64 0)]
abbrev ti71 : TI := ⟨.array 2 70, 4, 64, zr71⟩
abbrev ti73 : TI := ⟨.struct [(0, 3), (1, 71)], 5, 72, [(.int .i64 0), (.slice none 0 0), (.int .i64 0), (.slice none 0 0), (.int .i64 0)]⟩
abbrev ti77 : TI := ⟨.struct [(0, 29), (1, 3), (2, 3), (3, 3)], 4, 32, [(.pointer none), (.int .i64 0), (.int .i64 0), (.int .i64 0)]⟩
abbrev ti79 : TI := ⟨.struct [(0, 77), (4, 22)], 5, 56, [(.pointer none), (.int .i64 0), (.int .i64 0), (.int .i64 0), (.slice none 0 0)]⟩
abbrev ti94 : TI := ⟨.pointer 96, 1, 8, [(.pointer none)]⟩
abbrev ti96 : TI := ⟨.struct [(0, 37), (1, 3)], 2, 32, [(.slice none 0 0), (.int .i64 0)]⟩
abbrev ti105 : TI := ⟨.func, 1, 8, [.nilFunc]⟩
abbrev ti107 : TI := ⟨.func, 1, 8, [.nilFunc]⟩
abbrev ti121 : TI := ⟨.int .u64, 1, 8, [(.int .u64 0)]⟩
abbrev ti122 : TI := ⟨.int .u64, 1, 8, [(.int .u64 0)]⟩
abbrev ti123 : TI := ⟨.int .u32, 1, 4, [(.int .u32 0)]⟩
def zr124 : List Value := (List.replicate 64 (.int .u32 0))
abbrev ti124 : TI := ⟨.array 64 123, 64, 256, zr124⟩
def zr126 : List Value := [(.int .u32 0), (.int .u32 0), (.int .u32 0), (.int .u32 0), (.int .u32 0), (.int .u32 0), (.int .u32 0), (.int .u32 0)]
abbrev ti126 : TI := ⟨.array 8 123, 8, 32, zr126⟩
abbrev ti128 : TI := ⟨.slice 5, 1, 24, [(.slice none 0 0)]⟩
def zr130 : List Value := [(.int .u32 0), (.int .u32 0), (.int .u32 0), (.int .u32 0), (.int .u32 0), (.int .u32 0), (.int .u32 0), (.int .u32 0)]
abbrev ti130 : TI := ⟨.array 8 123, 8, 32, zr130⟩
abbrev ti139 : TI := ⟨.slice 123, 1, 24, [(.slice none 0 0)]⟩
abbrev ti144 : TI := ⟨.struct [(0, 17), (1, 17), (2, 17), (3, 9)], 4, 40, [(.pointer none), (.pointer none), (.pointer none), (.string ⟨#[]⟩)]⟩
abbrev ti145 : TI := ⟨.array 0 16, 0, 0, []⟩
abbrev ti147 : TI := ⟨.struct [(0, 145)], 0, 0, []⟩
abbrev ti148 : TI := ⟨.int .u8, 1, 1, [(.int .u8 0)]⟩
abbrev ti149 : TI := ⟨.int .u8, 1, 1, [(.int .u8 0)]⟩
abbrev ti150 : TI := ⟨.func, 1, 8, [.nilFunc]⟩
abbrev ti151 : TI := ⟨.pointer 5, 1, 8, [(.pointer none)]⟩
abbrev ti152 : TI := ⟨.int .i32, 1, 4, [(.int .i32 0)]⟩
abbrev ti153 : TI := ⟨.int .i32, 1, 4, [(.int .i32 0)]⟩
abbrev ti155 : TI := ⟨.struct [(0, 12), (1, 12), (2, 123), (3, 148), (4, 5), (5, 5), (6, 149), (7, 150), (8, 151), (9, 152), (10, 153)], 11, 48, [(.int .u64 0), (.int .u64 0), (.int .u32 0), (.int .u8 0), (.int .u8 0), (.int .u8 0), (.int .u8 0), .nilFunc, (.pointer none), (.int .i32 0), (.int .i32 0)]⟩
def Tg : TypeId → Option TI := fun t => match t with
 | 1 => some ti1
 | 2 => some ti2
 | 3 => some ti3
 | 4 => some ti4
 | 5 => some ti5
 | 6 => some ti6
 | 7 => some ti7
 | 8 => some ti8
 | 9 => some ti9
 | 10 => some ti10
 | 11 => some ti11
 | 12 => some ti12
 | 13 => some ti13
 | 14 => some ti14
 | 15 => some ti15
 | 16 => some ti16
 | 17 => some ti17
 | 18 => some ti18
 | 19 => some ti19
 | 20 => some ti20
 | 21 => some ti21
 | 22 => some ti22
 | 23 => some ti23
 | 24 => some ti24
 | 25 => some ti25
 | 26 => some ti26
 | 27 => some ti27
 | 28 => some ti28
 | 29 => some ti29
 | 30 => some ti30
 | 31 => some ti31
 | 32 => some ti32
 | 34 => some ti34
 | 35 => some ti35
 | 36 => some ti36
 | 37 => some ti37
 | 38 => some ti38
 | 39 => some ti39
 | 40 => some ti40
 | 41 => some ti41
 | 43 => some ti43
 | 44 => some ti44
 | 45 => some ti45
 | 46 => some ti46
 | 47 => some ti47
 | 48 => some ti48
 | 49 => some ti49
 | 50 => some ti50
 | 51 => some ti51
 | 52 => some ti52
 | 53 => some ti53
 | 54 => some ti54
 | 56 => some ti56
 | 57 => some ti57
 | 58 => some ti58
 | 59 => some ti59
 | 60 => some ti60
 | 61 => some ti61
 | 62 => some ti62
 | 63 => some ti63
 | 70 => some ti70
 | 71 => some ti71
 | 73 => some ti73
 | 77 => some ti77
 | 79 => some ti79
 | 94 => some ti94
 | 96 => some ti96
 | 105 => some ti105
 | 107 => some ti107
 | 121 => some ti121
 | 122 => some ti122
 | 123 => some ti123
 | 124 => some ti124
 | 126 => some ti126
 | 128 => some ti128
 | 130 => some ti130
 | 139 => some ti139
 | 144 => some ti144
 | 145 => some ti145
 | 147 => some ti147
 | 148 => some ti148
 | 149 => some ti149
 | 150 => some ti150
 | 151 => some ti151
 | 152 => some ti152
 | 153 => some ti153
 | 155 => some ti155
 | _ => none
def Te : TypeId → Bool := fun t => match t with
 | 50 => true
 | 124 => true
 | 126 => true
 | 130 => true
 | _ => false
def T : Tab := ⟨Tg, Te⟩
@[go_sem] theorem T3 : T 3 = some ⟨.int .i64, 1, 8, [(.int .i64 0)]⟩ := rfl
@[go_sem] theorem T5 : T 5 = some ⟨.int .u8, 1, 1, [(.int .u8 0)]⟩ := rfl
@[go_sem] theorem T37 : T 37 = some ⟨.slice 5, 1, 24, [(.slice none 0 0)]⟩ := rfl
theorem tok1 : TIOk Try.prog 1 ti1 := ⟨⟨_, Try.underlying1, ⟨_, _, _, rfl⟩⟩, info_of (z := .nilFunc) (by kernel_rfl) rfl (fun h => by cases h) (fun _ => rfl), rfl⟩
theorem tok2 : TIOk Try.prog 2 ti2 := ⟨⟨_, Try.underlying2, rfl⟩, info_of (z := (.int .i64 0)) (by kernel_rfl) rfl (fun h => by cases h) (fun _ => rfl), rfl⟩
theorem tok3 : TIOk Try.prog 3 ti3 := ⟨⟨_, Try.underlying3, rfl⟩, info_of (z := (.int .i64 0)) (by kernel_rfl) rfl (fun h => by cases h) (fun _ => rfl), rfl⟩
theorem tok4 : TIOk Try.prog 4 ti4 := ⟨⟨_, Try.underlying4, rfl⟩, info_of (z := (.bool false)) (by kernel_rfl) rfl (fun h => by cases h) (fun _ => rfl), rfl⟩
theorem tok5 : TIOk Try.prog 5 ti5 := ⟨⟨_, Try.underlying5, rfl⟩, info_of (z := (.int .u8 0)) (by kernel_rfl) rfl (fun h => by cases h) (fun _ => rfl), rfl⟩
theorem tok6 : TIOk Try.prog 6 ti6 := ⟨⟨_, Try.underlying6, rfl⟩, info_of (z := (.int .u8 0)) (by kernel_rfl) rfl (fun h => by cases h) (fun _ => rfl), rfl⟩
theorem tok7 : TIOk Try.prog 7 ti7 := ⟨⟨_, Try.underlying7, ⟨_, rfl, rfl⟩⟩, info_of (z := (.agg #[(.int .i64 0), (.int .i64 0), (.bool false), (.int .u8 0)])) (by kernel_rfl) rfl (fun _ => ⟨_, rfl⟩) (fun h => by cases h), rfl⟩
theorem tok8 : TIOk Try.prog 8 ti8 := ⟨⟨_, Try.underlying8, ⟨_, rfl, rfl⟩⟩, info_of (z := (.agg #[(.int .i64 0), (.int .i64 0), (.bool false), (.int .u8 0)])) (by kernel_rfl) rfl (fun _ => ⟨_, rfl⟩) (fun h => by cases h), rfl⟩
theorem tok9 : TIOk Try.prog 9 ti9 := ⟨⟨_, Try.underlying9, rfl⟩, info_of (z := (.string ⟨#[]⟩)) (by kernel_rfl) rfl (fun h => by cases h) (fun _ => rfl), rfl⟩
theorem tok10 : TIOk Try.prog 10 ti10 := ⟨⟨_, Try.underlying10, rfl⟩, info_of (z := (.string ⟨#[]⟩)) (by kernel_rfl) rfl (fun h => by cases h) (fun _ => rfl), rfl⟩
theorem tok11 : TIOk Try.prog 11 ti11 := ⟨⟨_, Try.underlying11, rfl⟩, info_of (z := (.string ⟨#[]⟩)) (by kernel_rfl) rfl (fun h => by cases h) (fun _ => rfl), rfl⟩
theorem tok12 : TIOk Try.prog 12 ti12 := ⟨⟨_, Try.underlying12, rfl⟩, info_of (z := (.int .u64 0)) (by kernel_rfl) rfl (fun h => by cases h) (fun _ => rfl), rfl⟩
theorem tok13 : TIOk Try.prog 13 ti13 := ⟨⟨_, Try.underlying13, ⟨_, rfl, rfl⟩⟩, info_of (z := (.agg #[(.string ⟨#[]⟩), (.int .u64 0)])) (by kernel_rfl) rfl (fun _ => ⟨_, rfl⟩) (fun h => by cases h), rfl⟩
theorem tok14 : TIOk Try.prog 14 ti14 := ⟨⟨_, Try.underlying14, ⟨_, rfl, rfl⟩⟩, info_of (z := (.agg #[(.string ⟨#[]⟩), (.int .u64 0)])) (by kernel_rfl) rfl (fun _ => ⟨_, rfl⟩) (fun h => by cases h), rfl⟩
theorem tok15 : TIOk Try.prog 15 ti15 := ⟨⟨_, Try.underlying15, rfl⟩, info_of (z := (.pointer none)) (by kernel_rfl) rfl (fun h => by cases h) (fun _ => rfl), rfl⟩
theorem tok16 : TIOk Try.prog 16 ti16 := ⟨⟨_, Try.underlying16, rfl⟩, info_of (z := (.pointer none)) (by kernel_rfl) rfl (fun h => by cases h) (fun _ => rfl), rfl⟩
theorem tok17 : TIOk Try.prog 17 ti17 := ⟨⟨_, Try.underlying17, rfl⟩, info_of (z := (.pointer none)) (by kernel_rfl) rfl (fun h => by cases h) (fun _ => rfl), rfl⟩
theorem tok18 : TIOk Try.prog 18 ti18 := ⟨⟨_, Try.underlying18, ⟨_, rfl, rfl⟩⟩, info_of (z := (.agg #[(.pointer none)])) (by kernel_rfl) rfl (fun _ => ⟨_, rfl⟩) (fun h => by cases h), rfl⟩
theorem tok19 : TIOk Try.prog 19 ti19 := ⟨⟨_, Try.underlying19, ⟨_, rfl, rfl⟩⟩, info_of (z := (.agg #[(.pointer none)])) (by kernel_rfl) rfl (fun _ => ⟨_, rfl⟩) (fun h => by cases h), rfl⟩
theorem tok20 : TIOk Try.prog 20 ti20 := ⟨⟨_, Try.underlying20, ⟨_, rfl⟩⟩, info_of (z := .nilIface) (by kernel_rfl) rfl (fun h => by cases h) (fun _ => rfl), rfl⟩
theorem tok21 : TIOk Try.prog 21 ti21 := ⟨⟨_, Try.underlying21, rfl⟩, info_of (z := (.int .i32 0)) (by kernel_rfl) rfl (fun h => by cases h) (fun _ => rfl), rfl⟩
theorem tok22 : TIOk Try.prog 22 ti22 := ⟨⟨_, Try.underlying22, rfl⟩, info_of (z := (.slice none 0 0)) (by kernel_rfl) rfl (fun h => by cases h) (fun _ => rfl), rfl⟩
theorem tok23 : TIOk Try.prog 23 ti23 := ⟨⟨_, Try.underlying23, ⟨_, _, _, rfl⟩⟩, info_of (z := .nilFunc) (by kernel_rfl) rfl (fun h => by cases h) (fun _ => rfl), rfl⟩
theorem tok24 : TIOk Try.prog 24 ti24 := ⟨⟨_, Try.underlying24, ⟨_, _, _, rfl⟩⟩, info_of (z := .nilFunc) (by kernel_rfl) rfl (fun h => by cases h) (fun _ => rfl), rfl⟩
theorem tok25 : TIOk Try.prog 25 ti25 := ⟨⟨_, Try.underlying25, rfl⟩, info_of (z := (.slice none 0 0)) (by kernel_rfl) rfl (fun h => by cases h) (fun _ => rfl), rfl⟩
theorem tok26 : TIOk Try.prog 26 ti26 := ⟨⟨_, Try.underlying26, ⟨_, rfl, rfl⟩⟩, info_of (z := (.agg #[(.int .i64 0), (.int .i64 0), (.slice none 0 0), (.slice none 0 0)])) (by kernel_rfl) rfl (fun _ => ⟨_, rfl⟩) (fun h => by cases h), rfl⟩
theorem tok27 : TIOk Try.prog 27 ti27 := ⟨⟨_, Try.underlying27, ⟨_, rfl, rfl⟩⟩, info_of (z := (.agg #[(.int .i64 0), (.int .i64 0), (.slice none 0 0), (.slice none 0 0)])) (by kernel_rfl) rfl (fun _ => ⟨_, rfl⟩) (fun h => by cases h), rfl⟩
theorem tok28 : TIOk Try.prog 28 ti28 := ⟨⟨_, Try.underlying28, rfl⟩, info_of (z := (.slice none 0 0)) (by kernel_rfl) rfl (fun h => by cases h) (fun _ => rfl), rfl⟩
theorem tok29 : TIOk Try.prog 29 ti29 := ⟨⟨_, Try.underlying29, rfl⟩, info_of (z := (.pointer none)) (by kernel_rfl) rfl (fun h => by cases h) (fun _ => rfl), rfl⟩
theorem tok30 : TIOk Try.prog 30 ti30 := ⟨⟨_, Try.underlying30, ⟨_, _, _, rfl⟩⟩, info_of (z := .nilFunc) (by kernel_rfl) rfl (fun h => by cases h) (fun _ => rfl), rfl⟩
theorem tok31 : TIOk Try.prog 31 ti31 := ⟨⟨_, Try.underlying31, rfl⟩, info_of (z := (.pointer none)) (by kernel_rfl) rfl (fun h => by cases h) (fun _ => rfl), rfl⟩
theorem tok32 : TIOk Try.prog 32 ti32 := ⟨⟨_, Try.underlying32, rfl⟩, info_of (z := (.int .i64 0)) (by kernel_rfl) rfl (fun h => by cases h) (fun _ => rfl), rfl⟩
theorem tok34 : TIOk Try.prog 34 ti34 := ⟨⟨_, Try.underlying34, ⟨_, _, _, rfl⟩⟩, info_of (z := .nilFunc) (by kernel_rfl) rfl (fun h => by cases h) (fun _ => rfl), rfl⟩
theorem tok35 : TIOk Try.prog 35 ti35 := ⟨⟨_, Try.underlying35, ⟨_, _, _, rfl⟩⟩, info_of (z := .nilFunc) (by kernel_rfl) rfl (fun h => by cases h) (fun _ => rfl), rfl⟩
theorem tok36 : TIOk Try.prog 36 ti36 := ⟨⟨_, Try.underlying36, ⟨_, _, _, rfl⟩⟩, info_of (z := .nilFunc) (by kernel_rfl) rfl (fun h => by cases h) (fun _ => rfl), rfl⟩
theorem tok37 : TIOk Try.prog 37 ti37 := ⟨⟨_, Try.underlying37, rfl⟩, info_of (z := (.slice none 0 0)) (by kernel_rfl) rfl (fun h => by cases h) (fun _ => rfl), rfl⟩
theorem tok38 : TIOk Try.prog 38 ti38 := ⟨⟨_, Try.underlying38, ⟨_, _, _, rfl⟩⟩, info_of (z := .nilFunc) (by kernel_rfl) rfl (fun h => by cases h) (fun _ => rfl), rfl⟩
theorem tok39 : TIOk Try.prog 39 ti39 := ⟨⟨_, Try.underlying39, ⟨_, _, _, rfl⟩⟩, info_of (z := .nilFunc) (by kernel_rfl) rfl (fun h => by cases h) (fun _ => rfl), rfl⟩
theorem tok40 : TIOk Try.prog 40 ti40 := ⟨⟨_, Try.underlying40, ⟨_, _, _, rfl⟩⟩, info_of (z := .nilFunc) (by kernel_rfl) rfl (fun h => by cases h) (fun _ => rfl), rfl⟩
theorem tok41 : TIOk Try.prog 41 ti41 := ⟨⟨_, Try.underlying41, ⟨_, _, _, rfl⟩⟩, info_of (z := .nilFunc) (by kernel_rfl) rfl (fun h => by cases h) (fun _ => rfl), rfl⟩
theorem tok43 : TIOk Try.prog 43 ti43 := ⟨⟨_, Try.underlying43, ⟨_, _, _, rfl⟩⟩, info_of (z := .nilFunc) (by kernel_rfl) rfl (fun h => by cases h) (fun _ => rfl), rfl⟩
theorem tok44 : TIOk Try.prog 44 ti44 := ⟨⟨_, Try.underlying44, ⟨_, _, _, rfl⟩⟩, info_of (z := .nilFunc) (by kernel_rfl) rfl (fun h => by cases h) (fun _ => rfl), rfl⟩
theorem tok45 : TIOk Try.prog 45 ti45 := ⟨⟨_, Try.underlying45, ⟨_, _, _, rfl⟩⟩, info_of (z := .nilFunc) (by kernel_rfl) rfl (fun h => by cases h) (fun _ => rfl), rfl⟩
theorem tok46 : TIOk Try.prog 46 ti46 := ⟨⟨_, Try.underlying46, ⟨_, _, _, rfl⟩⟩, info_of (z := .nilFunc) (by kernel_rfl) rfl (fun h => by cases h) (fun _ => rfl), rfl⟩
theorem tok47 : TIOk Try.prog 47 ti47 := ⟨⟨_, Try.underlying47, ⟨_, _, _, rfl⟩⟩, info_of (z := .nilFunc) (by kernel_rfl) rfl (fun h => by cases h) (fun _ => rfl), rfl⟩
theorem tok48 : TIOk Try.prog 48 ti48 := ⟨⟨_, Try.underlying48, ⟨_, _, _, rfl⟩⟩, info_of (z := .nilFunc) (by kernel_rfl) rfl (fun h => by cases h) (fun _ => rfl), rfl⟩
theorem tok49 : TIOk Try.prog 49 ti49 := ⟨⟨_, Try.underlying49, rfl⟩, info_of (z := (.agg #[(.slice none 0 0), (.slice none 0 0)])) (by kernel_rfl) rfl (fun _ => ⟨_, rfl⟩) (fun h => by cases h), rfl⟩
theorem tok50 : TIOk Try.prog 50 ti50 := ⟨⟨_, Try.underlying50, rfl⟩, info_of (z := (.agg #[(.int .i64 0), (.int .i64 0)])) (by kernel_rfl) rfl (fun _ => ⟨_, rfl⟩) (fun h => by cases h), rfl⟩
theorem tok51 : TIOk Try.prog 51 ti51 := ⟨⟨_, Try.underlying51, ⟨_, rfl, rfl⟩⟩, info_of (z := (.agg #[(.int .i64 0), (.slice none 0 0), (.slice none 0 0), (.int .i64 0), (.int .i64 0)])) (by kernel_rfl) rfl (fun _ => ⟨_, rfl⟩) (fun h => by cases h), rfl⟩
theorem tok52 : TIOk Try.prog 52 ti52 := ⟨⟨_, Try.underlying52, ⟨_, rfl, rfl⟩⟩, info_of (z := (.agg #[(.int .i64 0), (.slice none 0 0), (.slice none 0 0), (.int .i64 0), (.int .i64 0)])) (by kernel_rfl) rfl (fun _ => ⟨_, rfl⟩) (fun h => by cases h), rfl⟩
theorem tok53 : TIOk Try.prog 53 ti53 := ⟨⟨_, Try.underlying53, ⟨_, rfl, rfl⟩⟩, info_of (z := (.agg #[(.int .i64 0), (.slice none 0 0), (.slice none 0 0), (.int .i64 0), (.int .i64 0), (.int .i64 0), (.int .i64 0), (.int .i64 0), (.slice none 0 0)])) (by kernel_rfl) rfl (fun _ => ⟨_, rfl⟩) (fun h => by cases h), rfl⟩
theorem tok54 : TIOk Try.prog 54 ti54 := ⟨⟨_, Try.underlying54, ⟨_, rfl, rfl⟩⟩, info_of (z := (.agg #[(.int .i64 0), (.slice none 0 0), (.slice none 0 0), (.int .i64 0), (.int .i64 0), (.int .i64 0), (.int .i64 0), (.int .i64 0), (.slice none 0 0)])) (by kernel_rfl) rfl (fun _ => ⟨_, rfl⟩) (fun h => by cases h), rfl⟩
theorem tok56 : TIOk Try.prog 56 ti56 := ⟨⟨_, Try.underlying56, ⟨_, _, _, rfl⟩⟩, info_of (z := .nilFunc) (by kernel_rfl) rfl (fun h => by cases h) (fun _ => rfl), rfl⟩
theorem tok57 : TIOk Try.prog 57 ti57 := ⟨⟨_, Try.underlying57, ⟨_, _, _, rfl⟩⟩, info_of (z := .nilFunc) (by kernel_rfl) rfl (fun h => by cases h) (fun _ => rfl), rfl⟩
theorem tok58 : TIOk Try.prog 58 ti58 := ⟨⟨_, Try.underlying58, ⟨_, _, _, rfl⟩⟩, info_of (z := .nilFunc) (by kernel_rfl) rfl (fun h => by cases h) (fun _ => rfl), rfl⟩
theorem tok59 : TIOk Try.prog 59 ti59 := ⟨⟨_, Try.underlying59, ⟨_, _, _, rfl⟩⟩, info_of (z := .nilFunc) (by kernel_rfl) rfl (fun h => by cases h) (fun _ => rfl), rfl⟩
theorem tok60 : TIOk Try.prog 60 ti60 := ⟨⟨_, Try.underlying60, ⟨_, _, _, rfl⟩⟩, info_of (z := .nilFunc) (by kernel_rfl) rfl (fun h => by cases h) (fun _ => rfl), rfl⟩
theorem tok61 : TIOk Try.prog 61 ti61 := ⟨⟨_, Try.underlying61, ⟨_, _, _, rfl⟩⟩, info_of (z := .nilFunc) (by kernel_rfl) rfl (fun h => by cases h) (fun _ => rfl), rfl⟩
theorem tok62 : TIOk Try.prog 62 ti62 := ⟨⟨_, Try.underlying62, ⟨_, _, _, rfl⟩⟩, info_of (z := .nilFunc) (by kernel_rfl) rfl (fun h => by cases h) (fun _ => rfl), rfl⟩
theorem tok63 : TIOk Try.prog 63 ti63 := ⟨⟨_, Try.underlying63, ⟨_, _, _, rfl⟩⟩, info_of (z := .nilFunc) (by kernel_rfl) rfl (fun h => by cases h) (fun _ => rfl), rfl⟩
theorem tok70 : TIOk Try.prog 70 ti70 := ⟨⟨_, Try.underlying70, ⟨_, rfl, rfl⟩⟩, info_of (z := (.agg #[(.slice none 0 0), (.int .i64 0)])) (by kernel_rfl) rfl (fun _ => ⟨_, rfl⟩) (fun h => by cases h), rfl⟩
theorem tok71 : TIOk Try.prog 71 ti71 := ⟨⟨_, Try.underlying71, rfl⟩, info_of (z := (.agg #[(.slice none 0 0), (.int .i64 0), (.slice none 0 0), (.int .i64 0)])) (by kernel_rfl) rfl (fun _ => ⟨_, rfl⟩) (fun h => by cases h), rfl⟩
theorem tok73 : TIOk Try.prog 73 ti73 := ⟨⟨_, Try.underlying73, ⟨_, rfl, rfl⟩⟩, info_of (z := (.agg #[(.int .i64 0), (.slice none 0 0), (.int .i64 0), (.slice none 0 0), (.int .i64 0)])) (by kernel_rfl) rfl (fun _ => ⟨_, rfl⟩) (fun h => by cases h), rfl⟩
theorem tok77 : TIOk Try.prog 77 ti77 := ⟨⟨_, Try.underlying77, ⟨_, rfl, rfl⟩⟩, info_of (z := (.agg #[(.pointer none), (.int .i64 0), (.int .i64 0), (.int .i64 0)])) (by kernel_rfl) rfl (fun _ => ⟨_, rfl⟩) (fun h => by cases h), rfl⟩
theorem tok79 : TIOk Try.prog 79 ti79 := ⟨⟨_, Try.underlying79, ⟨_, rfl, rfl⟩⟩, info_of (z := (.agg #[(.pointer none), (.int .i64 0), (.int .i64 0), (.int .i64 0), (.slice none 0 0)])) (by kernel_rfl) rfl (fun _ => ⟨_, rfl⟩) (fun h => by cases h), rfl⟩
theorem tok94 : TIOk Try.prog 94 ti94 := ⟨⟨_, Try.underlying94, rfl⟩, info_of (z := (.pointer none)) (by kernel_rfl) rfl (fun h => by cases h) (fun _ => rfl), rfl⟩
theorem tok96 : TIOk Try.prog 96 ti96 := ⟨⟨_, Try.underlying96, ⟨_, rfl, rfl⟩⟩, info_of (z := (.agg #[(.slice none 0 0), (.int .i64 0)])) (by kernel_rfl) rfl (fun _ => ⟨_, rfl⟩) (fun h => by cases h), rfl⟩
theorem tok105 : TIOk Try.prog 105 ti105 := ⟨⟨_, Try.underlying105, ⟨_, _, _, rfl⟩⟩, info_of (z := .nilFunc) (by kernel_rfl) rfl (fun h => by cases h) (fun _ => rfl), rfl⟩
theorem tok107 : TIOk Try.prog 107 ti107 := ⟨⟨_, Try.underlying107, ⟨_, _, _, rfl⟩⟩, info_of (z := .nilFunc) (by kernel_rfl) rfl (fun h => by cases h) (fun _ => rfl), rfl⟩
theorem tok121 : TIOk Try.prog 121 ti121 := ⟨⟨_, Try.underlying121, rfl⟩, info_of (z := (.int .u64 0)) (by kernel_rfl) rfl (fun h => by cases h) (fun _ => rfl), rfl⟩
theorem tok122 : TIOk Try.prog 122 ti122 := ⟨⟨_, Try.underlying122, rfl⟩, info_of (z := (.int .u64 0)) (by kernel_rfl) rfl (fun h => by cases h) (fun _ => rfl), rfl⟩
theorem tok123 : TIOk Try.prog 123 ti123 := ⟨⟨_, Try.underlying123, rfl⟩, info_of (z := (.int .u32 0)) (by kernel_rfl) rfl (fun h => by cases h) (fun _ => rfl), rfl⟩
theorem tok124 : TIOk Try.prog 124 ti124 := ⟨⟨_, Try.underlying124, rfl⟩, info_of (z := (.agg #[(.int .u32 0), (.int .u32 0), (.int .u32 0), (.int .u32 0), (.int .u32 0), (.int .u32 0), (.int .u32 0), (.int .u32 0), (.int .u32 0), (.int .u32 0), (.int .u32 0), (.int .u32 0), (.int .u32 0), (.int .u32 0), (.int .u32 0), (.int .u32 0), (.int .u32 0), (.int .u32 0), (.int .u32 0), (.int .u32 0), (.int .u32 0), (.int .u32 0), (.int .u32 0), (.int .u32 0), (.int .u32 0), (.int .u32 0), (.int .u32 0), (.int .u32 0), (.int .u32 0), (.int .u32 0), (.int .u32 0), (.int .u32 0), (.int .u32 0), (.int .u32 0), (.int .u32 0), (.int .u32 0), (.int .u32 0), (.int .u32 0), (.int .u32 0), (.int .u32 0), (.int .u32 0), (.int .u32 0), (.int .u32 0), (.int .u32 0), (.int .u32 0), (.int .u32 0), (.int .u32 0), (.int .u32 0), (.int .u32 0), (.int .u32 0), (.int .u32 0), (.int .u32 0), (.int .u32 0), (.int .u32 0), (.int .u32 0), (.int .u32 0), (.int .u32 0), (.int .u32 0), (.int .u32 0), (.int .u32 0), (.int .u32 0), (.int .u32 0), (.int .u32 0), (.int .u32 0)])) (by kernel_rfl) rfl (fun _ => ⟨_, rfl⟩) (fun h => by cases h), rfl⟩
theorem tok126 : TIOk Try.prog 126 ti126 := ⟨⟨_, Try.underlying126, rfl⟩, info_of (z := (.agg #[(.int .u32 0), (.int .u32 0), (.int .u32 0), (.int .u32 0), (.int .u32 0), (.int .u32 0), (.int .u32 0), (.int .u32 0)])) (by kernel_rfl) rfl (fun _ => ⟨_, rfl⟩) (fun h => by cases h), rfl⟩
theorem tok128 : TIOk Try.prog 128 ti128 := ⟨⟨_, Try.underlying128, rfl⟩, info_of (z := (.slice none 0 0)) (by kernel_rfl) rfl (fun h => by cases h) (fun _ => rfl), rfl⟩
theorem tok130 : TIOk Try.prog 130 ti130 := ⟨⟨_, Try.underlying130, rfl⟩, info_of (z := (.agg #[(.int .u32 0), (.int .u32 0), (.int .u32 0), (.int .u32 0), (.int .u32 0), (.int .u32 0), (.int .u32 0), (.int .u32 0)])) (by kernel_rfl) rfl (fun _ => ⟨_, rfl⟩) (fun h => by cases h), rfl⟩
theorem tok139 : TIOk Try.prog 139 ti139 := ⟨⟨_, Try.underlying139, rfl⟩, info_of (z := (.slice none 0 0)) (by kernel_rfl) rfl (fun h => by cases h) (fun _ => rfl), rfl⟩
theorem tok144 : TIOk Try.prog 144 ti144 := ⟨⟨_, Try.underlying144, ⟨_, rfl, rfl⟩⟩, info_of (z := (.agg #[(.pointer none), (.pointer none), (.pointer none), (.string ⟨#[]⟩)])) (by kernel_rfl) rfl (fun _ => ⟨_, rfl⟩) (fun h => by cases h), rfl⟩
theorem tok145 : TIOk Try.prog 145 ti145 := ⟨⟨_, Try.underlying145, rfl⟩, info_of (z := (.agg #[])) (by kernel_rfl) rfl (fun _ => ⟨_, rfl⟩) (fun h => by cases h), rfl⟩
theorem tok147 : TIOk Try.prog 147 ti147 := ⟨⟨_, Try.underlying147, ⟨_, rfl, rfl⟩⟩, info_of (z := (.agg #[])) (by kernel_rfl) rfl (fun _ => ⟨_, rfl⟩) (fun h => by cases h), rfl⟩
theorem tok148 : TIOk Try.prog 148 ti148 := ⟨⟨_, Try.underlying148, rfl⟩, info_of (z := (.int .u8 0)) (by kernel_rfl) rfl (fun h => by cases h) (fun _ => rfl), rfl⟩
theorem tok149 : TIOk Try.prog 149 ti149 := ⟨⟨_, Try.underlying149, rfl⟩, info_of (z := (.int .u8 0)) (by kernel_rfl) rfl (fun h => by cases h) (fun _ => rfl), rfl⟩
theorem tok150 : TIOk Try.prog 150 ti150 := ⟨⟨_, Try.underlying150, ⟨_, _, _, rfl⟩⟩, info_of (z := .nilFunc) (by kernel_rfl) rfl (fun h => by cases h) (fun _ => rfl), rfl⟩
theorem tok151 : TIOk Try.prog 151 ti151 := ⟨⟨_, Try.underlying151, rfl⟩, info_of (z := (.pointer none)) (by kernel_rfl) rfl (fun h => by cases h) (fun _ => rfl), rfl⟩
theorem tok152 : TIOk Try.prog 152 ti152 := ⟨⟨_, Try.underlying152, rfl⟩, info_of (z := (.int .i32 0)) (by kernel_rfl) rfl (fun h => by cases h) (fun _ => rfl), rfl⟩
theorem tok153 : TIOk Try.prog 153 ti153 := ⟨⟨_, Try.underlying153, rfl⟩, info_of (z := (.int .i32 0)) (by kernel_rfl) rfl (fun h => by cases h) (fun _ => rfl), rfl⟩
theorem tok155 : TIOk Try.prog 155 ti155 := ⟨⟨_, Try.underlying155, ⟨_, rfl, rfl⟩⟩, info_of (z := (.agg #[(.int .u64 0), (.int .u64 0), (.int .u32 0), (.int .u8 0), (.int .u8 0), (.int .u8 0), (.int .u8 0), .nilFunc, (.pointer none), (.int .i32 0), (.int .i32 0)])) (by kernel_rfl) rfl (fun _ => ⟨_, rfl⟩) (fun h => by cases h), rfl⟩
theorem tokg : ∀ t i, T t = some i → TIOk Try.prog t i := by
 intro t i h
 change Tg t = some i at h
 unfold Tg at h
 split at h
 ·cases h; exact tok1
 ·cases h; exact tok2
 ·cases h; exact tok3
 ·cases h; exact tok4
 ·cases h; exact tok5
 ·cases h; exact tok6
 ·cases h; exact tok7
 ·cases h; exact tok8
 ·cases h; exact tok9
 ·cases h; exact tok10
 ·cases h; exact tok11
 ·cases h; exact tok12
 ·cases h; exact tok13
 ·cases h; exact tok14
 ·cases h; exact tok15
 ·cases h; exact tok16
 ·cases h; exact tok17
 ·cases h; exact tok18
 ·cases h; exact tok19
 ·cases h; exact tok20
 ·cases h; exact tok21
 ·cases h; exact tok22
 ·cases h; exact tok23
 ·cases h; exact tok24
 ·cases h; exact tok25
 ·cases h; exact tok26
 ·cases h; exact tok27
 ·cases h; exact tok28
 ·cases h; exact tok29
 ·cases h; exact tok30
 ·cases h; exact tok31
 ·cases h; exact tok32
 ·cases h; exact tok34
 ·cases h; exact tok35
 ·cases h; exact tok36
 ·cases h; exact tok37
 ·cases h; exact tok38
 ·cases h; exact tok39
 ·cases h; exact tok40
 ·cases h; exact tok41
 ·cases h; exact tok43
 ·cases h; exact tok44
 ·cases h; exact tok45
 ·cases h; exact tok46
 ·cases h; exact tok47
 ·cases h; exact tok48
 ·cases h; exact tok49
 ·cases h; exact tok50
 ·cases h; exact tok51
 ·cases h; exact tok52
 ·cases h; exact tok53
 ·cases h; exact tok54
 ·cases h; exact tok56
 ·cases h; exact tok57
 ·cases h; exact tok58
 ·cases h; exact tok59
 ·cases h; exact tok60
 ·cases h; exact tok61
 ·cases h; exact tok62
 ·cases h; exact tok63
 ·cases h; exact tok70
 ·cases h; exact tok71
 ·cases h; exact tok73
 ·cases h; exact tok77
 ·cases h; exact tok79
 ·cases h; exact tok94
 ·cases h; exact tok96
 ·cases h; exact tok105
 ·cases h; exact tok107
 ·cases h; exact tok121
 ·cases h; exact tok122
 ·cases h; exact tok123
 ·cases h; exact tok124
 ·cases h; exact tok126
 ·cases h; exact tok128
 ·cases h; exact tok130
 ·cases h; exact tok139
 ·cases h; exact tok144
 ·cases h; exact tok145
 ·cases h; exact tok147
 ·cases h; exact tok148
 ·cases h; exact tok149
 ·cases h; exact tok150
 ·cases h; exact tok151
 ·cases h; exact tok152
 ·cases h; exact tok153
 ·cases h; exact tok155
 ·cases h
theorem toke : ∀ t, T.eq t = true → Try.prog.stoodInHeld t = false ∧ Try.prog.eqGuardType Try.prog.depth t = false ∧ ∀ f ∈ (Try.prog.fieldsOf t).toList, f.name ≠ "_" := by
 intro t h
 change Te t = true at h
 unfold Te at h
 split at h
 ·exact ⟨by kernel_rfl, by kernel_rfl, of_decide_eq_true (by kernel_rfl)⟩
 ·exact ⟨by kernel_rfl, by kernel_rfl, of_decide_eq_true (by kernel_rfl)⟩
 ·exact ⟨by kernel_rfl, by kernel_rfl, of_decide_eq_true (by kernel_rfl)⟩
 ·exact ⟨by kernel_rfl, by kernel_rfl, of_decide_eq_true (by kernel_rfl)⟩
 ·cases h
theorem tok : TOk Try.prog T := ⟨tokg, toke⟩
theorem mixed : Try.prog.follows .mixedOrders = true := by kernel_rfl
end Go.Proofs.Ytolfnhebnennpaa
