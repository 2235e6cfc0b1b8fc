import Derived.Test.YtolfnhebnennpaaAlZ
import Derived.Test.YtolfnhebnennpaaProg
import Derived.KernelRfl
set_option linter.unusedVariables false
set_option linter.unusedSimpArgs false
namespace Go.Proofs.Ytolfnhebnennpaa
open Go.Al
abbrev ti1 : TI := ⟨.func, 1, 8, [.nilFunc]⟩
abbrev ti2 : TI := ⟨.int .i64, 1, 8, [(.int .i64 0)]⟩
abbrev ti3 : TI := ⟨.int .i64, 1, 8, [(.int .i64 0)]⟩
abbrev ti4 : TI := ⟨.bool, 1, 1, [(.bool false)]⟩
abbrev ti5 : TI := ⟨.int .u8, 1, 1, [(.int .u8 0)]⟩
abbrev ti6 : TI := ⟨.int .u8, 1, 1, [(.int .u8 0)]⟩
abbrev ti7 : TI := ⟨.struct [(0, 2), (1, 3), (2, 4), (3, 6)], 4, 24, [(.int .i64 0), (.int .i64 0), (.bool false), (.int .u8 0)]⟩
abbrev ti8 : TI := ⟨.struct [(0, 2), (1, 3), (2, 4), (3, 6)], 4, 24, [(.int .i64 0), (.int .i64 0), (.bool false), (.int .u8 0)]⟩
abbrev ti9 : TI := ⟨.string, 1, 16, [(.string ⟨#[]⟩)]⟩
abbrev ti10 : TI := ⟨.string, 1, 16, [(.string ⟨#[]⟩)]⟩
abbrev ti11 : TI := ⟨.string, 1, 16, [(.string ⟨#[]⟩)]⟩
abbrev ti12 : TI := ⟨.int .u64, 1, 8, [(.int .u64 0)]⟩
abbrev ti13 : TI := ⟨.struct [(0, 9), (1, 12)], 2, 24, [(.string ⟨#[]⟩), (.int .u64 0)]⟩
abbrev ti14 : TI := ⟨.struct [(0, 9), (1, 12)], 2, 24, [(.string ⟨#[]⟩), (.int .u64 0)]⟩
abbrev ti15 : TI := ⟨.pointer 144, 1, 8, [(.pointer none)]⟩
abbrev ti16 : TI := ⟨.pointer 147, 1, 8, [(.pointer none)]⟩
abbrev ti17 : TI := ⟨.pointer 155, 1, 8, [(.pointer none)]⟩
abbrev ti18 : TI := ⟨.struct [(0, 17)], 1, 8, [(.pointer none)]⟩
abbrev ti19 : TI := ⟨.struct [(0, 17)], 1, 8, [(.pointer none)]⟩
abbrev ti20 : TI := ⟨.iface, 1, 16, [.nilIface]⟩
abbrev ti21 : TI := ⟨.int .i32, 1, 4, [(.int .i32 0)]⟩
abbrev ti22 : TI := ⟨.slice 37, 1, 24, [(.slice none 0 0)]⟩
abbrev ti23 : TI := ⟨.func, 1, 8, [.nilFunc]⟩
abbrev ti24 : TI := ⟨.func, 1, 8, [.nilFunc]⟩
abbrev ti25 : TI := ⟨.slice 3, 1, 24, [(.slice none 0 0)]⟩
abbrev ti26 : TI := ⟨.struct [(0, 3), (1, 3), (2, 22), (3, 25)], 4, 64, [(.int .i64 0), (.int .i64 0), (.slice none 0 0), (.slice none 0 0)]⟩
abbrev ti27 : TI := ⟨.struct [(0, 3), (1, 3), (2, 22), (3, 25)], 4, 64, [(.int .i64 0), (.int .i64 0), (.slice none 0 0), (.slice none 0 0)]⟩
abbrev ti28 : TI := ⟨.slice 27, 1, 24, [(.slice none 0 0)]⟩
abbrev ti29 : TI := ⟨.pointer 73, 1, 8, [(.pointer none)]⟩
abbrev ti30 : TI := ⟨.func, 1, 8, [.nilFunc]⟩
abbrev ti31 : TI := ⟨.pointer 79, 1, 8, [(.pointer none)]⟩
abbrev ti32 : TI := ⟨.int .i64, 1, 8, [(.int .i64 0)]⟩
abbrev ti34 : TI := ⟨.func, 1, 8, [.nilFunc]⟩
abbrev ti35 : TI := ⟨.func, 1, 8, [.nilFunc]⟩
abbrev ti36 : TI := ⟨.func, 1, 8, [.nilFunc]⟩
abbrev ti37 : TI := ⟨.slice 5, 1, 24, [(.slice none 0 0)]⟩
abbrev ti38 : TI := ⟨.func, 1, 8, [.nilFunc]⟩
abbrev ti39 : TI := ⟨.func, 1, 8, [.nilFunc]⟩
abbrev ti40 : TI := ⟨.func, 1, 8, [.nilFunc]⟩
abbrev ti41 : TI := ⟨.func, 1, 8, [.nilFunc]⟩
abbrev ti43 : TI := ⟨.func, 1, 8, [.nilFunc]⟩
abbrev ti44 : TI := ⟨.func, 1, 8, [.nilFunc]⟩
abbrev ti45 : TI := ⟨.func, 1, 8, [.nilFunc]⟩
abbrev ti46 : TI := ⟨.func, 1, 8, [.nilFunc]⟩
abbrev ti47 : TI := ⟨.func, 1, 8, [.nilFunc]⟩
abbrev ti48 : TI := ⟨.func, 1, 8, [.nilFunc]⟩
def zr49 : List Value := [(.slice none 0 0), (.slice none 0 0)]
abbrev ti49 : TI := ⟨.array 2 37, 2, 48, zr49⟩
def zr50 : List Value := [(.int .i64 0), (.int .i64 0)]
abbrev ti50 : TI := ⟨.array 2 3, 2, 16, zr50⟩
abbrev ti51 : TI := ⟨.struct [(0, 3), (1, 49), (3, 50)], 5, 72, [(.int .i64 0), (.slice none 0 0), (.slice none 0 0), (.int .i64 0), (.int .i64 0)]⟩
abbrev ti52 : TI := ⟨.struct [(0, 3), (1, 49), (3, 50)], 5, 72, [(.int .i64 0), (.slice none 0 0), (.slice none 0 0), (.int .i64 0), (.int .i64 0)]⟩
abbrev ti53 : TI := ⟨.struct [(0, 52), (5, 3), (6, 3), (7, 3), (8, 22)], 9, 120, [(.int .i64 0), (.slice none 0 0), (.slice none 0 0), (.int .i64 0), (.int .i64 0), (.int .i64 0), (.int .i64 0), (.int .i64 0), (.slice none 0 0)]⟩
abbrev ti54 : TI := ⟨.struct [(0, 52), (5, 3), (6, 3), (7, 3), (8, 22)], 9, 120, [(.int .i64 0), (.slice none 0 0), (.slice none 0 0), (.int .i64 0), (.int .i64 0), (.int .i64 0), (.int .i64 0), (.int .i64 0), (.slice none 0 0)]⟩
abbrev ti56 : TI := ⟨.func, 1, 8, [.nilFunc]⟩
abbrev ti57 : TI := ⟨.func, 1, 8, [.nilFunc]⟩
abbrev ti58 : TI := ⟨.func, 1, 8, [.nilFunc]⟩
abbrev ti59 : TI := ⟨.func, 1, 8, [.nilFunc]⟩
abbrev ti60 : TI := ⟨.func, 1, 8, [.nilFunc]⟩
abbrev ti61 : TI := ⟨.func, 1, 8, [.nilFunc]⟩
abbrev ti62 : TI := ⟨.func, 1, 8, [.nilFunc]⟩
abbrev ti63 : TI := ⟨.func, 1, 8, [.nilFunc]⟩
abbrev ti70 : TI := ⟨.struct [(0, 37), (1, 3)], 2, 32, [(.slice none 0 0), (.int .i64 0)]⟩
def zr71 : List Value := [(.slice none 0 0), (.int .i64 0), (.slice none 0 0), (.int .i64 0)]
abbrev ti71 : TI := ⟨.array 2 70, 4, 64, zr71⟩
abbrev ti73 : TI := ⟨.struct [(0, 3), (1, 71)], 5, 72, [(.int .i64 0), (.slice none 0 0), (.int .i64 0), (.slice none 0 0), (.int .i64 0)]⟩
abbrev ti77 : TI := ⟨.struct [(0, 29), (1, 3), (2, 3), (3, 3)], 4, 32, [(.pointer none), (.int .i64 0), (.int .i64 0), (.int .i64 0)]⟩
abbrev ti79 : TI := ⟨.struct [(0, 77), (4, 22)], 5, 56, [(.pointer none), (.int .i64 0), (.int .i64 0), (.int .i64 0), (.slice none 0 0)]⟩
abbrev ti94 : TI := ⟨.pointer 96, 1, 8, [(.pointer none)]⟩
abbrev ti96 : TI := ⟨.struct [(0, 37), (1, 3)], 2, 32, [(.slice none 0 0), (.int .i64 0)]⟩
abbrev ti105 : TI := ⟨.func, 1, 8, [.nilFunc]⟩
abbrev ti107 : TI := ⟨.func, 1, 8, [.nilFunc]⟩
abbrev ti121 : TI := ⟨.int .u64, 1, 8, [(.int .u64 0)]⟩
abbrev ti122 : TI := ⟨.int .u64, 1, 8, [(.int .u64 0)]⟩
abbrev ti123 : TI := ⟨.int .u32, 1, 4, [(.int .u32 0)]⟩
def zr124 : List Value := (List.replicate 64 (.int .u32 0))
abbrev ti124 : TI := ⟨.array 64 123, 64, 256, zr124⟩
def zr126 : List Value := [(.int .u32 0), (.int .u32 0), (.int .u32 0), (.int .u32 0), (.int .u32 0), (.int .u32 0), (.int .u32 0), (.int .u32 0)]
abbrev ti126 : TI := ⟨.array 8 123, 8, 32, zr126⟩
abbrev ti128 : TI := ⟨.slice 5, 1, 24, [(.slice none 0 0)]⟩
def zr130 : List Value := [(.int .u32 0), (.int .u32 0), (.int .u32 0), (.int .u32 0), (.int .u32 0), (.int .u32 0), (.int .u32 0), (.int .u32 0)]
abbrev ti130 : TI := ⟨.array 8 123, 8, 32, zr130⟩
abbrev ti139 : TI := ⟨.slice 123, 1, 24, [(.slice none 0 0)]⟩
abbrev ti144 : TI := ⟨.struct [(0, 17), (1, 17), (2, 17), (3, 9)], 4, 40, [(.pointer none), (.pointer none), (.pointer none), (.string ⟨#[]⟩)]⟩
abbrev ti145 : TI := ⟨.array 0 16, 0, 0, []⟩
abbrev ti147 : TI := ⟨.struct [(0, 145)], 0, 0, []⟩
abbrev ti148 : TI := ⟨.int .u8, 1, 1, [(.int .u8 0)]⟩
abbrev ti149 : TI := ⟨.int .u8, 1, 1, [(.int .u8 0)]⟩
abbrev ti150 : TI := ⟨.func, 1, 8, [.nilFunc]⟩
abbrev ti151 : TI := ⟨.pointer 5, 1, 8, [(.pointer none)]⟩
abbrev ti152 : TI := ⟨.int .i32, 1, 4, [(.int .i32 0)]⟩
abbrev ti153 : TI := ⟨.int .i32, 1, 4, [(.int .i32 0)]⟩
abbrev ti155 : TI := ⟨.struct [(0, 12), (1, 12), (2, 123), (3, 148), (4, 5), (5, 5), (6, 149), (7, 150), (8, 151), (9, 152), (10, 153)], 11, 48, [(.int .u64 0), (.int .u64 0), (.int .u32 0), (.int .u8 0), (.int .u8 0), (.int .u8 0), (.int .u8 0), .nilFunc, (.pointer none), (.int .i32 0), (.int .i32 0)]⟩
def Tg : TypeId → Option TI := fun t => match t with
 | 1 => some ti1
 | 2 => some ti2
 | 3 => some ti3
 | 4 => some ti4
 | 5 => some ti5
 | 6 => some ti6
 | 7 => some ti7
 | 8 => some ti8
 | 9 => some ti9
 | 10 => some ti10
 | 11 => some ti11
 | 12 => some ti12
 | 13 => some ti13
 | 14 => some ti14
 | 15 => some ti15
 | 16 => some ti16
 | 17 => some ti17
 | 18 => some ti18
 | 19 => some ti19
 | 20 => some ti20
 | 21 => some ti21
 | 22 => some ti22
 | 23 => some ti23
 | 24 => some ti24
 | 25 => some ti25
 | 26 => some ti26
 | 27 => some ti27
 | 28 => some ti28
 | 29 => some ti29
 | 30 => some ti30
 | 31 => some ti31
 | 32 => some ti32
 | 34 => some ti34
 | 35 => some ti35
 | 36 => some ti36
 | 37 => some ti37
 | 38 => some ti38
 | 39 => some ti39
 | 40 => some ti40
 | 41 => some ti41
 | 43 => some ti43
 | 44 => some ti44
 | 45 => some ti45
 | 46 => some ti46
 | 47 => some ti47
 | 48 => some ti48
 | 49 => some ti49
 | 50 => some ti50
 | 51 => some ti51
 | 52 => some ti52
 | 53 => some ti53
 | 54 => some ti54
 | 56 => some ti56
 | 57 => some ti57
 | 58 => some ti58
 | 59 => some ti59
 | 60 => some ti60
 | 61 => some ti61
 | 62 => some ti62
 | 63 => some ti63
 | 70 => some ti70
 | 71 => some ti71
 | 73 => some ti73
 | 77 => some ti77
 | 79 => some ti79
 | 94 => some ti94
 | 96 => some ti96
 | 105 => some ti105
 | 107 => some ti107
 | 121 => some ti121
 | 122 => some ti122
 | 123 => some ti123
 | 124 => some ti124
 | 126 => some ti126
 | 128 => some ti128
 | 130 => some ti130
 | 139 => some ti139
 | 144 => some ti144
 | 145 => some ti145
 | 147 => some ti147
 | 148 => some ti148
 | 149 => some ti149
 | 150 => some ti150
 | 151 => some ti151
 | 152 => some ti152
 | 153 => some ti153
 | 155 => some ti155
 | _ => none
def Te : TypeId → Bool := fun t => match t with
 | 50 => true
 | 124 => true
 | 126 => true
 | 130 => true
 | _ => false
def T : Tab := ⟨Tg, Te⟩
@[go_sem] theorem T3 : T 3 = some ⟨.int .i64, 1, 8, [(.int .i64 0)]⟩ := rfl
@[go_sem] theorem T5 : T 5 = some ⟨.int .u8, 1, 1, [(.int .u8 0)]⟩ := rfl
@[go_sem] theorem T37 : T 37 = some ⟨.slice 5, 1, 24, [(.slice none 0 0)]⟩ := rfl
def zOfT (i : TI) : Value := if i.d.isAgg then .agg i.zero.toArray else i.zero.headD (.bool false)
theorem tka {t : TypeId} {d : TypeDesc} {i : TI} (u : Try.prog.underlying t = some d) (f : i.d.fits d) (h : (Try.prog.info? t).map (fun x => (x.size, x.bytes, x.zero)) = some (i.size, i.bytes, some (zOfT i)) := by kernel_rfl)
  (hz : (zOfT i).cells.toList = i.zero := by kernel_rfl) (h2 : i.d.isAgg = false → (zOfT i).oneCell' = true := by first | (intro h; cases h; done) | exact fun _ => rfl) (hl : i.zero.length = i.size := by rfl) : TIOk Try.prog t i :=
 ⟨⟨_, u, f⟩, info_of h hz (fun e => ⟨_, if_pos e⟩) h2, hl⟩
theorem tokg : ∀ t i, T t = some i → TIOk Try.prog t i := by
 intro t i h
 change Tg t = some i at h
 unfold Tg at h
 split at h
 ·cases h; exact tka Try.underlying1 ⟨_, _, _, rfl⟩
 ·cases h; exact tka Try.underlying2 rfl
 ·cases h; exact tka Try.underlying3 rfl
 ·cases h; exact tka Try.underlying4 rfl
 ·cases h; exact tka Try.underlying5 rfl
 ·cases h; exact tka Try.underlying6 rfl
 ·cases h; exact tka Try.underlying7 ⟨_, rfl, rfl⟩
 ·cases h; exact tka Try.underlying8 ⟨_, rfl, rfl⟩
 ·cases h; exact tka Try.underlying9 rfl
 ·cases h; exact tka Try.underlying10 rfl
 ·cases h; exact tka Try.underlying11 rfl
 ·cases h; exact tka Try.underlying12 rfl
 ·cases h; exact tka Try.underlying13 ⟨_, rfl, rfl⟩
 ·cases h; exact tka Try.underlying14 ⟨_, rfl, rfl⟩
 ·cases h; exact tka Try.underlying15 rfl
 ·cases h; exact tka Try.underlying16 rfl
 ·cases h; exact tka Try.underlying17 rfl
 ·cases h; exact tka Try.underlying18 ⟨_, rfl, rfl⟩
 ·cases h; exact tka Try.underlying19 ⟨_, rfl, rfl⟩
 ·cases h; exact tka Try.underlying20 ⟨_, rfl⟩
 ·cases h; exact tka Try.underlying21 rfl
 ·cases h; exact tka Try.underlying22 rfl
 ·cases h; exact tka Try.underlying23 ⟨_, _, _, rfl⟩
 ·cases h; exact tka Try.underlying24 ⟨_, _, _, rfl⟩
 ·cases h; exact tka Try.underlying25 rfl
 ·cases h; exact tka Try.underlying26 ⟨_, rfl, rfl⟩
 ·cases h; exact tka Try.underlying27 ⟨_, rfl, rfl⟩
 ·cases h; exact tka Try.underlying28 rfl
 ·cases h; exact tka Try.underlying29 rfl
 ·cases h; exact tka Try.underlying30 ⟨_, _, _, rfl⟩
 ·cases h; exact tka Try.underlying31 rfl
 ·cases h; exact tka Try.underlying32 rfl
 ·cases h; exact tka Try.underlying34 ⟨_, _, _, rfl⟩
 ·cases h; exact tka Try.underlying35 ⟨_, _, _, rfl⟩
 ·cases h; exact tka Try.underlying36 ⟨_, _, _, rfl⟩
 ·cases h; exact tka Try.underlying37 rfl
 ·cases h; exact tka Try.underlying38 ⟨_, _, _, rfl⟩
 ·cases h; exact tka Try.underlying39 ⟨_, _, _, rfl⟩
 ·cases h; exact tka Try.underlying40 ⟨_, _, _, rfl⟩
 ·cases h; exact tka Try.underlying41 ⟨_, _, _, rfl⟩
 ·cases h; exact tka Try.underlying43 ⟨_, _, _, rfl⟩
 ·cases h; exact tka Try.underlying44 ⟨_, _, _, rfl⟩
 ·cases h; exact tka Try.underlying45 ⟨_, _, _, rfl⟩
 ·cases h; exact tka Try.underlying46 ⟨_, _, _, rfl⟩
 ·cases h; exact tka Try.underlying47 ⟨_, _, _, rfl⟩
 ·cases h; exact tka Try.underlying48 ⟨_, _, _, rfl⟩
 ·cases h; exact tka Try.underlying49 rfl
 ·cases h; exact tka Try.underlying50 rfl
 ·cases h; exact tka Try.underlying51 ⟨_, rfl, rfl⟩
 ·cases h; exact tka Try.underlying52 ⟨_, rfl, rfl⟩
 ·cases h; exact tka Try.underlying53 ⟨_, rfl, rfl⟩
 ·cases h; exact tka Try.underlying54 ⟨_, rfl, rfl⟩
 ·cases h; exact tka Try.underlying56 ⟨_, _, _, rfl⟩
 ·cases h; exact tka Try.underlying57 ⟨_, _, _, rfl⟩
 ·cases h; exact tka Try.underlying58 ⟨_, _, _, rfl⟩
 ·cases h; exact tka Try.underlying59 ⟨_, _, _, rfl⟩
 ·cases h; exact tka Try.underlying60 ⟨_, _, _, rfl⟩
 ·cases h; exact tka Try.underlying61 ⟨_, _, _, rfl⟩
 ·cases h; exact tka Try.underlying62 ⟨_, _, _, rfl⟩
 ·cases h; exact tka Try.underlying63 ⟨_, _, _, rfl⟩
 ·cases h; exact tka Try.underlying70 ⟨_, rfl, rfl⟩
 ·cases h; exact tka Try.underlying71 rfl
 ·cases h; exact tka Try.underlying73 ⟨_, rfl, rfl⟩
 ·cases h; exact tka Try.underlying77 ⟨_, rfl, rfl⟩
 ·cases h; exact tka Try.underlying79 ⟨_, rfl, rfl⟩
 ·cases h; exact tka Try.underlying94 rfl
 ·cases h; exact tka Try.underlying96 ⟨_, rfl, rfl⟩
 ·cases h; exact tka Try.underlying105 ⟨_, _, _, rfl⟩
 ·cases h; exact tka Try.underlying107 ⟨_, _, _, rfl⟩
 ·cases h; exact tka Try.underlying121 rfl
 ·cases h; exact tka Try.underlying122 rfl
 ·cases h; exact tka Try.underlying123 rfl
 ·cases h; exact tka Try.underlying124 rfl
 ·cases h; exact tka Try.underlying126 rfl
 ·cases h; exact tka Try.underlying128 rfl
 ·cases h; exact tka Try.underlying130 rfl
 ·cases h; exact tka Try.underlying139 rfl
 ·cases h; exact tka Try.underlying144 ⟨_, rfl, rfl⟩
 ·cases h; exact tka Try.underlying145 rfl
 ·cases h; exact tka Try.underlying147 ⟨_, rfl, rfl⟩
 ·cases h; exact tka Try.underlying148 rfl
 ·cases h; exact tka Try.underlying149 rfl
 ·cases h; exact tka Try.underlying150 ⟨_, _, _, rfl⟩
 ·cases h; exact tka Try.underlying151 rfl
 ·cases h; exact tka Try.underlying152 rfl
 ·cases h; exact tka Try.underlying153 rfl
 ·cases h; exact tka Try.underlying155 ⟨_, rfl, rfl⟩
 ·cases h
theorem toke : ∀ t, T.eq t = true → Try.prog.stoodInHeld t = false ∧ Try.prog.eqGuardType Try.prog.depth t = false ∧ ∀ f ∈ (Try.prog.fieldsOf t).toList, f.name ≠ "_" := by
 intro t h
 change Te t = true at h
 unfold Te at h
 split at h
 ·exact ⟨by kernel_rfl, by kernel_rfl, of_decide_eq_true (by kernel_rfl)⟩
 ·exact ⟨by kernel_rfl, by kernel_rfl, of_decide_eq_true (by kernel_rfl)⟩
 ·exact ⟨by kernel_rfl, by kernel_rfl, of_decide_eq_true (by kernel_rfl)⟩
 ·exact ⟨by kernel_rfl, by kernel_rfl, of_decide_eq_true (by kernel_rfl)⟩
 ·cases h
theorem tok : TOk Try.prog T := ⟨tokg, toke⟩
theorem mixed : Try.prog.follows .mixedOrders = true := by kernel_rfl
end Go.Proofs.Ytolfnhebnennpaa
