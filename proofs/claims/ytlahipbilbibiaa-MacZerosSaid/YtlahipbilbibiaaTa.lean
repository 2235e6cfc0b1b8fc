/- The types of the program as a table, and that it is right. Printed by a program of this work. -/
import Derived.Test.YtlahipbilbibiaaAlZ
import Derived.Test.YtlahipbilbibiaaProg
import Derived.KernelRfl
set_option linter.unusedVariables false
set_option linter.unusedSimpArgs false
namespace Go.Proofs.Ytlahipbilbibiaa
open Go.Al
abbrev ti1 : TI := ⟨.func, 1, 8, [.nilFunc]⟩
abbrev ti2 : TI := ⟨.int .i64, 1, 8, [(.int .i64 0)]⟩
abbrev ti3 : TI := ⟨.int .i64, 1, 8, [(.int .i64 0)]⟩
abbrev ti4 : TI := ⟨.bool, 1, 1, [(.bool false)]⟩
abbrev ti5 : TI := ⟨.int .u8, 1, 1, [(.int .u8 0)]⟩
abbrev ti6 : TI := ⟨.int .u8, 1, 1, [(.int .u8 0)]⟩
abbrev ti7 : TI := ⟨.struct [(0, 2), (1, 3), (2, 4), (3, 6)], 4, 24, [(.int .i64 0), (.int .i64 0), (.bool false), (.int .u8 0)]⟩
abbrev ti8 : TI := ⟨.struct [(0, 2), (1, 3), (2, 4), (3, 6)], 4, 24, [(.int .i64 0), (.int .i64 0), (.bool false), (.int .u8 0)]⟩
abbrev ti9 : TI := ⟨.string, 1, 16, [(.string ⟨#[]⟩)]⟩
abbrev ti10 : TI := ⟨.string, 1, 16, [(.string ⟨#[]⟩)]⟩
abbrev ti11 : TI := ⟨.string, 1, 16, [(.string ⟨#[]⟩)]⟩
abbrev ti12 : TI := ⟨.int .u64, 1, 8, [(.int .u64 0)]⟩
abbrev ti13 : TI := ⟨.struct [(0, 9), (1, 12)], 2, 24, [(.string ⟨#[]⟩), (.int .u64 0)]⟩
abbrev ti14 : TI := ⟨.struct [(0, 9), (1, 12)], 2, 24, [(.string ⟨#[]⟩), (.int .u64 0)]⟩
abbrev ti15 : TI := ⟨.pointer 87, 1, 8, [(.pointer none)]⟩
abbrev ti16 : TI := ⟨.pointer 90, 1, 8, [(.pointer none)]⟩
abbrev ti17 : TI := ⟨.pointer 99, 1, 8, [(.pointer none)]⟩
abbrev ti18 : TI := ⟨.struct [(0, 17)], 1, 8, [(.pointer none)]⟩
abbrev ti19 : TI := ⟨.struct [(0, 17)], 1, 8, [(.pointer none)]⟩
abbrev ti20 : TI := ⟨.iface, 1, 16, [.nilIface]⟩
abbrev ti21 : TI := ⟨.int .i32, 1, 4, [(.int .i32 0)]⟩
abbrev ti22 : TI := ⟨.slice 5, 1, 24, [(.slice none 0 0)]⟩
abbrev ti23 : TI := ⟨.func, 1, 8, [.nilFunc]⟩
abbrev ti24 : TI := ⟨.func, 1, 8, [.nilFunc]⟩
abbrev ti25 : TI := ⟨.func, 1, 8, [.nilFunc]⟩
abbrev ti26 : TI := ⟨.func, 1, 8, [.nilFunc]⟩
abbrev ti27 : TI := ⟨.struct [(0, 3), (1, 3)], 2, 16, [(.int .i64 0), (.int .i64 0)]⟩
abbrev ti28 : TI := ⟨.struct [(0, 3), (1, 3)], 2, 16, [(.int .i64 0), (.int .i64 0)]⟩
abbrev ti29 : TI := ⟨.func, 1, 8, [.nilFunc]⟩
abbrev ti30 : TI := ⟨.func, 1, 8, [.nilFunc]⟩
abbrev ti31 : TI := ⟨.func, 1, 8, [.nilFunc]⟩
abbrev ti32 : TI := ⟨.slice 3, 1, 24, [(.slice none 0 0)]⟩
abbrev ti33 : TI := ⟨.func, 1, 8, [.nilFunc]⟩
abbrev ti34 : TI := ⟨.func, 1, 8, [.nilFunc]⟩
abbrev ti35 : TI := ⟨.slice 22, 1, 24, [(.slice none 0 0)]⟩
abbrev ti36 : TI := ⟨.struct [(0, 28), (2, 3), (3, 22), (4, 35)], 5, 72, [(.int .i64 0), (.int .i64 0), (.int .i64 0), (.slice none 0 0), (.slice none 0 0)]⟩
abbrev ti37 : TI := ⟨.struct [(0, 28), (2, 3), (3, 22), (4, 35)], 5, 72, [(.int .i64 0), (.int .i64 0), (.int .i64 0), (.slice none 0 0), (.slice none 0 0)]⟩
abbrev ti38 : TI := ⟨.func, 1, 8, [.nilFunc]⟩
abbrev ti39 : TI := ⟨.func, 1, 8, [.nilFunc]⟩
abbrev ti40 : TI := ⟨.func, 1, 8, [.nilFunc]⟩
abbrev ti41 : TI := ⟨.func, 1, 8, [.nilFunc]⟩
abbrev ti42 : TI := ⟨.func, 1, 8, [.nilFunc]⟩
abbrev ti43 : TI := ⟨.func, 1, 8, [.nilFunc]⟩
abbrev ti44 : TI := ⟨.func, 1, 8, [.nilFunc]⟩
abbrev ti45 : TI := ⟨.func, 1, 8, [.nilFunc]⟩
abbrev ti46 : TI := ⟨.func, 1, 8, [.nilFunc]⟩
abbrev ti47 : TI := ⟨.func, 1, 8, [.nilFunc]⟩
abbrev ti48 : TI := ⟨.func, 1, 8, [.nilFunc]⟩
abbrev ti49 : TI := ⟨.func, 1, 8, [.nilFunc]⟩
abbrev ti50 : TI := ⟨.int .i64, 1, 8, [(.int .i64 0)]⟩
abbrev ti52 : TI := ⟨.func, 1, 8, [.nilFunc]⟩
abbrev ti53 : TI := ⟨.func, 1, 8, [.nilFunc]⟩
abbrev ti54 : TI := ⟨.func, 1, 8, [.nilFunc]⟩
abbrev ti55 : TI := ⟨.func, 1, 8, [.nilFunc]⟩
abbrev ti56 : TI := ⟨.func, 1, 8, [.nilFunc]⟩
abbrev ti57 : TI := ⟨.func, 1, 8, [.nilFunc]⟩
abbrev ti58 : TI := ⟨.func, 1, 8, [.nilFunc]⟩
abbrev ti59 : TI := ⟨.func, 1, 8, [.nilFunc]⟩
abbrev ti60 : TI := ⟨.int .u64, 1, 8, [(.int .u64 0)]⟩
abbrev ti61 : TI := ⟨.int .u64, 1, 8, [(.int .u64 0)]⟩
abbrev ti62 : TI := ⟨.int .u32, 1, 4, [(.int .u32 0)]⟩
def zr63 : List Value := [(.int .u32 0), (.int .u32 0), (.int .u32 0), (.int .u32 0), (.int .u32 0), (.int .u32 0), (.int .u32 0), (.int .u32 0)]
abbrev ti63 : TI := ⟨.array 8 62, 8, 32, zr63⟩
def zr64 : List Value := [(.int .u32 0), (.int .u32 0), (.int .u32 0), (.int .u32 0), (.int .u32 0), (.int .u32 0), (.int .u32 0), (.int .u32 0)]
abbrev ti64 : TI := ⟨.array 8 62, 8, 32, zr64⟩
def zr69 : List Value := (List.replicate 64 (.int .u32 0))
abbrev ti69 : TI := ⟨.array 64 62, 64, 256, zr69⟩
abbrev ti72 : TI := ⟨.slice 5, 1, 24, [(.slice none 0 0)]⟩
abbrev ti81 : TI := ⟨.slice 62, 1, 24, [(.slice none 0 0)]⟩
abbrev ti87 : TI := ⟨.struct [(0, 17), (1, 17), (2, 17), (3, 9)], 4, 40, [(.pointer none), (.pointer none), (.pointer none), (.string ⟨#[]⟩)]⟩
abbrev ti88 : TI := ⟨.array 0 16, 0, 0, []⟩
abbrev ti90 : TI := ⟨.struct [(0, 88)], 0, 0, []⟩
abbrev ti92 : TI := ⟨.int .u8, 1, 1, [(.int .u8 0)]⟩
abbrev ti93 : TI := ⟨.int .u8, 1, 1, [(.int .u8 0)]⟩
abbrev ti94 : TI := ⟨.func, 1, 8, [.nilFunc]⟩
abbrev ti95 : TI := ⟨.pointer 5, 1, 8, [(.pointer none)]⟩
abbrev ti96 : TI := ⟨.int .i32, 1, 4, [(.int .i32 0)]⟩
abbrev ti97 : TI := ⟨.int .i32, 1, 4, [(.int .i32 0)]⟩
abbrev ti99 : TI := ⟨.struct [(0, 12), (1, 12), (2, 62), (3, 92), (4, 5), (5, 5), (6, 93), (7, 94), (8, 95), (9, 96), (10, 97)], 11, 48, [(.int .u64 0), (.int .u64 0), (.int .u32 0), (.int .u8 0), (.int .u8 0), (.int .u8 0), (.int .u8 0), .nilFunc, (.pointer none), (.int .i32 0), (.int .i32 0)]⟩
def Tg : TypeId → Option TI := fun t => match t with
  | 1 => some ti1
  | 2 => some ti2
  | 3 => some ti3
  | 4 => some ti4
  | 5 => some ti5
  | 6 => some ti6
  | 7 => some ti7
  | 8 => some ti8
  | 9 => some ti9
  | 10 => some ti10
  | 11 => some ti11
  | 12 => some ti12
  | 13 => some ti13
  | 14 => some ti14
  | 15 => some ti15
  | 16 => some ti16
  | 17 => some ti17
  | 18 => some ti18
  | 19 => some ti19
  | 20 => some ti20
  | 21 => some ti21
  | 22 => some ti22
  | 23 => some ti23
  | 24 => some ti24
  | 25 => some ti25
  | 26 => some ti26
  | 27 => some ti27
  | 28 => some ti28
  | 29 => some ti29
  | 30 => some ti30
  | 31 => some ti31
  | 32 => some ti32
  | 33 => some ti33
  | 34 => some ti34
  | 35 => some ti35
  | 36 => some ti36
  | 37 => some ti37
  | 38 => some ti38
  | 39 => some ti39
  | 40 => some ti40
  | 41 => some ti41
  | 42 => some ti42
  | 43 => some ti43
  | 44 => some ti44
  | 45 => some ti45
  | 46 => some ti46
  | 47 => some ti47
  | 48 => some ti48
  | 49 => some ti49
  | 50 => some ti50
  | 52 => some ti52
  | 53 => some ti53
  | 54 => some ti54
  | 55 => some ti55
  | 56 => some ti56
  | 57 => some ti57
  | 58 => some ti58
  | 59 => some ti59
  | 60 => some ti60
  | 61 => some ti61
  | 62 => some ti62
  | 63 => some ti63
  | 64 => some ti64
  | 69 => some ti69
  | 72 => some ti72
  | 81 => some ti81
  | 87 => some ti87
  | 88 => some ti88
  | 90 => some ti90
  | 92 => some ti92
  | 93 => some ti93
  | 94 => some ti94
  | 95 => some ti95
  | 96 => some ti96
  | 97 => some ti97
  | 99 => some ti99
  | _ => none
def Te : TypeId → Bool := fun t => match t with
  | 27 => true
  | 28 => true
  | 63 => true
  | 64 => true
  | 69 => true
  | _ => false
def T : Tab := ⟨Tg, Te⟩
@[go_sem] theorem Teq27 : T.eq 27 = true := rfl
@[go_sem] theorem Teq28 : T.eq 28 = true := rfl
@[go_sem] theorem Teq63 : T.eq 63 = true := rfl
@[go_sem] theorem Teq64 : T.eq 64 = true := rfl
@[go_sem] theorem Teq69 : T.eq 69 = true := rfl
@[go_sem] theorem T1 : T 1 = some ⟨.func, 1, 8, [.nilFunc]⟩ := rfl
@[go_sem] theorem T2 : T 2 = some ⟨.int .i64, 1, 8, [(.int .i64 0)]⟩ := rfl
@[go_sem] theorem T3 : T 3 = some ⟨.int .i64, 1, 8, [(.int .i64 0)]⟩ := rfl
@[go_sem] theorem T4 : T 4 = some ⟨.bool, 1, 1, [(.bool false)]⟩ := rfl
@[go_sem] theorem T5 : T 5 = some ⟨.int .u8, 1, 1, [(.int .u8 0)]⟩ := rfl
@[go_sem] theorem T6 : T 6 = some ⟨.int .u8, 1, 1, [(.int .u8 0)]⟩ := rfl
@[go_sem] theorem T7 : T 7 = some ⟨.struct [(0, 2), (1, 3), (2, 4), (3, 6)], 4, 24, [(.int .i64 0), (.int .i64 0), (.bool false), (.int .u8 0)]⟩ := rfl
@[go_sem] theorem T8 : T 8 = some ⟨.struct [(0, 2), (1, 3), (2, 4), (3, 6)], 4, 24, [(.int .i64 0), (.int .i64 0), (.bool false), (.int .u8 0)]⟩ := rfl
@[go_sem] theorem T9 : T 9 = some ⟨.string, 1, 16, [(.string ⟨#[]⟩)]⟩ := rfl
@[go_sem] theorem T10 : T 10 = some ⟨.string, 1, 16, [(.string ⟨#[]⟩)]⟩ := rfl
@[go_sem] theorem T11 : T 11 = some ⟨.string, 1, 16, [(.string ⟨#[]⟩)]⟩ := rfl
@[go_sem] theorem T12 : T 12 = some ⟨.int .u64, 1, 8, [(.int .u64 0)]⟩ := rfl
@[go_sem] theorem T13 : T 13 = some ⟨.struct [(0, 9), (1, 12)], 2, 24, [(.string ⟨#[]⟩), (.int .u64 0)]⟩ := rfl
@[go_sem] theorem T14 : T 14 = some ⟨.struct [(0, 9), (1, 12)], 2, 24, [(.string ⟨#[]⟩), (.int .u64 0)]⟩ := rfl
@[go_sem] theorem T15 : T 15 = some ⟨.pointer 87, 1, 8, [(.pointer none)]⟩ := rfl
@[go_sem] theorem T16 : T 16 = some ⟨.pointer 90, 1, 8, [(.pointer none)]⟩ := rfl
@[go_sem] theorem T17 : T 17 = some ⟨.pointer 99, 1, 8, [(.pointer none)]⟩ := rfl
@[go_sem] theorem T18 : T 18 = some ⟨.struct [(0, 17)], 1, 8, [(.pointer none)]⟩ := rfl
@[go_sem] theorem T19 : T 19 = some ⟨.struct [(0, 17)], 1, 8, [(.pointer none)]⟩ := rfl
@[go_sem] theorem T20 : T 20 = some ⟨.iface, 1, 16, [.nilIface]⟩ := rfl
@[go_sem] theorem T21 : T 21 = some ⟨.int .i32, 1, 4, [(.int .i32 0)]⟩ := rfl
@[go_sem] theorem T22 : T 22 = some ⟨.slice 5, 1, 24, [(.slice none 0 0)]⟩ := rfl
@[go_sem] theorem T23 : T 23 = some ⟨.func, 1, 8, [.nilFunc]⟩ := rfl
@[go_sem] theorem T24 : T 24 = some ⟨.func, 1, 8, [.nilFunc]⟩ := rfl
@[go_sem] theorem T25 : T 25 = some ⟨.func, 1, 8, [.nilFunc]⟩ := rfl
@[go_sem] theorem T26 : T 26 = some ⟨.func, 1, 8, [.nilFunc]⟩ := rfl
@[go_sem] theorem T27 : T 27 = some ⟨.struct [(0, 3), (1, 3)], 2, 16, [(.int .i64 0), (.int .i64 0)]⟩ := rfl
@[go_sem] theorem T28 : T 28 = some ⟨.struct [(0, 3), (1, 3)], 2, 16, [(.int .i64 0), (.int .i64 0)]⟩ := rfl
@[go_sem] theorem T29 : T 29 = some ⟨.func, 1, 8, [.nilFunc]⟩ := rfl
@[go_sem] theorem T30 : T 30 = some ⟨.func, 1, 8, [.nilFunc]⟩ := rfl
@[go_sem] theorem T31 : T 31 = some ⟨.func, 1, 8, [.nilFunc]⟩ := rfl
@[go_sem] theorem T32 : T 32 = some ⟨.slice 3, 1, 24, [(.slice none 0 0)]⟩ := rfl
@[go_sem] theorem T33 : T 33 = some ⟨.func, 1, 8, [.nilFunc]⟩ := rfl
@[go_sem] theorem T34 : T 34 = some ⟨.func, 1, 8, [.nilFunc]⟩ := rfl
@[go_sem] theorem T35 : T 35 = some ⟨.slice 22, 1, 24, [(.slice none 0 0)]⟩ := rfl
@[go_sem] theorem T36 : T 36 = some ⟨.struct [(0, 28), (2, 3), (3, 22), (4, 35)], 5, 72, [(.int .i64 0), (.int .i64 0), (.int .i64 0), (.slice none 0 0), (.slice none 0 0)]⟩ := rfl
@[go_sem] theorem T37 : T 37 = some ⟨.struct [(0, 28), (2, 3), (3, 22), (4, 35)], 5, 72, [(.int .i64 0), (.int .i64 0), (.int .i64 0), (.slice none 0 0), (.slice none 0 0)]⟩ := rfl
@[go_sem] theorem T38 : T 38 = some ⟨.func, 1, 8, [.nilFunc]⟩ := rfl
@[go_sem] theorem T39 : T 39 = some ⟨.func, 1, 8, [.nilFunc]⟩ := rfl
@[go_sem] theorem T40 : T 40 = some ⟨.func, 1, 8, [.nilFunc]⟩ := rfl
@[go_sem] theorem T41 : T 41 = some ⟨.func, 1, 8, [.nilFunc]⟩ := rfl
@[go_sem] theorem T42 : T 42 = some ⟨.func, 1, 8, [.nilFunc]⟩ := rfl
@[go_sem] theorem T43 : T 43 = some ⟨.func, 1, 8, [.nilFunc]⟩ := rfl
@[go_sem] theorem T44 : T 44 = some ⟨.func, 1, 8, [.nilFunc]⟩ := rfl
@[go_sem] theorem T45 : T 45 = some ⟨.func, 1, 8, [.nilFunc]⟩ := rfl
@[go_sem] theorem T46 : T 46 = some ⟨.func, 1, 8, [.nilFunc]⟩ := rfl
@[go_sem] theorem T47 : T 47 = some ⟨.func, 1, 8, [.nilFunc]⟩ := rfl
@[go_sem] theorem T48 : T 48 = some ⟨.func, 1, 8, [.nilFunc]⟩ := rfl
@[go_sem] theorem T49 : T 49 = some ⟨.func, 1, 8, [.nilFunc]⟩ := rfl
@[go_sem] theorem T50 : T 50 = some ⟨.int .i64, 1, 8, [(.int .i64 0)]⟩ := rfl
@[go_sem] theorem T52 : T 52 = some ⟨.func, 1, 8, [.nilFunc]⟩ := rfl
@[go_sem] theorem T53 : T 53 = some ⟨.func, 1, 8, [.nilFunc]⟩ := rfl
@[go_sem] theorem T54 : T 54 = some ⟨.func, 1, 8, [.nilFunc]⟩ := rfl
@[go_sem] theorem T55 : T 55 = some ⟨.func, 1, 8, [.nilFunc]⟩ := rfl
@[go_sem] theorem T56 : T 56 = some ⟨.func, 1, 8, [.nilFunc]⟩ := rfl
@[go_sem] theorem T57 : T 57 = some ⟨.func, 1, 8, [.nilFunc]⟩ := rfl
@[go_sem] theorem T58 : T 58 = some ⟨.func, 1, 8, [.nilFunc]⟩ := rfl
@[go_sem] theorem T59 : T 59 = some ⟨.func, 1, 8, [.nilFunc]⟩ := rfl
@[go_sem] theorem T60 : T 60 = some ⟨.int .u64, 1, 8, [(.int .u64 0)]⟩ := rfl
@[go_sem] theorem T61 : T 61 = some ⟨.int .u64, 1, 8, [(.int .u64 0)]⟩ := rfl
@[go_sem] theorem T62 : T 62 = some ⟨.int .u32, 1, 4, [(.int .u32 0)]⟩ := rfl
@[go_sem] theorem T63 : T 63 = some ⟨.array 8 62, 8, 32, zr63⟩ := rfl
@[go_sem] theorem T64 : T 64 = some ⟨.array 8 62, 8, 32, zr64⟩ := rfl
@[go_sem] theorem T69 : T 69 = some ⟨.array 64 62, 64, 256, zr69⟩ := rfl
@[go_sem] theorem T72 : T 72 = some ⟨.slice 5, 1, 24, [(.slice none 0 0)]⟩ := rfl
@[go_sem] theorem T81 : T 81 = some ⟨.slice 62, 1, 24, [(.slice none 0 0)]⟩ := rfl
@[go_sem] theorem T87 : T 87 = some ⟨.struct [(0, 17), (1, 17), (2, 17), (3, 9)], 4, 40, [(.pointer none), (.pointer none), (.pointer none), (.string ⟨#[]⟩)]⟩ := rfl
@[go_sem] theorem T88 : T 88 = some ⟨.array 0 16, 0, 0, []⟩ := rfl
@[go_sem] theorem T90 : T 90 = some ⟨.struct [(0, 88)], 0, 0, []⟩ := rfl
@[go_sem] theorem T92 : T 92 = some ⟨.int .u8, 1, 1, [(.int .u8 0)]⟩ := rfl
@[go_sem] theorem T93 : T 93 = some ⟨.int .u8, 1, 1, [(.int .u8 0)]⟩ := rfl
@[go_sem] theorem T94 : T 94 = some ⟨.func, 1, 8, [.nilFunc]⟩ := rfl
@[go_sem] theorem T95 : T 95 = some ⟨.pointer 5, 1, 8, [(.pointer none)]⟩ := rfl
@[go_sem] theorem T96 : T 96 = some ⟨.int .i32, 1, 4, [(.int .i32 0)]⟩ := rfl
@[go_sem] theorem T97 : T 97 = some ⟨.int .i32, 1, 4, [(.int .i32 0)]⟩ := rfl
@[go_sem] theorem T99 : T 99 = some ⟨.struct [(0, 12), (1, 12), (2, 62), (3, 92), (4, 5), (5, 5), (6, 93), (7, 94), (8, 95), (9, 96), (10, 97)], 11, 48, [(.int .u64 0), (.int .u64 0), (.int .u32 0), (.int .u8 0), (.int .u8 0), (.int .u8 0), (.int .u8 0), .nilFunc, (.pointer none), (.int .i32 0), (.int .i32 0)]⟩ := rfl
theorem tok1 : TIOk Try.prog 1 ti1 := ⟨⟨_, Try.underlying1, ⟨_, _, _, rfl⟩⟩, info_of (z := .nilFunc) (by kernel_rfl) rfl (fun h => by cases h) (fun _ => rfl), rfl⟩
theorem tok2 : TIOk Try.prog 2 ti2 := ⟨⟨_, Try.underlying2, rfl⟩, info_of (z := (.int .i64 0)) (by kernel_rfl) rfl (fun h => by cases h) (fun _ => rfl), rfl⟩
theorem tok3 : TIOk Try.prog 3 ti3 := ⟨⟨_, Try.underlying3, rfl⟩, info_of (z := (.int .i64 0)) (by kernel_rfl) rfl (fun h => by cases h) (fun _ => rfl), rfl⟩
theorem tok4 : TIOk Try.prog 4 ti4 := ⟨⟨_, Try.underlying4, rfl⟩, info_of (z := (.bool false)) (by kernel_rfl) rfl (fun h => by cases h) (fun _ => rfl), rfl⟩
theorem tok5 : TIOk Try.prog 5 ti5 := ⟨⟨_, Try.underlying5, rfl⟩, info_of (z := (.int .u8 0)) (by kernel_rfl) rfl (fun h => by cases h) (fun _ => rfl), rfl⟩
theorem tok6 : TIOk Try.prog 6 ti6 := ⟨⟨_, Try.underlying6, rfl⟩, info_of (z := (.int .u8 0)) (by kernel_rfl) rfl (fun h => by cases h) (fun _ => rfl), rfl⟩
theorem tok7 : TIOk Try.prog 7 ti7 := ⟨⟨_, Try.underlying7, ⟨_, rfl, rfl⟩⟩, info_of (z := (.agg #[(.int .i64 0), (.int .i64 0), (.bool false), (.int .u8 0)])) (by kernel_rfl) rfl (fun _ => ⟨_, rfl⟩) (fun h => by cases h), rfl⟩
theorem tok8 : TIOk Try.prog 8 ti8 := ⟨⟨_, Try.underlying8, ⟨_, rfl, rfl⟩⟩, info_of (z := (.agg #[(.int .i64 0), (.int .i64 0), (.bool false), (.int .u8 0)])) (by kernel_rfl) rfl (fun _ => ⟨_, rfl⟩) (fun h => by cases h), rfl⟩
theorem tok9 : TIOk Try.prog 9 ti9 := ⟨⟨_, Try.underlying9, rfl⟩, info_of (z := (.string ⟨#[]⟩)) (by kernel_rfl) rfl (fun h => by cases h) (fun _ => rfl), rfl⟩
theorem tok10 : TIOk Try.prog 10 ti10 := ⟨⟨_, Try.underlying10, rfl⟩, info_of (z := (.string ⟨#[]⟩)) (by kernel_rfl) rfl (fun h => by cases h) (fun _ => rfl), rfl⟩
theorem tok11 : TIOk Try.prog 11 ti11 := ⟨⟨_, Try.underlying11, rfl⟩, info_of (z := (.string ⟨#[]⟩)) (by kernel_rfl) rfl (fun h => by cases h) (fun _ => rfl), rfl⟩
theorem tok12 : TIOk Try.prog 12 ti12 := ⟨⟨_, Try.underlying12, rfl⟩, info_of (z := (.int .u64 0)) (by kernel_rfl) rfl (fun h => by cases h) (fun _ => rfl), rfl⟩
theorem tok13 : TIOk Try.prog 13 ti13 := ⟨⟨_, Try.underlying13, ⟨_, rfl, rfl⟩⟩, info_of (z := (.agg #[(.string ⟨#[]⟩), (.int .u64 0)])) (by kernel_rfl) rfl (fun _ => ⟨_, rfl⟩) (fun h => by cases h), rfl⟩
theorem tok14 : TIOk Try.prog 14 ti14 := ⟨⟨_, Try.underlying14, ⟨_, rfl, rfl⟩⟩, info_of (z := (.agg #[(.string ⟨#[]⟩), (.int .u64 0)])) (by kernel_rfl) rfl (fun _ => ⟨_, rfl⟩) (fun h => by cases h), rfl⟩
theorem tok15 : TIOk Try.prog 15 ti15 := ⟨⟨_, Try.underlying15, rfl⟩, info_of (z := (.pointer none)) (by kernel_rfl) rfl (fun h => by cases h) (fun _ => rfl), rfl⟩
theorem tok16 : TIOk Try.prog 16 ti16 := ⟨⟨_, Try.underlying16, rfl⟩, info_of (z := (.pointer none)) (by kernel_rfl) rfl (fun h => by cases h) (fun _ => rfl), rfl⟩
theorem tok17 : TIOk Try.prog 17 ti17 := ⟨⟨_, Try.underlying17, rfl⟩, info_of (z := (.pointer none)) (by kernel_rfl) rfl (fun h => by cases h) (fun _ => rfl), rfl⟩
theorem tok18 : TIOk Try.prog 18 ti18 := ⟨⟨_, Try.underlying18, ⟨_, rfl, rfl⟩⟩, info_of (z := (.agg #[(.pointer none)])) (by kernel_rfl) rfl (fun _ => ⟨_, rfl⟩) (fun h => by cases h), rfl⟩
theorem tok19 : TIOk Try.prog 19 ti19 := ⟨⟨_, Try.underlying19, ⟨_, rfl, rfl⟩⟩, info_of (z := (.agg #[(.pointer none)])) (by kernel_rfl) rfl (fun _ => ⟨_, rfl⟩) (fun h => by cases h), rfl⟩
theorem tok20 : TIOk Try.prog 20 ti20 := ⟨⟨_, Try.underlying20, ⟨_, rfl⟩⟩, info_of (z := .nilIface) (by kernel_rfl) rfl (fun h => by cases h) (fun _ => rfl), rfl⟩
theorem tok21 : TIOk Try.prog 21 ti21 := ⟨⟨_, Try.underlying21, rfl⟩, info_of (z := (.int .i32 0)) (by kernel_rfl) rfl (fun h => by cases h) (fun _ => rfl), rfl⟩
theorem tok22 : TIOk Try.prog 22 ti22 := ⟨⟨_, Try.underlying22, rfl⟩, info_of (z := (.slice none 0 0)) (by kernel_rfl) rfl (fun h => by cases h) (fun _ => rfl), rfl⟩
theorem tok23 : TIOk Try.prog 23 ti23 := ⟨⟨_, Try.underlying23, ⟨_, _, _, rfl⟩⟩, info_of (z := .nilFunc) (by kernel_rfl) rfl (fun h => by cases h) (fun _ => rfl), rfl⟩
theorem tok24 : TIOk Try.prog 24 ti24 := ⟨⟨_, Try.underlying24, ⟨_, _, _, rfl⟩⟩, info_of (z := .nilFunc) (by kernel_rfl) rfl (fun h => by cases h) (fun _ => rfl), rfl⟩
theorem tok25 : TIOk Try.prog 25 ti25 := ⟨⟨_, Try.underlying25, ⟨_, _, _, rfl⟩⟩, info_of (z := .nilFunc) (by kernel_rfl) rfl (fun h => by cases h) (fun _ => rfl), rfl⟩
theorem tok26 : TIOk Try.prog 26 ti26 := ⟨⟨_, Try.underlying26, ⟨_, _, _, rfl⟩⟩, info_of (z := .nilFunc) (by kernel_rfl) rfl (fun h => by cases h) (fun _ => rfl), rfl⟩
theorem tok27 : TIOk Try.prog 27 ti27 := ⟨⟨_, Try.underlying27, ⟨_, rfl, rfl⟩⟩, info_of (z := (.agg #[(.int .i64 0), (.int .i64 0)])) (by kernel_rfl) rfl (fun _ => ⟨_, rfl⟩) (fun h => by cases h), rfl⟩
theorem tok28 : TIOk Try.prog 28 ti28 := ⟨⟨_, Try.underlying28, ⟨_, rfl, rfl⟩⟩, info_of (z := (.agg #[(.int .i64 0), (.int .i64 0)])) (by kernel_rfl) rfl (fun _ => ⟨_, rfl⟩) (fun h => by cases h), rfl⟩
theorem tok29 : TIOk Try.prog 29 ti29 := ⟨⟨_, Try.underlying29, ⟨_, _, _, rfl⟩⟩, info_of (z := .nilFunc) (by kernel_rfl) rfl (fun h => by cases h) (fun _ => rfl), rfl⟩
theorem tok30 : TIOk Try.prog 30 ti30 := ⟨⟨_, Try.underlying30, ⟨_, _, _, rfl⟩⟩, info_of (z := .nilFunc) (by kernel_rfl) rfl (fun h => by cases h) (fun _ => rfl), rfl⟩
theorem tok31 : TIOk Try.prog 31 ti31 := ⟨⟨_, Try.underlying31, ⟨_, _, _, rfl⟩⟩, info_of (z := .nilFunc) (by kernel_rfl) rfl (fun h => by cases h) (fun _ => rfl), rfl⟩
theorem tok32 : TIOk Try.prog 32 ti32 := ⟨⟨_, Try.underlying32, rfl⟩, info_of (z := (.slice none 0 0)) (by kernel_rfl) rfl (fun h => by cases h) (fun _ => rfl), rfl⟩
theorem tok33 : TIOk Try.prog 33 ti33 := ⟨⟨_, Try.underlying33, ⟨_, _, _, rfl⟩⟩, info_of (z := .nilFunc) (by kernel_rfl) rfl (fun h => by cases h) (fun _ => rfl), rfl⟩
theorem tok34 : TIOk Try.prog 34 ti34 := ⟨⟨_, Try.underlying34, ⟨_, _, _, rfl⟩⟩, info_of (z := .nilFunc) (by kernel_rfl) rfl (fun h => by cases h) (fun _ => rfl), rfl⟩
theorem tok35 : TIOk Try.prog 35 ti35 := ⟨⟨_, Try.underlying35, rfl⟩, info_of (z := (.slice none 0 0)) (by kernel_rfl) rfl (fun h => by cases h) (fun _ => rfl), rfl⟩
theorem tok36 : TIOk Try.prog 36 ti36 := ⟨⟨_, Try.underlying36, ⟨_, rfl, rfl⟩⟩, info_of (z := (.agg #[(.int .i64 0), (.int .i64 0), (.int .i64 0), (.slice none 0 0), (.slice none 0 0)])) (by kernel_rfl) rfl (fun _ => ⟨_, rfl⟩) (fun h => by cases h), rfl⟩
theorem tok37 : TIOk Try.prog 37 ti37 := ⟨⟨_, Try.underlying37, ⟨_, rfl, rfl⟩⟩, info_of (z := (.agg #[(.int .i64 0), (.int .i64 0), (.int .i64 0), (.slice none 0 0), (.slice none 0 0)])) (by kernel_rfl) rfl (fun _ => ⟨_, rfl⟩) (fun h => by cases h), rfl⟩
theorem tok38 : TIOk Try.prog 38 ti38 := ⟨⟨_, Try.underlying38, ⟨_, _, _, rfl⟩⟩, info_of (z := .nilFunc) (by kernel_rfl) rfl (fun h => by cases h) (fun _ => rfl), rfl⟩
theorem tok39 : TIOk Try.prog 39 ti39 := ⟨⟨_, Try.underlying39, ⟨_, _, _, rfl⟩⟩, info_of (z := .nilFunc) (by kernel_rfl) rfl (fun h => by cases h) (fun _ => rfl), rfl⟩
theorem tok40 : TIOk Try.prog 40 ti40 := ⟨⟨_, Try.underlying40, ⟨_, _, _, rfl⟩⟩, info_of (z := .nilFunc) (by kernel_rfl) rfl (fun h => by cases h) (fun _ => rfl), rfl⟩
theorem tok41 : TIOk Try.prog 41 ti41 := ⟨⟨_, Try.underlying41, ⟨_, _, _, rfl⟩⟩, info_of (z := .nilFunc) (by kernel_rfl) rfl (fun h => by cases h) (fun _ => rfl), rfl⟩
theorem tok42 : TIOk Try.prog 42 ti42 := ⟨⟨_, Try.underlying42, ⟨_, _, _, rfl⟩⟩, info_of (z := .nilFunc) (by kernel_rfl) rfl (fun h => by cases h) (fun _ => rfl), rfl⟩
theorem tok43 : TIOk Try.prog 43 ti43 := ⟨⟨_, Try.underlying43, ⟨_, _, _, rfl⟩⟩, info_of (z := .nilFunc) (by kernel_rfl) rfl (fun h => by cases h) (fun _ => rfl), rfl⟩
theorem tok44 : TIOk Try.prog 44 ti44 := ⟨⟨_, Try.underlying44, ⟨_, _, _, rfl⟩⟩, info_of (z := .nilFunc) (by kernel_rfl) rfl (fun h => by cases h) (fun _ => rfl), rfl⟩
theorem tok45 : TIOk Try.prog 45 ti45 := ⟨⟨_, Try.underlying45, ⟨_, _, _, rfl⟩⟩, info_of (z := .nilFunc) (by kernel_rfl) rfl (fun h => by cases h) (fun _ => rfl), rfl⟩
theorem tok46 : TIOk Try.prog 46 ti46 := ⟨⟨_, Try.underlying46, ⟨_, _, _, rfl⟩⟩, info_of (z := .nilFunc) (by kernel_rfl) rfl (fun h => by cases h) (fun _ => rfl), rfl⟩
theorem tok47 : TIOk Try.prog 47 ti47 := ⟨⟨_, Try.underlying47, ⟨_, _, _, rfl⟩⟩, info_of (z := .nilFunc) (by kernel_rfl) rfl (fun h => by cases h) (fun _ => rfl), rfl⟩
theorem tok48 : TIOk Try.prog 48 ti48 := ⟨⟨_, Try.underlying48, ⟨_, _, _, rfl⟩⟩, info_of (z := .nilFunc) (by kernel_rfl) rfl (fun h => by cases h) (fun _ => rfl), rfl⟩
theorem tok49 : TIOk Try.prog 49 ti49 := ⟨⟨_, Try.underlying49, ⟨_, _, _, rfl⟩⟩, info_of (z := .nilFunc) (by kernel_rfl) rfl (fun h => by cases h) (fun _ => rfl), rfl⟩
theorem tok50 : TIOk Try.prog 50 ti50 := ⟨⟨_, Try.underlying50, rfl⟩, info_of (z := (.int .i64 0)) (by kernel_rfl) rfl (fun h => by cases h) (fun _ => rfl), rfl⟩
theorem tok52 : TIOk Try.prog 52 ti52 := ⟨⟨_, Try.underlying52, ⟨_, _, _, rfl⟩⟩, info_of (z := .nilFunc) (by kernel_rfl) rfl (fun h => by cases h) (fun _ => rfl), rfl⟩
theorem tok53 : TIOk Try.prog 53 ti53 := ⟨⟨_, Try.underlying53, ⟨_, _, _, rfl⟩⟩, info_of (z := .nilFunc) (by kernel_rfl) rfl (fun h => by cases h) (fun _ => rfl), rfl⟩
theorem tok54 : TIOk Try.prog 54 ti54 := ⟨⟨_, Try.underlying54, ⟨_, _, _, rfl⟩⟩, info_of (z := .nilFunc) (by kernel_rfl) rfl (fun h => by cases h) (fun _ => rfl), rfl⟩
theorem tok55 : TIOk Try.prog 55 ti55 := ⟨⟨_, Try.underlying55, ⟨_, _, _, rfl⟩⟩, info_of (z := .nilFunc) (by kernel_rfl) rfl (fun h => by cases h) (fun _ => rfl), rfl⟩
theorem tok56 : TIOk Try.prog 56 ti56 := ⟨⟨_, Try.underlying56, ⟨_, _, _, rfl⟩⟩, info_of (z := .nilFunc) (by kernel_rfl) rfl (fun h => by cases h) (fun _ => rfl), rfl⟩
theorem tok57 : TIOk Try.prog 57 ti57 := ⟨⟨_, Try.underlying57, ⟨_, _, _, rfl⟩⟩, info_of (z := .nilFunc) (by kernel_rfl) rfl (fun h => by cases h) (fun _ => rfl), rfl⟩
theorem tok58 : TIOk Try.prog 58 ti58 := ⟨⟨_, Try.underlying58, ⟨_, _, _, rfl⟩⟩, info_of (z := .nilFunc) (by kernel_rfl) rfl (fun h => by cases h) (fun _ => rfl), rfl⟩
theorem tok59 : TIOk Try.prog 59 ti59 := ⟨⟨_, Try.underlying59, ⟨_, _, _, rfl⟩⟩, info_of (z := .nilFunc) (by kernel_rfl) rfl (fun h => by cases h) (fun _ => rfl), rfl⟩
theorem tok60 : TIOk Try.prog 60 ti60 := ⟨⟨_, Try.underlying60, rfl⟩, info_of (z := (.int .u64 0)) (by kernel_rfl) rfl (fun h => by cases h) (fun _ => rfl), rfl⟩
theorem tok61 : TIOk Try.prog 61 ti61 := ⟨⟨_, Try.underlying61, rfl⟩, info_of (z := (.int .u64 0)) (by kernel_rfl) rfl (fun h => by cases h) (fun _ => rfl), rfl⟩
theorem tok62 : TIOk Try.prog 62 ti62 := ⟨⟨_, Try.underlying62, rfl⟩, info_of (z := (.int .u32 0)) (by kernel_rfl) rfl (fun h => by cases h) (fun _ => rfl), rfl⟩
theorem tok63 : TIOk Try.prog 63 ti63 := ⟨⟨_, Try.underlying63, rfl⟩, info_of (z := (.agg #[(.int .u32 0), (.int .u32 0), (.int .u32 0), (.int .u32 0), (.int .u32 0), (.int .u32 0), (.int .u32 0), (.int .u32 0)])) (by kernel_rfl) rfl (fun _ => ⟨_, rfl⟩) (fun h => by cases h), rfl⟩
theorem tok64 : TIOk Try.prog 64 ti64 := ⟨⟨_, Try.underlying64, rfl⟩, info_of (z := (.agg #[(.int .u32 0), (.int .u32 0), (.int .u32 0), (.int .u32 0), (.int .u32 0), (.int .u32 0), (.int .u32 0), (.int .u32 0)])) (by kernel_rfl) rfl (fun _ => ⟨_, rfl⟩) (fun h => by cases h), rfl⟩
theorem tok69 : TIOk Try.prog 69 ti69 := ⟨⟨_, Try.underlying69, rfl⟩, info_of (z := (.agg #[(.int .u32 0), (.int .u32 0), (.int .u32 0), (.int .u32 0), (.int .u32 0), (.int .u32 0), (.int .u32 0), (.int .u32 0), (.int .u32 0), (.int .u32 0), (.int .u32 0), (.int .u32 0), (.int .u32 0), (.int .u32 0), (.int .u32 0), (.int .u32 0), (.int .u32 0), (.int .u32 0), (.int .u32 0), (.int .u32 0), (.int .u32 0), (.int .u32 0), (.int .u32 0), (.int .u32 0), (.int .u32 0), (.int .u32 0), (.int .u32 0), (.int .u32 0), (.int .u32 0), (.int .u32 0), (.int .u32 0), (.int .u32 0), (.int .u32 0), (.int .u32 0), (.int .u32 0), (.int .u32 0), (.int .u32 0), (.int .u32 0), (.int .u32 0), (.int .u32 0), (.int .u32 0), (.int .u32 0), (.int .u32 0), (.int .u32 0), (.int .u32 0), (.int .u32 0), (.int .u32 0), (.int .u32 0), (.int .u32 0), (.int .u32 0), (.int .u32 0), (.int .u32 0), (.int .u32 0), (.int .u32 0), (.int .u32 0), (.int .u32 0), (.int .u32 0), (.int .u32 0), (.int .u32 0), (.int .u32 0), (.int .u32 0), (.int .u32 0), (.int .u32 0), (.int .u32 0)])) (by kernel_rfl) rfl (fun _ => ⟨_, rfl⟩) (fun h => by cases h), rfl⟩
theorem tok72 : TIOk Try.prog 72 ti72 := ⟨⟨_, Try.underlying72, rfl⟩, info_of (z := (.slice none 0 0)) (by kernel_rfl) rfl (fun h => by cases h) (fun _ => rfl), rfl⟩
theorem tok81 : TIOk Try.prog 81 ti81 := ⟨⟨_, Try.underlying81, rfl⟩, info_of (z := (.slice none 0 0)) (by kernel_rfl) rfl (fun h => by cases h) (fun _ => rfl), rfl⟩
theorem tok87 : TIOk Try.prog 87 ti87 := ⟨⟨_, Try.underlying87, ⟨_, rfl, rfl⟩⟩, info_of (z := (.agg #[(.pointer none), (.pointer none), (.pointer none), (.string ⟨#[]⟩)])) (by kernel_rfl) rfl (fun _ => ⟨_, rfl⟩) (fun h => by cases h), rfl⟩
theorem tok88 : TIOk Try.prog 88 ti88 := ⟨⟨_, Try.underlying88, rfl⟩, info_of (z := (.agg #[])) (by kernel_rfl) rfl (fun _ => ⟨_, rfl⟩) (fun h => by cases h), rfl⟩
theorem tok90 : TIOk Try.prog 90 ti90 := ⟨⟨_, Try.underlying90, ⟨_, rfl, rfl⟩⟩, info_of (z := (.agg #[])) (by kernel_rfl) rfl (fun _ => ⟨_, rfl⟩) (fun h => by cases h), rfl⟩
theorem tok92 : TIOk Try.prog 92 ti92 := ⟨⟨_, Try.underlying92, rfl⟩, info_of (z := (.int .u8 0)) (by kernel_rfl) rfl (fun h => by cases h) (fun _ => rfl), rfl⟩
theorem tok93 : TIOk Try.prog 93 ti93 := ⟨⟨_, Try.underlying93, rfl⟩, info_of (z := (.int .u8 0)) (by kernel_rfl) rfl (fun h => by cases h) (fun _ => rfl), rfl⟩
theorem tok94 : TIOk Try.prog 94 ti94 := ⟨⟨_, Try.underlying94, ⟨_, _, _, rfl⟩⟩, info_of (z := .nilFunc) (by kernel_rfl) rfl (fun h => by cases h) (fun _ => rfl), rfl⟩
theorem tok95 : TIOk Try.prog 95 ti95 := ⟨⟨_, Try.underlying95, rfl⟩, info_of (z := (.pointer none)) (by kernel_rfl) rfl (fun h => by cases h) (fun _ => rfl), rfl⟩
theorem tok96 : TIOk Try.prog 96 ti96 := ⟨⟨_, Try.underlying96, rfl⟩, info_of (z := (.int .i32 0)) (by kernel_rfl) rfl (fun h => by cases h) (fun _ => rfl), rfl⟩
theorem tok97 : TIOk Try.prog 97 ti97 := ⟨⟨_, Try.underlying97, rfl⟩, info_of (z := (.int .i32 0)) (by kernel_rfl) rfl (fun h => by cases h) (fun _ => rfl), rfl⟩
theorem tok99 : TIOk Try.prog 99 ti99 := ⟨⟨_, Try.underlying99, ⟨_, rfl, rfl⟩⟩, info_of (z := (.agg #[(.int .u64 0), (.int .u64 0), (.int .u32 0), (.int .u8 0), (.int .u8 0), (.int .u8 0), (.int .u8 0), .nilFunc, (.pointer none), (.int .i32 0), (.int .i32 0)])) (by kernel_rfl) rfl (fun _ => ⟨_, rfl⟩) (fun h => by cases h), rfl⟩
theorem tokg : ∀ t i, T t = some i → TIOk Try.prog t i := by
  intro t i h
  change Tg t = some i at h
  unfold Tg at h
  split at h
  · cases h; exact tok1
  · cases h; exact tok2
  · cases h; exact tok3
  · cases h; exact tok4
  · cases h; exact tok5
  · cases h; exact tok6
  · cases h; exact tok7
  · cases h; exact tok8
  · cases h; exact tok9
  · cases h; exact tok10
  · cases h; exact tok11
  · cases h; exact tok12
  · cases h; exact tok13
  · cases h; exact tok14
  · cases h; exact tok15
  · cases h; exact tok16
  · cases h; exact tok17
  · cases h; exact tok18
  · cases h; exact tok19
  · cases h; exact tok20
  · cases h; exact tok21
  · cases h; exact tok22
  · cases h; exact tok23
  · cases h; exact tok24
  · cases h; exact tok25
  · cases h; exact tok26
  · cases h; exact tok27
  · cases h; exact tok28
  · cases h; exact tok29
  · cases h; exact tok30
  · cases h; exact tok31
  · cases h; exact tok32
  · cases h; exact tok33
  · cases h; exact tok34
  · cases h; exact tok35
  · cases h; exact tok36
  · cases h; exact tok37
  · cases h; exact tok38
  · cases h; exact tok39
  · cases h; exact tok40
  · cases h; exact tok41
  · cases h; exact tok42
  · cases h; exact tok43
  · cases h; exact tok44
  · cases h; exact tok45
  · cases h; exact tok46
  · cases h; exact tok47
  · cases h; exact tok48
  · cases h; exact tok49
  · cases h; exact tok50
  · cases h; exact tok52
  · cases h; exact tok53
  · cases h; exact tok54
  · cases h; exact tok55
  · cases h; exact tok56
  · cases h; exact tok57
  · cases h; exact tok58
  · cases h; exact tok59
  · cases h; exact tok60
  · cases h; exact tok61
  · cases h; exact tok62
  · cases h; exact tok63
  · cases h; exact tok64
  · cases h; exact tok69
  · cases h; exact tok72
  · cases h; exact tok81
  · cases h; exact tok87
  · cases h; exact tok88
  · cases h; exact tok90
  · cases h; exact tok92
  · cases h; exact tok93
  · cases h; exact tok94
  · cases h; exact tok95
  · cases h; exact tok96
  · cases h; exact tok97
  · cases h; exact tok99
  · cases h
theorem toke : ∀ t, T.eq t = true → Try.prog.stoodInHeld t = false ∧ Try.prog.eqGuardType Try.prog.depth t = false ∧ ∀ f ∈ (Try.prog.fieldsOf t).toList, f.name ≠ "_" := by
  intro t h
  change Te t = true at h
  unfold Te at h
  split at h
  · exact ⟨by kernel_rfl, by kernel_rfl, of_decide_eq_true (by kernel_rfl)⟩
  · exact ⟨by kernel_rfl, by kernel_rfl, of_decide_eq_true (by kernel_rfl)⟩
  · exact ⟨by kernel_rfl, by kernel_rfl, of_decide_eq_true (by kernel_rfl)⟩
  · exact ⟨by kernel_rfl, by kernel_rfl, of_decide_eq_true (by kernel_rfl)⟩
  · exact ⟨by kernel_rfl, by kernel_rfl, of_decide_eq_true (by kernel_rfl)⟩
  · cases h
theorem tok : TOk Try.prog T := ⟨tokg, toke⟩
theorem mixed : Try.prog.follows .mixedOrders = true := by kernel_rfl
end Go.Proofs.Ytlahipbilbibiaa
