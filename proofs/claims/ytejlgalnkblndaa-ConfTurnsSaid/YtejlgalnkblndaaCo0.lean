/- The codes of functions, each operation in short. Printed by a program of this work. -/
import Derived.Test.YtejlgalnkblndaaTa
set_option linter.unusedVariables false
namespace Go.Proofs.Ytejlgalnkblndaa
open Go.Al
/-! gosem.cut.init -/
abbrev n_gosem_cut_init : FuncId := 2
def c_gosem_cut_init : LC :=
  .reg [⟨some 0, .call ⟨.value (.func 1), #[], #[]⟩, none⟩] []
abbrev r_gosem_cut_init : List ResultVar := []
theorem fits_gosem_cut_init : Fits Try.prog 2 0 c_gosem_cut_init r_gosem_cut_init :=
  ⟨_, _, [⟨[], [], [], []⟩], Try.func2, by kernel_rfl, rfl, by kernel_rfl, by kernel_rfl, by decide, rfl⟩

/-! stanchion/stanchionlaw06.ConfAnswers -/
abbrev n_stanchionlaw06_ConfAnswers : FuncId := 3
def c_stanchionlaw06_ConfAnswers : LC :=
  .seq (.reg [⟨some 4, .box 24 (.tmp 0), none⟩,
        ⟨some 7, .box 26 (.tmp 3), none⟩,
        ⟨some 8, .assign (.const (.bool false)), none⟩] [])
  (.seq (.seq (.reg [⟨some 10, .call ⟨.value (.func 8), #[], #[]⟩, none⟩,
          ⟨some 11, .unOp .not 4 (.tmp 10), none⟩] [])
    (.cond (.tmp 11) [] (.seq (.reg [⟨some 8, .assign (.const (.bool false)), none⟩] [])
      (.ret))
    (.skip)))
  (.seq (.reg [⟨some 12, .load 24 (.tmp 4), none⟩,
        ⟨some 13, .call ⟨.value (.func 9), #[.tmp 12], #[24]⟩, none⟩,
        ⟨some 9, .alloc 24, none⟩,
        ⟨none, .store 24 (.tmp 9) (.tmp 13), none⟩] [])
  (.seq (.drw ((⟨some 14, .load 24 (.tmp 9), none⟩, false) ::
        (⟨some 16, .load 24 (.tmp 4), none⟩, true) ::
        (⟨some 15, .call ⟨.value (.func 10), #[.tmp 14], #[24]⟩, none⟩, false) ::
        (⟨some 17, .call ⟨.value (.func 11), #[.tmp 16], #[24]⟩, none⟩, false) ::
        (⟨some 18, .binOp .eql 29 (.tmp 15) (.tmp 17) 29, none⟩, false) ::
        (⟨some 19, .move (.tmp 18), none⟩, false) ::
        (⟨some 20, .load 24 (.tmp 9), some (19, true)⟩, false) ::
        (⟨some 21, .move (.tmp 1), some (19, true)⟩, false) ::
        (⟨some 23, .load 24 (.tmp 4), some (19, true)⟩, true) ::
        (⟨some 24, .move (.tmp 1), some (19, true)⟩, true) ::
        (⟨some 22, .call ⟨.value (.func 12), #[.tmp 20, .tmp 21], #[24, 3]⟩, some (19, true)⟩, false) ::
        (⟨some 25, .call ⟨.value (.func 13), #[.tmp 23, .tmp 24], #[24, 3]⟩, some (19, true)⟩, false) ::
        (⟨some 26, .binOp .eql 3 (.tmp 22) (.tmp 25) 3, some (19, true)⟩, false) ::
        (⟨some 27, .pick (.tmp 19) (.tmp 26) (.const (.bool false)), none⟩, false) ::
        (⟨some 28, .move (.tmp 27), none⟩, false) ::
        (⟨some 29, .load 24 (.tmp 9), some (28, true)⟩, false) ::
        (⟨some 31, .load 24 (.tmp 4), some (28, true)⟩, true) ::
        (⟨some 30, .call ⟨.value (.func 14), #[.tmp 29], #[24]⟩, some (28, true)⟩, false) ::
        (⟨some 32, .call ⟨.value (.func 15), #[.tmp 31], #[24]⟩, some (28, true)⟩, false) ::
        (⟨some 33, .binOp .eql 3 (.tmp 30) (.tmp 32) 3, some (28, true)⟩, false) ::
        (⟨some 34, .pick (.tmp 28) (.tmp 33) (.const (.bool false)), none⟩, false) ::
        (⟨some 35, .move (.tmp 34), none⟩, false) ::
        (⟨some 36, .load 24 (.tmp 9), some (35, true)⟩, false) ::
        (⟨some 38, .load 24 (.tmp 4), some (35, true)⟩, true) ::
        (⟨some 37, .call ⟨.value (.func 16), #[.tmp 36], #[24]⟩, some (35, true)⟩, false) ::
        (⟨some 39, .call ⟨.value (.func 17), #[.tmp 38], #[24]⟩, some (35, true)⟩, false) ::
        (⟨some 40, .binOp .eql 3 (.tmp 37) (.tmp 39) 3, some (35, true)⟩, false) ::
        (⟨some 41, .pick (.tmp 35) (.tmp 40) (.const (.bool false)), none⟩, false) ::
        (⟨some 42, .move (.tmp 41), none⟩, false) ::
        (⟨some 43, .load 24 (.tmp 9), some (42, true)⟩, false) ::
        (⟨some 44, .move (.tmp 2), some (42, true)⟩, false) ::
        (⟨some 46, .load 24 (.tmp 4), some (42, true)⟩, true) ::
        (⟨some 47, .move (.tmp 2), some (42, true)⟩, true) ::
        (⟨some 45, .call ⟨.value (.func 18), #[.tmp 43, .tmp 44], #[24, 3]⟩, some (42, true)⟩, false) ::
        (⟨some 48, .call ⟨.value (.func 19), #[.tmp 46, .tmp 47], #[24, 3]⟩, some (42, true)⟩, false) ::
        (⟨some 49, .binOp .eql 3 (.tmp 45) (.tmp 48) 3, some (42, true)⟩, false) ::
        (⟨some 50, .pick (.tmp 42) (.tmp 49) (.const (.bool false)), none⟩, false) ::
        (⟨some 51, .move (.tmp 50), none⟩, false) ::
        (⟨some 52, .load 24 (.tmp 9), some (51, true)⟩, false) ::
        (⟨some 53, .load 26 (.tmp 7), some (51, true)⟩, false) ::
        (⟨some 55, .load 24 (.tmp 4), some (51, true)⟩, true) ::
        (⟨some 56, .load 26 (.tmp 7), some (51, true)⟩, true) ::
        (⟨some 54, .call ⟨.value (.func 20), #[.tmp 52, .tmp 53], #[24, 26]⟩, some (51, true)⟩, false) ::
        (⟨some 57, .call ⟨.value (.func 21), #[.tmp 55, .tmp 56], #[24, 26]⟩, some (51, true)⟩, false) ::
        (⟨some 58, .binOp .eql 4 (.tmp 54) (.tmp 57) 4, some (51, true)⟩, false) ::
        (⟨some 59, .pick (.tmp 51) (.tmp 58) (.const (.bool false)), none⟩, false) ::
        (⟨some 8, .assign (.tmp 59), none⟩, false) :: []) [])
  (.ret))))
abbrev r_stanchionlaw06_ConfAnswers : List ResultVar := [.tmp 8]
theorem fits_stanchionlaw06_ConfAnswers : Fits Try.prog 3 4 c_stanchionlaw06_ConfAnswers r_stanchionlaw06_ConfAnswers :=
  ⟨_, _, [⟨[], [], [], []⟩, ⟨[], [], [], []⟩, ⟨[], [], [], []⟩, ⟨[], [], [], []⟩, ⟨[], [], [], []⟩, ⟨[some (0, false), some (2, true), some (1, false), some (3, false), some (4, false), some (5, false), some (6, false), some (7, false), some (9, true), some (10, true), some (8, false), some (11, false), some (12, false), some (13, false), some (14, false), some (15, false), some (17, true), some (16, false), some (18, false), some (19, false), some (20, false), some (21, false), some (22, false), some (24, true), some (23, false), some (25, false), some (26, false), some (27, false), some (28, false), some (29, false), some (30, false), some (32, true), some (33, true), some (31, false), some (34, false), some (35, false), some (36, false), some (37, false), some (38, false), some (39, false), some (41, true), some (42, true), some (40, false), some (43, false), some (44, false), some (45, false), some (46, false)], [], [⟨some 14, [9], [], false⟩, ⟨some 15, [14], [0], true⟩, ⟨some 16, [4], [], false⟩, ⟨some 17, [16], [2, 1], true⟩, ⟨some 18, [15, 17], [1, 3], false⟩, ⟨some 19, [18], [4, 3], false⟩, ⟨some 20, [9, 19], [5], false⟩, ⟨some 21, [1, 19], [5], false⟩, ⟨some 22, [20, 21, 19], [6, 7, 5, 5], true⟩, ⟨some 23, [4, 19], [5], false⟩, ⟨some 24, [1, 19], [5], false⟩, ⟨some 25, [23, 24, 19], [9, 10, 8, 5], true⟩, ⟨some 26, [22, 25, 19], [8, 11, 5], false⟩, ⟨some 27, [19, 26], [5, 12], false⟩, ⟨some 28, [27], [13, 11], false⟩, ⟨some 29, [9, 28], [14], false⟩, ⟨some 30, [29, 28], [15, 14, 14], true⟩, ⟨some 31, [4, 28], [14], false⟩, ⟨some 32, [31, 28], [17, 16, 14], true⟩, ⟨some 33, [30, 32, 28], [16, 18, 14], false⟩, ⟨some 34, [28, 33], [14, 19], false⟩, ⟨some 35, [34], [20, 18], false⟩, ⟨some 36, [9, 35], [21], false⟩, ⟨some 37, [36, 35], [22, 21, 21], true⟩, ⟨some 38, [4, 35], [21], false⟩, ⟨some 39, [38, 35], [24, 23, 21], true⟩, ⟨some 40, [37, 39, 35], [23, 25, 21], false⟩, ⟨some 41, [35, 40], [21, 26], false⟩, ⟨some 42, [41], [27, 25], false⟩, ⟨some 43, [9, 42], [28], false⟩, ⟨some 44, [2, 42], [28], false⟩, ⟨some 45, [43, 44, 42], [29, 30, 28, 28], true⟩, ⟨some 46, [4, 42], [28], false⟩, ⟨some 47, [2, 42], [28], false⟩, ⟨some 48, [46, 47, 42], [32, 33, 31, 28], true⟩, ⟨some 49, [45, 48, 42], [31, 34, 28], false⟩, ⟨some 50, [42, 49], [28, 35], false⟩, ⟨some 51, [50], [36, 34], false⟩, ⟨some 52, [9, 51], [37], false⟩, ⟨some 53, [7, 51], [37], false⟩, ⟨some 54, [52, 53, 51], [38, 39, 37, 37], true⟩, ⟨some 55, [4, 51], [37], false⟩, ⟨some 56, [7, 51], [37], false⟩, ⟨some 57, [55, 56, 51], [41, 42, 40, 37], true⟩, ⟨some 58, [54, 57, 51], [40, 43, 37], false⟩, ⟨some 59, [51, 58], [37, 44], false⟩, ⟨some 8, [59], [45, 43, 0, 1, 2, 3, 4, 5, 6, 7, 8, 9, 10, 11, 12, 13, 14, 15, 16, 17, 18, 19, 20, 21, 22, 23, 24, 25, 26, 27, 28, 29, 30, 31, 32, 33, 34, 35, 36, 37, 38, 39, 40, 41, 42, 43, 44, 45], false⟩], [0, 1, 0, 7, 15, 31, 63, 63, 255, 63, 63, 2047, 4095, 8191, 16383, 32767, 65535, 32767, 262143, 524287, 1048575, 2097151, 4194303, 8388607, 4194303, 33554431, 67108863, 134217727, 268435455, 536870911, 536870911, 2147483647, 536870911, 536870911, 17179869183, 34359738367, 68719476735, 137438953471, 274877906943, 274877906943, 1099511627775, 274877906943, 274877906943, 8796093022207, 17592186044415, 35184372088831, 70368744177663]⟩], Try.func3, by kernel_rfl, rfl, by kernel_rfl, by kernel_rfl, by decide, rfl⟩

/-! stanchion/stanchionlaw06.ConfIds -/
abbrev n_stanchionlaw06_ConfIds : FuncId := 4
def c_stanchionlaw06_ConfIds : LC :=
  .seq (.reg [⟨some 2, .box 24 (.tmp 0), none⟩,
        ⟨some 4, .assign (.const (.bool false)), none⟩] [])
  (.seq (.seq (.reg [⟨some 9, .call ⟨.value (.func 8), #[], #[]⟩, none⟩,
          ⟨some 10, .unOp .not 4 (.tmp 9), none⟩] [])
    (.cond (.tmp 10) [] (.seq (.reg [⟨some 4, .assign (.const (.bool false)), none⟩] [])
      (.ret))
    (.skip)))
  (.seq (.seq (.reg [⟨some 11, .move (.tmp 1), none⟩,
          ⟨some 12, .call ⟨.builtin .len, #[.tmp 11], #[35]⟩, none⟩,
          ⟨some 13, .binOp .gtr 3 (.tmp 12) (.const (.int .i64 100)) 3, none⟩] [])
    (.cond (.tmp 13) [] (.seq (.reg [⟨some 4, .assign (.const (.bool true)), none⟩] [])
      (.ret))
    (.skip)))
  (.seq (.reg [⟨some 14, .move (.tmp 1), none⟩,
        ⟨some 15, .call ⟨.value (.func 22), #[.tmp 14], #[35]⟩, none⟩,
        ⟨some 5, .assign (.tmp 15), none⟩] [])
  (.seq (.reg [⟨some 16, .load 24 (.tmp 2), none⟩,
        ⟨some 17, .move (.tmp 5), none⟩,
        ⟨some 18, .call ⟨.value (.func 23), #[.tmp 16, .tmp 17], #[24, 35]⟩, none⟩,
        ⟨some 6, .assign (.tmp 18), none⟩] [])
  (.seq (.reg [⟨some 19, .load 24 (.tmp 2), none⟩,
        ⟨some 20, .move (.tmp 1), none⟩,
        ⟨some 21, .call ⟨.value (.func 24), #[.tmp 19, .tmp 20], #[24, 35]⟩, none⟩,
        ⟨some 7, .assign (.tmp 21), none⟩] [])
  (.seq (.seq (.reg [⟨some 22, .move (.tmp 6), none⟩,
          ⟨some 23, .call ⟨.builtin .len, #[.tmp 22], #[37]⟩, none⟩,
          ⟨some 24, .move (.tmp 7), none⟩,
          ⟨some 25, .call ⟨.builtin .len, #[.tmp 24], #[37]⟩, none⟩,
          ⟨some 26, .binOp .neq 3 (.tmp 23) (.tmp 25) 3, none⟩,
          ⟨some 27, .move (.tmp 26), none⟩,
          ⟨some 28, .move (.tmp 5), some (27, false)⟩,
          ⟨some 29, .move (.tmp 1), some (27, false)⟩,
          ⟨some 30, .call ⟨.value (.func 25), #[.tmp 28, .tmp 29], #[35, 35]⟩, some (27, false)⟩,
          ⟨some 31, .unOp .not 4 (.tmp 30), some (27, false)⟩,
          ⟨some 32, .pick (.tmp 27) (.const (.bool true)) (.tmp 31), none⟩] [])
    (.cond (.tmp 32) [] (.seq (.reg [⟨some 4, .assign (.const (.bool false)), none⟩] [])
      (.ret))
    (.skip)))
  (.seq (.seq (.reg [⟨some 8, .assign (.const (.int .i64 0)), none⟩] [])
    (.block 0 (.loop (.seq (.seq (.reg [⟨some 33, .move (.tmp 8), none⟩,
                ⟨some 34, .move (.tmp 6), none⟩,
                ⟨some 35, .call ⟨.builtin .len, #[.tmp 34], #[37]⟩, none⟩,
                ⟨some 36, .binOp .lss 3 (.tmp 33) (.tmp 35) 3, none⟩] [])
          (.cond (.tmp 36) [] (.skip)
          (.exit 0)))
        (.seq (.block 1 (.seq (.drw [(⟨some 39, .move (.tmp 6), none⟩, false),
                  (⟨some 40, .move (.tmp 8), none⟩, false),
                  (⟨some 41, .indexAddr 37 (.tmp 39) (.tmp 40), none⟩, false),
                  (⟨some 42, .load 26 (.tmp 41), none⟩, false),
                  (⟨some 43, .move (.tmp 7), none⟩, false),
                  (⟨some 44, .move (.tmp 8), none⟩, false),
                  (⟨some 45, .indexAddr 37 (.tmp 43) (.tmp 44), none⟩, false),
                  (⟨some 46, .load 26 (.tmp 45), none⟩, false),
                  (⟨some 47, .binOp .neq 26 (.tmp 42) (.tmp 46) 26, none⟩, false),
                  (⟨some 48, .move (.tmp 47), none⟩, false),
                  (⟨some 49, .load 24 (.tmp 2), some (48, false)⟩, false),
                  (⟨some 50, .move (.tmp 6), some (48, false)⟩, false),
                  (⟨some 51, .move (.tmp 8), some (48, false)⟩, false),
                  (⟨some 52, .indexAddr 37 (.tmp 50) (.tmp 51), some (48, false)⟩, false),
                  (⟨some 53, .load 26 (.tmp 52), some (48, false)⟩, false),
                  (⟨some 54, .call ⟨.value (.func 20), #[.tmp 49, .tmp 53], #[24, 26]⟩, some (48, false)⟩, false),
                  (⟨some 55, .unOp .not 4 (.tmp 54), some (48, false)⟩, false),
                  (⟨some 56, .pick (.tmp 48) (.const (.bool true)) (.tmp 55), none⟩, false)] [])
            (.cond (.tmp 56) [] (.seq (.reg [⟨some 4, .assign (.const (.bool false)), none⟩] [])
              (.ret))
            (.skip))))
        (.reg [⟨some 37, .move (.tmp 8), none⟩,
            ⟨some 38, .binOp .add 3 (.tmp 37) (.const (.int .i64 1)) 3, none⟩,
            ⟨some 8, .assign (.tmp 38), none⟩] []))))))
  (.seq (.reg [⟨some 4, .assign (.const (.bool true)), none⟩] [])
  (.ret)))))))))
abbrev r_stanchionlaw06_ConfIds : List ResultVar := [.tmp 4]
theorem fits_stanchionlaw06_ConfIds : Fits Try.prog 4 2 c_stanchionlaw06_ConfIds r_stanchionlaw06_ConfIds :=
  ⟨_, _, [⟨[], [], [], []⟩, ⟨[], [], [], []⟩, ⟨[], [], [], []⟩, ⟨[], [], [], []⟩, ⟨[], [], [], []⟩, ⟨[], [], [], []⟩, ⟨[], [], [], []⟩, ⟨[], [], [], []⟩, ⟨[], [], [], []⟩, ⟨[], [], [], []⟩, ⟨[], [], [], []⟩, ⟨[], [], [], []⟩, ⟨[], [], [], []⟩, ⟨[], [], [], []⟩, ⟨[], [], [], []⟩, ⟨[], [], [], []⟩, ⟨[some (0, false), some (1, false), some (2, false), some (3, false), some (4, false), some (5, false), some (6, false), some (7, false), some (8, false), some (9, false), some (10, false), some (11, false), some (12, false), some (13, false), some (14, false), some (15, false), some (16, false), some (17, false)], [], [⟨some 39, [6], [], false⟩, ⟨some 40, [8], [], false⟩, ⟨some 41, [39, 40], [0, 1], false⟩, ⟨some 42, [41], [2], false⟩, ⟨some 43, [7], [], false⟩, ⟨some 44, [8], [], false⟩, ⟨some 45, [43, 44], [4, 5], false⟩, ⟨some 46, [45], [6], false⟩, ⟨some 47, [42, 46], [3, 7], false⟩, ⟨some 48, [47], [8], false⟩, ⟨some 49, [2, 48], [9], false⟩, ⟨some 50, [6, 48], [9], false⟩, ⟨some 51, [8, 48], [9], false⟩, ⟨some 52, [50, 51, 48], [11, 12, 9], false⟩, ⟨some 53, [52, 48], [13, 9], false⟩, ⟨some 54, [49, 53, 48], [10, 14, 9, 9], true⟩, ⟨some 55, [54, 48], [15, 9], false⟩, ⟨some 56, [48, 55], [9, 16], false⟩], [0, 0, 3, 7, 0, 0, 48, 112, 255, 511, 1023, 1023, 1023, 7167, 15359, 32767, 65535, 131071]⟩, ⟨[], [], [], []⟩, ⟨[], [], [], []⟩, ⟨[], [], [], []⟩, ⟨[], [], [], []⟩], Try.func4, by kernel_rfl, rfl, by kernel_rfl, by kernel_rfl, by decide, rfl⟩

/-! stanchion/stanchionlaw06.ConfMeets -/
abbrev n_stanchionlaw06_ConfMeets : FuncId := 5
def c_stanchionlaw06_ConfMeets : LC :=
  .seq (.reg [⟨some 1, .box 24 (.tmp 0), none⟩,
        ⟨some 2, .assign (.const (.bool false)), none⟩] [])
  (.seq (.seq (.reg [⟨some 7, .call ⟨.value (.func 8), #[], #[]⟩, none⟩,
          ⟨some 8, .unOp .not 4 (.tmp 7), none⟩] [])
    (.cond (.tmp 8) [] (.seq (.reg [⟨some 2, .assign (.const (.bool false)), none⟩] [])
      (.ret))
    (.skip)))
  (.seq (.seq (.reg [⟨some 9, .load 24 (.tmp 1), none⟩,
          ⟨some 10, .call ⟨.value (.func 10), #[.tmp 9], #[24]⟩, none⟩,
          ⟨some 11, .binOp .neq 29 (.tmp 10) (.const (.int .i64 0)) 29, none⟩] [])
    (.cond (.tmp 11) [] (.seq (.reg [⟨some 12, .load 24 (.tmp 1), none⟩,
            ⟨some 13, .call ⟨.value (.func 14), #[.tmp 12], #[24]⟩, none⟩,
            ⟨some 14, .binOp .eql 3 (.tmp 13) (.const (.int .i64 0)) 3, none⟩,
            ⟨some 15, .move (.tmp 14), none⟩,
            ⟨some 16, .load 24 (.tmp 1), some (15, true)⟩,
            ⟨some 17, .call ⟨.value (.func 16), #[.tmp 16], #[24]⟩, some (15, true)⟩,
            ⟨some 18, .binOp .eql 3 (.tmp 17) (.const (.int .i64 0)) 3, some (15, true)⟩,
            ⟨some 19, .pick (.tmp 15) (.tmp 18) (.const (.bool false)), none⟩,
            ⟨some 20, .move (.tmp 19), none⟩,
            ⟨some 21, .load 24 (.tmp 1), some (20, true)⟩,
            ⟨some 22, .buildSlice 35 4 #[(0, .const (.int .i64 1)), (1, .const (.int .i64 2)), (2, .const (.int .i64 3)), (3, .const (.int .i64 4))], some (20, true)⟩,
            ⟨some 23, .call ⟨.value (.func 23), #[.tmp 21, .tmp 22], #[24, 35]⟩, some (20, true)⟩,
            ⟨some 24, .call ⟨.builtin .len, #[.tmp 23], #[37]⟩, some (20, true)⟩,
            ⟨some 25, .binOp .eql 3 (.tmp 24) (.const (.int .i64 0)) 3, some (20, true)⟩,
            ⟨some 26, .pick (.tmp 20) (.tmp 25) (.const (.bool false)), none⟩,
            ⟨some 2, .assign (.tmp 26), none⟩] [])
      (.ret))
    (.skip)))
  (.seq (.reg [⟨some 27, .load 24 (.tmp 1), none⟩,
        ⟨some 28, .call ⟨.value (.func 14), #[.tmp 27], #[24]⟩, none⟩,
        ⟨some 3, .assign (.tmp 28), none⟩] [])
  (.seq (.reg [⟨some 29, .load 24 (.tmp 1), none⟩,
        ⟨some 30, .call ⟨.value (.func 16), #[.tmp 29], #[24]⟩, none⟩,
        ⟨some 4, .assign (.tmp 30), none⟩] [])
  (.seq (.seq (.reg [⟨some 5, .assign (.const (.int .i64 1)), none⟩] [])
    (.block 0 (.loop (.seq (.seq (.reg [⟨some 31, .move (.tmp 5), none⟩,
                ⟨some 32, .binOp .leq 3 (.tmp 31) (.const (.int .i64 2)) 3, none⟩] [])
          (.cond (.tmp 32) [] (.skip)
          (.exit 0)))
        (.seq (.block 1 (.seq (.reg [⟨some 35, .load 24 (.tmp 1), none⟩,
                  ⟨some 36, .move (.tmp 5), none⟩,
                  ⟨some 37, .call ⟨.value (.func 12), #[.tmp 35, .tmp 36], #[24, 3]⟩, none⟩,
                  ⟨some 6, .assign (.tmp 37), none⟩] [])
            (.seq (.reg [⟨some 38, .move (.tmp 3), none⟩,
                  ⟨some 39, .binOp .mul 3 (.const (.int .i64 2)) (.tmp 38) 3, none⟩,
                  ⟨some 40, .move (.tmp 6), none⟩,
                  ⟨some 41, .binOp .sub 3 (.tmp 39) (.tmp 40) 3, none⟩,
                  ⟨some 42, .move (.tmp 4), none⟩,
                  ⟨some 43, .binOp .lss 3 (.tmp 41) (.tmp 42) 3, none⟩,
                  ⟨some 44, .move (.tmp 43), none⟩,
                  ⟨some 45, .move (.tmp 6), some (44, false)⟩,
                  ⟨some 46, .fieldAddr 24 (.tmp 1) 0, some (44, false)⟩,
                  ⟨some 47, .load 3 (.tmp 46), some (44, false)⟩,
                  ⟨some 48, .binOp .sub 3 (.tmp 45) (.tmp 47) 3, some (44, false)⟩,
                  ⟨some 49, .move (.tmp 3), some (44, false)⟩,
                  ⟨some 50, .binOp .lss 3 (.tmp 48) (.tmp 49) 3, some (44, false)⟩,
                  ⟨some 51, .pick (.tmp 44) (.const (.bool true)) (.tmp 50), none⟩] [])
            (.cond (.tmp 51) [] (.seq (.reg [⟨some 2, .assign (.const (.bool false)), none⟩] [])
              (.ret))
            (.skip)))))
        (.reg [⟨some 33, .move (.tmp 5), none⟩,
            ⟨some 34, .binOp .add 3 (.tmp 33) (.const (.int .i64 1)) 3, none⟩,
            ⟨some 5, .assign (.tmp 34), none⟩] []))))))
  (.seq (.drw [(⟨some 52, .load 24 (.tmp 1), none⟩, false),
        (⟨some 54, .fieldAddr 24 (.tmp 1) 0, none⟩, true),
        (⟨some 55, .load 3 (.tmp 54), none⟩, true),
        (⟨some 57, .move (.tmp 4), none⟩, true),
        (⟨some 53, .call ⟨.value (.func 12), #[.tmp 52, .const (.int .i64 3)], #[24, 3]⟩, none⟩, false),
        (⟨some 56, .binOp .sub 3 (.tmp 53) (.tmp 55) 3, none⟩, false),
        (⟨some 58, .binOp .geq 3 (.tmp 56) (.tmp 57) 3, none⟩, false),
        (⟨some 59, .move (.tmp 58), none⟩, false),
        (⟨some 60, .move (.tmp 3), some (59, true)⟩, false),
        (⟨some 61, .fieldAddr 24 (.tmp 1) 1, some (59, true)⟩, false),
        (⟨some 62, .load 3 (.tmp 61), some (59, true)⟩, false),
        (⟨some 63, .binOp .sub 3 (.tmp 60) (.tmp 62) 3, some (59, true)⟩, false),
        (⟨some 64, .fieldAddr 24 (.tmp 1) 0, some (59, true)⟩, false),
        (⟨some 65, .load 3 (.tmp 64), some (59, true)⟩, false),
        (⟨some 66, .binOp .add 3 (.tmp 65) (.const (.int .i64 1)) 3, some (59, true)⟩, false),
        (⟨some 67, .binOp .geq 3 (.tmp 63) (.tmp 66) 3, some (59, true)⟩, false),
        (⟨some 68, .pick (.tmp 59) (.tmp 67) (.const (.bool false)), none⟩, false),
        (⟨some 69, .move (.tmp 68), none⟩, false),
        (⟨some 70, .move (.tmp 4), some (69, true)⟩, false),
        (⟨some 71, .fieldAddr 24 (.tmp 1) 1, some (69, true)⟩, false),
        (⟨some 72, .load 3 (.tmp 71), some (69, true)⟩, false),
        (⟨some 73, .binOp .sub 3 (.tmp 70) (.tmp 72) 3, some (69, true)⟩, false),
        (⟨some 74, .binOp .geq 3 (.tmp 73) (.const (.int .i64 1)) 3, some (69, true)⟩, false),
        (⟨some 75, .pick (.tmp 69) (.tmp 74) (.const (.bool false)), none⟩, false),
        (⟨some 2, .assign (.tmp 75), none⟩, false)] [])
  (.ret)))))))
abbrev r_stanchionlaw06_ConfMeets : List ResultVar := [.tmp 2]
theorem fits_stanchionlaw06_ConfMeets : Fits Try.prog 5 1 c_stanchionlaw06_ConfMeets r_stanchionlaw06_ConfMeets :=
  ⟨_, _, [⟨[], [], [], []⟩, ⟨[], [], [], []⟩, ⟨[], [], [], []⟩, ⟨[], [], [], []⟩, ⟨[], [], [], []⟩, ⟨[], [], [], []⟩, ⟨[], [], [], []⟩, ⟨[], [], [], []⟩, ⟨[], [], [], []⟩, ⟨[], [], [], []⟩, ⟨[], [], [], []⟩, ⟨[], [], [], []⟩, ⟨[], [], [], []⟩, ⟨[], [], [], []⟩, ⟨[], [], [], []⟩, ⟨[], [], [], []⟩, ⟨[], [], [], []⟩, ⟨[some (0, false), some (2, true), some (3, true), some (5, true), some (1, false), some (4, false), some (6, false), some (7, false), some (8, false), some (9, false), some (10, false), some (11, false), some (12, false), some (13, false), some (14, false), some (15, false), some (16, false), some (17, false), some (18, false), some (19, false), some (20, false), some (21, false), some (22, false), some (23, false), some (24, false)], [], [⟨some 52, [1], [], false⟩, ⟨some 53, [52], [0], true⟩, ⟨some 54, [1], [], false⟩, ⟨some 55, [54], [2], false⟩, ⟨some 56, [53, 55], [1, 3], false⟩, ⟨some 57, [4], [], false⟩, ⟨some 58, [56, 57], [4, 5], false⟩, ⟨some 59, [58], [6, 1], false⟩, ⟨some 60, [3, 59], [7], false⟩, ⟨some 61, [1, 59], [7], false⟩, ⟨some 62, [61, 59], [9, 7], false⟩, ⟨some 63, [60, 62, 59], [8, 10, 7], false⟩, ⟨some 64, [1, 59], [7], false⟩, ⟨some 65, [64, 59], [12, 7], false⟩, ⟨some 66, [65, 59], [13, 7], false⟩, ⟨some 67, [63, 66, 59], [11, 14, 7], false⟩, ⟨some 68, [59, 67], [7, 15], false⟩, ⟨some 69, [68], [16, 7], false⟩, ⟨some 70, [4, 69], [17], false⟩, ⟨some 71, [1, 69], [17], false⟩, ⟨some 72, [71, 69], [19, 17], false⟩, ⟨some 73, [70, 72, 69], [18, 20, 17], false⟩, ⟨some 74, [73, 69], [21, 17], false⟩, ⟨some 75, [69, 74], [17, 22], false⟩, ⟨some 2, [75], [23, 17, 0, 1, 2, 3, 4, 5, 6, 7, 8, 9, 10, 11, 12, 13, 14, 15, 16, 17, 18, 19, 20, 21, 22, 23], false⟩], [0, 1, 0, 4, 15, 0, 63, 127, 255, 255, 767, 2047, 255, 4351, 12543, 32767, 65535, 131071, 262143, 262143, 786431, 2097151, 4194303, 8388607, 16777215]⟩], Try.func5, by kernel_rfl, rfl, by kernel_rfl, by kernel_rfl, by decide, rfl⟩

/-! stanchion/stanchionlaw06.ConfTurns -/
abbrev n_stanchionlaw06_ConfTurns : FuncId := 6
def c_stanchionlaw06_ConfTurns : LC :=
  .seq (.reg [⟨some 2, .box 24 (.tmp 0), none⟩,
        ⟨some 4, .assign (.const (.bool false)), none⟩] [])
  (.seq (.seq (.reg [⟨some 10, .call ⟨.value (.func 8), #[], #[]⟩, none⟩,
          ⟨some 11, .unOp .not 4 (.tmp 10), none⟩] [])
    (.cond (.tmp 11) [] (.seq (.reg [⟨some 4, .assign (.const (.bool false)), none⟩] [])
      (.ret))
    (.skip)))
  (.seq (.reg [⟨some 12, .load 24 (.tmp 2), none⟩,
        ⟨some 13, .call ⟨.value (.func 12), #[.tmp 12, .const (.int .i64 2)], #[24, 3]⟩, none⟩,
        ⟨some 5, .assign (.tmp 13), none⟩] [])
  (.seq (.seq (.reg [⟨some 14, .move (.tmp 1), none⟩,
          ⟨some 15, .binOp .lss 3 (.tmp 14) (.const (.int .i64 0)) 3, none⟩,
          ⟨some 16, .move (.tmp 15), none⟩,
          ⟨some 17, .move (.tmp 1), some (16, false)⟩,
          ⟨some 18, .binOp .gtr 3 (.tmp 17) (.const (.int .i64 1099511627776)) 3, some (16, false)⟩,
          ⟨some 19, .pick (.tmp 16) (.const (.bool true)) (.tmp 18), none⟩,
          ⟨some 20, .move (.tmp 19), none⟩,
          ⟨some 21, .move (.tmp 5), some (20, false)⟩,
          ⟨some 22, .binOp .eql 3 (.tmp 21) (.const (.int .i64 0)) 3, some (20, false)⟩,
          ⟨some 23, .pick (.tmp 20) (.const (.bool true)) (.tmp 22), none⟩] [])
    (.cond (.tmp 23) [] (.seq (.reg [⟨some 4, .assign (.const (.bool true)), none⟩] [])
      (.ret))
    (.skip)))
  (.seq (.reg [⟨some 24, .build 43 #[], none⟩,
        ⟨some 6, .alloc 43, none⟩,
        ⟨none, .store 43 (.tmp 6) (.tmp 24), none⟩] [])
  (.seq (.seq (.reg [⟨some 7, .assign (.const (.int .i64 0)), none⟩] [])
    (.block 0 (.loop (.seq (.seq (.reg [⟨some 25, .move (.tmp 7), none⟩,
                ⟨some 26, .move (.tmp 5), none⟩,
                ⟨some 27, .binOp .lss 3 (.tmp 25) (.tmp 26) 3, none⟩] [])
          (.cond (.tmp 27) [] (.skip)
          (.exit 0)))
        (.seq (.block 1 (.seq (.reg [⟨some 30, .load 24 (.tmp 2), none⟩,
                  ⟨some 31, .move (.tmp 1), none⟩,
                  ⟨some 32, .move (.tmp 7), none⟩,
                  ⟨some 33, .binOp .add 3 (.tmp 31) (.tmp 32) 3, none⟩,
                  ⟨some 34, .call ⟨.value (.func 18), #[.tmp 30, .tmp 33], #[24, 3]⟩, none⟩,
                  ⟨some 8, .assign (.tmp 34), none⟩] [])
            (.seq (.seq (.reg [⟨some 35, .move (.tmp 8), none⟩,
                    ⟨some 36, .binOp .lss 3 (.tmp 35) (.const (.int .i64 0)) 3, none⟩,
                    ⟨some 37, .move (.tmp 36), none⟩,
                    ⟨some 38, .move (.tmp 8), some (37, false)⟩,
                    ⟨some 39, .move (.tmp 5), some (37, false)⟩,
                    ⟨some 40, .binOp .geq 3 (.tmp 38) (.tmp 39) 3, some (37, false)⟩,
                    ⟨some 41, .pick (.tmp 37) (.const (.bool true)) (.tmp 40), none⟩,
                    ⟨some 42, .move (.tmp 41), none⟩,
                    ⟨some 43, .move (.tmp 8), some (42, false)⟩,
                    ⟨some 44, .load 24 (.tmp 2), some (42, false)⟩,
                    ⟨some 45, .move (.tmp 1), some (42, false)⟩,
                    ⟨some 46, .move (.tmp 7), some (42, false)⟩,
                    ⟨some 47, .binOp .add 3 (.tmp 45) (.tmp 46) 3, some (42, false)⟩,
                    ⟨some 48, .move (.tmp 5), some (42, false)⟩,
                    ⟨some 49, .binOp .add 3 (.tmp 47) (.tmp 48) 3, some (42, false)⟩,
                    ⟨some 50, .call ⟨.value (.func 18), #[.tmp 44, .tmp 49], #[24, 3]⟩, some (42, false)⟩,
                    ⟨some 51, .binOp .neq 3 (.tmp 43) (.tmp 50) 3, some (42, false)⟩,
                    ⟨some 52, .pick (.tmp 42) (.const (.bool true)) (.tmp 51), none⟩] [])
              (.cond (.tmp 52) [] (.seq (.reg [⟨some 4, .assign (.const (.bool false)), none⟩] [])
                (.ret))
              (.skip)))
            (.reg [⟨some 53, .move (.tmp 8), none⟩,
                ⟨some 54, .indexAddr 43 (.tmp 6) (.tmp 53), none⟩,
                ⟨some 55, .load 3 (.tmp 54), none⟩,
                ⟨some 56, .binOp .add 3 (.tmp 55) (.const (.int .i64 1)) 3, none⟩,
                ⟨some 57, .indexAddr 43 (.tmp 6) (.tmp 53), none⟩,
                ⟨none, .store 3 (.tmp 57) (.tmp 56), none⟩] []))))
        (.reg [⟨some 28, .move (.tmp 7), none⟩,
            ⟨some 29, .binOp .add 3 (.tmp 28) (.const (.int .i64 1)) 3, none⟩,
            ⟨some 7, .assign (.tmp 29), none⟩] []))))))
  (.seq (.seq (.reg [⟨some 9, .assign (.const (.int .i64 0)), none⟩] [])
    (.block 2 (.loop (.seq (.seq (.reg [⟨some 58, .move (.tmp 9), none⟩,
                ⟨some 59, .move (.tmp 5), none⟩,
                ⟨some 60, .binOp .lss 3 (.tmp 58) (.tmp 59) 3, none⟩] [])
          (.cond (.tmp 60) [] (.skip)
          (.exit 2)))
        (.seq (.block 3 (.seq (.reg [⟨some 63, .move (.tmp 9), none⟩,
                  ⟨some 64, .indexAddr 43 (.tmp 6) (.tmp 63), none⟩,
                  ⟨some 65, .load 3 (.tmp 64), none⟩,
                  ⟨some 66, .binOp .neq 3 (.tmp 65) (.const (.int .i64 1)) 3, none⟩] [])
            (.cond (.tmp 66) [] (.seq (.reg [⟨some 4, .assign (.const (.bool false)), none⟩] [])
              (.ret))
            (.skip))))
        (.reg [⟨some 61, .move (.tmp 9), none⟩,
            ⟨some 62, .binOp .add 3 (.tmp 61) (.const (.int .i64 1)) 3, none⟩,
            ⟨some 9, .assign (.tmp 62), none⟩] []))))))
  (.seq (.reg [⟨some 4, .assign (.const (.bool true)), none⟩] [])
  (.ret))))))))
abbrev r_stanchionlaw06_ConfTurns : List ResultVar := [.tmp 4]
theorem fits_stanchionlaw06_ConfTurns : Fits Try.prog 6 2 c_stanchionlaw06_ConfTurns r_stanchionlaw06_ConfTurns :=
  ⟨_, _, [⟨[], [], [], []⟩, ⟨[], [], [], []⟩, ⟨[], [], [], []⟩, ⟨[], [], [], []⟩, ⟨[], [], [], []⟩, ⟨[], [], [], []⟩, ⟨[], [], [], []⟩, ⟨[], [], [], []⟩, ⟨[], [], [], []⟩, ⟨[], [], [], []⟩, ⟨[], [], [], []⟩, ⟨[], [], [], []⟩, ⟨[], [], [], []⟩, ⟨[], [], [], []⟩, ⟨[], [], [], []⟩, ⟨[], [], [], []⟩, ⟨[], [], [], []⟩, ⟨[], [], [], []⟩, ⟨[], [], [], []⟩, ⟨[], [], [], []⟩, ⟨[], [], [], []⟩, ⟨[], [], [], []⟩, ⟨[], [], [], []⟩, ⟨[], [], [], []⟩, ⟨[], [], [], []⟩, ⟨[], [], [], []⟩], Try.func6, by kernel_rfl, rfl, by kernel_rfl, by kernel_rfl, by decide, rfl⟩

/-! stanchion/stanchionlaw06.ConfSums -/
abbrev n_stanchionlaw06_ConfSums : FuncId := 7
def c_stanchionlaw06_ConfSums : LC :=
  .seq (.reg [⟨some 1, .box 24 (.tmp 0), none⟩,
        ⟨some 2, .assign (.const (.bool false)), none⟩] [])
  (.seq (.seq (.reg [⟨some 7, .call ⟨.value (.func 8), #[], #[]⟩, none⟩,
          ⟨some 8, .unOp .not 4 (.tmp 7), none⟩] [])
    (.cond (.tmp 8) [] (.seq (.reg [⟨some 2, .assign (.const (.bool false)), none⟩] [])
      (.ret))
    (.skip)))
  (.seq (.reg [⟨some 9, .load 24 (.tmp 1), none⟩,
        ⟨some 10, .buildSlice 35 4 #[(0, .const (.int .i64 1)), (1, .const (.int .i64 2)), (2, .const (.int .i64 3)), (3, .const (.int .i64 4))], none⟩,
        ⟨some 11, .call ⟨.value (.func 23), #[.tmp 9, .tmp 10], #[24, 35]⟩, none⟩,
        ⟨some 3, .assign (.tmp 11), none⟩] [])
  (.seq (.drw [(⟨some 12, .load 24 (.tmp 1), none⟩, false),
        (⟨some 14, .load 24 (.tmp 1), none⟩, true),
        (⟨some 17, .load 24 (.tmp 1), none⟩, true),
        (⟨some 20, .load 24 (.tmp 1), none⟩, true),
        (⟨some 13, .call ⟨.value (.func 12), #[.tmp 12, .const (.int .i64 1)], #[24, 3]⟩, none⟩, false),
        (⟨some 15, .call ⟨.value (.func 12), #[.tmp 14, .const (.int .i64 2)], #[24, 3]⟩, none⟩, false),
        (⟨some 16, .binOp .add 3 (.tmp 13) (.tmp 15) 3, none⟩, true),
        (⟨some 18, .call ⟨.value (.func 12), #[.tmp 17, .const (.int .i64 3)], #[24, 3]⟩, none⟩, false),
        (⟨some 19, .binOp .add 3 (.tmp 16) (.tmp 18) 3, none⟩, true),
        (⟨some 21, .call ⟨.value (.func 12), #[.tmp 20, .const (.int .i64 4)], #[24, 3]⟩, none⟩, false),
        (⟨some 22, .binOp .add 3 (.tmp 19) (.tmp 21) 3, none⟩, false),
        (⟨some 4, .assign (.tmp 22), none⟩, false)] [])
  (.seq (.seq (.reg [⟨some 5, .assign (.const (.int .i64 0)), none⟩] [])
    (.block 0 (.loop (.seq (.seq (.reg [⟨some 23, .move (.tmp 5), none⟩,
                ⟨some 24, .move (.tmp 3), none⟩,
                ⟨some 25, .call ⟨.builtin .len, #[.tmp 24], #[37]⟩, none⟩,
                ⟨some 26, .binOp .lss 3 (.tmp 23) (.tmp 25) 3, none⟩] [])
          (.cond (.tmp 26) [] (.skip)
          (.exit 0)))
        (.seq (.block 1 (.seq (.seq (.reg [⟨some 6, .assign (.const (.int .i64 0)), none⟩] [])
              (.block 2 (.loop (.seq (.seq (.reg [⟨some 29, .move (.tmp 6), none⟩,
                          ⟨some 30, .move (.tmp 5), none⟩,
                          ⟨some 31, .binOp .lss 3 (.tmp 29) (.tmp 30) 3, none⟩] [])
                    (.cond (.tmp 31) [] (.skip)
                    (.exit 2)))
                  (.seq (.block 3 (.seq (.drw [(⟨some 34, .move (.tmp 3), none⟩, false),
                            (⟨some 35, .move (.tmp 5), none⟩, false),
                            (⟨some 36, .indexAddr 37 (.tmp 34) (.tmp 35), none⟩, false),
                            (⟨some 37, .load 26 (.tmp 36), none⟩, false),
                            (⟨some 38, .move (.tmp 3), none⟩, false),
                            (⟨some 39, .move (.tmp 6), none⟩, false),
                            (⟨some 40, .indexAddr 37 (.tmp 38) (.tmp 39), none⟩, false),
                            (⟨some 41, .load 26 (.tmp 40), none⟩, false),
                            (⟨some 42, .binOp .eql 26 (.tmp 37) (.tmp 41) 26, none⟩, false)] [])
                      (.cond (.tmp 42) [] (.seq (.reg [⟨some 2, .assign (.const (.bool false)), none⟩] [])
                        (.ret))
                      (.skip))))
                  (.reg [⟨some 32, .move (.tmp 6), none⟩,
                      ⟨some 33, .binOp .add 3 (.tmp 32) (.const (.int .i64 1)) 3, none⟩,
                      ⟨some 6, .assign (.tmp 33), none⟩] []))))))
            (.seq (.drw [(⟨some 43, .load 24 (.tmp 1), none⟩, false),
                  (⟨some 44, .move (.tmp 3), none⟩, false),
                  (⟨some 45, .move (.tmp 5), none⟩, false),
                  (⟨some 46, .indexAddr 37 (.tmp 44) (.tmp 45), none⟩, false),
                  (⟨some 47, .load 26 (.tmp 46), none⟩, false),
                  (⟨some 48, .call ⟨.value (.func 20), #[.tmp 43, .tmp 47], #[24, 26]⟩, none⟩, false),
                  (⟨some 49, .unOp .not 4 (.tmp 48), none⟩, false)] [])
            (.cond (.tmp 49) [] (.seq (.reg [⟨some 2, .assign (.const (.bool false)), none⟩] [])
              (.ret))
            (.skip)))))
        (.reg [⟨some 27, .move (.tmp 5), none⟩,
            ⟨some 28, .binOp .add 3 (.tmp 27) (.const (.int .i64 1)) 3, none⟩,
            ⟨some 5, .assign (.tmp 28), none⟩] []))))))
  (.seq (.drw [(⟨some 50, .move (.tmp 3), none⟩, false),
        (⟨some 51, .call ⟨.builtin .len, #[.tmp 50], #[37]⟩, none⟩, false),
        (⟨some 52, .move (.tmp 4), none⟩, false),
        (⟨some 53, .binOp .eql 3 (.tmp 51) (.tmp 52) 3, none⟩, false),
        (⟨some 54, .move (.tmp 53), none⟩, false),
        (⟨some 55, .move (.tmp 4), some (54, true)⟩, true),
        (⟨some 56, .binOp .eql 3 (.tmp 55) (.const (.int .i64 0)) 3, some (54, true)⟩, true),
        (⟨some 57, .load 24 (.tmp 1), some (54, true)⟩, false),
        (⟨some 58, .call ⟨.value (.func 10), #[.tmp 57], #[24]⟩, some (54, true)⟩, false),
        (⟨some 59, .binOp .neq 29 (.tmp 58) (.const (.int .i64 0)) 29, some (54, true)⟩, false),
        (⟨some 60, .binOp .eql 4 (.tmp 56) (.tmp 59) 4, some (54, true)⟩, false),
        (⟨some 61, .pick (.tmp 54) (.tmp 60) (.const (.bool false)), none⟩, false),
        (⟨some 62, .move (.tmp 61), none⟩, false),
        (⟨some 63, .load 24 (.tmp 1), some (62, true)⟩, true),
        (⟨some 64, .load 24 (.tmp 1), some (62, true)⟩, false),
        (⟨some 65, .call ⟨.value (.func 12), #[.tmp 64, .const (.int .i64 3)], #[24, 3]⟩, some (62, true)⟩, false),
        (⟨some 66, .build 26 #[(0, .const (.int .i64 3)), (1, .tmp 65)], some (62, true)⟩, false),
        (⟨some 67, .call ⟨.value (.func 20), #[.tmp 63, .tmp 66], #[24, 26]⟩, some (62, true)⟩, false),
        (⟨some 68, .unOp .not 4 (.tmp 67), some (62, true)⟩, false),
        (⟨some 69, .pick (.tmp 62) (.tmp 68) (.const (.bool false)), none⟩, false),
        (⟨some 2, .assign (.tmp 69), none⟩, false)] [])
  (.ret))))))
abbrev r_stanchionlaw06_ConfSums : List ResultVar := [.tmp 2]
theorem fits_stanchionlaw06_ConfSums : Fits Try.prog 7 1 c_stanchionlaw06_ConfSums r_stanchionlaw06_ConfSums :=
  ⟨_, _, [⟨[], [], [], []⟩, ⟨[], [], [], []⟩, ⟨[], [], [], []⟩, ⟨[], [], [], []⟩, ⟨[], [], [], []⟩, ⟨[some (0, false), some (2, true), some (5, true), some (8, true), some (1, false), some (3, false), some (4, true), some (6, false), some (7, true), some (9, false), some (10, false), some (11, false)], [], [⟨some 12, [1], [], false⟩, ⟨some 13, [12], [0], true⟩, ⟨some 14, [1], [], false⟩, ⟨some 15, [14], [2, 1], true⟩, ⟨some 16, [13, 15], [1, 3], false⟩, ⟨some 17, [1], [], false⟩, ⟨some 18, [17], [5, 3], true⟩, ⟨some 19, [16, 18], [4, 6], false⟩, ⟨some 20, [1], [], false⟩, ⟨some 21, [20], [8, 6], true⟩, ⟨some 22, [19, 21], [7, 9], false⟩, ⟨some 4, [22], [10, 9, 0, 1, 2, 3, 4, 5, 6, 7, 8, 9, 10], false⟩], [0, 1, 0, 7, 15, 0, 47, 127, 0, 367, 1023, 2047]⟩, ⟨[], [], [], []⟩, ⟨[], [], [], []⟩, ⟨[], [], [], []⟩, ⟨[], [], [], []⟩, ⟨[], [], [], []⟩, ⟨[], [], [], []⟩, ⟨[some (0, false), some (1, false), some (2, false), some (3, false), some (4, false), some (5, false), some (6, false), some (7, false), some (8, false)], [], [⟨some 34, [3], [], false⟩, ⟨some 35, [5], [], false⟩, ⟨some 36, [34, 35], [0, 1], false⟩, ⟨some 37, [36], [2], false⟩, ⟨some 38, [3], [], false⟩, ⟨some 39, [6], [], false⟩, ⟨some 40, [38, 39], [4, 5], false⟩, ⟨some 41, [40], [6], false⟩, ⟨some 42, [37, 41], [3, 7], false⟩], [0, 0, 3, 7, 0, 0, 48, 112, 255]⟩, ⟨[], [], [], []⟩, ⟨[], [], [], []⟩, ⟨[], [], [], []⟩, ⟨[some (0, false), some (1, false), some (2, false), some (3, false), some (4, false), some (5, false), some (6, false)], [], [⟨some 43, [1], [], false⟩, ⟨some 44, [3], [], false⟩, ⟨some 45, [5], [], false⟩, ⟨some 46, [44, 45], [1, 2], false⟩, ⟨some 47, [46], [3], false⟩, ⟨some 48, [43, 47], [0, 4], true⟩, ⟨some 49, [48], [5], false⟩], [0, 0, 0, 6, 14, 31, 63]⟩, ⟨[], [], [], []⟩, ⟨[], [], [], []⟩, ⟨[], [], [], []⟩, ⟨[some (0, false), some (1, false), some (2, false), some (3, false), some (4, false), some (5, true), some (6, true), some (7, false), some (8, false), some (9, false), some (10, false), some (11, false), some (12, false), some (13, true), some (14, false), some (15, false), some (16, false), some (17, false), some (18, false), some (19, false), some (20, false)], [], [⟨some 50, [3], [], false⟩, ⟨some 51, [50], [0], false⟩, ⟨some 52, [4], [], false⟩, ⟨some 53, [51, 52], [1, 2], false⟩, ⟨some 54, [53], [3], false⟩, ⟨some 55, [4, 54], [4], false⟩, ⟨some 56, [55, 54], [5, 4], false⟩, ⟨some 57, [1, 54], [4], false⟩, ⟨some 58, [57, 54], [7, 4, 4], true⟩, ⟨some 59, [58, 54], [8, 4], false⟩, ⟨some 60, [56, 59, 54], [6, 9, 4], false⟩, ⟨some 61, [54, 60], [4, 10], false⟩, ⟨some 62, [61], [11, 8], false⟩, ⟨some 63, [1, 62], [12], false⟩, ⟨some 64, [1, 62], [12], false⟩, ⟨some 65, [64, 62], [14, 12, 12], true⟩, ⟨some 66, [65, 62], [15, 12], false⟩, ⟨some 67, [63, 66, 62], [13, 16, 15, 12], true⟩, ⟨some 68, [67, 62], [17, 12], false⟩, ⟨some 69, [62, 68], [12, 18], false⟩, ⟨some 2, [69], [19, 17, 0, 1, 2, 3, 4, 5, 6, 7, 8, 9, 10, 11, 12, 13, 14, 15, 16, 17, 18, 19], false⟩], [0, 1, 0, 7, 15, 31, 63, 31, 159, 415, 1023, 2047, 4095, 8191, 8191, 24575, 57343, 131071, 262143, 524287, 1048575]⟩], Try.func7, by kernel_rfl, rfl, by kernel_rfl, by kernel_rfl, by decide, rfl⟩

/-! stanchion/stanchionlaw06.alive -/
abbrev n_stanchionlaw06_alive : FuncId := 8
def c_stanchionlaw06_alive : LC :=
  .seq (.reg [⟨some 0, .assign (.const (.bool false)), none⟩] [])
  (.seq (.reg [⟨some 2, .build 24 #[(0, .const (.int .i64 1)), (1, .const (.int .i64 1)), (2, .const (.int .i64 1)), (3, .const (.int .i64 4)), (4, .const (.int .i64 2)), (5, .const (.int .i64 3))], none⟩,
        ⟨some 1, .alloc 24, none⟩,
        ⟨none, .store 24 (.tmp 1) (.tmp 2), none⟩] [])
  (.seq (.reg (⟨some 3, .load 24 (.tmp 1), none⟩ ::
        ⟨some 4, .call ⟨.value (.func 10), #[.tmp 3], #[24]⟩, none⟩ ::
        ⟨some 5, .binOp .eql 29 (.tmp 4) (.const (.int .i64 0)) 29, none⟩ ::
        ⟨some 6, .move (.tmp 5), none⟩ ::
        ⟨some 7, .load 24 (.tmp 1), some (6, true)⟩ ::
        ⟨some 8, .call ⟨.value (.func 12), #[.tmp 7, .const (.int .i64 2)], #[24, 3]⟩, some (6, true)⟩ ::
        ⟨some 9, .binOp .eql 3 (.tmp 8) (.const (.int .i64 4)) 3, some (6, true)⟩ ::
        ⟨some 10, .pick (.tmp 6) (.tmp 9) (.const (.bool false)), none⟩ ::
        ⟨some 11, .move (.tmp 10), none⟩ ::
        ⟨some 12, .load 24 (.tmp 1), some (11, true)⟩ ::
        ⟨some 13, .call ⟨.value (.func 12), #[.tmp 12, .const (.int .i64 3)], #[24, 3]⟩, some (11, true)⟩ ::
        ⟨some 14, .binOp .eql 3 (.tmp 13) (.const (.int .i64 3)) 3, some (11, true)⟩ ::
        ⟨some 15, .pick (.tmp 11) (.tmp 14) (.const (.bool false)), none⟩ ::
        ⟨some 16, .move (.tmp 15), none⟩ ::
        ⟨some 17, .load 24 (.tmp 1), some (16, true)⟩ ::
        ⟨some 18, .call ⟨.value (.func 14), #[.tmp 17], #[24]⟩, some (16, true)⟩ ::
        ⟨some 19, .binOp .eql 3 (.tmp 18) (.const (.int .i64 3)) 3, some (16, true)⟩ ::
        ⟨some 20, .pick (.tmp 16) (.tmp 19) (.const (.bool false)), none⟩ ::
        ⟨some 21, .move (.tmp 20), none⟩ ::
        ⟨some 22, .load 24 (.tmp 1), some (21, true)⟩ ::
        ⟨some 23, .call ⟨.value (.func 16), #[.tmp 22], #[24]⟩, some (21, true)⟩ ::
        ⟨some 24, .binOp .eql 3 (.tmp 23) (.const (.int .i64 2)) 3, some (21, true)⟩ ::
        ⟨some 25, .pick (.tmp 21) (.tmp 24) (.const (.bool false)), none⟩ ::
        ⟨some 26, .move (.tmp 25), none⟩ ::
        ⟨some 27, .load 24 (.tmp 1), some (26, true)⟩ ::
        ⟨some 28, .call ⟨.value (.func 18), #[.tmp 27, .const (.int .i64 6)], #[24, 3]⟩, some (26, true)⟩ ::
        ⟨some 29, .binOp .eql 3 (.tmp 28) (.const (.int .i64 2)) 3, some (26, true)⟩ ::
        ⟨some 30, .pick (.tmp 26) (.tmp 29) (.const (.bool false)), none⟩ ::
        ⟨some 31, .move (.tmp 30), none⟩ ::
        ⟨some 32, .load 24 (.tmp 1), some (31, true)⟩ ::
        ⟨some 33, .build 26 #[(0, .const (.int .i64 1)), (1, .const (.int .i64 3))], some (31, true)⟩ ::
        ⟨some 34, .call ⟨.value (.func 20), #[.tmp 32, .tmp 33], #[24, 26]⟩, some (31, true)⟩ ::
        ⟨some 35, .pick (.tmp 31) (.tmp 34) (.const (.bool false)), none⟩ ::
        ⟨some 36, .move (.tmp 35), none⟩ ::
        ⟨some 37, .load 24 (.tmp 1), some (36, true)⟩ ::
        ⟨some 38, .buildSlice 35 1 #[(0, .const (.int .i64 3))], some (36, true)⟩ ::
        ⟨some 39, .call ⟨.value (.func 23), #[.tmp 37, .tmp 38], #[24, 35]⟩, some (36, true)⟩ ::
        ⟨some 40, .call ⟨.builtin .len, #[.tmp 39], #[37]⟩, some (36, true)⟩ ::
        ⟨some 41, .binOp .eql 3 (.tmp 40) (.const (.int .i64 3)) 3, some (36, true)⟩ ::
        ⟨some 42, .pick (.tmp 36) (.tmp 41) (.const (.bool false)), none⟩ ::
        ⟨some 0, .assign (.tmp 42), none⟩ :: []) [])
  (.ret)))
abbrev r_stanchionlaw06_alive : List ResultVar := [.tmp 0]
theorem fits_stanchionlaw06_alive : Fits Try.prog 8 0 c_stanchionlaw06_alive r_stanchionlaw06_alive :=
  ⟨_, _, [⟨[], [], [], []⟩, ⟨[], [], [], []⟩, ⟨[], [], [], []⟩], Try.func8, by kernel_rfl, rfl, by kernel_rfl, by kernel_rfl, by decide, rfl⟩

/-! stanchion/stanchionref00.CopyConf -/
abbrev n_stanchionref00_CopyConf : FuncId := 9
def c_stanchionref00_CopyConf : LC :=
  .seq (.reg [⟨some 1, .box 24 (.tmp 0), none⟩,
        ⟨some 2, .alloc 24, none⟩] [])
  (.seq (.reg [⟨some 3, .fieldAddr 24 (.tmp 1) 6, none⟩,
        ⟨some 4, .load 22 (.tmp 3), none⟩,
        ⟨some 5, .call ⟨.value (.func 26), #[.tmp 4], #[22]⟩, none⟩,
        ⟨some 6, .fieldAddr 24 (.tmp 1) 6, none⟩,
        ⟨none, .store 22 (.tmp 6) (.tmp 5), none⟩] [])
  (.seq (.reg [⟨some 7, .load 24 (.tmp 1), none⟩,
        ⟨none, .store 24 (.tmp 2) (.tmp 7), none⟩] [])
  (.ret)))
abbrev r_stanchionref00_CopyConf : List ResultVar := [.cell 2 24]
theorem fits_stanchionref00_CopyConf : Fits Try.prog 9 1 c_stanchionref00_CopyConf r_stanchionref00_CopyConf :=
  ⟨_, _, [⟨[], [], [], []⟩, ⟨[], [], [], []⟩, ⟨[], [], [], []⟩], Try.func9, by kernel_rfl, rfl, by kernel_rfl, by kernel_rfl, by decide, rfl⟩

/-! stanchion/conf.Check -/
abbrev n_conf_Check : FuncId := 10
def c_conf_Check : LC :=
  .seq (.reg [⟨some 1, .box 24 (.tmp 0), none⟩,
        ⟨some 2, .assign (.const (.int .i64 0)), none⟩] [])
  (.seq (.seq (.reg [⟨some 3, .fieldAddr 24 (.tmp 1) 0, none⟩,
          ⟨some 4, .load 3 (.tmp 3), none⟩,
          ⟨some 5, .fieldAddr 24 (.tmp 1) 1, none⟩,
          ⟨some 6, .load 3 (.tmp 5), none⟩,
          ⟨some 7, .fieldAddr 24 (.tmp 1) 0, none⟩,
          ⟨some 8, .load 3 (.tmp 7), none⟩,
          ⟨some 9, .fieldAddr 24 (.tmp 1) 2, none⟩,
          ⟨some 10, .load 3 (.tmp 9), none⟩,
          ⟨some 11, .fieldAddr 24 (.tmp 1) 3, none⟩,
          ⟨some 12, .load 3 (.tmp 11), none⟩,
          ⟨some 13, .fieldAddr 24 (.tmp 1) 4, none⟩,
          ⟨some 14, .load 3 (.tmp 13), none⟩,
          ⟨some 15, .fieldAddr 24 (.tmp 1) 3, none⟩,
          ⟨some 16, .load 3 (.tmp 15), none⟩,
          ⟨some 17, .fieldAddr 24 (.tmp 1) 5, none⟩,
          ⟨some 18, .load 3 (.tmp 17), none⟩,
          ⟨some 19, .fieldAddr 24 (.tmp 1) 6, none⟩,
          ⟨some 20, .load 22 (.tmp 19), none⟩,
          ⟨some 21, .call ⟨.builtin .len, #[.tmp 20], #[22]⟩, none⟩,
          ⟨some 22, .buildSlice 35 21 #[(0, .const (.int .i64 0)), (1, .tmp 4), (2, .const (.int .i64 2)), (3, .const (.int .i64 0)), (4, .tmp 6), (5, .tmp 8), (6, .const (.int .i64 1)), (7, .tmp 10), (8, .const (.int .i64 8)), (9, .const (.int .i64 1)), (10, .tmp 12), (11, .const (.int .i64 8)), (12, .const (.int .i64 1)), (13, .tmp 14), (14, .tmp 16), (15, .const (.int .i64 1)), (16, .tmp 18), (17, .const (.int .i64 1000)), (18, .const (.int .i64 0)), (19, .tmp 21), (20, .const (.int .i64 64))], none⟩,
          ⟨some 23, .call ⟨.value (.func 27), #[.tmp 22], #[35]⟩, none⟩,
          ⟨some 24, .unOp .not 4 (.tmp 23), none⟩] [])
    (.cond (.tmp 24) [] (.seq (.reg [⟨some 2, .assign (.const (.int .i64 60)), none⟩] [])
      (.ret))
    (.skip)))
  (.seq (.reg [⟨some 2, .assign (.const (.int .i64 0)), none⟩] [])
  (.ret)))
abbrev r_conf_Check : List ResultVar := [.tmp 2]
theorem fits_conf_Check : Fits Try.prog 10 1 c_conf_Check r_conf_Check :=
  ⟨_, _, [⟨[], [], [], []⟩, ⟨[], [], [], []⟩, ⟨[], [], [], []⟩, ⟨[], [], [], []⟩, ⟨[], [], [], []⟩], Try.func10, by kernel_rfl, rfl, by kernel_rfl, by kernel_rfl, by decide, rfl⟩

/-! stanchion/stanchionref06.Check -/
abbrev n_stanchionref06_Check : FuncId := 11
def c_stanchionref06_Check : LC :=
  .seq (.reg [⟨some 1, .box 24 (.tmp 0), none⟩,
        ⟨some 2, .assign (.const (.int .i64 0)), none⟩] [])
  (.seq (.seq (.reg (⟨some 3, .fieldAddr 24 (.tmp 1) 1, none⟩ ::
          ⟨some 4, .load 3 (.tmp 3), none⟩ ::
          ⟨some 5, .binOp .lss 3 (.tmp 4) (.const (.int .i64 0)) 3, none⟩ ::
          ⟨some 6, .move (.tmp 5), none⟩ ::
          ⟨some 7, .fieldAddr 24 (.tmp 1) 1, some (6, false)⟩ ::
          ⟨some 8, .load 3 (.tmp 7), some (6, false)⟩ ::
          ⟨some 9, .fieldAddr 24 (.tmp 1) 0, some (6, false)⟩ ::
          ⟨some 10, .load 3 (.tmp 9), some (6, false)⟩ ::
          ⟨some 11, .binOp .gtr 3 (.tmp 8) (.tmp 10) 3, some (6, false)⟩ ::
          ⟨some 12, .pick (.tmp 6) (.const (.bool true)) (.tmp 11), none⟩ ::
          ⟨some 13, .move (.tmp 12), none⟩ ::
          ⟨some 14, .fieldAddr 24 (.tmp 1) 0, some (13, false)⟩ ::
          ⟨some 15, .load 3 (.tmp 14), some (13, false)⟩ ::
          ⟨some 16, .binOp .gtr 3 (.tmp 15) (.const (.int .i64 2)) 3, some (13, false)⟩ ::
          ⟨some 17, .pick (.tmp 13) (.const (.bool true)) (.tmp 16), none⟩ ::
          ⟨some 18, .move (.tmp 17), none⟩ ::
          ⟨some 19, .fieldAddr 24 (.tmp 1) 2, some (18, false)⟩ ::
          ⟨some 20, .load 3 (.tmp 19), some (18, false)⟩ ::
          ⟨some 21, .binOp .lss 3 (.tmp 20) (.const (.int .i64 1)) 3, some (18, false)⟩ ::
          ⟨some 22, .pick (.tmp 18) (.const (.bool true)) (.tmp 21), none⟩ ::
          ⟨some 23, .move (.tmp 22), none⟩ ::
          ⟨some 24, .fieldAddr 24 (.tmp 1) 2, some (23, false)⟩ ::
          ⟨some 25, .load 3 (.tmp 24), some (23, false)⟩ ::
          ⟨some 26, .binOp .gtr 3 (.tmp 25) (.const (.int .i64 8)) 3, some (23, false)⟩ ::
          ⟨some 27, .pick (.tmp 23) (.const (.bool true)) (.tmp 26), none⟩ ::
          ⟨some 28, .move (.tmp 27), none⟩ ::
          ⟨some 29, .fieldAddr 24 (.tmp 1) 3, some (28, false)⟩ ::
          ⟨some 30, .load 3 (.tmp 29), some (28, false)⟩ ::
          ⟨some 31, .binOp .lss 3 (.tmp 30) (.const (.int .i64 1)) 3, some (28, false)⟩ ::
          ⟨some 32, .pick (.tmp 28) (.const (.bool true)) (.tmp 31), none⟩ ::
          ⟨some 33, .move (.tmp 32), none⟩ ::
          ⟨some 34, .fieldAddr 24 (.tmp 1) 3, some (33, false)⟩ ::
          ⟨some 35, .load 3 (.tmp 34), some (33, false)⟩ ::
          ⟨some 36, .binOp .gtr 3 (.tmp 35) (.const (.int .i64 8)) 3, some (33, false)⟩ ::
          ⟨some 37, .pick (.tmp 33) (.const (.bool true)) (.tmp 36), none⟩ ::
          ⟨some 38, .move (.tmp 37), none⟩ ::
          ⟨some 39, .fieldAddr 24 (.tmp 1) 4, some (38, false)⟩ ::
          ⟨some 40, .load 3 (.tmp 39), some (38, false)⟩ ::
          ⟨some 41, .binOp .lss 3 (.tmp 40) (.const (.int .i64 1)) 3, some (38, false)⟩ ::
          ⟨some 42, .pick (.tmp 38) (.const (.bool true)) (.tmp 41), none⟩ ::
          ⟨some 43, .move (.tmp 42), none⟩ ::
          ⟨some 44, .fieldAddr 24 (.tmp 1) 4, some (43, false)⟩ ::
          ⟨some 45, .load 3 (.tmp 44), some (43, false)⟩ ::
          ⟨some 46, .fieldAddr 24 (.tmp 1) 3, some (43, false)⟩ ::
          ⟨some 47, .load 3 (.tmp 46), some (43, false)⟩ ::
          ⟨some 48, .binOp .gtr 3 (.tmp 45) (.tmp 47) 3, some (43, false)⟩ ::
          ⟨some 49, .pick (.tmp 43) (.const (.bool true)) (.tmp 48), none⟩ ::
          ⟨some 50, .move (.tmp 49), none⟩ ::
          ⟨some 51, .fieldAddr 24 (.tmp 1) 5, some (50, false)⟩ ::
          ⟨some 52, .load 3 (.tmp 51), some (50, false)⟩ ::
          ⟨some 53, .binOp .lss 3 (.tmp 52) (.const (.int .i64 1)) 3, some (50, false)⟩ ::
          ⟨some 54, .pick (.tmp 50) (.const (.bool true)) (.tmp 53), none⟩ ::
          ⟨some 55, .move (.tmp 54), none⟩ ::
          ⟨some 56, .fieldAddr 24 (.tmp 1) 5, some (55, false)⟩ ::
          ⟨some 57, .load 3 (.tmp 56), some (55, false)⟩ ::
          ⟨some 58, .binOp .gtr 3 (.tmp 57) (.const (.int .i64 1000)) 3, some (55, false)⟩ ::
          ⟨some 59, .pick (.tmp 55) (.const (.bool true)) (.tmp 58), none⟩ ::
          ⟨some 60, .move (.tmp 59), none⟩ ::
          ⟨some 61, .fieldAddr 24 (.tmp 1) 6, some (60, false)⟩ ::
          ⟨some 62, .load 22 (.tmp 61), some (60, false)⟩ ::
          ⟨some 63, .call ⟨.builtin .len, #[.tmp 62], #[22]⟩, some (60, false)⟩ ::
          ⟨some 64, .binOp .gtr 3 (.tmp 63) (.const (.int .i64 64)) 3, some (60, false)⟩ ::
          ⟨some 65, .pick (.tmp 60) (.const (.bool true)) (.tmp 64), none⟩ :: []) [])
    (.cond (.tmp 65) [] (.seq (.reg [⟨some 2, .assign (.const (.int .i64 60)), none⟩] [])
      (.ret))
    (.skip)))
  (.seq (.reg [⟨some 2, .assign (.const (.int .i64 0)), none⟩] [])
  (.ret)))
abbrev r_stanchionref06_Check : List ResultVar := [.tmp 2]
theorem fits_stanchionref06_Check : Fits Try.prog 11 1 c_stanchionref06_Check r_stanchionref06_Check :=
  ⟨_, _, [⟨[], [], [], []⟩, ⟨[], [], [], []⟩, ⟨[], [], [], []⟩, ⟨[], [], [], []⟩, ⟨[], [], [], []⟩], Try.func11, by kernel_rfl, rfl, by kernel_rfl, by kernel_rfl, by decide, rfl⟩

/-! stanchion/conf.Count -/
abbrev n_conf_Count : FuncId := 12
def c_conf_Count : LC :=
  .seq (.reg [⟨some 2, .box 24 (.tmp 0), none⟩,
        ⟨some 4, .assign (.const (.int .i64 0)), none⟩] [])
  (.seq (.seq (.reg [⟨some 5, .load 24 (.tmp 2), none⟩,
          ⟨some 6, .call ⟨.value (.func 10), #[.tmp 5], #[24]⟩, none⟩,
          ⟨some 7, .binOp .neq 29 (.tmp 6) (.const (.int .i64 0)) 29, none⟩] [])
    (.cond (.tmp 7) [] (.seq (.reg [⟨some 4, .assign (.const (.int .i64 0)), none⟩] [])
      (.ret))
    (.skip)))
  (.seq (.seq (.reg [⟨some 8, .move (.tmp 1), none⟩] [])
    (.block 0 (.seq (.seq (.reg [⟨some 10, .binOp .eql 3 (.tmp 8) (.const (.int .i64 1)) 3, none⟩,
              ⟨some 9, .assign (.tmp 10), none⟩] [])
        (.cond (.tmp 9) [] (.skip)
        (.reg [⟨some 11, .binOp .eql 3 (.tmp 8) (.const (.int .i64 2)) 3, none⟩,
              ⟨some 9, .assign (.tmp 11), none⟩] [])))
      (.cond (.tmp 9) [] (.seq (.reg [⟨some 12, .fieldAddr 24 (.tmp 2) 0, none⟩,
              ⟨some 13, .load 3 (.tmp 12), none⟩,
              ⟨some 14, .binOp .mul 3 (.const (.int .i64 2)) (.tmp 13) 3, none⟩,
              ⟨some 15, .fieldAddr 24 (.tmp 2) 1, none⟩,
              ⟨some 16, .load 3 (.tmp 15), none⟩,
              ⟨some 17, .binOp .add 3 (.tmp 14) (.tmp 16) 3, none⟩,
              ⟨some 18, .binOp .add 3 (.tmp 17) (.const (.int .i64 1)) 3, none⟩,
              ⟨some 4, .assign (.tmp 18), none⟩] [])
        (.ret))
      (.seq (.reg [⟨some 20, .binOp .eql 3 (.tmp 8) (.const (.int .i64 3)) 3, none⟩,
              ⟨some 19, .assign (.tmp 20), none⟩] [])
        (.cond (.tmp 19) [] (.seq (.reg [⟨some 21, .fieldAddr 24 (.tmp 2) 0, none⟩,
                ⟨some 22, .load 3 (.tmp 21), none⟩,
                ⟨some 23, .fieldAddr 24 (.tmp 2) 1, none⟩,
                ⟨some 24, .load 3 (.tmp 23), none⟩,
                ⟨some 25, .binOp .add 3 (.tmp 22) (.tmp 24) 3, none⟩,
                ⟨some 26, .binOp .add 3 (.tmp 25) (.const (.int .i64 1)) 3, none⟩,
                ⟨some 4, .assign (.tmp 26), none⟩] [])
          (.ret))
        (.seq (.reg [⟨some 28, .binOp .eql 3 (.tmp 8) (.const (.int .i64 4)) 3, none⟩,
                ⟨some 27, .assign (.tmp 28), none⟩] [])
          (.cond (.tmp 27) [] (.seq (.reg [⟨some 29, .fieldAddr 24 (.tmp 2) 2, none⟩,
                  ⟨some 30, .load 3 (.tmp 29), none⟩,
                  ⟨some 4, .assign (.tmp 30), none⟩] [])
            (.ret))
          (.skip)))))))))
  (.seq (.reg [⟨some 4, .assign (.const (.int .i64 0)), none⟩] [])
  (.ret))))
abbrev r_conf_Count : List ResultVar := [.tmp 4]
theorem fits_conf_Count : Fits Try.prog 12 2 c_conf_Count r_conf_Count :=
  ⟨_, _, [⟨[], [], [], []⟩, ⟨[], [], [], []⟩, ⟨[], [], [], []⟩, ⟨[], [], [], []⟩, ⟨[], [], [], []⟩, ⟨[], [], [], []⟩, ⟨[], [], [], []⟩, ⟨[], [], [], []⟩, ⟨[], [], [], []⟩, ⟨[], [], [], []⟩, ⟨[], [], [], []⟩, ⟨[], [], [], []⟩, ⟨[], [], [], []⟩, ⟨[], [], [], []⟩, ⟨[], [], [], []⟩, ⟨[], [], [], []⟩, ⟨[], [], [], []⟩], Try.func12, by kernel_rfl, rfl, by kernel_rfl, by kernel_rfl, by decide, rfl⟩

/-! stanchion/stanchionref06.Count -/
abbrev n_stanchionref06_Count : FuncId := 13
def c_stanchionref06_Count : LC :=
  .seq (.reg [⟨some 2, .box 24 (.tmp 0), none⟩,
        ⟨some 4, .assign (.const (.int .i64 0)), none⟩] [])
  (.seq (.seq (.reg [⟨some 5, .load 24 (.tmp 2), none⟩,
          ⟨some 6, .call ⟨.value (.func 11), #[.tmp 5], #[24]⟩, none⟩,
          ⟨some 7, .binOp .neq 29 (.tmp 6) (.const (.int .i64 0)) 29, none⟩] [])
    (.cond (.tmp 7) [] (.seq (.reg [⟨some 4, .assign (.const (.int .i64 0)), none⟩] [])
      (.ret))
    (.skip)))
  (.seq (.seq (.reg [⟨some 8, .move (.tmp 1), none⟩] [])
    (.block 0 (.seq (.seq (.reg [⟨some 10, .binOp .eql 3 (.tmp 8) (.const (.int .i64 1)) 3, none⟩,
              ⟨some 9, .assign (.tmp 10), none⟩] [])
        (.cond (.tmp 9) [] (.skip)
        (.reg [⟨some 11, .binOp .eql 3 (.tmp 8) (.const (.int .i64 2)) 3, none⟩,
              ⟨some 9, .assign (.tmp 11), none⟩] [])))
      (.cond (.tmp 9) [] (.seq (.reg [⟨some 12, .fieldAddr 24 (.tmp 2) 0, none⟩,
              ⟨some 13, .load 3 (.tmp 12), none⟩,
              ⟨some 14, .binOp .mul 3 (.const (.int .i64 2)) (.tmp 13) 3, none⟩,
              ⟨some 15, .fieldAddr 24 (.tmp 2) 1, none⟩,
              ⟨some 16, .load 3 (.tmp 15), none⟩,
              ⟨some 17, .binOp .add 3 (.tmp 14) (.tmp 16) 3, none⟩,
              ⟨some 18, .binOp .add 3 (.tmp 17) (.const (.int .i64 1)) 3, none⟩,
              ⟨some 4, .assign (.tmp 18), none⟩] [])
        (.ret))
      (.seq (.reg [⟨some 20, .binOp .eql 3 (.tmp 8) (.const (.int .i64 3)) 3, none⟩,
              ⟨some 19, .assign (.tmp 20), none⟩] [])
        (.cond (.tmp 19) [] (.seq (.reg [⟨some 21, .fieldAddr 24 (.tmp 2) 0, none⟩,
                ⟨some 22, .load 3 (.tmp 21), none⟩,
                ⟨some 23, .fieldAddr 24 (.tmp 2) 1, none⟩,
                ⟨some 24, .load 3 (.tmp 23), none⟩,
                ⟨some 25, .binOp .add 3 (.tmp 22) (.tmp 24) 3, none⟩,
                ⟨some 26, .binOp .add 3 (.tmp 25) (.const (.int .i64 1)) 3, none⟩,
                ⟨some 4, .assign (.tmp 26), none⟩] [])
          (.ret))
        (.seq (.reg [⟨some 28, .binOp .eql 3 (.tmp 8) (.const (.int .i64 4)) 3, none⟩,
                ⟨some 27, .assign (.tmp 28), none⟩] [])
          (.cond (.tmp 27) [] (.seq (.reg [⟨some 29, .fieldAddr 24 (.tmp 2) 2, none⟩,
                  ⟨some 30, .load 3 (.tmp 29), none⟩,
                  ⟨some 4, .assign (.tmp 30), none⟩] [])
            (.ret))
          (.skip)))))))))
  (.seq (.reg [⟨some 4, .assign (.const (.int .i64 0)), none⟩] [])
  (.ret))))
abbrev r_stanchionref06_Count : List ResultVar := [.tmp 4]
theorem fits_stanchionref06_Count : Fits Try.prog 13 2 c_stanchionref06_Count r_stanchionref06_Count :=
  ⟨_, _, [⟨[], [], [], []⟩, ⟨[], [], [], []⟩, ⟨[], [], [], []⟩, ⟨[], [], [], []⟩, ⟨[], [], [], []⟩, ⟨[], [], [], []⟩, ⟨[], [], [], []⟩, ⟨[], [], [], []⟩, ⟨[], [], [], []⟩, ⟨[], [], [], []⟩, ⟨[], [], [], []⟩, ⟨[], [], [], []⟩, ⟨[], [], [], []⟩, ⟨[], [], [], []⟩, ⟨[], [], [], []⟩, ⟨[], [], [], []⟩, ⟨[], [], [], []⟩], Try.func13, by kernel_rfl, rfl, by kernel_rfl, by kernel_rfl, by decide, rfl⟩

/-! stanchion/conf.Quorum -/
abbrev n_conf_Quorum : FuncId := 14
def c_conf_Quorum : LC :=
  .seq (.reg [⟨some 1, .box 24 (.tmp 0), none⟩,
        ⟨some 2, .assign (.const (.int .i64 0)), none⟩] [])
  (.seq (.seq (.reg [⟨some 3, .load 24 (.tmp 1), none⟩,
          ⟨some 4, .call ⟨.value (.func 10), #[.tmp 3], #[24]⟩, none⟩,
          ⟨some 5, .binOp .neq 29 (.tmp 4) (.const (.int .i64 0)) 29, none⟩] [])
    (.cond (.tmp 5) [] (.seq (.reg [⟨some 2, .assign (.const (.int .i64 0)), none⟩] [])
      (.ret))
    (.skip)))
  (.seq (.reg [⟨some 6, .fieldAddr 24 (.tmp 1) 0, none⟩,
        ⟨some 7, .load 3 (.tmp 6), none⟩,
        ⟨some 8, .fieldAddr 24 (.tmp 1) 1, none⟩,
        ⟨some 9, .load 3 (.tmp 8), none⟩,
        ⟨some 10, .binOp .add 3 (.tmp 7) (.tmp 9) 3, none⟩,
        ⟨some 11, .binOp .add 3 (.tmp 10) (.const (.int .i64 1)) 3, none⟩,
        ⟨some 2, .assign (.tmp 11), none⟩] [])
  (.ret)))
abbrev r_conf_Quorum : List ResultVar := [.tmp 2]
theorem fits_conf_Quorum : Fits Try.prog 14 1 c_conf_Quorum r_conf_Quorum :=
  ⟨_, _, [⟨[], [], [], []⟩, ⟨[], [], [], []⟩, ⟨[], [], [], []⟩, ⟨[], [], [], []⟩, ⟨[], [], [], []⟩], Try.func14, by kernel_rfl, rfl, by kernel_rfl, by kernel_rfl, by decide, rfl⟩

/-! stanchion/stanchionref06.Quorum -/
abbrev n_stanchionref06_Quorum : FuncId := 15
def c_stanchionref06_Quorum : LC :=
  .seq (.reg [⟨some 1, .box 24 (.tmp 0), none⟩,
        ⟨some 2, .assign (.const (.int .i64 0)), none⟩] [])
  (.seq (.reg [⟨some 3, .load 24 (.tmp 1), none⟩,
        ⟨some 4, .call ⟨.value (.func 13), #[.tmp 3, .const (.int .i64 3)], #[24, 3]⟩, none⟩,
        ⟨some 2, .assign (.tmp 4), none⟩] [])
  (.ret))
abbrev r_stanchionref06_Quorum : List ResultVar := [.tmp 2]
theorem fits_stanchionref06_Quorum : Fits Try.prog 15 1 c_stanchionref06_Quorum r_stanchionref06_Quorum :=
  ⟨_, _, [⟨[], [], [], []⟩, ⟨[], [], [], []⟩], Try.func15, by kernel_rfl, rfl, by kernel_rfl, by kernel_rfl, by decide, rfl⟩

/-! stanchion/conf.Proof -/
abbrev n_conf_Proof : FuncId := 16
def c_conf_Proof : LC :=
  .seq (.reg [⟨some 1, .box 24 (.tmp 0), none⟩,
        ⟨some 2, .assign (.const (.int .i64 0)), none⟩] [])
  (.seq (.seq (.reg [⟨some 3, .load 24 (.tmp 1), none⟩,
          ⟨some 4, .call ⟨.value (.func 10), #[.tmp 3], #[24]⟩, none⟩,
          ⟨some 5, .binOp .neq 29 (.tmp 4) (.const (.int .i64 0)) 29, none⟩] [])
    (.cond (.tmp 5) [] (.seq (.reg [⟨some 2, .assign (.const (.int .i64 0)), none⟩] [])
      (.ret))
    (.skip)))
  (.seq (.reg [⟨some 6, .fieldAddr 24 (.tmp 1) 1, none⟩,
        ⟨some 7, .load 3 (.tmp 6), none⟩,
        ⟨some 8, .binOp .add 3 (.tmp 7) (.const (.int .i64 1)) 3, none⟩,
        ⟨some 2, .assign (.tmp 8), none⟩] [])
  (.ret)))
abbrev r_conf_Proof : List ResultVar := [.tmp 2]
theorem fits_conf_Proof : Fits Try.prog 16 1 c_conf_Proof r_conf_Proof :=
  ⟨_, _, [⟨[], [], [], []⟩, ⟨[], [], [], []⟩, ⟨[], [], [], []⟩, ⟨[], [], [], []⟩, ⟨[], [], [], []⟩], Try.func16, by kernel_rfl, rfl, by kernel_rfl, by kernel_rfl, by decide, rfl⟩

/-! stanchion/stanchionref06.Proof -/
abbrev n_stanchionref06_Proof : FuncId := 17
def c_stanchionref06_Proof : LC :=
  .seq (.reg [⟨some 1, .box 24 (.tmp 0), none⟩,
        ⟨some 2, .assign (.const (.int .i64 0)), none⟩] [])
  (.seq (.seq (.reg [⟨some 3, .load 24 (.tmp 1), none⟩,
          ⟨some 4, .call ⟨.value (.func 11), #[.tmp 3], #[24]⟩, none⟩,
          ⟨some 5, .binOp .neq 29 (.tmp 4) (.const (.int .i64 0)) 29, none⟩] [])
    (.cond (.tmp 5) [] (.seq (.reg [⟨some 2, .assign (.const (.int .i64 0)), none⟩] [])
      (.ret))
    (.skip)))
  (.seq (.reg [⟨some 6, .fieldAddr 24 (.tmp 1) 1, none⟩,
        ⟨some 7, .load 3 (.tmp 6), none⟩,
        ⟨some 8, .binOp .add 3 (.tmp 7) (.const (.int .i64 1)) 3, none⟩,
        ⟨some 2, .assign (.tmp 8), none⟩] [])
  (.ret)))
abbrev r_stanchionref06_Proof : List ResultVar := [.tmp 2]
theorem fits_stanchionref06_Proof : Fits Try.prog 17 1 c_stanchionref06_Proof r_stanchionref06_Proof :=
  ⟨_, _, [⟨[], [], [], []⟩, ⟨[], [], [], []⟩, ⟨[], [], [], []⟩, ⟨[], [], [], []⟩, ⟨[], [], [], []⟩], Try.func17, by kernel_rfl, rfl, by kernel_rfl, by kernel_rfl, by decide, rfl⟩

/-! stanchion/conf.Primary -/
abbrev n_conf_Primary : FuncId := 18
def c_conf_Primary : LC :=
  .seq (.reg [⟨some 2, .box 24 (.tmp 0), none⟩,
        ⟨some 4, .assign (.const (.int .i64 0)), none⟩] [])
  (.seq (.reg [⟨some 6, .load 24 (.tmp 2), none⟩,
        ⟨some 7, .call ⟨.value (.func 12), #[.tmp 6, .const (.int .i64 2)], #[24, 3]⟩, none⟩,
        ⟨some 5, .assign (.tmp 7), none⟩] [])
  (.seq (.seq (.reg [⟨some 8, .move (.tmp 5), none⟩,
          ⟨some 9, .binOp .eql 3 (.tmp 8) (.const (.int .i64 0)) 3, none⟩,
          ⟨some 10, .move (.tmp 9), none⟩,
          ⟨some 11, .move (.tmp 1), some (10, false)⟩,
          ⟨some 12, .binOp .lss 3 (.tmp 11) (.const (.int .i64 0)) 3, some (10, false)⟩,
          ⟨some 13, .pick (.tmp 10) (.const (.bool true)) (.tmp 12), none⟩] [])
    (.cond (.tmp 13) [] (.seq (.reg [⟨some 4, .assign (.const (.int .i64 0)), none⟩] [])
      (.ret))
    (.skip)))
  (.seq (.reg [⟨some 14, .move (.tmp 1), none⟩,
        ⟨some 15, .move (.tmp 5), none⟩,
        ⟨some 16, .binOp .rem 3 (.tmp 14) (.tmp 15) 3, none⟩,
        ⟨some 4, .assign (.tmp 16), none⟩] [])
  (.ret))))
abbrev r_conf_Primary : List ResultVar := [.tmp 4]
theorem fits_conf_Primary : Fits Try.prog 18 2 c_conf_Primary r_conf_Primary :=
  ⟨_, _, [⟨[], [], [], []⟩, ⟨[], [], [], []⟩, ⟨[], [], [], []⟩, ⟨[], [], [], []⟩, ⟨[], [], [], []⟩, ⟨[], [], [], []⟩], Try.func18, by kernel_rfl, rfl, by kernel_rfl, by kernel_rfl, by decide, rfl⟩

/-! stanchion/stanchionref06.Primary -/
abbrev n_stanchionref06_Primary : FuncId := 19
def c_stanchionref06_Primary : LC :=
  .seq (.reg [⟨some 2, .box 24 (.tmp 0), none⟩,
        ⟨some 4, .assign (.const (.int .i64 0)), none⟩] [])
  (.seq (.reg [⟨some 6, .load 24 (.tmp 2), none⟩,
        ⟨some 7, .call ⟨.value (.func 13), #[.tmp 6, .const (.int .i64 2)], #[24, 3]⟩, none⟩,
        ⟨some 5, .assign (.tmp 7), none⟩] [])
  (.seq (.seq (.reg [⟨some 8, .move (.tmp 5), none⟩,
          ⟨some 9, .binOp .eql 3 (.tmp 8) (.const (.int .i64 0)) 3, none⟩,
          ⟨some 10, .move (.tmp 9), none⟩,
          ⟨some 11, .move (.tmp 1), some (10, false)⟩,
          ⟨some 12, .binOp .lss 3 (.tmp 11) (.const (.int .i64 0)) 3, some (10, false)⟩,
          ⟨some 13, .pick (.tmp 10) (.const (.bool true)) (.tmp 12), none⟩] [])
    (.cond (.tmp 13) [] (.seq (.reg [⟨some 4, .assign (.const (.int .i64 0)), none⟩] [])
      (.ret))
    (.skip)))
  (.seq (.reg [⟨some 14, .move (.tmp 1), none⟩,
        ⟨some 15, .move (.tmp 5), none⟩,
        ⟨some 16, .binOp .rem 3 (.tmp 14) (.tmp 15) 3, none⟩,
        ⟨some 4, .assign (.tmp 16), none⟩] [])
  (.ret))))
abbrev r_stanchionref06_Primary : List ResultVar := [.tmp 4]
theorem fits_stanchionref06_Primary : Fits Try.prog 19 2 c_stanchionref06_Primary r_stanchionref06_Primary :=
  ⟨_, _, [⟨[], [], [], []⟩, ⟨[], [], [], []⟩, ⟨[], [], [], []⟩, ⟨[], [], [], []⟩, ⟨[], [], [], []⟩, ⟨[], [], [], []⟩], Try.func19, by kernel_rfl, rfl, by kernel_rfl, by kernel_rfl, by decide, rfl⟩

/-! stanchion/conf.There -/
abbrev n_conf_There : FuncId := 20
def c_conf_There : LC :=
  .seq (.reg [⟨some 2, .box 24 (.tmp 0), none⟩,
        ⟨some 3, .box 26 (.tmp 1), none⟩,
        ⟨some 4, .assign (.const (.bool false)), none⟩] [])
  (.seq (.drw [(⟨some 5, .fieldAddr 26 (.tmp 3) 1, none⟩, false),
        (⟨some 6, .load 3 (.tmp 5), none⟩, false),
        (⟨some 7, .binOp .geq 3 (.tmp 6) (.const (.int .i64 0)) 3, none⟩, false),
        (⟨some 8, .move (.tmp 7), none⟩, false),
        (⟨some 9, .fieldAddr 26 (.tmp 3) 1, some (8, true)⟩, true),
        (⟨some 10, .load 3 (.tmp 9), some (8, true)⟩, true),
        (⟨some 11, .load 24 (.tmp 2), some (8, true)⟩, false),
        (⟨some 12, .fieldAddr 26 (.tmp 3) 0, some (8, true)⟩, false),
        (⟨some 13, .load 3 (.tmp 12), some (8, true)⟩, false),
        (⟨some 14, .call ⟨.value (.func 12), #[.tmp 11, .tmp 13], #[24, 3]⟩, some (8, true)⟩, false),
        (⟨some 15, .binOp .lss 3 (.tmp 10) (.tmp 14) 3, some (8, true)⟩, false),
        (⟨some 16, .pick (.tmp 8) (.tmp 15) (.const (.bool false)), none⟩, false),
        (⟨some 4, .assign (.tmp 16), none⟩, false)] [])
  (.ret))
abbrev r_conf_There : List ResultVar := [.tmp 4]
theorem fits_conf_There : Fits Try.prog 20 2 c_conf_There r_conf_There :=
  ⟨_, _, [⟨[], [], [], []⟩, ⟨[some (0, false), some (1, false), some (2, false), some (3, false), some (4, true), some (5, true), some (6, false), some (7, false), some (8, false), some (9, false), some (10, false), some (11, false), some (12, false)], [], [⟨some 5, [3], [], false⟩, ⟨some 6, [5], [0], false⟩, ⟨some 7, [6], [1], false⟩, ⟨some 8, [7], [2], false⟩, ⟨some 9, [3, 8], [3], false⟩, ⟨some 10, [9, 8], [4, 3], false⟩, ⟨some 11, [2, 8], [3], false⟩, ⟨some 12, [3, 8], [3], false⟩, ⟨some 13, [12, 8], [7, 3], false⟩, ⟨some 14, [11, 13, 8], [6, 8, 3, 3], true⟩, ⟨some 15, [10, 14, 8], [5, 9, 3], false⟩, ⟨some 16, [8, 15], [3, 10], false⟩, ⟨some 4, [16], [11, 9, 0, 1, 2, 3, 4, 5, 6, 7, 8, 9, 10, 11], false⟩], [0, 1, 3, 7, 15, 31, 15, 15, 143, 463, 1023, 2047, 4095]⟩], Try.func20, by kernel_rfl, rfl, by kernel_rfl, by kernel_rfl, by decide, rfl⟩

/-! stanchion/stanchionref06.There -/
abbrev n_stanchionref06_There : FuncId := 21
def c_stanchionref06_There : LC :=
  .seq (.reg [⟨some 2, .box 24 (.tmp 0), none⟩,
        ⟨some 3, .box 26 (.tmp 1), none⟩,
        ⟨some 4, .assign (.const (.bool false)), none⟩] [])
  (.seq (.drw [(⟨some 5, .fieldAddr 26 (.tmp 3) 1, none⟩, false),
        (⟨some 6, .load 3 (.tmp 5), none⟩, false),
        (⟨some 7, .binOp .geq 3 (.tmp 6) (.const (.int .i64 0)) 3, none⟩, false),
        (⟨some 8, .move (.tmp 7), none⟩, false),
        (⟨some 9, .fieldAddr 26 (.tmp 3) 1, some (8, true)⟩, true),
        (⟨some 10, .load 3 (.tmp 9), some (8, true)⟩, true),
        (⟨some 11, .load 24 (.tmp 2), some (8, true)⟩, false),
        (⟨some 12, .fieldAddr 26 (.tmp 3) 0, some (8, true)⟩, false),
        (⟨some 13, .load 3 (.tmp 12), some (8, true)⟩, false),
        (⟨some 14, .call ⟨.value (.func 13), #[.tmp 11, .tmp 13], #[24, 3]⟩, some (8, true)⟩, false),
        (⟨some 15, .binOp .lss 3 (.tmp 10) (.tmp 14) 3, some (8, true)⟩, false),
        (⟨some 16, .pick (.tmp 8) (.tmp 15) (.const (.bool false)), none⟩, false),
        (⟨some 4, .assign (.tmp 16), none⟩, false)] [])
  (.ret))
abbrev r_stanchionref06_There : List ResultVar := [.tmp 4]
theorem fits_stanchionref06_There : Fits Try.prog 21 2 c_stanchionref06_There r_stanchionref06_There :=
  ⟨_, _, [⟨[], [], [], []⟩, ⟨[some (0, false), some (1, false), some (2, false), some (3, false), some (4, true), some (5, true), some (6, false), some (7, false), some (8, false), some (9, false), some (10, false), some (11, false), some (12, false)], [], [⟨some 5, [3], [], false⟩, ⟨some 6, [5], [0], false⟩, ⟨some 7, [6], [1], false⟩, ⟨some 8, [7], [2], false⟩, ⟨some 9, [3, 8], [3], false⟩, ⟨some 10, [9, 8], [4, 3], false⟩, ⟨some 11, [2, 8], [3], false⟩, ⟨some 12, [3, 8], [3], false⟩, ⟨some 13, [12, 8], [7, 3], false⟩, ⟨some 14, [11, 13, 8], [6, 8, 3, 3], true⟩, ⟨some 15, [10, 14, 8], [5, 9, 3], false⟩, ⟨some 16, [8, 15], [3, 10], false⟩, ⟨some 4, [16], [11, 9, 0, 1, 2, 3, 4, 5, 6, 7, 8, 9, 10, 11], false⟩], [0, 1, 3, 7, 15, 31, 15, 15, 143, 463, 1023, 2047, 4095]⟩], Try.func21, by kernel_rfl, rfl, by kernel_rfl, by kernel_rfl, by decide, rfl⟩

/-! stanchion/stanchionref00.CopyInts -/
abbrev n_stanchionref00_CopyInts : FuncId := 22
def c_stanchionref00_CopyInts : LC :=
  .seq (.reg [⟨some 2, .assign (.const (.slice none 0 0)), none⟩] [])
  (.seq (.reg [⟨some 4, .buildSlice 35 0 #[], none⟩,
        ⟨some 3, .assign (.tmp 4), none⟩] [])
  (.seq (.reg [⟨some 5, .move (.tmp 3), none⟩,
        ⟨some 6, .move (.tmp 0), none⟩,
        ⟨some 7, .call ⟨.builtin .append, #[.tmp 5, .tmp 6], #[35, 35]⟩, none⟩,
        ⟨some 3, .assign (.tmp 7), none⟩] [])
  (.seq (.reg [⟨some 8, .move (.tmp 3), none⟩,
        ⟨some 2, .assign (.tmp 8), none⟩] [])
  (.ret))))
abbrev r_stanchionref00_CopyInts : List ResultVar := [.tmp 2]
theorem fits_stanchionref00_CopyInts : Fits Try.prog 22 1 c_stanchionref00_CopyInts r_stanchionref00_CopyInts :=
  ⟨_, _, [⟨[], [], [], []⟩, ⟨[], [], [], []⟩, ⟨[], [], [], []⟩, ⟨[], [], [], []⟩], Try.func22, by kernel_rfl, rfl, by kernel_rfl, by kernel_rfl, by decide, rfl⟩

/-! stanchion/conf.Ids -/
abbrev n_conf_Ids : FuncId := 23
def c_conf_Ids : LC :=
  .seq (.reg [⟨some 2, .box 24 (.tmp 0), none⟩,
        ⟨some 4, .assign (.const (.slice none 0 0)), none⟩] [])
  (.seq (.reg [⟨some 5, .assign (.const (.slice none 0 0)), none⟩] [])
  (.seq (.seq (.reg [⟨some 9, .move (.tmp 1), none⟩,
          ⟨some 10, .call ⟨.builtin .len, #[.tmp 9], #[35]⟩, none⟩,
          ⟨some 11, .move (.const (.int .i64 0)), none⟩] [])
    (.block 0 (.loop (.seq (.reg [⟨some 12, .binOp .lss 3 (.tmp 11) (.tmp 10) 3, none⟩] [])
        (.seq (.cond (.tmp 12) [] (.skip)
          (.exit 0))
        (.seq (.block 1 (.seq (.reg [⟨some 13, .indexAddr 35 (.tmp 9) (.tmp 11), none⟩,
                  ⟨some 14, .load 3 (.tmp 13), none⟩,
                  ⟨some 7, .assign (.tmp 14), none⟩] [])
            (.seq (.reg [⟨some 15, .load 24 (.tmp 2), none⟩,
                  ⟨some 16, .move (.tmp 7), none⟩,
                  ⟨some 17, .call ⟨.value (.func 12), #[.tmp 15, .tmp 16], #[24, 3]⟩, none⟩,
                  ⟨some 18, .move (.const (.int .i64 0)), none⟩] [])
            (.block 2 (.loop (.seq (.reg [⟨some 19, .binOp .lss 3 (.tmp 18) (.tmp 17) 3, none⟩] [])
                (.seq (.cond (.tmp 19) [] (.skip)
                  (.exit 2))
                (.seq (.block 3 (.seq (.reg [⟨some 20, .move (.tmp 18), none⟩,
                          ⟨some 8, .assign (.tmp 20), none⟩] [])
                    (.reg [⟨some 21, .move (.tmp 5), none⟩,
                        ⟨some 22, .move (.tmp 7), none⟩,
                        ⟨some 23, .move (.tmp 8), none⟩,
                        ⟨some 24, .build 26 #[(0, .tmp 22), (1, .tmp 23)], none⟩,
                        ⟨some 25, .buildSlice 37 1 #[(0, .tmp 24)], none⟩,
                        ⟨some 26, .call ⟨.builtin .append, #[.tmp 21, .tmp 25], #[37, 37]⟩, none⟩,
                        ⟨some 5, .assign (.tmp 26), none⟩] [])))
                (.reg [⟨some 27, .binOp .add 3 (.tmp 18) (.const (.int .i64 1)) 3, none⟩,
                    ⟨some 18, .move (.tmp 27), none⟩] [])))))))))
        (.reg [⟨some 28, .binOp .add 3 (.tmp 11) (.const (.int .i64 1)) 3, none⟩,
            ⟨some 11, .move (.tmp 28), none⟩] [])))))))
  (.seq (.reg [⟨some 29, .move (.tmp 5), none⟩,
        ⟨some 4, .assign (.tmp 29), none⟩] [])
  (.ret))))
abbrev r_conf_Ids : List ResultVar := [.tmp 4]
theorem fits_conf_Ids : Fits Try.prog 23 2 c_conf_Ids r_conf_Ids :=
  ⟨_, _, [⟨[], [], [], []⟩, ⟨[], [], [], []⟩, ⟨[], [], [], []⟩, ⟨[], [], [], []⟩, ⟨[], [], [], []⟩, ⟨[], [], [], []⟩, ⟨[], [], [], []⟩, ⟨[], [], [], []⟩, ⟨[], [], [], []⟩, ⟨[], [], [], []⟩, ⟨[], [], [], []⟩, ⟨[], [], [], []⟩, ⟨[], [], [], []⟩, ⟨[], [], [], []⟩], Try.func23, by kernel_rfl, rfl, by kernel_rfl, by kernel_rfl, by decide, rfl⟩

/-! stanchion/stanchionref06.Ids -/
abbrev n_stanchionref06_Ids : FuncId := 24
def c_stanchionref06_Ids : LC :=
  .seq (.reg [⟨some 2, .box 24 (.tmp 0), none⟩,
        ⟨some 4, .assign (.const (.slice none 0 0)), none⟩] [])
  (.seq (.reg [⟨some 8, .buildSlice 37 0 #[], none⟩,
        ⟨some 5, .assign (.tmp 8), none⟩] [])
  (.seq (.seq (.reg [⟨some 6, .assign (.const (.int .i64 0)), none⟩] [])
    (.block 0 (.loop (.seq (.seq (.reg [⟨some 9, .move (.tmp 6), none⟩,
                ⟨some 10, .move (.tmp 1), none⟩,
                ⟨some 11, .call ⟨.builtin .len, #[.tmp 10], #[35]⟩, none⟩,
                ⟨some 12, .binOp .lss 3 (.tmp 9) (.tmp 11) 3, none⟩] [])
          (.cond (.tmp 12) [] (.skip)
          (.exit 0)))
        (.seq (.block 1 (.seq (.reg [⟨some 7, .assign (.const (.int .i64 0)), none⟩] [])
            (.block 2 (.loop (.seq (.seq (.drw [(⟨some 15, .move (.tmp 7), none⟩, true),
                        (⟨some 16, .load 24 (.tmp 2), none⟩, false),
                        (⟨some 17, .move (.tmp 1), none⟩, false),
                        (⟨some 18, .move (.tmp 6), none⟩, false),
                        (⟨some 19, .indexAddr 35 (.tmp 17) (.tmp 18), none⟩, false),
                        (⟨some 20, .load 3 (.tmp 19), none⟩, false),
                        (⟨some 21, .call ⟨.value (.func 13), #[.tmp 16, .tmp 20], #[24, 3]⟩, none⟩, false),
                        (⟨some 22, .binOp .lss 3 (.tmp 15) (.tmp 21) 3, none⟩, false)] [])
                  (.cond (.tmp 22) [] (.skip)
                  (.exit 2)))
                (.seq (.block 3 (.reg [⟨some 25, .move (.tmp 5), none⟩,
                        ⟨some 26, .move (.tmp 1), none⟩,
                        ⟨some 27, .move (.tmp 6), none⟩,
                        ⟨some 28, .indexAddr 35 (.tmp 26) (.tmp 27), none⟩,
                        ⟨some 29, .load 3 (.tmp 28), none⟩,
                        ⟨some 30, .move (.tmp 7), none⟩,
                        ⟨some 31, .build 26 #[(0, .tmp 29), (1, .tmp 30)], none⟩,
                        ⟨some 32, .buildSlice 37 1 #[(0, .tmp 31)], none⟩,
                        ⟨some 33, .call ⟨.builtin .append, #[.tmp 25, .tmp 32], #[37, 37]⟩, none⟩,
                        ⟨some 5, .assign (.tmp 33), none⟩] []))
                (.reg [⟨some 23, .move (.tmp 7), none⟩,
                    ⟨some 24, .binOp .add 3 (.tmp 23) (.const (.int .i64 1)) 3, none⟩,
                    ⟨some 7, .assign (.tmp 24), none⟩] [])))))))
        (.reg [⟨some 13, .move (.tmp 6), none⟩,
            ⟨some 14, .binOp .add 3 (.tmp 13) (.const (.int .i64 1)) 3, none⟩,
            ⟨some 6, .assign (.tmp 14), none⟩] []))))))
  (.seq (.reg [⟨some 34, .move (.tmp 5), none⟩,
        ⟨some 4, .assign (.tmp 34), none⟩] [])
  (.ret))))
abbrev r_stanchionref06_Ids : List ResultVar := [.tmp 4]
theorem fits_stanchionref06_Ids : Fits Try.prog 24 2 c_stanchionref06_Ids r_stanchionref06_Ids :=
  ⟨_, _, [⟨[], [], [], []⟩, ⟨[], [], [], []⟩, ⟨[], [], [], []⟩, ⟨[], [], [], []⟩, ⟨[], [], [], []⟩, ⟨[], [], [], []⟩, ⟨[some (0, true), some (1, false), some (2, false), some (3, false), some (4, false), some (5, false), some (6, false), some (7, false)], [], [⟨some 15, [7], [], false⟩, ⟨some 16, [2], [], false⟩, ⟨some 17, [1], [], false⟩, ⟨some 18, [6], [], false⟩, ⟨some 19, [17, 18], [2, 3], false⟩, ⟨some 20, [19], [4], false⟩, ⟨some 21, [16, 20], [1, 5], true⟩, ⟨some 22, [15, 21], [0, 6], false⟩], [0, 0, 0, 0, 12, 28, 62, 127]⟩, ⟨[], [], [], []⟩, ⟨[], [], [], []⟩, ⟨[], [], [], []⟩, ⟨[], [], [], []⟩, ⟨[], [], [], []⟩], Try.func24, by kernel_rfl, rfl, by kernel_rfl, by kernel_rfl, by decide, rfl⟩

/-! stanchion/stanchionref00.SameInts -/
abbrev n_stanchionref00_SameInts : FuncId := 25
def c_stanchionref00_SameInts : LC :=
  .seq (.reg [⟨some 4, .assign (.const (.bool false)), none⟩] [])
  (.seq (.seq (.reg [⟨some 6, .move (.tmp 0), none⟩,
          ⟨some 7, .call ⟨.builtin .len, #[.tmp 6], #[35]⟩, none⟩,
          ⟨some 8, .move (.tmp 1), none⟩,
          ⟨some 9, .call ⟨.builtin .len, #[.tmp 8], #[35]⟩, none⟩,
          ⟨some 10, .binOp .neq 3 (.tmp 7) (.tmp 9) 3, none⟩] [])
    (.cond (.tmp 10) [] (.seq (.reg [⟨some 4, .assign (.const (.bool false)), none⟩] [])
      (.ret))
    (.skip)))
  (.seq (.seq (.reg [⟨some 5, .assign (.const (.int .i64 0)), none⟩] [])
    (.block 0 (.loop (.seq (.seq (.reg [⟨some 11, .move (.tmp 5), none⟩,
                ⟨some 12, .move (.tmp 0), none⟩,
                ⟨some 13, .call ⟨.builtin .len, #[.tmp 12], #[35]⟩, none⟩,
                ⟨some 14, .binOp .lss 3 (.tmp 11) (.tmp 13) 3, none⟩] [])
          (.cond (.tmp 14) [] (.skip)
          (.exit 0)))
        (.seq (.block 1 (.seq (.drw [(⟨some 17, .move (.tmp 0), none⟩, false),
                  (⟨some 18, .move (.tmp 5), none⟩, false),
                  (⟨some 19, .indexAddr 35 (.tmp 17) (.tmp 18), none⟩, false),
                  (⟨some 20, .load 3 (.tmp 19), none⟩, false),
                  (⟨some 21, .move (.tmp 1), none⟩, false),
                  (⟨some 22, .move (.tmp 5), none⟩, false),
                  (⟨some 23, .indexAddr 35 (.tmp 21) (.tmp 22), none⟩, false),
                  (⟨some 24, .load 3 (.tmp 23), none⟩, false),
                  (⟨some 25, .binOp .neq 3 (.tmp 20) (.tmp 24) 3, none⟩, false)] [])
            (.cond (.tmp 25) [] (.seq (.reg [⟨some 4, .assign (.const (.bool false)), none⟩] [])
              (.ret))
            (.skip))))
        (.reg [⟨some 15, .move (.tmp 5), none⟩,
            ⟨some 16, .binOp .add 3 (.tmp 15) (.const (.int .i64 1)) 3, none⟩,
            ⟨some 5, .assign (.tmp 16), none⟩] []))))))
  (.seq (.reg [⟨some 4, .assign (.const (.bool true)), none⟩] [])
  (.ret))))
abbrev r_stanchionref00_SameInts : List ResultVar := [.tmp 4]
theorem fits_stanchionref00_SameInts : Fits Try.prog 25 2 c_stanchionref00_SameInts r_stanchionref00_SameInts :=
  ⟨_, _, [⟨[], [], [], []⟩, ⟨[], [], [], []⟩, ⟨[], [], [], []⟩, ⟨[], [], [], []⟩, ⟨[], [], [], []⟩, ⟨[], [], [], []⟩, ⟨[], [], [], []⟩, ⟨[some (0, false), some (1, false), some (2, false), some (3, false), some (4, false), some (5, false), some (6, false), some (7, false), some (8, false)], [], [⟨some 17, [0], [], false⟩, ⟨some 18, [5], [], false⟩, ⟨some 19, [17, 18], [0, 1], false⟩, ⟨some 20, [19], [2], false⟩, ⟨some 21, [1], [], false⟩, ⟨some 22, [5], [], false⟩, ⟨some 23, [21, 22], [4, 5], false⟩, ⟨some 24, [23], [6], false⟩, ⟨some 25, [20, 24], [3, 7], false⟩], [0, 0, 3, 7, 0, 0, 48, 112, 255]⟩, ⟨[], [], [], []⟩, ⟨[], [], [], []⟩, ⟨[], [], [], []⟩, ⟨[], [], [], []⟩], Try.func25, by kernel_rfl, rfl, by kernel_rfl, by kernel_rfl, by decide, rfl⟩

/-! stanchion/stanchionref00.CopyBytes -/
abbrev n_stanchionref00_CopyBytes : FuncId := 26
def c_stanchionref00_CopyBytes : LC :=
  .seq (.reg [⟨some 2, .assign (.const (.slice none 0 0)), none⟩] [])
  (.seq (.reg [⟨some 4, .buildSlice 22 0 #[], none⟩,
        ⟨some 3, .assign (.tmp 4), none⟩] [])
  (.seq (.reg [⟨some 5, .move (.tmp 3), none⟩,
        ⟨some 6, .move (.tmp 0), none⟩,
        ⟨some 7, .call ⟨.builtin .append, #[.tmp 5, .tmp 6], #[22, 22]⟩, none⟩,
        ⟨some 3, .assign (.tmp 7), none⟩] [])
  (.seq (.reg [⟨some 8, .move (.tmp 3), none⟩,
        ⟨some 2, .assign (.tmp 8), none⟩] [])
  (.ret))))
abbrev r_stanchionref00_CopyBytes : List ResultVar := [.tmp 2]
theorem fits_stanchionref00_CopyBytes : Fits Try.prog 26 1 c_stanchionref00_CopyBytes r_stanchionref00_CopyBytes :=
  ⟨_, _, [⟨[], [], [], []⟩, ⟨[], [], [], []⟩, ⟨[], [], [], []⟩, ⟨[], [], [], []⟩], Try.func26, by kernel_rfl, rfl, by kernel_rfl, by kernel_rfl, by decide, rfl⟩

/-! stanchion/conf.between -/
abbrev n_conf_between : FuncId := 27
def c_conf_between : LC :=
  .seq (.reg [⟨some 2, .assign (.const (.bool false)), none⟩] [])
  (.seq (.seq (.reg [⟨some 3, .assign (.const (.int .i64 0)), none⟩] [])
    (.block 0 (.loop (.seq (.seq (.reg [⟨some 4, .move (.tmp 3), none⟩,
                ⟨some 5, .binOp .add 3 (.tmp 4) (.const (.int .i64 2)) 3, none⟩,
                ⟨some 6, .move (.tmp 0), none⟩,
                ⟨some 7, .call ⟨.builtin .len, #[.tmp 6], #[35]⟩, none⟩,
                ⟨some 8, .binOp .lss 3 (.tmp 5) (.tmp 7) 3, none⟩] [])
          (.cond (.tmp 8) [] (.skip)
          (.exit 0)))
        (.seq (.block 1 (.seq (.drw [(⟨some 11, .move (.tmp 0), none⟩, false),
                  (⟨some 12, .move (.tmp 3), none⟩, false),
                  (⟨some 13, .binOp .add 3 (.tmp 12) (.const (.int .i64 1)) 3, none⟩, false),
                  (⟨some 14, .indexAddr 35 (.tmp 11) (.tmp 13), none⟩, false),
                  (⟨some 15, .load 3 (.tmp 14), none⟩, false),
                  (⟨some 16, .move (.tmp 0), none⟩, false),
                  (⟨some 17, .move (.tmp 3), none⟩, false),
                  (⟨some 18, .indexAddr 35 (.tmp 16) (.tmp 17), none⟩, false),
                  (⟨some 19, .load 3 (.tmp 18), none⟩, false),
                  (⟨some 20, .binOp .lss 3 (.tmp 15) (.tmp 19) 3, none⟩, false),
                  (⟨some 21, .move (.tmp 20), none⟩, false),
                  (⟨some 22, .move (.tmp 0), some (21, false)⟩, false),
                  (⟨some 23, .move (.tmp 3), some (21, false)⟩, false),
                  (⟨some 24, .binOp .add 3 (.tmp 23) (.const (.int .i64 1)) 3, some (21, false)⟩, false),
                  (⟨some 25, .indexAddr 35 (.tmp 22) (.tmp 24), some (21, false)⟩, false),
                  (⟨some 26, .load 3 (.tmp 25), some (21, false)⟩, false),
                  (⟨some 27, .move (.tmp 0), some (21, false)⟩, false),
                  (⟨some 28, .move (.tmp 3), some (21, false)⟩, false),
                  (⟨some 29, .binOp .add 3 (.tmp 28) (.const (.int .i64 2)) 3, some (21, false)⟩, false),
                  (⟨some 30, .indexAddr 35 (.tmp 27) (.tmp 29), some (21, false)⟩, false),
                  (⟨some 31, .load 3 (.tmp 30), some (21, false)⟩, false),
                  (⟨some 32, .binOp .gtr 3 (.tmp 26) (.tmp 31) 3, some (21, false)⟩, false),
                  (⟨some 33, .pick (.tmp 21) (.const (.bool true)) (.tmp 32), none⟩, false)] [])
            (.cond (.tmp 33) [] (.seq (.reg [⟨some 2, .assign (.const (.bool false)), none⟩] [])
              (.ret))
            (.skip))))
        (.reg [⟨some 9, .move (.tmp 3), none⟩,
            ⟨some 10, .binOp .add 3 (.tmp 9) (.const (.int .i64 3)) 3, none⟩,
            ⟨some 3, .assign (.tmp 10), none⟩] []))))))
  (.seq (.reg [⟨some 2, .assign (.const (.bool true)), none⟩] [])
  (.ret)))
abbrev r_conf_between : List ResultVar := [.tmp 2]
theorem fits_conf_between : Fits Try.prog 27 1 c_conf_between r_conf_between :=
  ⟨_, _, [⟨[], [], [], []⟩, ⟨[], [], [], []⟩, ⟨[], [], [], []⟩, ⟨[], [], [], []⟩, ⟨[some (0, false), some (1, false), some (2, false), some (3, false), some (4, false), some (5, false), some (6, false), some (7, false), some (8, false), some (9, false), some (10, false), some (11, false), some (12, false), some (13, false), some (14, false), some (15, false), some (16, false), some (17, false), some (18, false), some (19, false), some (20, false), some (21, false), some (22, false)], [], [⟨some 11, [0], [], false⟩, ⟨some 12, [3], [], false⟩, ⟨some 13, [12], [1], false⟩, ⟨some 14, [11, 13], [0, 2], false⟩, ⟨some 15, [14], [3], false⟩, ⟨some 16, [0], [], false⟩, ⟨some 17, [3], [], false⟩, ⟨some 18, [16, 17], [5, 6], false⟩, ⟨some 19, [18], [7], false⟩, ⟨some 20, [15, 19], [4, 8], false⟩, ⟨some 21, [20], [9], false⟩, ⟨some 22, [0, 21], [10], false⟩, ⟨some 23, [3, 21], [10], false⟩, ⟨some 24, [23, 21], [12, 10], false⟩, ⟨some 25, [22, 24, 21], [11, 13, 10], false⟩, ⟨some 26, [25, 21], [14, 10], false⟩, ⟨some 27, [0, 21], [10], false⟩, ⟨some 28, [3, 21], [10], false⟩, ⟨some 29, [28, 21], [17, 10], false⟩, ⟨some 30, [27, 29, 21], [16, 18, 10], false⟩, ⟨some 31, [30, 21], [19, 10], false⟩, ⟨some 32, [26, 31, 21], [15, 20, 10], false⟩, ⟨some 33, [21, 32], [10, 21], false⟩], [0, 0, 2, 7, 15, 0, 0, 96, 224, 511, 1023, 2047, 2047, 6143, 16383, 32767, 2047, 2047, 133119, 460799, 985087, 2097151, 4194303]⟩, ⟨[], [], [], []⟩, ⟨[], [], [], []⟩, ⟨[], [], [], []⟩, ⟨[], [], [], []⟩], Try.func27, by kernel_rfl, rfl, by kernel_rfl, by kernel_rfl, by decide, rfl⟩

end Go.Proofs.Ytejlgalnkblndaa
