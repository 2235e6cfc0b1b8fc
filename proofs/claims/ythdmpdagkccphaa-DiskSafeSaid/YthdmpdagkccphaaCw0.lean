/- The codes of functions, each operation in short. Printed by a program of this work. -/
import Derived.Test.YthdmpdagkccphaaTa
set_option linter.unusedVariables false
namespace Go.Proofs.Ythdmpdagkccphaa
open Go.Al
/-! stanchion/stanchionlaw04.DiskSafe -/
abbrev n_stanchionlaw04_DiskSafe : FuncId := 5
def c_stanchionlaw04_DiskSafe : LC :=
  .seq (.reg [⟨some 8, .assign (.const (.bool false)), none⟩] [])
  (.seq (.seq (.reg [⟨some 20, .call ⟨.value (.func 9), #[], #[]⟩, none⟩,
          ⟨some 21, .unOp .not 4 (.tmp 20), none⟩] [])
    (.cond (.tmp 21) [] (.seq (.reg [⟨some 8, .assign (.const (.bool false)), none⟩] [])
      (.ret))
    (.skip)))
  (.seq (.reg [⟨some 22, .move (.tmp 0), none⟩,
        ⟨some 23, .call ⟨.value (.func 16), #[.tmp 22], #[34]⟩, none⟩,
        ⟨some 0, .assign (.tmp 23), none⟩] [])
  (.seq (.seq (.reg [⟨some 24, .move (.tmp 0), none⟩,
          ⟨some 25, .call ⟨.value (.func 17), #[.tmp 24], #[34]⟩, none⟩,
          ⟨some 26, .move (.tmp 25), none⟩,
          ⟨some 27, .move (.tmp 2), some (26, false)⟩,
          ⟨some 28, .call ⟨.builtin .len, #[.tmp 27], #[22]⟩, some (26, false)⟩,
          ⟨some 29, .binOp .gtr 3 (.tmp 28) (.const (.int .i64 5000)) 3, some (26, false)⟩,
          ⟨some 30, .pick (.tmp 26) (.const (.bool true)) (.tmp 29), none⟩] [])
    (.cond (.tmp 30) [] (.seq (.reg [⟨some 8, .assign (.const (.bool true)), none⟩] [])
      (.ret))
    (.skip)))
  (.seq (.reg [⟨some 31, .call ⟨.value (.func 10), #[.const (.int .i64 (-1))], #[3]⟩, none⟩,
        ⟨some 9, .assign (.tmp 31), none⟩] [])
  (.seq (.seq (.reg [⟨some 32, .move (.tmp 9), none⟩,
          ⟨some 33, .binOp .eql 24 (.tmp 32) (.const (.pointer none)) 24, none⟩] [])
    (.cond (.tmp 33) [] (.seq (.reg [⟨some 8, .assign (.const (.bool false)), none⟩] [])
      (.ret))
    (.skip)))
  (.seq (.seq (.reg [⟨some 10, .assign (.const (.int .i64 0)), none⟩] [])
    (.block 0 (.loop (.seq (.seq (.reg [⟨some 34, .move (.tmp 10), none⟩,
                ⟨some 35, .move (.tmp 0), none⟩,
                ⟨some 36, .call ⟨.builtin .len, #[.tmp 35], #[34]⟩, none⟩,
                ⟨some 37, .binOp .lss 3 (.tmp 34) (.tmp 36) 3, none⟩] [])
          (.cond (.tmp 37) [] (.skip)
          (.exit 0)))
        (.seq (.block 1 (.reg [⟨some 40, .move (.tmp 9), none⟩,
                ⟨some 41, .move (.tmp 0), none⟩,
                ⟨some 42, .move (.tmp 10), none⟩,
                ⟨some 43, .indexAddr 34 (.tmp 41) (.tmp 42), none⟩,
                ⟨some 44, .load 43 (.tmp 43), none⟩,
                ⟨some 45, .call ⟨.value (.func 21), #[.tmp 40, .tmp 44], #[24, 43]⟩, none⟩] []))
        (.reg [⟨some 38, .move (.tmp 10), none⟩,
            ⟨some 39, .binOp .add 3 (.tmp 38) (.const (.int .i64 1)) 3, none⟩,
            ⟨some 10, .assign (.tmp 39), none⟩] []))))))
  (.seq (.seq (.reg [⟨some 46, .move (.tmp 9), none⟩,
          ⟨some 47, .call ⟨.value (.func 23), #[.tmp 46, .const (.slice none 0 0)], #[24, 30]⟩, none⟩,
          ⟨some 48, .binOp .neq 27 (.tmp 47) (.const (.int .i64 0)) 27, none⟩] [])
    (.cond (.tmp 48) [] (.seq (.reg [⟨some 8, .assign (.const (.bool false)), none⟩] [])
      (.ret))
    (.skip)))
  (.seq (.reg [⟨some 50, .move (.tmp 9), none⟩,
        ⟨some 51, .move (.tmp 1), none⟩,
        ⟨some 52, .call ⟨.value (.func 14), #[.tmp 50, .tmp 51], #[24, 3]⟩, none⟩,
        ⟨some 49, .move (.tmp 52), none⟩,
        ⟨some 53, .extract (.tmp 49) 0, none⟩,
        ⟨some 54, .extract (.tmp 49) 1, none⟩,
        ⟨some 11, .assign (.tmp 53), none⟩,
        ⟨some 12, .assign (.tmp 54), none⟩] [])
  (.seq (.seq (.reg [⟨some 55, .move (.tmp 12), none⟩,
          ⟨some 56, .binOp .neq 27 (.tmp 55) (.const (.int .i64 0)) 27, none⟩] [])
    (.cond (.tmp 56) [] (.seq (.reg [⟨some 57, .move (.tmp 12), none⟩,
            ⟨some 58, .binOp .eql 27 (.tmp 57) (.const (.int .i64 41)) 27, none⟩,
            ⟨some 59, .move (.tmp 58), none⟩,
            ⟨some 60, .move (.tmp 1), some (59, true)⟩,
            ⟨some 61, .binOp .neq 3 (.tmp 60) (.const (.int .i64 0)) 3, some (59, true)⟩,
            ⟨some 62, .pick (.tmp 59) (.tmp 61) (.const (.bool false)), none⟩,
            ⟨some 63, .move (.tmp 62), none⟩,
            ⟨some 64, .move (.tmp 1), some (63, true)⟩,
            ⟨some 65, .binOp .neq 3 (.tmp 64) (.const (.int .i64 1)) 3, some (63, true)⟩,
            ⟨some 66, .pick (.tmp 63) (.tmp 65) (.const (.bool false)), none⟩,
            ⟨some 8, .assign (.tmp 66), none⟩] [])
      (.ret))
    (.skip)))
  (.seq (.seq (.reg [⟨some 67, .move (.tmp 9), none⟩,
          ⟨some 68, .move (.tmp 1), none⟩,
          ⟨some 69, .move (.tmp 2), none⟩,
          ⟨some 70, .call ⟨.value (.func 11), #[.tmp 69], #[22]⟩, none⟩,
          ⟨some 71, .buildSlice 41 1 #[(0, .tmp 70)], none⟩,
          ⟨some 72, .call ⟨.value (.func 12), #[.tmp 67, .tmp 68, .tmp 71], #[24, 3, 41]⟩, none⟩,
          ⟨some 73, .binOp .neq 27 (.tmp 72) (.const (.int .i64 0)) 27, none⟩] [])
    (.cond (.tmp 73) [] (.seq (.reg [⟨some 8, .assign (.const (.bool false)), none⟩] [])
      (.ret))
    (.skip)))
  (.seq (.reg [⟨some 74, .move (.tmp 9), none⟩,
        ⟨some 75, .move (.tmp 3), none⟩,
        ⟨some 76, .call ⟨.value (.func 18), #[.tmp 75], #[30]⟩, none⟩,
        ⟨some 77, .call ⟨.value (.func 13), #[.tmp 74, .tmp 76, .const (.int .i64 (-1))], #[24, 30, 3]⟩, none⟩,
        ⟨some 13, .assign (.tmp 77), none⟩] [])
  (.seq (.seq (.reg [⟨some 78, .move (.tmp 13), none⟩,
          ⟨some 79, .binOp .eql 24 (.tmp 78) (.const (.pointer none)) 24, none⟩] [])
    (.cond (.tmp 79) [] (.seq (.reg [⟨some 8, .assign (.const (.bool false)), none⟩] [])
      (.ret))
    (.skip)))
  (.seq (.reg [⟨some 81, .move (.tmp 13), none⟩,
        ⟨some 82, .move (.tmp 1), none⟩,
        ⟨some 83, .call ⟨.value (.func 14), #[.tmp 81, .tmp 82], #[24, 3]⟩, none⟩,
        ⟨some 80, .move (.tmp 83), none⟩,
        ⟨some 84, .extract (.tmp 80) 0, none⟩,
        ⟨some 85, .extract (.tmp 80) 1, none⟩,
        ⟨some 14, .assign (.tmp 84), none⟩,
        ⟨some 12, .assign (.tmp 85), none⟩] [])
  (.seq (.seq (.drw ((⟨some 86, .move (.tmp 12), none⟩, false) ::
          (⟨some 87, .binOp .neq 27 (.tmp 86) (.const (.int .i64 0)) 27, none⟩, false) ::
          (⟨some 88, .move (.tmp 87), none⟩, false) ::
          (⟨some 89, .move (.tmp 14), some (88, false)⟩, false) ::
          (⟨some 90, .call ⟨.builtin .len, #[.tmp 89], #[22]⟩, some (88, false)⟩, false) ::
          (⟨some 91, .move (.tmp 11), some (88, false)⟩, false) ::
          (⟨some 92, .call ⟨.builtin .len, #[.tmp 91], #[22]⟩, some (88, false)⟩, false) ::
          (⟨some 93, .binOp .lss 3 (.tmp 90) (.tmp 92) 3, some (88, false)⟩, false) ::
          (⟨some 94, .pick (.tmp 88) (.const (.bool true)) (.tmp 93), none⟩, false) ::
          (⟨some 95, .move (.tmp 94), none⟩, false) ::
          (⟨some 96, .move (.tmp 14), some (95, false)⟩, false) ::
          (⟨some 97, .call ⟨.builtin .len, #[.tmp 96], #[22]⟩, some (95, false)⟩, false) ::
          (⟨some 98, .move (.tmp 11), some (95, false)⟩, false) ::
          (⟨some 99, .call ⟨.builtin .len, #[.tmp 98], #[22]⟩, some (95, false)⟩, false) ::
          (⟨some 100, .move (.tmp 2), some (95, false)⟩, false) ::
          (⟨some 101, .call ⟨.builtin .len, #[.tmp 100], #[22]⟩, some (95, false)⟩, false) ::
          (⟨some 102, .binOp .add 3 (.tmp 99) (.tmp 101) 3, some (95, false)⟩, false) ::
          (⟨some 103, .binOp .gtr 3 (.tmp 97) (.tmp 102) 3, some (95, false)⟩, false) ::
          (⟨some 104, .pick (.tmp 95) (.const (.bool true)) (.tmp 103), none⟩, false) ::
          (⟨some 105, .move (.tmp 104), none⟩, false) ::
          (⟨some 106, .move (.tmp 14), some (105, false)⟩, false) ::
          (⟨some 107, .move (.tmp 11), some (105, false)⟩, false) ::
          (⟨some 108, .call ⟨.builtin .len, #[.tmp 107], #[22]⟩, some (105, false)⟩, false) ::
          (⟨some 109, .slice 22 (.tmp 106) none (some (.tmp 108)) none, some (105, false)⟩, false) ::
          (⟨some 110, .move (.tmp 11), some (105, false)⟩, false) ::
          (⟨some 111, .call ⟨.value (.func 15), #[.tmp 109, .tmp 110], #[22, 22]⟩, some (105, false)⟩, true) ::
          (⟨some 112, .unOp .not 4 (.tmp 111), some (105, false)⟩, false) ::
          (⟨some 113, .pick (.tmp 105) (.const (.bool true)) (.tmp 112), none⟩, false) ::
          (⟨some 114, .move (.tmp 113), none⟩, false) ::
          (⟨some 115, .move (.tmp 14), some (114, false)⟩, false) ::
          (⟨some 116, .move (.tmp 11), some (114, false)⟩, false) ::
          (⟨some 117, .call ⟨.builtin .len, #[.tmp 116], #[22]⟩, some (114, false)⟩, false) ::
          (⟨some 118, .slice 22 (.tmp 115) (some (.tmp 117)) none none, some (114, false)⟩, false) ::
          (⟨some 119, .move (.tmp 2), some (114, false)⟩, false) ::
          (⟨some 120, .move (.tmp 14), some (114, false)⟩, false) ::
          (⟨some 121, .call ⟨.builtin .len, #[.tmp 120], #[22]⟩, some (114, false)⟩, false) ::
          (⟨some 122, .move (.tmp 11), some (114, false)⟩, false) ::
          (⟨some 123, .call ⟨.builtin .len, #[.tmp 122], #[22]⟩, some (114, false)⟩, false) ::
          (⟨some 124, .binOp .sub 3 (.tmp 121) (.tmp 123) 3, some (114, false)⟩, false) ::
          (⟨some 125, .slice 22 (.tmp 119) none (some (.tmp 124)) none, some (114, false)⟩, false) ::
          (⟨some 126, .call ⟨.value (.func 15), #[.tmp 118, .tmp 125], #[22, 22]⟩, some (114, false)⟩, true) ::
          (⟨some 127, .unOp .not 4 (.tmp 126), some (114, false)⟩, false) ::
          (⟨some 128, .pick (.tmp 114) (.const (.bool true)) (.tmp 127), none⟩, false) :: []) [])
    (.cond (.tmp 128) [] (.seq (.reg [⟨some 8, .assign (.const (.bool false)), none⟩] [])
      (.ret))
    (.skip)))
  (.seq (.reg [⟨some 129, .move (.tmp 13), none⟩,
        ⟨some 130, .call ⟨.value (.func 13), #[.tmp 129, .const (.slice none 0 0), .const (.int .i64 (-1))], #[24, 30, 3]⟩, none⟩,
        ⟨some 15, .assign (.tmp 130), none⟩] [])
  (.seq (.seq (.reg [⟨some 131, .move (.tmp 15), none⟩,
          ⟨some 132, .binOp .eql 24 (.tmp 131) (.const (.pointer none)) 24, none⟩] [])
    (.cond (.tmp 132) [] (.seq (.reg [⟨some 8, .assign (.const (.bool false)), none⟩] [])
      (.ret))
    (.skip)))
  (.seq (.reg [⟨some 134, .move (.tmp 15), none⟩,
        ⟨some 135, .move (.tmp 1), none⟩,
        ⟨some 136, .call ⟨.value (.func 14), #[.tmp 134, .tmp 135], #[24, 3]⟩, none⟩,
        ⟨some 133, .move (.tmp 136), none⟩,
        ⟨some 137, .extract (.tmp 133) 0, none⟩,
        ⟨some 138, .extract (.tmp 133) 1, none⟩,
        ⟨some 16, .assign (.tmp 137), none⟩,
        ⟨some 17, .assign (.tmp 138), none⟩] [])
  (.seq (.reg [⟨some 140, .move (.tmp 9), none⟩,
        ⟨some 141, .move (.tmp 1), none⟩,
        ⟨some 142, .call ⟨.value (.func 14), #[.tmp 140, .tmp 141], #[24, 3]⟩, none⟩,
        ⟨some 139, .move (.tmp 142), none⟩,
        ⟨some 143, .extract (.tmp 139) 0, none⟩,
        ⟨some 144, .extract (.tmp 139) 1, none⟩,
        ⟨some 18, .assign (.tmp 143), none⟩,
        ⟨some 19, .assign (.tmp 144), none⟩] [])
  (.seq (.reg [⟨some 145, .move (.tmp 16), none⟩,
        ⟨some 146, .move (.tmp 14), none⟩,
        ⟨some 147, .call ⟨.value (.func 15), #[.tmp 145, .tmp 146], #[22, 22]⟩, none⟩,
        ⟨some 148, .move (.tmp 147), none⟩,
        ⟨some 149, .move (.tmp 18), some (148, true)⟩,
        ⟨some 150, .call ⟨.builtin .len, #[.tmp 149], #[22]⟩, some (148, true)⟩,
        ⟨some 151, .move (.tmp 11), some (148, true)⟩,
        ⟨some 152, .call ⟨.builtin .len, #[.tmp 151], #[22]⟩, some (148, true)⟩,
        ⟨some 153, .move (.tmp 2), some (148, true)⟩,
        ⟨some 154, .call ⟨.builtin .len, #[.tmp 153], #[22]⟩, some (148, true)⟩,
        ⟨some 155, .binOp .add 3 (.tmp 152) (.tmp 154) 3, some (148, true)⟩,
        ⟨some 156, .binOp .eql 3 (.tmp 150) (.tmp 155) 3, some (148, true)⟩,
        ⟨some 157, .pick (.tmp 148) (.tmp 156) (.const (.bool false)), none⟩,
        ⟨some 8, .assign (.tmp 157), none⟩] [])
  (.ret))))))))))))))))))))
abbrev r_stanchionlaw04_DiskSafe : List ResultVar := [.tmp 8]
theorem fits_stanchionlaw04_DiskSafe : Fits Try.prog 5 4 c_stanchionlaw04_DiskSafe r_stanchionlaw04_DiskSafe :=
  ⟨_, _, [⟨[], [], [], []⟩, ⟨[], [], [], []⟩, ⟨[], [], [], []⟩, ⟨[], [], [], []⟩, ⟨[], [], [], []⟩, ⟨[], [], [], []⟩, ⟨[], [], [], []⟩, ⟨[], [], [], []⟩, ⟨[], [], [], []⟩, ⟨[], [], [], []⟩, ⟨[], [], [], []⟩, ⟨[], [], [], []⟩, ⟨[], [], [], []⟩, ⟨[], [], [], []⟩, ⟨[], [], [], []⟩, ⟨[], [], [], []⟩, ⟨[], [], [], []⟩, ⟨[], [], [], []⟩, ⟨[], [], [], []⟩, ⟨[], [], [], []⟩, ⟨[], [], [], []⟩, ⟨[], [], [], []⟩, ⟨[], [], [], []⟩, ⟨[], [], [], []⟩, ⟨[], [], [], []⟩, ⟨[], [], [], []⟩, ⟨[], [], [], []⟩, ⟨[], [], [], []⟩, ⟨[], [], [], []⟩, ⟨[], [], [], []⟩, ⟨[], [], [], []⟩, ⟨[], [], [], []⟩, ⟨[some (0, false), some (1, false), some (2, false), some (3, false), some (4, false), some (5, false), some (6, false), some (7, false), some (8, false), some (9, false), some (10, false), some (11, false), some (12, false), some (13, false), some (14, false), some (15, false), some (16, false), some (17, false), some (18, false), some (19, false), some (20, false), some (21, false), some (22, false), some (23, false), some (24, false), some (25, true), some (26, false), some (27, false), some (28, false), some (29, false), some (30, false), some (31, false), some (32, false), some (33, false), some (34, false), some (35, false), some (36, false), some (37, false), some (38, false), some (39, false), some (40, true), some (41, false), some (42, false)], [], [⟨some 86, [12], [], false⟩, ⟨some 87, [86], [0], false⟩, ⟨some 88, [87], [1], false⟩, ⟨some 89, [14, 88], [2], false⟩, ⟨some 90, [89, 88], [3, 2], false⟩, ⟨some 91, [11, 88], [2], false⟩, ⟨some 92, [91, 88], [5, 2], false⟩, ⟨some 93, [90, 92, 88], [4, 6, 2], false⟩, ⟨some 94, [88, 93], [2, 7], false⟩, ⟨some 95, [94], [8, 2], false⟩, ⟨some 96, [14, 95], [9], false⟩, ⟨some 97, [96, 95], [10, 9], false⟩, ⟨some 98, [11, 95], [9], false⟩, ⟨some 99, [98, 95], [12, 9], false⟩, ⟨some 100, [2, 95], [9], false⟩, ⟨some 101, [100, 95], [14, 9], false⟩, ⟨some 102, [99, 101, 95], [13, 15, 9], false⟩, ⟨some 103, [97, 102, 95], [11, 16, 9], false⟩, ⟨some 104, [95, 103], [9, 17], false⟩, ⟨some 105, [104], [18, 9], false⟩, ⟨some 106, [14, 105], [19], false⟩, ⟨some 107, [11, 105], [19], false⟩, ⟨some 108, [107, 105], [21, 19], false⟩, ⟨some 109, [106, 108, 105], [20, 22, 19], false⟩, ⟨some 110, [11, 105], [19], false⟩, ⟨some 111, [109, 110, 105], [23, 24, 19, 19], true⟩, ⟨some 112, [111, 105], [25, 19], false⟩, ⟨some 113, [105, 112], [19, 26], false⟩, ⟨some 114, [113], [27, 25], false⟩, ⟨some 115, [14, 114], [28], false⟩, ⟨some 116, [11, 114], [28], false⟩, ⟨some 117, [116, 114], [30, 28], false⟩, ⟨some 118, [115, 117, 114], [29, 31, 28], false⟩, ⟨some 119, [2, 114], [28], false⟩, ⟨some 120, [14, 114], [28], false⟩, ⟨some 121, [120, 114], [34, 28], false⟩, ⟨some 122, [11, 114], [28], false⟩, ⟨some 123, [122, 114], [36, 28], false⟩, ⟨some 124, [121, 123, 114], [35, 37, 28], false⟩, ⟨some 125, [119, 124, 114], [33, 38, 28], false⟩, ⟨some 126, [118, 125, 114], [32, 39, 28, 28], true⟩, ⟨some 127, [126, 114], [40, 28], false⟩, ⟨some 128, [114, 127], [28, 41], false⟩], [0, 1, 3, 7, 15, 7, 39, 127, 255, 511, 1023, 2047, 1023, 5119, 1023, 17407, 62463, 131071, 262143, 524287, 1048575, 1048575, 3145727, 8388607, 1048575, 33554431, 67108863, 134217727, 268435455, 536870911, 536870911, 1610612735, 4294967295, 536870911, 536870911, 17716740095, 536870911, 69256347647, 258234908671, 541702750207, 1099511627775, 2199023255551, 4398046511103]⟩, ⟨[], [], [], []⟩, ⟨[], [], [], []⟩, ⟨[], [], [], []⟩, ⟨[], [], [], []⟩, ⟨[], [], [], []⟩, ⟨[], [], [], []⟩, ⟨[], [], [], []⟩, ⟨[], [], [], []⟩, ⟨[], [], [], []⟩], Try.func5, by kernel_rfl, rfl, by kernel_rfl, by kernel_rfl, by decide, rfl⟩

/-! stanchion/stanchionlaw04.DiskPower -/
abbrev n_stanchionlaw04_DiskPower : FuncId := 6
def c_stanchionlaw04_DiskPower : LC :=
  .seq (.reg [⟨some 4, .assign (.const (.bool false)), none⟩] [])
  (.seq (.seq (.reg [⟨some 16, .call ⟨.value (.func 9), #[], #[]⟩, none⟩,
          ⟨some 17, .unOp .not 4 (.tmp 16), none⟩] [])
    (.cond (.tmp 17) [] (.seq (.reg [⟨some 4, .assign (.const (.bool false)), none⟩] [])
      (.ret))
    (.skip)))
  (.seq (.reg [⟨some 18, .move (.tmp 1), none⟩,
        ⟨some 19, .call ⟨.value (.func 16), #[.tmp 18], #[34]⟩, none⟩,
        ⟨some 1, .assign (.tmp 19), none⟩] [])
  (.seq (.seq (.reg [⟨some 20, .move (.tmp 1), none⟩,
          ⟨some 21, .call ⟨.value (.func 17), #[.tmp 20], #[34]⟩, none⟩,
          ⟨some 22, .move (.tmp 21), none⟩,
          ⟨some 23, .move (.tmp 0), some (22, false)⟩,
          ⟨some 24, .binOp .lss 3 (.tmp 23) (.const (.int .i64 0)) 3, some (22, false)⟩,
          ⟨some 25, .pick (.tmp 22) (.const (.bool true)) (.tmp 24), none⟩] [])
    (.cond (.tmp 25) [] (.seq (.reg [⟨some 4, .assign (.const (.bool true)), none⟩] [])
      (.ret))
    (.skip)))
  (.seq (.reg [⟨some 26, .move (.tmp 0), none⟩,
        ⟨some 27, .call ⟨.value (.func 10), #[.tmp 26], #[3]⟩, none⟩,
        ⟨some 5, .assign (.tmp 27), none⟩] [])
  (.seq (.reg [⟨some 28, .call ⟨.value (.func 10), #[.const (.int .i64 (-1))], #[3]⟩, none⟩,
        ⟨some 6, .assign (.tmp 28), none⟩] [])
  (.seq (.seq (.reg [⟨some 29, .move (.tmp 5), none⟩,
          ⟨some 30, .binOp .eql 24 (.tmp 29) (.const (.pointer none)) 24, none⟩,
          ⟨some 31, .move (.tmp 30), none⟩,
          ⟨some 32, .move (.tmp 6), some (31, false)⟩,
          ⟨some 33, .binOp .eql 24 (.tmp 32) (.const (.pointer none)) 24, some (31, false)⟩,
          ⟨some 34, .pick (.tmp 31) (.const (.bool true)) (.tmp 33), none⟩] [])
    (.cond (.tmp 34) [] (.seq (.reg [⟨some 4, .assign (.const (.bool false)), none⟩] [])
      (.ret))
    (.skip)))
  (.seq (.reg [⟨some 35, .move (.tmp 0), none⟩,
        ⟨some 7, .assign (.tmp 35), none⟩] [])
  (.seq (.seq (.reg [⟨some 8, .assign (.const (.int .i64 0)), none⟩] [])
    (.block 0 (.loop (.seq (.seq (.reg [⟨some 36, .move (.tmp 8), none⟩,
                ⟨some 37, .move (.tmp 1), none⟩,
                ⟨some 38, .call ⟨.builtin .len, #[.tmp 37], #[34]⟩, none⟩,
                ⟨some 39, .binOp .lss 3 (.tmp 36) (.tmp 38) 3, none⟩] [])
          (.cond (.tmp 39) [] (.skip)
          (.exit 0)))
        (.seq (.block 1 (.seq (.reg [⟨some 42, .move (.tmp 1), none⟩,
                  ⟨some 43, .move (.tmp 8), none⟩,
                  ⟨some 44, .indexAddr 34 (.tmp 42) (.tmp 43), none⟩,
                  ⟨some 45, .load 43 (.tmp 44), none⟩,
                  ⟨some 9, .alloc 43, none⟩,
                  ⟨none, .store 43 (.tmp 9) (.tmp 45), none⟩] [])
            (.seq (.seq (.reg [⟨some 46, .fieldAddr 43 (.tmp 9) 0, none⟩,
                    ⟨some 47, .load 3 (.tmp 46), none⟩,
                    ⟨some 48, .binOp .lss 3 (.tmp 47) (.const (.int .i64 1)) 3, none⟩,
                    ⟨some 49, .move (.tmp 48), none⟩,
                    ⟨some 50, .fieldAddr 43 (.tmp 9) 0, some (49, false)⟩,
                    ⟨some 51, .load 3 (.tmp 50), some (49, false)⟩,
                    ⟨some 52, .binOp .gtr 3 (.tmp 51) (.const (.int .i64 3)) 3, some (49, false)⟩,
                    ⟨some 53, .pick (.tmp 49) (.const (.bool true)) (.tmp 52), none⟩] [])
              (.cond (.tmp 53) [] (.exit 1)
              (.skip)))
            (.seq (.reg [⟨some 54, .move (.tmp 5), none⟩,
                  ⟨some 55, .load 43 (.tmp 9), none⟩,
                  ⟨some 56, .call ⟨.value (.func 21), #[.tmp 54, .tmp 55], #[24, 43]⟩, none⟩,
                  ⟨some 10, .assign (.tmp 56), none⟩] [])
            (.seq (.seq (.reg [⟨some 57, .move (.tmp 7), none⟩,
                    ⟨some 58, .binOp .eql 3 (.tmp 57) (.const (.int .i64 0)) 3, none⟩] [])
              (.cond (.tmp 58) [] (.seq (.seq (.reg [⟨some 59, .move (.tmp 10), none⟩,
                        ⟨some 60, .binOp .eql 27 (.tmp 59) (.const (.int .i64 0)) 27, none⟩] [])
                  (.cond (.tmp 60) [] (.seq (.reg [⟨some 4, .assign (.const (.bool false)), none⟩] [])
                    (.ret))
                  (.skip)))
                (.exit 1))
              (.skip)))
            (.seq (.seq (.reg [⟨some 61, .move (.tmp 10), none⟩,
                    ⟨some 62, .move (.tmp 6), none⟩,
                    ⟨some 63, .load 43 (.tmp 9), none⟩,
                    ⟨some 64, .call ⟨.value (.func 21), #[.tmp 62, .tmp 63], #[24, 43]⟩, none⟩,
                    ⟨some 65, .binOp .neq 27 (.tmp 61) (.tmp 64) 27, none⟩] [])
              (.cond (.tmp 65) [] (.seq (.reg [⟨some 4, .assign (.const (.bool false)), none⟩] [])
                (.ret))
              (.skip)))
            (.seq (.reg [⟨some 66, .move (.tmp 10), none⟩,
                  ⟨some 67, .binOp .eql 27 (.tmp 66) (.const (.int .i64 0)) 27, none⟩] [])
            (.cond (.tmp 67) [] (.reg [⟨some 68, .move (.tmp 7), none⟩,
                  ⟨some 69, .binOp .sub 3 (.tmp 68) (.const (.int .i64 1)) 3, none⟩,
                  ⟨some 7, .assign (.tmp 69), none⟩] [])
            (.skip)))))))))
        (.reg [⟨some 40, .move (.tmp 8), none⟩,
            ⟨some 41, .binOp .add 3 (.tmp 40) (.const (.int .i64 1)) 3, none⟩,
            ⟨some 8, .assign (.tmp 41), none⟩] []))))))
  (.seq (.seq (.reg [⟨some 11, .assign (.const (.int .i64 0)), none⟩] [])
    (.block 2 (.loop (.seq (.seq (.reg [⟨some 70, .move (.tmp 11), none⟩,
                ⟨some 71, .binOp .lss 3 (.tmp 70) (.const (.int .i64 2)) 3, none⟩] [])
          (.cond (.tmp 71) [] (.skip)
          (.exit 2)))
        (.seq (.block 3 (.seq (.reg [⟨some 75, .move (.tmp 5), none⟩,
                  ⟨some 76, .move (.tmp 11), none⟩,
                  ⟨some 77, .call ⟨.value (.func 14), #[.tmp 75, .tmp 76], #[24, 3]⟩, none⟩,
                  ⟨some 74, .move (.tmp 77), none⟩,
                  ⟨some 78, .extract (.tmp 74) 0, none⟩,
                  ⟨some 79, .extract (.tmp 74) 1, none⟩,
                  ⟨some 12, .assign (.tmp 78), none⟩,
                  ⟨some 13, .assign (.tmp 79), none⟩] [])
            (.seq (.reg [⟨some 81, .move (.tmp 6), none⟩,
                  ⟨some 82, .move (.tmp 11), none⟩,
                  ⟨some 83, .call ⟨.value (.func 14), #[.tmp 81, .tmp 82], #[24, 3]⟩, none⟩,
                  ⟨some 80, .move (.tmp 83), none⟩,
                  ⟨some 84, .extract (.tmp 80) 0, none⟩,
                  ⟨some 85, .extract (.tmp 80) 1, none⟩,
                  ⟨some 14, .assign (.tmp 84), none⟩,
                  ⟨some 15, .assign (.tmp 85), none⟩] [])
            (.seq (.reg [⟨some 86, .move (.tmp 12), none⟩,
                  ⟨some 87, .move (.tmp 14), none⟩,
                  ⟨some 88, .call ⟨.value (.func 15), #[.tmp 86, .tmp 87], #[22, 22]⟩, none⟩,
                  ⟨some 89, .unOp .not 4 (.tmp 88), none⟩] [])
            (.cond (.tmp 89) [] (.seq (.reg [⟨some 4, .assign (.const (.bool false)), none⟩] [])
              (.ret))
            (.skip))))))
        (.reg [⟨some 72, .move (.tmp 11), none⟩,
            ⟨some 73, .binOp .add 3 (.tmp 72) (.const (.int .i64 1)) 3, none⟩,
            ⟨some 11, .assign (.tmp 73), none⟩] []))))))
  (.seq (.reg [⟨some 4, .assign (.const (.bool true)), none⟩] [])
  (.ret)))))))))))
abbrev r_stanchionlaw04_DiskPower : List ResultVar := [.tmp 4]
theorem fits_stanchionlaw04_DiskPower : Fits Try.prog 6 2 c_stanchionlaw04_DiskPower r_stanchionlaw04_DiskPower :=
  ⟨_, _, [⟨[], [], [], []⟩, ⟨[], [], [], []⟩, ⟨[], [], [], []⟩, ⟨[], [], [], []⟩, ⟨[], [], [], []⟩, ⟨[], [], [], []⟩, ⟨[], [], [], []⟩, ⟨[], [], [], []⟩, ⟨[], [], [], []⟩, ⟨[], [], [], []⟩, ⟨[], [], [], []⟩, ⟨[], [], [], []⟩, ⟨[], [], [], []⟩, ⟨[], [], [], []⟩, ⟨[], [], [], []⟩, ⟨[], [], [], []⟩, ⟨[], [], [], []⟩, ⟨[], [], [], []⟩, ⟨[], [], [], []⟩, ⟨[], [], [], []⟩, ⟨[], [], [], []⟩, ⟨[], [], [], []⟩, ⟨[], [], [], []⟩, ⟨[], [], [], []⟩, ⟨[], [], [], []⟩, ⟨[], [], [], []⟩, ⟨[], [], [], []⟩, ⟨[], [], [], []⟩, ⟨[], [], [], []⟩, ⟨[], [], [], []⟩, ⟨[], [], [], []⟩, ⟨[], [], [], []⟩, ⟨[], [], [], []⟩, ⟨[], [], [], []⟩, ⟨[], [], [], []⟩, ⟨[], [], [], []⟩, ⟨[], [], [], []⟩, ⟨[], [], [], []⟩, ⟨[], [], [], []⟩, ⟨[], [], [], []⟩, ⟨[], [], [], []⟩, ⟨[], [], [], []⟩, ⟨[], [], [], []⟩], Try.func6, by kernel_rfl, rfl, by kernel_rfl, by kernel_rfl, by decide, rfl⟩

/-! stanchion/stanchionlaw04.DiskAreas -/
abbrev n_stanchionlaw04_DiskAreas : FuncId := 7
def c_stanchionlaw04_DiskAreas : LC :=
  .seq (.reg [⟨some 6, .assign (.const (.bool false)), none⟩] [])
  (.seq (.seq (.reg [⟨some 15, .call ⟨.value (.func 9), #[], #[]⟩, none⟩,
          ⟨some 16, .unOp .not 4 (.tmp 15), none⟩] [])
    (.cond (.tmp 16) [] (.seq (.reg [⟨some 6, .assign (.const (.bool false)), none⟩] [])
      (.ret))
    (.skip)))
  (.seq (.reg [⟨some 17, .move (.tmp 0), none⟩,
        ⟨some 18, .call ⟨.value (.func 16), #[.tmp 17], #[34]⟩, none⟩,
        ⟨some 0, .assign (.tmp 18), none⟩] [])
  (.seq (.seq (.reg [⟨some 19, .move (.tmp 0), none⟩,
          ⟨some 20, .call ⟨.value (.func 17), #[.tmp 19], #[34]⟩, none⟩,
          ⟨some 21, .move (.tmp 20), none⟩,
          ⟨some 22, .move (.tmp 1), some (21, false)⟩,
          ⟨some 23, .binOp .neq 3 (.tmp 22) (.const (.int .i64 0)) 3, some (21, false)⟩,
          ⟨some 24, .move (.tmp 23), some (21, false)⟩,
          ⟨some 25, .move (.tmp 1), some (24, true)⟩,
          ⟨some 26, .binOp .neq 3 (.tmp 25) (.const (.int .i64 1)) 3, some (24, true)⟩,
          ⟨some 27, .pick (.tmp 24) (.tmp 26) (.const (.bool false)), some (21, false)⟩,
          ⟨some 28, .pick (.tmp 21) (.const (.bool true)) (.tmp 27), none⟩] [])
    (.cond (.tmp 28) [] (.seq (.reg [⟨some 6, .assign (.const (.bool true)), none⟩] [])
      (.ret))
    (.skip)))
  (.seq (.reg [⟨some 29, .call ⟨.value (.func 10), #[.const (.int .i64 (-1))], #[3]⟩, none⟩,
        ⟨some 7, .assign (.tmp 29), none⟩] [])
  (.seq (.reg [⟨some 30, .call ⟨.value (.func 10), #[.const (.int .i64 (-1))], #[3]⟩, none⟩,
        ⟨some 8, .assign (.tmp 30), none⟩] [])
  (.seq (.seq (.reg [⟨some 31, .move (.tmp 7), none⟩,
          ⟨some 32, .binOp .eql 24 (.tmp 31) (.const (.pointer none)) 24, none⟩,
          ⟨some 33, .move (.tmp 32), none⟩,
          ⟨some 34, .move (.tmp 8), some (33, false)⟩,
          ⟨some 35, .binOp .eql 24 (.tmp 34) (.const (.pointer none)) 24, some (33, false)⟩,
          ⟨some 36, .pick (.tmp 33) (.const (.bool true)) (.tmp 35), none⟩] [])
    (.cond (.tmp 36) [] (.seq (.reg [⟨some 6, .assign (.const (.bool false)), none⟩] [])
      (.ret))
    (.skip)))
  (.seq (.seq (.reg [⟨some 9, .assign (.const (.int .i64 0)), none⟩] [])
    (.block 0 (.loop (.seq (.seq (.reg [⟨some 37, .move (.tmp 9), none⟩,
                ⟨some 38, .move (.tmp 0), none⟩,
                ⟨some 39, .call ⟨.builtin .len, #[.tmp 38], #[34]⟩, none⟩,
                ⟨some 40, .binOp .lss 3 (.tmp 37) (.tmp 39) 3, none⟩] [])
          (.cond (.tmp 40) [] (.skip)
          (.exit 0)))
        (.seq (.block 1 (.seq (.reg [⟨some 43, .move (.tmp 0), none⟩,
                  ⟨some 44, .move (.tmp 9), none⟩,
                  ⟨some 45, .indexAddr 34 (.tmp 43) (.tmp 44), none⟩,
                  ⟨some 46, .load 43 (.tmp 45), none⟩,
                  ⟨some 10, .alloc 43, none⟩,
                  ⟨none, .store 43 (.tmp 10) (.tmp 46), none⟩] [])
            (.seq (.seq (.reg [⟨some 47, .fieldAddr 43 (.tmp 10) 0, none⟩,
                    ⟨some 48, .load 3 (.tmp 47), none⟩,
                    ⟨some 49, .binOp .eql 3 (.tmp 48) (.const (.int .i64 3)) 3, none⟩] [])
              (.cond (.tmp 49) [] (.reg [⟨some 50, .fieldAddr 43 (.tmp 10) 1, none⟩,
                    ⟨some 51, .load 3 (.tmp 50), none⟩,
                    ⟨some 52, .buildSlice 30 1 #[(0, .tmp 51)], none⟩,
                    ⟨some 53, .fieldAddr 43 (.tmp 10) 4, none⟩,
                    ⟨none, .store 30 (.tmp 53) (.tmp 52), none⟩] [])
              (.skip)))
            (.seq (.reg [⟨some 54, .move (.tmp 7), none⟩,
                  ⟨some 55, .load 43 (.tmp 10), none⟩,
                  ⟨some 56, .call ⟨.value (.func 21), #[.tmp 54, .tmp 55], #[24, 43]⟩, none⟩] [])
            (.seq (.reg [⟨some 57, .fieldAddr 43 (.tmp 10) 1, none⟩,
                  ⟨some 58, .load 3 (.tmp 57), none⟩,
                  ⟨some 59, .move (.tmp 1), none⟩,
                  ⟨some 60, .binOp .eql 3 (.tmp 58) (.tmp 59) 3, none⟩] [])
            (.cond (.tmp 60) [] (.reg [⟨some 61, .move (.tmp 8), none⟩,
                  ⟨some 62, .load 43 (.tmp 10), none⟩,
                  ⟨some 63, .call ⟨.value (.func 21), #[.tmp 61, .tmp 62], #[24, 43]⟩, none⟩] [])
            (.skip)))))))
        (.reg [⟨some 41, .move (.tmp 9), none⟩,
            ⟨some 42, .binOp .add 3 (.tmp 41) (.const (.int .i64 1)) 3, none⟩,
            ⟨some 9, .assign (.tmp 42), none⟩] []))))))
  (.seq (.reg [⟨some 65, .move (.tmp 7), none⟩,
        ⟨some 66, .move (.tmp 1), none⟩,
        ⟨some 67, .call ⟨.value (.func 14), #[.tmp 65, .tmp 66], #[24, 3]⟩, none⟩,
        ⟨some 64, .move (.tmp 67), none⟩,
        ⟨some 68, .extract (.tmp 64) 0, none⟩,
        ⟨some 69, .extract (.tmp 64) 1, none⟩,
        ⟨some 11, .assign (.tmp 68), none⟩,
        ⟨some 12, .assign (.tmp 69), none⟩] [])
  (.seq (.reg [⟨some 71, .move (.tmp 8), none⟩,
        ⟨some 72, .move (.tmp 1), none⟩,
        ⟨some 73, .call ⟨.value (.func 14), #[.tmp 71, .tmp 72], #[24, 3]⟩, none⟩,
        ⟨some 70, .move (.tmp 73), none⟩,
        ⟨some 74, .extract (.tmp 70) 0, none⟩,
        ⟨some 75, .extract (.tmp 70) 1, none⟩,
        ⟨some 13, .assign (.tmp 74), none⟩,
        ⟨some 14, .assign (.tmp 75), none⟩] [])
  (.seq (.reg [⟨some 76, .move (.tmp 7), none⟩,
        ⟨some 77, .move (.tmp 2), none⟩,
        ⟨some 78, .call ⟨.value (.func 18), #[.tmp 77], #[30]⟩, none⟩,
        ⟨some 79, .call ⟨.value (.func 13), #[.tmp 76, .tmp 78, .const (.int .i64 (-1))], #[24, 30, 3]⟩, none⟩,
        ⟨some 7, .assign (.tmp 79), none⟩] [])
  (.seq (.reg [⟨some 80, .move (.tmp 8), none⟩,
        ⟨some 81, .move (.tmp 2), none⟩,
        ⟨some 82, .call ⟨.value (.func 18), #[.tmp 81], #[30]⟩, none⟩,
        ⟨some 83, .call ⟨.value (.func 13), #[.tmp 80, .tmp 82, .const (.int .i64 (-1))], #[24, 30, 3]⟩, none⟩,
        ⟨some 8, .assign (.tmp 83), none⟩] [])
  (.seq (.seq (.reg [⟨some 84, .move (.tmp 7), none⟩,
          ⟨some 85, .binOp .eql 24 (.tmp 84) (.const (.pointer none)) 24, none⟩,
          ⟨some 86, .move (.tmp 85), none⟩,
          ⟨some 87, .move (.tmp 8), some (86, false)⟩,
          ⟨some 88, .binOp .eql 24 (.tmp 87) (.const (.pointer none)) 24, some (86, false)⟩,
          ⟨some 89, .pick (.tmp 86) (.const (.bool true)) (.tmp 88), none⟩,
          ⟨some 90, .move (.tmp 89), none⟩,
          ⟨some 91, .move (.tmp 11), some (90, false)⟩,
          ⟨some 92, .move (.tmp 13), some (90, false)⟩,
          ⟨some 93, .call ⟨.value (.func 15), #[.tmp 91, .tmp 92], #[22, 22]⟩, some (90, false)⟩,
          ⟨some 94, .unOp .not 4 (.tmp 93), some (90, false)⟩,
          ⟨some 95, .pick (.tmp 90) (.const (.bool true)) (.tmp 94), none⟩] [])
    (.cond (.tmp 95) [] (.seq (.reg [⟨some 6, .assign (.const (.bool false)), none⟩] [])
      (.ret))
    (.skip)))
  (.seq (.reg [⟨some 97, .move (.tmp 7), none⟩,
        ⟨some 98, .move (.tmp 1), none⟩,
        ⟨some 99, .call ⟨.value (.func 14), #[.tmp 97, .tmp 98], #[24, 3]⟩, none⟩,
        ⟨some 96, .move (.tmp 99), none⟩,
        ⟨some 100, .extract (.tmp 96) 0, none⟩,
        ⟨some 101, .extract (.tmp 96) 1, none⟩,
        ⟨some 11, .assign (.tmp 100), none⟩] [])
  (.seq (.reg [⟨some 103, .move (.tmp 8), none⟩,
        ⟨some 104, .move (.tmp 1), none⟩,
        ⟨some 105, .call ⟨.value (.func 14), #[.tmp 103, .tmp 104], #[24, 3]⟩, none⟩,
        ⟨some 102, .move (.tmp 105), none⟩,
        ⟨some 106, .extract (.tmp 102) 0, none⟩,
        ⟨some 107, .extract (.tmp 102) 1, none⟩,
        ⟨some 13, .assign (.tmp 106), none⟩] [])
  (.seq (.reg [⟨some 108, .move (.tmp 11), none⟩,
        ⟨some 109, .move (.tmp 13), none⟩,
        ⟨some 110, .call ⟨.value (.func 15), #[.tmp 108, .tmp 109], #[22, 22]⟩, none⟩,
        ⟨some 6, .assign (.tmp 110), none⟩] [])
  (.ret))))))))))))))))
abbrev r_stanchionlaw04_DiskAreas : List ResultVar := [.tmp 6]
theorem fits_stanchionlaw04_DiskAreas : Fits Try.prog 7 3 c_stanchionlaw04_DiskAreas r_stanchionlaw04_DiskAreas :=
  ⟨_, _, [⟨[], [], [], []⟩, ⟨[], [], [], []⟩, ⟨[], [], [], []⟩, ⟨[], [], [], []⟩, ⟨[], [], [], []⟩, ⟨[], [], [], []⟩, ⟨[], [], [], []⟩, ⟨[], [], [], []⟩, ⟨[], [], [], []⟩, ⟨[], [], [], []⟩, ⟨[], [], [], []⟩, ⟨[], [], [], []⟩, ⟨[], [], [], []⟩, ⟨[], [], [], []⟩, ⟨[], [], [], []⟩, ⟨[], [], [], []⟩, ⟨[], [], [], []⟩, ⟨[], [], [], []⟩, ⟨[], [], [], []⟩, ⟨[], [], [], []⟩, ⟨[], [], [], []⟩, ⟨[], [], [], []⟩, ⟨[], [], [], []⟩, ⟨[], [], [], []⟩, ⟨[], [], [], []⟩, ⟨[], [], [], []⟩, ⟨[], [], [], []⟩, ⟨[], [], [], []⟩, ⟨[], [], [], []⟩, ⟨[], [], [], []⟩, ⟨[], [], [], []⟩, ⟨[], [], [], []⟩, ⟨[], [], [], []⟩, ⟨[], [], [], []⟩, ⟨[], [], [], []⟩], Try.func7, by kernel_rfl, rfl, by kernel_rfl, by kernel_rfl, by decide, rfl⟩

/-! stanchion/stanchionlaw04.DiskTrims -/
abbrev n_stanchionlaw04_DiskTrims : FuncId := 8
def c_stanchionlaw04_DiskTrims : LC :=
  .seq (.reg [⟨some 6, .assign (.const (.bool false)), none⟩] [])
  (.seq (.seq (.reg [⟨some 18, .call ⟨.value (.func 9), #[], #[]⟩, none⟩,
          ⟨some 19, .unOp .not 4 (.tmp 18), none⟩] [])
    (.cond (.tmp 19) [] (.seq (.reg [⟨some 6, .assign (.const (.bool false)), none⟩] [])
      (.ret))
    (.skip)))
  (.seq (.seq (.reg [⟨some 20, .move (.tmp 0), none⟩,
          ⟨some 21, .call ⟨.builtin .len, #[.tmp 20], #[22]⟩, none⟩,
          ⟨some 22, .move (.tmp 2), none⟩,
          ⟨some 23, .call ⟨.builtin .len, #[.tmp 22], #[22]⟩, none⟩,
          ⟨some 24, .binOp .add 3 (.tmp 21) (.tmp 23) 3, none⟩,
          ⟨some 25, .binOp .gtr 3 (.tmp 24) (.const (.int .i64 5000)) 3, none⟩] [])
    (.cond (.tmp 25) [] (.seq (.reg [⟨some 6, .assign (.const (.bool true)), none⟩] [])
      (.ret))
    (.skip)))
  (.seq (.reg [⟨some 26, .call ⟨.value (.func 10), #[.const (.int .i64 (-1))], #[3]⟩, none⟩,
        ⟨some 7, .assign (.tmp 26), none⟩] [])
  (.seq (.seq (.reg [⟨some 27, .move (.tmp 7), none⟩,
          ⟨some 28, .binOp .eql 24 (.tmp 27) (.const (.pointer none)) 24, none⟩,
          ⟨some 29, .move (.tmp 28), none⟩,
          ⟨some 30, .move (.tmp 7), some (29, false)⟩,
          ⟨some 31, .move (.tmp 0), some (29, false)⟩,
          ⟨some 32, .call ⟨.value (.func 11), #[.tmp 31], #[22]⟩, some (29, false)⟩,
          ⟨some 33, .buildSlice 41 1 #[(0, .tmp 32)], some (29, false)⟩,
          ⟨some 34, .call ⟨.value (.func 12), #[.tmp 30, .const (.int .i64 0), .tmp 33], #[24, 3, 41]⟩, some (29, false)⟩,
          ⟨some 35, .binOp .neq 27 (.tmp 34) (.const (.int .i64 0)) 27, some (29, false)⟩,
          ⟨some 36, .pick (.tmp 29) (.const (.bool true)) (.tmp 35), none⟩,
          ⟨some 37, .move (.tmp 36), none⟩,
          ⟨some 38, .move (.tmp 7), some (37, false)⟩,
          ⟨some 39, .call ⟨.value (.func 23), #[.tmp 38, .const (.slice none 0 0)], #[24, 30]⟩, some (37, false)⟩,
          ⟨some 40, .binOp .neq 27 (.tmp 39) (.const (.int .i64 0)) 27, some (37, false)⟩,
          ⟨some 41, .pick (.tmp 37) (.const (.bool true)) (.tmp 40), none⟩] [])
    (.cond (.tmp 41) [] (.seq (.reg [⟨some 6, .assign (.const (.bool false)), none⟩] [])
      (.ret))
    (.skip)))
  (.seq (.reg [⟨some 42, .move (.tmp 7), none⟩,
        ⟨some 43, .move (.tmp 1), none⟩,
        ⟨some 44, .call ⟨.value (.func 24), #[.tmp 42, .const (.int .i64 0), .tmp 43], #[24, 3, 3]⟩, none⟩,
        ⟨some 8, .assign (.tmp 44), none⟩] [])
  (.seq (.seq (.reg [⟨some 45, .move (.tmp 1), none⟩,
          ⟨some 46, .binOp .lss 3 (.tmp 45) (.const (.int .i64 0)) 3, none⟩,
          ⟨some 47, .move (.tmp 46), none⟩,
          ⟨some 48, .move (.tmp 1), some (47, false)⟩,
          ⟨some 49, .move (.tmp 0), some (47, false)⟩,
          ⟨some 50, .call ⟨.builtin .len, #[.tmp 49], #[22]⟩, some (47, false)⟩,
          ⟨some 51, .binOp .gtr 3 (.tmp 48) (.tmp 50) 3, some (47, false)⟩,
          ⟨some 52, .pick (.tmp 47) (.const (.bool true)) (.tmp 51), none⟩] [])
    (.cond (.tmp 52) [] (.seq (.reg [⟨some 54, .move (.tmp 7), none⟩,
            ⟨some 55, .call ⟨.value (.func 14), #[.tmp 54, .const (.int .i64 0)], #[24, 3]⟩, none⟩,
            ⟨some 53, .move (.tmp 55), none⟩,
            ⟨some 56, .extract (.tmp 53) 0, none⟩,
            ⟨some 57, .extract (.tmp 53) 1, none⟩,
            ⟨some 9, .assign (.tmp 56), none⟩,
            ⟨some 10, .assign (.tmp 57), none⟩] [])
      (.seq (.reg [⟨some 58, .move (.tmp 8), none⟩,
            ⟨some 59, .binOp .eql 27 (.tmp 58) (.const (.int .i64 41)) 27, none⟩,
            ⟨some 60, .move (.tmp 59), none⟩,
            ⟨some 61, .move (.tmp 9), some (60, true)⟩,
            ⟨some 62, .move (.tmp 0), some (60, true)⟩,
            ⟨some 63, .call ⟨.value (.func 15), #[.tmp 61, .tmp 62], #[22, 22]⟩, some (60, true)⟩,
            ⟨some 64, .pick (.tmp 60) (.tmp 63) (.const (.bool false)), none⟩,
            ⟨some 6, .assign (.tmp 64), none⟩] [])
      (.ret)))
    (.skip)))
  (.seq (.seq (.reg [⟨some 65, .move (.tmp 8), none⟩,
          ⟨some 66, .binOp .neq 27 (.tmp 65) (.const (.int .i64 0)) 27, none⟩,
          ⟨some 67, .move (.tmp 66), none⟩,
          ⟨some 68, .move (.tmp 7), some (67, false)⟩,
          ⟨some 69, .move (.tmp 2), some (67, false)⟩,
          ⟨some 70, .call ⟨.value (.func 11), #[.tmp 69], #[22]⟩, some (67, false)⟩,
          ⟨some 71, .buildSlice 41 1 #[(0, .tmp 70)], some (67, false)⟩,
          ⟨some 72, .call ⟨.value (.func 12), #[.tmp 68, .const (.int .i64 0), .tmp 71], #[24, 3, 41]⟩, some (67, false)⟩,
          ⟨some 73, .binOp .neq 27 (.tmp 72) (.const (.int .i64 0)) 27, some (67, false)⟩,
          ⟨some 74, .pick (.tmp 67) (.const (.bool true)) (.tmp 73), none⟩] [])
    (.cond (.tmp 74) [] (.seq (.reg [⟨some 6, .assign (.const (.bool false)), none⟩] [])
      (.ret))
    (.skip)))
  (.seq (.reg [⟨some 75, .move (.tmp 0), none⟩,
        ⟨some 76, .move (.tmp 1), none⟩,
        ⟨some 77, .slice 22 (.tmp 75) none (some (.tmp 76)) none, none⟩,
        ⟨some 78, .call ⟨.value (.func 11), #[.tmp 77], #[22]⟩, none⟩,
        ⟨some 11, .assign (.tmp 78), none⟩] [])
  (.seq (.reg [⟨some 79, .move (.tmp 7), none⟩,
        ⟨some 80, .call ⟨.value (.func 13), #[.tmp 79, .const (.slice none 0 0), .const (.int .i64 (-1))], #[24, 30, 3]⟩, none⟩,
        ⟨some 12, .assign (.tmp 80), none⟩] [])
  (.seq (.reg [⟨some 81, .move (.tmp 7), none⟩,
        ⟨some 82, .buildSlice 30 1 #[(0, .const (.int .i64 1099511627776))], none⟩,
        ⟨some 83, .call ⟨.value (.func 13), #[.tmp 81, .tmp 82, .const (.int .i64 (-1))], #[24, 30, 3]⟩, none⟩,
        ⟨some 13, .assign (.tmp 83), none⟩] [])
  (.seq (.seq (.reg [⟨some 84, .move (.tmp 12), none⟩,
          ⟨some 85, .binOp .eql 24 (.tmp 84) (.const (.pointer none)) 24, none⟩,
          ⟨some 86, .move (.tmp 85), none⟩,
          ⟨some 87, .move (.tmp 13), some (86, false)⟩,
          ⟨some 88, .binOp .eql 24 (.tmp 87) (.const (.pointer none)) 24, some (86, false)⟩,
          ⟨some 89, .pick (.tmp 86) (.const (.bool true)) (.tmp 88), none⟩] [])
    (.cond (.tmp 89) [] (.seq (.reg [⟨some 6, .assign (.const (.bool false)), none⟩] [])
      (.ret))
    (.skip)))
  (.seq (.reg [⟨some 91, .move (.tmp 12), none⟩,
        ⟨some 92, .call ⟨.value (.func 14), #[.tmp 91, .const (.int .i64 0)], #[24, 3]⟩, none⟩,
        ⟨some 90, .move (.tmp 92), none⟩,
        ⟨some 93, .extract (.tmp 90) 0, none⟩,
        ⟨some 94, .extract (.tmp 90) 1, none⟩,
        ⟨some 14, .assign (.tmp 93), none⟩,
        ⟨some 15, .assign (.tmp 94), none⟩] [])
  (.seq (.reg [⟨some 96, .move (.tmp 13), none⟩,
        ⟨some 97, .call ⟨.value (.func 14), #[.tmp 96, .const (.int .i64 0)], #[24, 3]⟩, none⟩,
        ⟨some 95, .move (.tmp 97), none⟩,
        ⟨some 98, .extract (.tmp 95) 0, none⟩,
        ⟨some 99, .extract (.tmp 95) 1, none⟩,
        ⟨some 16, .assign (.tmp 98), none⟩,
        ⟨some 17, .assign (.tmp 99), none⟩] [])
  (.seq (.reg [⟨some 100, .move (.tmp 14), none⟩,
        ⟨some 101, .move (.tmp 11), none⟩,
        ⟨some 102, .call ⟨.value (.func 15), #[.tmp 100, .tmp 101], #[22, 22]⟩, none⟩,
        ⟨some 103, .move (.tmp 102), none⟩,
        ⟨some 104, .move (.tmp 16), some (103, true)⟩,
        ⟨some 105, .move (.tmp 11), some (103, true)⟩,
        ⟨some 106, .move (.tmp 2), some (103, true)⟩,
        ⟨some 107, .call ⟨.builtin .append, #[.tmp 105, .tmp 106], #[22, 22]⟩, some (103, true)⟩,
        ⟨some 108, .call ⟨.value (.func 15), #[.tmp 104, .tmp 107], #[22, 22]⟩, some (103, true)⟩,
        ⟨some 109, .pick (.tmp 103) (.tmp 108) (.const (.bool false)), none⟩,
        ⟨some 6, .assign (.tmp 109), none⟩] [])
  (.ret)))))))))))))))
abbrev r_stanchionlaw04_DiskTrims : List ResultVar := [.tmp 6]
theorem fits_stanchionlaw04_DiskTrims : Fits Try.prog 8 3 c_stanchionlaw04_DiskTrims r_stanchionlaw04_DiskTrims :=
  ⟨_, _, [⟨[], [], [], []⟩, ⟨[], [], [], []⟩, ⟨[], [], [], []⟩, ⟨[], [], [], []⟩, ⟨[], [], [], []⟩, ⟨[], [], [], []⟩, ⟨[], [], [], []⟩, ⟨[], [], [], []⟩, ⟨[], [], [], []⟩, ⟨[], [], [], []⟩, ⟨[], [], [], []⟩, ⟨[], [], [], []⟩, ⟨[], [], [], []⟩, ⟨[], [], [], []⟩, ⟨[], [], [], []⟩, ⟨[], [], [], []⟩, ⟨[], [], [], []⟩, ⟨[], [], [], []⟩, ⟨[], [], [], []⟩, ⟨[], [], [], []⟩, ⟨[], [], [], []⟩, ⟨[], [], [], []⟩, ⟨[], [], [], []⟩, ⟨[], [], [], []⟩, ⟨[], [], [], []⟩, ⟨[], [], [], []⟩, ⟨[], [], [], []⟩, ⟨[], [], [], []⟩], Try.func8, by kernel_rfl, rfl, by kernel_rfl, by kernel_rfl, by decide, rfl⟩

/-! stanchion/stanchionlaw04.alive -/
abbrev n_stanchionlaw04_alive : FuncId := 9
def c_stanchionlaw04_alive : LC :=
  .seq (.reg [⟨some 0, .assign (.const (.bool false)), none⟩] [])
  (.seq (.reg [⟨some 5, .call ⟨.value (.func 10), #[.const (.int .i64 (-1))], #[3]⟩, none⟩,
        ⟨some 1, .assign (.tmp 5), none⟩] [])
  (.seq (.seq (.reg [⟨some 6, .move (.tmp 1), none⟩,
          ⟨some 7, .binOp .eql 24 (.tmp 6) (.const (.pointer none)) 24, none⟩,
          ⟨some 8, .move (.tmp 7), none⟩,
          ⟨some 9, .move (.tmp 1), some (8, false)⟩,
          ⟨some 10, .buildSlice 22 2 #[(0, .const (.int .u8 97)), (1, .const (.int .u8 98))], some (8, false)⟩,
          ⟨some 11, .convert 22 22 (.tmp 10), some (8, false)⟩,
          ⟨some 12, .buildSlice 22 1 #[(0, .const (.int .u8 99))], some (8, false)⟩,
          ⟨some 13, .convert 22 22 (.tmp 12), some (8, false)⟩,
          ⟨some 14, .buildSlice 41 2 #[(0, .tmp 11), (1, .tmp 13)], some (8, false)⟩,
          ⟨some 15, .call ⟨.value (.func 12), #[.tmp 9, .const (.int .i64 1), .tmp 14], #[24, 3, 41]⟩, some (8, false)⟩,
          ⟨some 16, .binOp .neq 27 (.tmp 15) (.const (.int .i64 0)) 27, some (8, false)⟩,
          ⟨some 17, .pick (.tmp 8) (.const (.bool true)) (.tmp 16), none⟩,
          ⟨some 18, .move (.tmp 17), none⟩,
          ⟨some 19, .move (.tmp 1), some (18, false)⟩,
          ⟨some 20, .call ⟨.value (.func 23), #[.tmp 19, .const (.slice none 0 0)], #[24, 30]⟩, some (18, false)⟩,
          ⟨some 21, .binOp .neq 27 (.tmp 20) (.const (.int .i64 0)) 27, some (18, false)⟩,
          ⟨some 22, .pick (.tmp 18) (.const (.bool true)) (.tmp 21), none⟩,
          ⟨some 23, .move (.tmp 22), none⟩,
          ⟨some 24, .move (.tmp 1), some (23, false)⟩,
          ⟨some 25, .buildSlice 22 2 #[(0, .const (.int .u8 100)), (1, .const (.int .u8 101))], some (23, false)⟩,
          ⟨some 26, .convert 22 22 (.tmp 25), some (23, false)⟩,
          ⟨some 27, .buildSlice 41 1 #[(0, .tmp 26)], some (23, false)⟩,
          ⟨some 28, .call ⟨.value (.func 12), #[.tmp 24, .const (.int .i64 1), .tmp 27], #[24, 3, 41]⟩, some (23, false)⟩,
          ⟨some 29, .binOp .neq 27 (.tmp 28) (.const (.int .i64 0)) 27, some (23, false)⟩,
          ⟨some 30, .pick (.tmp 23) (.const (.bool true)) (.tmp 29), none⟩] [])
    (.cond (.tmp 30) [] (.seq (.reg [⟨some 0, .assign (.const (.bool false)), none⟩] [])
      (.ret))
    (.skip)))
  (.seq (.reg [⟨some 31, .move (.tmp 1), none⟩,
        ⟨some 32, .buildSlice 30 2 #[(0, .const (.int .i64 9)), (1, .const (.int .i64 1))], none⟩,
        ⟨some 33, .call ⟨.value (.func 13), #[.tmp 31, .tmp 32, .const (.int .i64 (-1))], #[24, 30, 3]⟩, none⟩,
        ⟨some 2, .assign (.tmp 33), none⟩] [])
  (.seq (.seq (.reg [⟨some 34, .move (.tmp 2), none⟩,
          ⟨some 35, .binOp .eql 24 (.tmp 34) (.const (.pointer none)) 24, none⟩] [])
    (.cond (.tmp 35) [] (.seq (.reg [⟨some 0, .assign (.const (.bool false)), none⟩] [])
      (.ret))
    (.skip)))
  (.seq (.reg [⟨some 37, .move (.tmp 2), none⟩,
        ⟨some 38, .call ⟨.value (.func 14), #[.tmp 37, .const (.int .i64 1)], #[24, 3]⟩, none⟩,
        ⟨some 36, .move (.tmp 38), none⟩,
        ⟨some 39, .extract (.tmp 36) 0, none⟩,
        ⟨some 40, .extract (.tmp 36) 1, none⟩,
        ⟨some 3, .assign (.tmp 39), none⟩,
        ⟨some 4, .assign (.tmp 40), none⟩] [])
  (.seq (.reg [⟨some 41, .move (.tmp 4), none⟩,
        ⟨some 42, .binOp .eql 27 (.tmp 41) (.const (.int .i64 0)) 27, none⟩,
        ⟨some 43, .move (.tmp 42), none⟩,
        ⟨some 44, .move (.tmp 3), some (43, true)⟩,
        ⟨some 45, .convert 22 9 (.tmp 44), some (43, true)⟩,
        ⟨some 46, .binOp .eql 9 (.tmp 45) (.const (.string ⟨#[97, 98, 99, 100]⟩)) 9, some (43, true)⟩,
        ⟨some 47, .pick (.tmp 43) (.tmp 46) (.const (.bool false)), none⟩,
        ⟨some 0, .assign (.tmp 47), none⟩] [])
  (.ret)))))))
abbrev r_stanchionlaw04_alive : List ResultVar := [.tmp 0]
theorem fits_stanchionlaw04_alive : Fits Try.prog 9 0 c_stanchionlaw04_alive r_stanchionlaw04_alive :=
  ⟨_, _, [⟨[], [], [], []⟩, ⟨[], [], [], []⟩, ⟨[], [], [], []⟩, ⟨[], [], [], []⟩, ⟨[], [], [], []⟩, ⟨[], [], [], []⟩, ⟨[], [], [], []⟩, ⟨[], [], [], []⟩, ⟨[], [], [], []⟩, ⟨[], [], [], []⟩, ⟨[], [], [], []⟩], Try.func9, by kernel_rfl, rfl, by kernel_rfl, by kernel_rfl, by decide, rfl⟩

/-! stanchion/disk.New -/
abbrev n_disk_New : FuncId := 10
def c_disk_New : LC :=
  .seq (.reg [⟨some 2, .assign (.const (.pointer none)), none⟩] [])
  (.seq (.reg [⟨some 3, .move (.tmp 0), none⟩,
        ⟨some 4, .build 60 #[(0, .tmp 3)], none⟩,
        ⟨some 5, .box 60 (.tmp 4), none⟩,
        ⟨some 2, .assign (.tmp 5), none⟩] [])
  (.ret))
abbrev r_disk_New : List ResultVar := [.tmp 2]
theorem fits_disk_New : Fits Try.prog 10 1 c_disk_New r_disk_New :=
  ⟨_, _, [⟨[], [], [], []⟩, ⟨[], [], [], []⟩], Try.func10, by kernel_rfl, rfl, by kernel_rfl, by kernel_rfl, by decide, rfl⟩

/-! stanchion/stanchionref00.CopyBytes -/
abbrev n_stanchionref00_CopyBytes : FuncId := 11
def c_stanchionref00_CopyBytes : LC :=
  .seq (.reg [⟨some 2, .assign (.const (.slice none 0 0)), none⟩] [])
  (.seq (.reg [⟨some 4, .buildSlice 22 0 #[], none⟩,
        ⟨some 3, .assign (.tmp 4), none⟩] [])
  (.seq (.reg [⟨some 5, .move (.tmp 3), none⟩,
        ⟨some 6, .move (.tmp 0), none⟩,
        ⟨some 7, .call ⟨.builtin .append, #[.tmp 5, .tmp 6], #[22, 22]⟩, none⟩,
        ⟨some 3, .assign (.tmp 7), none⟩] [])
  (.seq (.reg [⟨some 8, .move (.tmp 3), none⟩,
        ⟨some 2, .assign (.tmp 8), none⟩] [])
  (.ret))))
abbrev r_stanchionref00_CopyBytes : List ResultVar := [.tmp 2]
theorem fits_stanchionref00_CopyBytes : Fits Try.prog 11 1 c_stanchionref00_CopyBytes r_stanchionref00_CopyBytes :=
  ⟨_, _, [⟨[], [], [], []⟩, ⟨[], [], [], []⟩, ⟨[], [], [], []⟩, ⟨[], [], [], []⟩], Try.func11, by kernel_rfl, rfl, by kernel_rfl, by kernel_rfl, by decide, rfl⟩

/-! (*stanchion/disk.Disk).Append -/
abbrev n_disk_Disk_Append : FuncId := 12
def c_disk_Disk_Append : LC :=
  .seq (.reg [⟨some 6, .assign (.const (.int .i64 0)), none⟩] [])
  (.seq (.seq (.reg [⟨some 9, .move (.tmp 1), none⟩,
          ⟨some 10, .buildSlice 30 1 #[(0, .tmp 9)], none⟩,
          ⟨some 11, .call ⟨.value (.func 25), #[.tmp 10], #[30]⟩, none⟩,
          ⟨some 12, .unOp .not 4 (.tmp 11), none⟩] [])
    (.cond (.tmp 12) [] (.seq (.reg [⟨some 6, .assign (.const (.int .i64 41)), none⟩] [])
      (.ret))
    (.skip)))
  (.seq (.reg [⟨some 13, .move (.tmp 0), none⟩,
        ⟨some 14, .call ⟨.value (.func 26), #[.tmp 13], #[24]⟩, none⟩,
        ⟨some 7, .assign (.tmp 14), none⟩] [])
  (.seq (.seq (.reg [⟨some 15, .move (.tmp 7), none⟩,
          ⟨some 16, .binOp .eql 27 (.tmp 15) (.const (.int .i64 0)) 27, none⟩] [])
    (.cond (.tmp 16) [] (.seq (.reg [⟨some 17, .move (.tmp 0), none⟩,
            ⟨some 18, .move (.tmp 1), none⟩,
            ⟨some 19, .nilCheck (.tmp 17), none⟩,
            ⟨some 20, .fieldAddr 60 (.tmp 19) 1, none⟩,
            ⟨some 21, .indexAddr 58 (.tmp 20) (.tmp 18), none⟩,
            ⟨some 8, .assign (.tmp 21), none⟩] [])
      (.drw [(⟨some 22, .move (.tmp 8), none⟩, true),
          (⟨some 23, .move (.tmp 8), none⟩, true),
          (⟨some 24, .nilCheck (.tmp 23), none⟩, true),
          (⟨some 25, .fieldAddr 57 (.tmp 24) 0, none⟩, true),
          (⟨some 26, .load 22 (.tmp 25), none⟩, true),
          (⟨some 27, .move (.tmp 2), none⟩, false),
          (⟨some 28, .call ⟨.value (.func 27), #[.tmp 27], #[41]⟩, none⟩, false),
          (⟨some 29, .call ⟨.builtin .append, #[.tmp 26, .tmp 28], #[22, 22]⟩, none⟩, false),
          (⟨some 30, .nilCheck (.tmp 22), none⟩, false),
          (⟨some 31, .fieldAddr 57 (.tmp 30) 0, none⟩, false),
          (⟨none, .store 22 (.tmp 31) (.tmp 29), none⟩, true)] []))
    (.skip)))
  (.seq (.reg [⟨some 32, .move (.tmp 7), none⟩,
        ⟨some 6, .assign (.tmp 32), none⟩] [])
  (.ret)))))
abbrev r_disk_Disk_Append : List ResultVar := [.tmp 6]
theorem fits_disk_Disk_Append : Fits Try.prog 12 3 c_disk_Disk_Append r_disk_Disk_Append :=
  ⟨_, _, [⟨[], [], [], []⟩, ⟨[], [], [], []⟩, ⟨[], [], [], []⟩, ⟨[], [], [], []⟩, ⟨[], [], [], []⟩, ⟨[], [], [], []⟩, ⟨[], [], [], []⟩, ⟨[], [], [], []⟩, ⟨[some (0, true), some (1, true), some (2, true), some (3, true), some (4, true), some (5, false), some (6, false), some (7, false), some (8, false), some (9, false), some (10, true)], [], [⟨some 22, [8], [], false⟩, ⟨some 23, [8], [], false⟩, ⟨some 24, [23], [1], false⟩, ⟨some 25, [24], [2], false⟩, ⟨some 26, [25], [3], false⟩, ⟨some 27, [2], [], false⟩, ⟨some 28, [27], [5], true⟩, ⟨some 29, [26, 28], [4, 6, 6], true⟩, ⟨some 30, [22], [0, 0, 1, 2, 3, 4, 5, 6, 7], false⟩, ⟨some 31, [30], [8, 0, 1, 2, 3, 4, 5, 6, 7], false⟩, ⟨none, [31, 29], [9, 7, 7, 0, 1, 2, 3, 4, 5, 6, 7], true⟩], [0, 0, 2, 6, 14, 0, 32, 126, 255, 511, 1023]⟩, ⟨[], [], [], []⟩], Try.func12, by kernel_rfl, rfl, by kernel_rfl, by kernel_rfl, by decide, rfl⟩

/-! (*stanchion/disk.Disk).Crash -/
abbrev n_disk_Disk_Crash : FuncId := 13
def c_disk_Disk_Crash : LC :=
  .seq (.reg [⟨some 6, .assign (.const (.pointer none)), none⟩] [])
  (.seq (.reg [⟨some 11, .move (.tmp 2), none⟩,
        ⟨some 12, .call ⟨.value (.func 10), #[.tmp 11], #[3]⟩, none⟩,
        ⟨some 7, .assign (.tmp 12), none⟩] [])
  (.seq (.seq (.reg [⟨some 13, .move (.tmp 0), none⟩,
          ⟨some 14, .nilCheck (.tmp 13), none⟩,
          ⟨some 15, .fieldAddr 60 (.tmp 14) 1, none⟩,
          ⟨some 16, .load 58 (.tmp 15), none⟩,
          ⟨some 17, .move (.const (.int .i64 0)), none⟩] [])
    (.block 0 (.loop (.seq (.reg [⟨some 18, .binOp .lss 3 (.tmp 17) (.const (.int .i64 2)) 3, none⟩] [])
        (.seq (.cond (.tmp 18) [] (.skip)
          (.exit 0))
        (.seq (.block 1 (.seq (.reg [⟨some 19, .move (.tmp 17), none⟩,
                  ⟨some 20, .index 58 (.tmp 16) (.tmp 17), none⟩,
                  ⟨some 9, .alloc 57, none⟩,
                  ⟨some 8, .assign (.tmp 19), none⟩,
                  ⟨none, .store 57 (.tmp 9) (.tmp 20), none⟩] [])
            (.seq (.reg [⟨some 10, .assign (.const (.int .i64 0)), none⟩] [])
            (.seq (.seq (.reg [⟨some 21, .move (.tmp 8), none⟩,
                    ⟨some 22, .move (.tmp 1), none⟩,
                    ⟨some 23, .call ⟨.builtin .len, #[.tmp 22], #[30]⟩, none⟩,
                    ⟨some 24, .binOp .lss 3 (.tmp 21) (.tmp 23) 3, none⟩] [])
              (.cond (.tmp 24) [] (.reg [⟨some 25, .move (.tmp 1), none⟩,
                    ⟨some 26, .move (.tmp 8), none⟩,
                    ⟨some 27, .indexAddr 30 (.tmp 25) (.tmp 26), none⟩,
                    ⟨some 28, .load 3 (.tmp 27), none⟩,
                    ⟨some 10, .assign (.tmp 28), none⟩] [])
              (.skip)))
            (.drw [(⟨some 29, .move (.tmp 7), none⟩, true),
                (⟨some 30, .move (.tmp 8), none⟩, true),
                (⟨some 31, .load 57 (.tmp 9), none⟩, false),
                (⟨some 32, .move (.tmp 10), none⟩, false),
                (⟨some 34, .nilCheck (.tmp 29), none⟩, true),
                (⟨some 35, .fieldAddr 60 (.tmp 34) 1, none⟩, true),
                (⟨some 33, .call ⟨.value (.func 28), #[.tmp 31, .tmp 32], #[57, 3]⟩, none⟩, false),
                (⟨some 36, .indexAddr 58 (.tmp 35) (.tmp 30), none⟩, false),
                (⟨none, .store 57 (.tmp 36) (.tmp 33), none⟩, true)] [])))))
        (.reg [⟨some 37, .binOp .add 3 (.tmp 17) (.const (.int .i64 1)) 3, none⟩,
            ⟨some 17, .move (.tmp 37), none⟩] [])))))))
  (.seq (.reg [⟨some 38, .move (.tmp 7), none⟩,
        ⟨some 6, .assign (.tmp 38), none⟩] [])
  (.ret))))
abbrev r_disk_Disk_Crash : List ResultVar := [.tmp 6]
theorem fits_disk_Disk_Crash : Fits Try.prog 13 3 c_disk_Disk_Crash r_disk_Disk_Crash :=
  ⟨_, _, [⟨[], [], [], []⟩, ⟨[], [], [], []⟩, ⟨[], [], [], []⟩, ⟨[], [], [], []⟩, ⟨[], [], [], []⟩, ⟨[], [], [], []⟩, ⟨[], [], [], []⟩, ⟨[], [], [], []⟩, ⟨[], [], [], []⟩, ⟨[], [], [], []⟩, ⟨[some (0, true), some (1, true), some (2, false), some (3, false), some (5, true), some (6, true), some (4, false), some (7, false), some (8, true)], [], [⟨some 29, [7], [], false⟩, ⟨some 30, [8], [], false⟩, ⟨some 31, [9], [], false⟩, ⟨some 32, [10], [], false⟩, ⟨some 33, [31, 32], [2, 3], true⟩, ⟨some 34, [29], [0], false⟩, ⟨some 35, [34], [5], false⟩, ⟨some 36, [35, 30], [6, 1, 0, 1, 2, 3, 4], false⟩, ⟨none, [36, 33], [7, 4, 4, 0, 1, 2, 3, 4], true⟩], [0, 0, 0, 0, 12, 1, 33, 127, 255]⟩, ⟨[], [], [], []⟩, ⟨[], [], [], []⟩], Try.func13, by kernel_rfl, rfl, by kernel_rfl, by kernel_rfl, by decide, rfl⟩

/-! (*stanchion/disk.Disk).Read -/
abbrev n_disk_Disk_Read : FuncId := 14
def c_disk_Disk_Read : LC :=
  .seq (.reg [⟨some 4, .assign (.const (.slice none 0 0)), none⟩,
        ⟨some 5, .assign (.const (.int .i64 0)), none⟩] [])
  (.seq (.seq (.reg [⟨some 6, .move (.tmp 1), none⟩,
          ⟨some 7, .buildSlice 30 1 #[(0, .tmp 6)], none⟩,
          ⟨some 8, .call ⟨.value (.func 25), #[.tmp 7], #[30]⟩, none⟩,
          ⟨some 9, .unOp .not 4 (.tmp 8), none⟩] [])
    (.cond (.tmp 9) [] (.seq (.reg [⟨some 4, .assign (.const (.slice none 0 0)), none⟩,
            ⟨some 5, .assign (.const (.int .i64 41)), none⟩] [])
      (.ret))
    (.skip)))
  (.seq (.reg [⟨some 10, .move (.tmp 0), none⟩,
        ⟨some 11, .move (.tmp 1), none⟩,
        ⟨some 12, .nilCheck (.tmp 10), none⟩,
        ⟨some 13, .fieldAddr 60 (.tmp 12) 1, none⟩,
        ⟨some 14, .indexAddr 58 (.tmp 13) (.tmp 11), none⟩,
        ⟨some 15, .fieldAddr 57 (.tmp 14) 0, none⟩,
        ⟨some 16, .load 22 (.tmp 15), none⟩,
        ⟨some 17, .call ⟨.value (.func 29), #[.tmp 16], #[22]⟩, none⟩,
        ⟨some 4, .assign (.tmp 17), none⟩,
        ⟨some 5, .assign (.const (.int .i64 0)), none⟩] [])
  (.ret)))
abbrev r_disk_Disk_Read : List ResultVar := [.tmp 4, .tmp 5]
theorem fits_disk_Disk_Read : Fits Try.prog 14 2 c_disk_Disk_Read r_disk_Disk_Read :=
  ⟨_, _, [⟨[], [], [], []⟩, ⟨[], [], [], []⟩, ⟨[], [], [], []⟩, ⟨[], [], [], []⟩, ⟨[], [], [], []⟩], Try.func14, by kernel_rfl, rfl, by kernel_rfl, by kernel_rfl, by decide, rfl⟩

/-! stanchion/stanchionref00.SameBytes -/
abbrev n_stanchionref00_SameBytes : FuncId := 15
def c_stanchionref00_SameBytes : LC :=
  .seq (.reg [⟨some 4, .assign (.const (.bool false)), none⟩] [])
  (.seq (.seq (.reg [⟨some 6, .move (.tmp 0), none⟩,
          ⟨some 7, .call ⟨.builtin .len, #[.tmp 6], #[22]⟩, none⟩,
          ⟨some 8, .move (.tmp 1), none⟩,
          ⟨some 9, .call ⟨.builtin .len, #[.tmp 8], #[22]⟩, none⟩,
          ⟨some 10, .binOp .neq 3 (.tmp 7) (.tmp 9) 3, none⟩] [])
    (.cond (.tmp 10) [] (.seq (.reg [⟨some 4, .assign (.const (.bool false)), none⟩] [])
      (.ret))
    (.skip)))
  (.seq (.seq (.reg [⟨some 5, .assign (.const (.int .i64 0)), none⟩] [])
    (.block 0 (.loop (.seq (.seq (.reg [⟨some 11, .move (.tmp 5), none⟩,
                ⟨some 12, .move (.tmp 0), none⟩,
                ⟨some 13, .call ⟨.builtin .len, #[.tmp 12], #[22]⟩, none⟩,
                ⟨some 14, .binOp .lss 3 (.tmp 11) (.tmp 13) 3, none⟩] [])
          (.cond (.tmp 14) [] (.skip)
          (.exit 0)))
        (.seq (.block 1 (.seq (.drw [(⟨some 17, .move (.tmp 0), none⟩, false),
                  (⟨some 18, .move (.tmp 5), none⟩, false),
                  (⟨some 19, .indexAddr 22 (.tmp 17) (.tmp 18), none⟩, false),
                  (⟨some 20, .load 5 (.tmp 19), none⟩, false),
                  (⟨some 21, .move (.tmp 1), none⟩, false),
                  (⟨some 22, .move (.tmp 5), none⟩, false),
                  (⟨some 23, .indexAddr 22 (.tmp 21) (.tmp 22), none⟩, false),
                  (⟨some 24, .load 5 (.tmp 23), none⟩, false),
                  (⟨some 25, .binOp .neq 5 (.tmp 20) (.tmp 24) 5, none⟩, false)] [])
            (.cond (.tmp 25) [] (.seq (.reg [⟨some 4, .assign (.const (.bool false)), none⟩] [])
              (.ret))
            (.skip))))
        (.reg [⟨some 15, .move (.tmp 5), none⟩,
            ⟨some 16, .binOp .add 3 (.tmp 15) (.const (.int .i64 1)) 3, none⟩,
            ⟨some 5, .assign (.tmp 16), none⟩] []))))))
  (.seq (.reg [⟨some 4, .assign (.const (.bool true)), none⟩] [])
  (.ret))))
abbrev r_stanchionref00_SameBytes : List ResultVar := [.tmp 4]
theorem fits_stanchionref00_SameBytes : Fits Try.prog 15 2 c_stanchionref00_SameBytes r_stanchionref00_SameBytes :=
  ⟨_, _, [⟨[], [], [], []⟩, ⟨[], [], [], []⟩, ⟨[], [], [], []⟩, ⟨[], [], [], []⟩, ⟨[], [], [], []⟩, ⟨[], [], [], []⟩, ⟨[], [], [], []⟩, ⟨[some (0, false), some (1, false), some (2, false), some (3, false), some (4, false), some (5, false), some (6, false), some (7, false), some (8, false)], [], [⟨some 17, [0], [], false⟩, ⟨some 18, [5], [], false⟩, ⟨some 19, [17, 18], [0, 1], false⟩, ⟨some 20, [19], [2], false⟩, ⟨some 21, [1], [], false⟩, ⟨some 22, [5], [], false⟩, ⟨some 23, [21, 22], [4, 5], false⟩, ⟨some 24, [23], [6], false⟩, ⟨some 25, [20, 24], [3, 7], false⟩], [0, 0, 3, 7, 0, 0, 48, 112, 255]⟩, ⟨[], [], [], []⟩, ⟨[], [], [], []⟩, ⟨[], [], [], []⟩, ⟨[], [], [], []⟩], Try.func15, by kernel_rfl, rfl, by kernel_rfl, by kernel_rfl, by decide, rfl⟩

/-! stanchion/stanchionlaw04.cut -/
abbrev n_stanchionlaw04_cut : FuncId := 16
def c_stanchionlaw04_cut : LC :=
  .seq (.reg [⟨some 2, .assign (.const (.slice none 0 0)), none⟩] [])
  (.seq (.seq (.reg [⟨some 3, .move (.tmp 0), none⟩,
          ⟨some 4, .call ⟨.builtin .len, #[.tmp 3], #[34]⟩, none⟩,
          ⟨some 5, .binOp .gtr 3 (.tmp 4) (.const (.int .i64 60)) 3, none⟩] [])
    (.cond (.tmp 5) [] (.seq (.reg [⟨some 6, .move (.tmp 0), none⟩,
            ⟨some 7, .slice 34 (.tmp 6) none (some (.const (.int .i64 60))) none, none⟩,
            ⟨some 2, .assign (.tmp 7), none⟩] [])
      (.ret))
    (.skip)))
  (.seq (.reg [⟨some 8, .move (.tmp 0), none⟩,
        ⟨some 2, .assign (.tmp 8), none⟩] [])
  (.ret)))
abbrev r_stanchionlaw04_cut : List ResultVar := [.tmp 2]
theorem fits_stanchionlaw04_cut : Fits Try.prog 16 1 c_stanchionlaw04_cut r_stanchionlaw04_cut :=
  ⟨_, _, [⟨[], [], [], []⟩, ⟨[], [], [], []⟩, ⟨[], [], [], []⟩, ⟨[], [], [], []⟩, ⟨[], [], [], []⟩], Try.func16, by kernel_rfl, rfl, by kernel_rfl, by kernel_rfl, by decide, rfl⟩

/-! stanchion/stanchionlaw04.great -/
abbrev n_stanchionlaw04_great : FuncId := 17
def c_stanchionlaw04_great : LC :=
  .seq (.reg [⟨some 2, .assign (.const (.bool false)), none⟩] [])
  (.seq (.reg [⟨some 3, .assign (.const (.int .i64 0)), none⟩] [])
  (.seq (.seq (.reg [⟨some 4, .assign (.const (.int .i64 0)), none⟩] [])
    (.block 0 (.loop (.seq (.seq (.reg [⟨some 6, .move (.tmp 4), none⟩,
                ⟨some 7, .move (.tmp 0), none⟩,
                ⟨some 8, .call ⟨.builtin .len, #[.tmp 7], #[34]⟩, none⟩,
                ⟨some 9, .binOp .lss 3 (.tmp 6) (.tmp 8) 3, none⟩,
                ⟨some 10, .move (.tmp 9), none⟩,
                ⟨some 11, .move (.tmp 3), some (10, true)⟩,
                ⟨some 12, .binOp .leq 3 (.tmp 11) (.const (.int .i64 100000)) 3, some (10, true)⟩,
                ⟨some 13, .pick (.tmp 10) (.tmp 12) (.const (.bool false)), none⟩] [])
          (.cond (.tmp 13) [] (.skip)
          (.exit 0)))
        (.seq (.block 1 (.seq (.seq (.reg [⟨some 5, .assign (.const (.int .i64 0)), none⟩] [])
              (.block 2 (.loop (.seq (.seq (.reg [⟨some 16, .move (.tmp 5), none⟩,
                          ⟨some 17, .move (.tmp 0), none⟩,
                          ⟨some 18, .move (.tmp 4), none⟩,
                          ⟨some 19, .indexAddr 34 (.tmp 17) (.tmp 18), none⟩,
                          ⟨some 20, .fieldAddr 43 (.tmp 19) 3, none⟩,
                          ⟨some 21, .load 41 (.tmp 20), none⟩,
                          ⟨some 22, .call ⟨.builtin .len, #[.tmp 21], #[41]⟩, none⟩,
                          ⟨some 23, .binOp .lss 3 (.tmp 16) (.tmp 22) 3, none⟩,
                          ⟨some 24, .move (.tmp 23), none⟩,
                          ⟨some 25, .move (.tmp 3), some (24, true)⟩,
                          ⟨some 26, .binOp .leq 3 (.tmp 25) (.const (.int .i64 100000)) 3, some (24, true)⟩,
                          ⟨some 27, .pick (.tmp 24) (.tmp 26) (.const (.bool false)), none⟩] [])
                    (.cond (.tmp 27) [] (.skip)
                    (.exit 2)))
                  (.seq (.block 3 (.reg [⟨some 30, .move (.tmp 3), none⟩,
                          ⟨some 31, .move (.tmp 0), none⟩,
                          ⟨some 32, .move (.tmp 4), none⟩,
                          ⟨some 33, .indexAddr 34 (.tmp 31) (.tmp 32), none⟩,
                          ⟨some 34, .fieldAddr 43 (.tmp 33) 3, none⟩,
                          ⟨some 35, .load 41 (.tmp 34), none⟩,
                          ⟨some 36, .move (.tmp 5), none⟩,
                          ⟨some 37, .indexAddr 41 (.tmp 35) (.tmp 36), none⟩,
                          ⟨some 38, .load 22 (.tmp 37), none⟩,
                          ⟨some 39, .call ⟨.builtin .len, #[.tmp 38], #[22]⟩, none⟩,
                          ⟨some 40, .binOp .add 3 (.const (.int .i64 1)) (.tmp 39) 3, none⟩,
                          ⟨some 41, .binOp .add 3 (.tmp 30) (.tmp 40) 3, none⟩,
                          ⟨some 3, .assign (.tmp 41), none⟩] []))
                  (.reg [⟨some 28, .move (.tmp 5), none⟩,
                      ⟨some 29, .binOp .add 3 (.tmp 28) (.const (.int .i64 1)) 3, none⟩,
                      ⟨some 5, .assign (.tmp 29), none⟩] []))))))
            (.reg [⟨some 42, .move (.tmp 3), none⟩,
                ⟨some 43, .move (.tmp 0), none⟩,
                ⟨some 44, .move (.tmp 4), none⟩,
                ⟨some 45, .indexAddr 34 (.tmp 43) (.tmp 44), none⟩,
                ⟨some 46, .fieldAddr 43 (.tmp 45) 4, none⟩,
                ⟨some 47, .load 30 (.tmp 46), none⟩,
                ⟨some 48, .call ⟨.builtin .len, #[.tmp 47], #[30]⟩, none⟩,
                ⟨some 49, .binOp .add 3 (.tmp 42) (.tmp 48) 3, none⟩,
                ⟨some 3, .assign (.tmp 49), none⟩] [])))
        (.reg [⟨some 14, .move (.tmp 4), none⟩,
            ⟨some 15, .binOp .add 3 (.tmp 14) (.const (.int .i64 1)) 3, none⟩,
            ⟨some 4, .assign (.tmp 15), none⟩] []))))))
  (.seq (.reg [⟨some 50, .move (.tmp 3), none⟩,
        ⟨some 51, .binOp .gtr 3 (.tmp 50) (.const (.int .i64 5000)) 3, none⟩,
        ⟨some 2, .assign (.tmp 51), none⟩] [])
  (.ret))))
abbrev r_stanchionlaw04_great : List ResultVar := [.tmp 2]
theorem fits_stanchionlaw04_great : Fits Try.prog 17 1 c_stanchionlaw04_great r_stanchionlaw04_great :=
  ⟨_, _, [⟨[], [], [], []⟩, ⟨[], [], [], []⟩, ⟨[], [], [], []⟩, ⟨[], [], [], []⟩, ⟨[], [], [], []⟩, ⟨[], [], [], []⟩, ⟨[], [], [], []⟩, ⟨[], [], [], []⟩, ⟨[], [], [], []⟩, ⟨[], [], [], []⟩, ⟨[], [], [], []⟩, ⟨[], [], [], []⟩, ⟨[], [], [], []⟩], Try.func17, by kernel_rfl, rfl, by kernel_rfl, by kernel_rfl, by decide, rfl⟩

/-! stanchion/stanchionref00.CopyInts -/
abbrev n_stanchionref00_CopyInts : FuncId := 18
def c_stanchionref00_CopyInts : LC :=
  .seq (.reg [⟨some 2, .assign (.const (.slice none 0 0)), none⟩] [])
  (.seq (.reg [⟨some 4, .buildSlice 30 0 #[], none⟩,
        ⟨some 3, .assign (.tmp 4), none⟩] [])
  (.seq (.reg [⟨some 5, .move (.tmp 3), none⟩,
        ⟨some 6, .move (.tmp 0), none⟩,
        ⟨some 7, .call ⟨.builtin .append, #[.tmp 5, .tmp 6], #[30, 30]⟩, none⟩,
        ⟨some 3, .assign (.tmp 7), none⟩] [])
  (.seq (.reg [⟨some 8, .move (.tmp 3), none⟩,
        ⟨some 2, .assign (.tmp 8), none⟩] [])
  (.ret))))
abbrev r_stanchionref00_CopyInts : List ResultVar := [.tmp 2]
theorem fits_stanchionref00_CopyInts : Fits Try.prog 18 1 c_stanchionref00_CopyInts r_stanchionref00_CopyInts :=
  ⟨_, _, [⟨[], [], [], []⟩, ⟨[], [], [], []⟩, ⟨[], [], [], []⟩, ⟨[], [], [], []⟩], Try.func18, by kernel_rfl, rfl, by kernel_rfl, by kernel_rfl, by decide, rfl⟩

/-! stanchion/stanchionlaw04.act -/
abbrev n_stanchionlaw04_act : FuncId := 21
def c_stanchionlaw04_act : LC :=
  .seq (.reg [⟨some 3, .box 43 (.tmp 1), none⟩,
        ⟨some 4, .assign (.const (.int .i64 0)), none⟩] [])
  (.seq (.seq (.reg [⟨some 5, .fieldAddr 43 (.tmp 3) 0, none⟩,
          ⟨some 6, .load 3 (.tmp 5), none⟩] [])
    (.block 0 (.seq (.reg [⟨some 8, .binOp .eql 3 (.tmp 6) (.const (.int .i64 1)) 3, none⟩,
            ⟨some 7, .assign (.tmp 8), none⟩] [])
      (.cond (.tmp 7) [] (.seq (.drw [(⟨some 9, .move (.tmp 0), none⟩, true),
              (⟨some 10, .fieldAddr 43 (.tmp 3) 1, none⟩, true),
              (⟨some 11, .load 3 (.tmp 10), none⟩, true),
              (⟨some 12, .fieldAddr 43 (.tmp 3) 3, none⟩, false),
              (⟨some 13, .load 41 (.tmp 12), none⟩, false),
              (⟨some 14, .call ⟨.value (.func 33), #[.tmp 13], #[41]⟩, none⟩, false),
              (⟨some 15, .call ⟨.value (.func 12), #[.tmp 9, .tmp 11, .tmp 14], #[24, 3, 41]⟩, none⟩, true),
              (⟨some 4, .assign (.tmp 15), none⟩, false)] [])
        (.ret))
      (.seq (.reg [⟨some 17, .binOp .eql 3 (.tmp 6) (.const (.int .i64 2)) 3, none⟩,
              ⟨some 16, .assign (.tmp 17), none⟩] [])
        (.cond (.tmp 16) [] (.seq (.reg [⟨some 18, .move (.tmp 0), none⟩,
                ⟨some 19, .fieldAddr 43 (.tmp 3) 1, none⟩,
                ⟨some 20, .load 3 (.tmp 19), none⟩,
                ⟨some 21, .fieldAddr 43 (.tmp 3) 2, none⟩,
                ⟨some 22, .load 3 (.tmp 21), none⟩,
                ⟨some 23, .call ⟨.value (.func 24), #[.tmp 18, .tmp 20, .tmp 22], #[24, 3, 3]⟩, none⟩,
                ⟨some 4, .assign (.tmp 23), none⟩] [])
          (.ret))
        (.seq (.reg [⟨some 25, .binOp .eql 3 (.tmp 6) (.const (.int .i64 3)) 3, none⟩,
                ⟨some 24, .assign (.tmp 25), none⟩] [])
          (.cond (.tmp 24) [] (.seq (.reg [⟨some 26, .move (.tmp 0), none⟩,
                  ⟨some 27, .fieldAddr 43 (.tmp 3) 4, none⟩,
                  ⟨some 28, .load 30 (.tmp 27), none⟩,
                  ⟨some 29, .call ⟨.value (.func 18), #[.tmp 28], #[30]⟩, none⟩,
                  ⟨some 30, .call ⟨.value (.func 23), #[.tmp 26, .tmp 29], #[24, 30]⟩, none⟩,
                  ⟨some 4, .assign (.tmp 30), none⟩] [])
            (.ret))
          (.skip)))))))))
  (.seq (.reg [⟨some 4, .assign (.const (.int .i64 0)), none⟩] [])
  (.ret)))
abbrev r_stanchionlaw04_act : List ResultVar := [.tmp 4]
theorem fits_stanchionlaw04_act : Fits Try.prog 21 2 c_stanchionlaw04_act r_stanchionlaw04_act :=
  ⟨_, _, [⟨[], [], [], []⟩, ⟨[], [], [], []⟩, ⟨[], [], [], []⟩, ⟨[], [], [], []⟩, ⟨[some (0, true), some (1, true), some (2, true), some (3, false), some (4, false), some (5, false), some (6, true), some (7, false)], [], [⟨some 9, [0], [], false⟩, ⟨some 10, [3], [], false⟩, ⟨some 11, [10], [1], false⟩, ⟨some 12, [3], [], false⟩, ⟨some 13, [12], [3], false⟩, ⟨some 14, [13], [4], true⟩, ⟨some 15, [9, 11, 14], [0, 2, 5, 5], true⟩, ⟨some 4, [15], [6, 6, 0, 1, 2, 3, 4, 5, 6], false⟩], [0, 0, 2, 0, 8, 24, 63, 127]⟩, ⟨[], [], [], []⟩, ⟨[], [], [], []⟩, ⟨[], [], [], []⟩, ⟨[], [], [], []⟩, ⟨[], [], [], []⟩, ⟨[], [], [], []⟩, ⟨[], [], [], []⟩], Try.func21, by kernel_rfl, rfl, by kernel_rfl, by kernel_rfl, by decide, rfl⟩

/-! (*stanchion/disk.Disk).Sync -/
abbrev n_disk_Disk_Sync : FuncId := 23
def c_disk_Disk_Sync : LC :=
  .seq (.reg [⟨some 4, .assign (.const (.int .i64 0)), none⟩] [])
  (.seq (.seq (.reg [⟨some 8, .move (.tmp 1), none⟩,
          ⟨some 9, .call ⟨.value (.func 25), #[.tmp 8], #[30]⟩, none⟩,
          ⟨some 10, .unOp .not 4 (.tmp 9), none⟩] [])
    (.cond (.tmp 10) [] (.seq (.reg [⟨some 4, .assign (.const (.int .i64 41)), none⟩] [])
      (.ret))
    (.skip)))
  (.seq (.reg [⟨some 11, .move (.tmp 0), none⟩,
        ⟨some 12, .call ⟨.value (.func 26), #[.tmp 11], #[24]⟩, none⟩,
        ⟨some 5, .assign (.tmp 12), none⟩] [])
  (.seq (.seq (.reg [⟨some 13, .move (.tmp 5), none⟩,
          ⟨some 14, .binOp .neq 27 (.tmp 13) (.const (.int .i64 0)) 27, none⟩] [])
    (.cond (.tmp 14) [] (.seq (.reg [⟨some 15, .move (.tmp 5), none⟩,
            ⟨some 4, .assign (.tmp 15), none⟩] [])
      (.ret))
    (.skip)))
  (.seq (.seq (.reg [⟨some 16, .move (.tmp 1), none⟩,
          ⟨some 17, .call ⟨.builtin .len, #[.tmp 16], #[30]⟩, none⟩,
          ⟨some 18, .binOp .eql 3 (.tmp 17) (.const (.int .i64 0)) 3, none⟩] [])
    (.cond (.tmp 18) [] (.reg [⟨some 19, .buildSlice 30 2 #[(0, .const (.int .i64 0)), (1, .const (.int .i64 1))], none⟩,
          ⟨some 1, .assign (.tmp 19), none⟩] [])
    (.skip)))
  (.seq (.seq (.reg [⟨some 20, .move (.tmp 1), none⟩,
          ⟨some 21, .call ⟨.builtin .len, #[.tmp 20], #[30]⟩, none⟩,
          ⟨some 22, .move (.const (.int .i64 0)), none⟩] [])
    (.block 0 (.loop (.seq (.reg [⟨some 23, .binOp .lss 3 (.tmp 22) (.tmp 21) 3, none⟩] [])
        (.seq (.cond (.tmp 23) [] (.skip)
          (.exit 0))
        (.seq (.block 1 (.seq (.reg [⟨some 24, .indexAddr 30 (.tmp 20) (.tmp 22), none⟩,
                  ⟨some 25, .load 3 (.tmp 24), none⟩,
                  ⟨some 7, .assign (.tmp 25), none⟩] [])
            (.drw [(⟨some 26, .move (.tmp 0), none⟩, false),
                (⟨some 27, .move (.tmp 7), none⟩, false),
                (⟨some 28, .move (.tmp 0), none⟩, false),
                (⟨some 29, .move (.tmp 7), none⟩, false),
                (⟨some 30, .nilCheck (.tmp 28), none⟩, false),
                (⟨some 31, .fieldAddr 60 (.tmp 30) 1, none⟩, false),
                (⟨some 32, .indexAddr 58 (.tmp 31) (.tmp 29), none⟩, false),
                (⟨some 33, .fieldAddr 57 (.tmp 32) 0, none⟩, false),
                (⟨some 34, .load 22 (.tmp 33), none⟩, false),
                (⟨some 35, .call ⟨.builtin .len, #[.tmp 34], #[22]⟩, none⟩, false),
                (⟨some 36, .nilCheck (.tmp 26), none⟩, false),
                (⟨some 37, .fieldAddr 60 (.tmp 36) 1, none⟩, false),
                (⟨some 38, .indexAddr 58 (.tmp 37) (.tmp 27), none⟩, false),
                (⟨some 39, .fieldAddr 57 (.tmp 38) 1, none⟩, false),
                (⟨none, .store 3 (.tmp 39) (.tmp 35), none⟩, true)] [])))
        (.reg [⟨some 40, .binOp .add 3 (.tmp 22) (.const (.int .i64 1)) 3, none⟩,
            ⟨some 22, .move (.tmp 40), none⟩] [])))))))
  (.seq (.reg [⟨some 4, .assign (.const (.int .i64 0)), none⟩] [])
  (.ret)))))))
abbrev r_disk_Disk_Sync : List ResultVar := [.tmp 4]
theorem fits_disk_Disk_Sync : Fits Try.prog 23 2 c_disk_Disk_Sync r_disk_Disk_Sync :=
  ⟨_, _, [⟨[], [], [], []⟩, ⟨[], [], [], []⟩, ⟨[], [], [], []⟩, ⟨[], [], [], []⟩, ⟨[], [], [], []⟩, ⟨[], [], [], []⟩, ⟨[], [], [], []⟩, ⟨[], [], [], []⟩, ⟨[], [], [], []⟩, ⟨[], [], [], []⟩, ⟨[], [], [], []⟩, ⟨[], [], [], []⟩, ⟨[], [], [], []⟩, ⟨[], [], [], []⟩, ⟨[], [], [], []⟩, ⟨[some (0, false), some (1, false), some (2, false), some (3, false), some (4, false), some (5, false), some (6, false), some (7, false), some (8, false), some (9, false), some (10, false), some (11, false), some (12, false), some (13, false), some (14, true)], [], [⟨some 26, [0], [], false⟩, ⟨some 27, [7], [], false⟩, ⟨some 28, [0], [], false⟩, ⟨some 29, [7], [], false⟩, ⟨some 30, [28], [2], false⟩, ⟨some 31, [30], [4], false⟩, ⟨some 32, [31, 29], [5, 3], false⟩, ⟨some 33, [32], [6], false⟩, ⟨some 34, [33], [7], false⟩, ⟨some 35, [34], [8], false⟩, ⟨some 36, [26], [0], false⟩, ⟨some 37, [36], [10], false⟩, ⟨some 38, [37, 27], [11, 1, 0, 1, 2, 3, 4, 5, 6, 7, 8, 9], false⟩, ⟨some 39, [38], [12, 0, 1, 2, 3, 4, 5, 6, 7, 8, 9], false⟩, ⟨none, [39, 35], [13, 9, 0, 1, 2, 3, 4, 5, 6, 7, 8, 9], true⟩], [0, 0, 0, 0, 4, 20, 60, 124, 252, 508, 1, 1025, 4095, 8191, 16383]⟩, ⟨[], [], [], []⟩, ⟨[], [], [], []⟩], Try.func23, by kernel_rfl, rfl, by kernel_rfl, by kernel_rfl, by decide, rfl⟩

/-! (*stanchion/disk.Disk).Trim -/
abbrev n_disk_Disk_Trim : FuncId := 24
def c_disk_Disk_Trim : LC :=
  .seq (.reg [⟨some 6, .assign (.const (.int .i64 0)), none⟩] [])
  (.seq (.seq (.reg [⟨some 9, .move (.tmp 1), none⟩,
          ⟨some 10, .buildSlice 30 1 #[(0, .tmp 9)], none⟩,
          ⟨some 11, .call ⟨.value (.func 25), #[.tmp 10], #[30]⟩, none⟩,
          ⟨some 12, .unOp .not 4 (.tmp 11), none⟩,
          ⟨some 13, .move (.tmp 12), none⟩,
          ⟨some 14, .move (.tmp 2), some (13, false)⟩,
          ⟨some 15, .binOp .lss 3 (.tmp 14) (.const (.int .i64 0)) 3, some (13, false)⟩,
          ⟨some 16, .pick (.tmp 13) (.const (.bool true)) (.tmp 15), none⟩,
          ⟨some 17, .move (.tmp 16), none⟩,
          ⟨some 18, .move (.tmp 2), some (17, false)⟩,
          ⟨some 19, .move (.tmp 0), some (17, false)⟩,
          ⟨some 20, .move (.tmp 1), some (17, false)⟩,
          ⟨some 21, .nilCheck (.tmp 19), some (17, false)⟩,
          ⟨some 22, .fieldAddr 60 (.tmp 21) 1, some (17, false)⟩,
          ⟨some 23, .indexAddr 58 (.tmp 22) (.tmp 20), some (17, false)⟩,
          ⟨some 24, .fieldAddr 57 (.tmp 23) 0, some (17, false)⟩,
          ⟨some 25, .load 22 (.tmp 24), some (17, false)⟩,
          ⟨some 26, .call ⟨.builtin .len, #[.tmp 25], #[22]⟩, some (17, false)⟩,
          ⟨some 27, .binOp .gtr 3 (.tmp 18) (.tmp 26) 3, some (17, false)⟩,
          ⟨some 28, .pick (.tmp 17) (.const (.bool true)) (.tmp 27), none⟩] [])
    (.cond (.tmp 28) [] (.seq (.reg [⟨some 6, .assign (.const (.int .i64 41)), none⟩] [])
      (.ret))
    (.skip)))
  (.seq (.reg [⟨some 29, .move (.tmp 0), none⟩,
        ⟨some 30, .call ⟨.value (.func 26), #[.tmp 29], #[24]⟩, none⟩,
        ⟨some 7, .assign (.tmp 30), none⟩] [])
  (.seq (.seq (.reg [⟨some 31, .move (.tmp 7), none⟩,
          ⟨some 32, .binOp .eql 27 (.tmp 31) (.const (.int .i64 0)) 27, none⟩] [])
    (.cond (.tmp 32) [] (.seq (.reg [⟨some 33, .move (.tmp 0), none⟩,
            ⟨some 34, .move (.tmp 1), none⟩,
            ⟨some 35, .nilCheck (.tmp 33), none⟩,
            ⟨some 36, .fieldAddr 60 (.tmp 35) 1, none⟩,
            ⟨some 37, .indexAddr 58 (.tmp 36) (.tmp 34), none⟩,
            ⟨some 8, .assign (.tmp 37), none⟩] [])
      (.drw [(⟨some 38, .move (.tmp 8), none⟩, false),
          (⟨some 39, .move (.tmp 8), none⟩, true),
          (⟨some 40, .move (.tmp 8), none⟩, false),
          (⟨some 41, .nilCheck (.tmp 40), none⟩, false),
          (⟨some 42, .fieldAddr 57 (.tmp 41) 0, none⟩, false),
          (⟨some 43, .load 22 (.tmp 42), none⟩, false),
          (⟨some 44, .move (.tmp 2), none⟩, false),
          (⟨some 45, .slice 22 (.tmp 43) none (some (.tmp 44)) none, none⟩, false),
          (⟨some 46, .move (.tmp 8), none⟩, false),
          (⟨some 47, .nilCheck (.tmp 46), none⟩, false),
          (⟨some 48, .fieldAddr 57 (.tmp 47) 1, none⟩, false),
          (⟨some 49, .load 3 (.tmp 48), none⟩, false),
          (⟨some 50, .move (.tmp 2), none⟩, true),
          (⟨some 51, .call ⟨.builtin .min, #[.tmp 49, .tmp 50], #[3, 3]⟩, none⟩, true),
          (⟨some 52, .nilCheck (.tmp 38), none⟩, false),
          (⟨some 53, .fieldAddr 57 (.tmp 52) 0, none⟩, false),
          (⟨none, .store 22 (.tmp 53) (.tmp 45), none⟩, false),
          (⟨some 54, .nilCheck (.tmp 39), none⟩, false),
          (⟨some 55, .fieldAddr 57 (.tmp 54) 1, none⟩, false),
          (⟨none, .store 3 (.tmp 55) (.tmp 51), none⟩, true)] []))
    (.skip)))
  (.seq (.reg [⟨some 56, .move (.tmp 7), none⟩,
        ⟨some 6, .assign (.tmp 56), none⟩] [])
  (.ret)))))
abbrev r_disk_Disk_Trim : List ResultVar := [.tmp 6]
theorem fits_disk_Disk_Trim : Fits Try.prog 24 3 c_disk_Disk_Trim r_disk_Disk_Trim :=
  ⟨_, _, [⟨[], [], [], []⟩, ⟨[], [], [], []⟩, ⟨[], [], [], []⟩, ⟨[], [], [], []⟩, ⟨[], [], [], []⟩, ⟨[], [], [], []⟩, ⟨[], [], [], []⟩, ⟨[], [], [], []⟩, ⟨[some (0, false), some (1, true), some (2, false), some (3, false), some (4, false), some (5, false), some (6, false), some (7, false), some (8, false), some (9, false), some (10, false), some (11, false), some (12, true), some (13, true), some (14, false), some (15, false), some (16, false), some (17, false), some (18, false), some (19, true)], [], [⟨some 38, [8], [], false⟩, ⟨some 39, [8], [], false⟩, ⟨some 40, [8], [], false⟩, ⟨some 41, [40], [2], false⟩, ⟨some 42, [41], [3], false⟩, ⟨some 43, [42], [4], false⟩, ⟨some 44, [2], [], false⟩, ⟨some 45, [43, 44], [5, 6], false⟩, ⟨some 46, [8], [], false⟩, ⟨some 47, [46], [8], false⟩, ⟨some 48, [47], [9], false⟩, ⟨some 49, [48], [10], false⟩, ⟨some 50, [2], [], false⟩, ⟨some 51, [49, 50], [11, 12], false⟩, ⟨some 52, [38], [0, 0, 2, 3, 4, 5, 6, 7, 11], false⟩, ⟨some 53, [52], [14, 0, 2, 3, 4, 5, 6, 7, 11], false⟩, ⟨none, [53, 45], [15, 7, 0, 2, 3, 4, 5, 6, 7, 11], true⟩, ⟨some 54, [39], [1, 0, 1, 2, 3, 4, 5, 6, 7, 8, 9, 10, 11, 12, 13, 14, 15, 16], false⟩, ⟨some 55, [54], [17, 0, 1, 2, 3, 4, 5, 6, 7, 8, 9, 10, 11, 12, 13, 14, 15, 16], false⟩, ⟨none, [55, 51], [18, 13, 16, 0, 1, 2, 3, 4, 5, 6, 7, 8, 9, 10, 11, 12, 13, 14, 15, 16], true⟩], [0, 0, 0, 4, 12, 28, 0, 124, 0, 256, 768, 1792, 0, 7936, 4093, 20477, 53245, 131071, 262143, 524287]⟩, ⟨[], [], [], []⟩], Try.func24, by kernel_rfl, rfl, by kernel_rfl, by kernel_rfl, by decide, rfl⟩

/-! stanchion/disk.there -/
abbrev n_disk_there : FuncId := 25
def c_disk_there : LC :=
  .seq (.reg [⟨some 2, .assign (.const (.bool false)), none⟩] [])
  (.seq (.reg [⟨some 3, .move (.tmp 0), none⟩,
        ⟨some 4, .call ⟨.value (.func 35), #[.tmp 3, .func 36], #[30, 71]⟩, none⟩,
        ⟨some 5, .unOp .not 4 (.tmp 4), none⟩,
        ⟨some 2, .assign (.tmp 5), none⟩] [])
  (.ret))
abbrev r_disk_there : List ResultVar := [.tmp 2]
theorem fits_disk_there : Fits Try.prog 25 1 c_disk_there r_disk_there :=
  ⟨_, _, [⟨[], [], [], []⟩, ⟨[], [], [], []⟩], Try.func25, by kernel_rfl, rfl, by kernel_rfl, by kernel_rfl, by decide, rfl⟩

/-! (*stanchion/disk.Disk).draw -/
abbrev n_disk_Disk_draw : FuncId := 26
def c_disk_Disk_draw : LC :=
  .seq (.reg [⟨some 2, .assign (.const (.int .i64 0)), none⟩] [])
  (.seq (.block 0 (.seq (.reg [⟨some 4, .move (.tmp 0), none⟩,
            ⟨some 5, .nilCheck (.tmp 4), none⟩,
            ⟨some 6, .fieldAddr 60 (.tmp 5) 0, none⟩,
            ⟨some 7, .load 3 (.tmp 6), none⟩,
            ⟨some 8, .binOp .eql 3 (.tmp 7) (.const (.int .i64 0)) 3, none⟩,
            ⟨some 3, .assign (.tmp 8), none⟩] [])
      (.cond (.tmp 3) [] (.seq (.reg [⟨some 2, .assign (.const (.int .i64 40)), none⟩] [])
        (.ret))
      (.seq (.reg [⟨some 10, .move (.tmp 0), none⟩,
              ⟨some 11, .nilCheck (.tmp 10), none⟩,
              ⟨some 12, .fieldAddr 60 (.tmp 11) 0, none⟩,
              ⟨some 13, .load 3 (.tmp 12), none⟩,
              ⟨some 14, .binOp .gtr 3 (.tmp 13) (.const (.int .i64 0)) 3, none⟩,
              ⟨some 9, .assign (.tmp 14), none⟩] [])
        (.cond (.tmp 9) [] (.reg [⟨some 15, .move (.tmp 0), none⟩,
              ⟨some 16, .nilCheck (.tmp 15), none⟩,
              ⟨some 17, .fieldAddr 60 (.tmp 16) 0, none⟩,
              ⟨some 18, .load 3 (.tmp 17), none⟩,
              ⟨some 19, .binOp .sub 3 (.tmp 18) (.const (.int .i64 1)) 3, none⟩,
              ⟨some 20, .nilCheck (.tmp 15), none⟩,
              ⟨some 21, .fieldAddr 60 (.tmp 20) 0, none⟩,
              ⟨none, .store 3 (.tmp 21) (.tmp 19), none⟩] [])
        (.skip))))))
  (.seq (.reg [⟨some 2, .assign (.const (.int .i64 0)), none⟩] [])
  (.ret)))
abbrev r_disk_Disk_draw : List ResultVar := [.tmp 2]
theorem fits_disk_Disk_draw : Fits Try.prog 26 1 c_disk_Disk_draw r_disk_Disk_draw :=
  ⟨_, _, [⟨[], [], [], []⟩, ⟨[], [], [], []⟩, ⟨[], [], [], []⟩, ⟨[], [], [], []⟩, ⟨[], [], [], []⟩, ⟨[], [], [], []⟩, ⟨[], [], [], []⟩, ⟨[], [], [], []⟩], Try.func26, by kernel_rfl, rfl, by kernel_rfl, by kernel_rfl, by decide, rfl⟩

/-! slices.Concat[[]byte,byte] -/
abbrev n_slices_Concat_byte_byte : FuncId := 27
def c_slices_Concat_byte_byte : LC :=
  .seq (.reg [⟨some 2, .assign (.const (.slice none 0 0)), none⟩] [])
  (.seq (.reg [⟨some 3, .assign (.const (.int .i64 0)), none⟩] [])
  (.seq (.seq (.reg [⟨some 9, .move (.tmp 0), none⟩,
          ⟨some 10, .call ⟨.builtin .len, #[.tmp 9], #[41]⟩, none⟩,
          ⟨some 11, .move (.const (.int .i64 0)), none⟩] [])
    (.block 0 (.loop (.seq (.reg [⟨some 12, .binOp .lss 3 (.tmp 11) (.tmp 10) 3, none⟩] [])
        (.seq (.cond (.tmp 12) [] (.skip)
          (.exit 0))
        (.seq (.block 1 (.seq (.reg [⟨some 13, .indexAddr 41 (.tmp 9) (.tmp 11), none⟩,
                  ⟨some 14, .load 22 (.tmp 13), none⟩,
                  ⟨some 5, .assign (.tmp 14), none⟩] [])
            (.seq (.reg [⟨some 15, .move (.tmp 3), none⟩,
                  ⟨some 16, .move (.tmp 5), none⟩,
                  ⟨some 17, .call ⟨.builtin .len, #[.tmp 16], #[22]⟩, none⟩,
                  ⟨some 18, .binOp .add 3 (.tmp 15) (.tmp 17) 3, none⟩,
                  ⟨some 3, .assign (.tmp 18), none⟩] [])
            (.seq (.reg [⟨some 19, .move (.tmp 3), none⟩,
                  ⟨some 20, .binOp .lss 3 (.tmp 19) (.const (.int .i64 0)) 3, none⟩] [])
            (.cond (.tmp 20) [] (.reg [⟨some 21, .makeInterface 9 (.const (.string ⟨#[108, 101, 110, 32, 111, 117, 116, 32, 111, 102, 32, 114, 97, 110, 103, 101]⟩)), none⟩,
                  ⟨none, .panic (.tmp 21), none⟩] [])
            (.skip))))))
        (.reg [⟨some 22, .binOp .add 3 (.tmp 11) (.const (.int .i64 1)) 3, none⟩,
            ⟨some 11, .move (.tmp 22), none⟩] [])))))))
  (.seq (.reg [⟨some 23, .move (.tmp 3), none⟩,
        ⟨some 24, .call ⟨.value (.func 37), #[.const (.slice none 0 0), .tmp 23], #[22, 3]⟩, none⟩,
        ⟨some 6, .assign (.tmp 24), none⟩] [])
  (.seq (.seq (.reg [⟨some 25, .move (.tmp 0), none⟩,
          ⟨some 26, .call ⟨.builtin .len, #[.tmp 25], #[41]⟩, none⟩,
          ⟨some 27, .move (.const (.int .i64 0)), none⟩] [])
    (.block 2 (.loop (.seq (.reg [⟨some 28, .binOp .lss 3 (.tmp 27) (.tmp 26) 3, none⟩] [])
        (.seq (.cond (.tmp 28) [] (.skip)
          (.exit 2))
        (.seq (.block 3 (.seq (.reg [⟨some 29, .indexAddr 41 (.tmp 25) (.tmp 27), none⟩,
                  ⟨some 30, .load 22 (.tmp 29), none⟩,
                  ⟨some 8, .assign (.tmp 30), none⟩] [])
            (.reg [⟨some 31, .move (.tmp 6), none⟩,
                ⟨some 32, .move (.tmp 8), none⟩,
                ⟨some 33, .call ⟨.builtin .append, #[.tmp 31, .tmp 32], #[22, 22]⟩, none⟩,
                ⟨some 6, .assign (.tmp 33), none⟩] [])))
        (.reg [⟨some 34, .binOp .add 3 (.tmp 27) (.const (.int .i64 1)) 3, none⟩,
            ⟨some 27, .move (.tmp 34), none⟩] [])))))))
  (.seq (.reg [⟨some 35, .move (.tmp 6), none⟩,
        ⟨some 2, .assign (.tmp 35), none⟩] [])
  (.ret))))))
abbrev r_slices_Concat_byte_byte : List ResultVar := [.tmp 2]
theorem fits_slices_Concat_byte_byte : Fits Try.prog 27 1 c_slices_Concat_byte_byte r_slices_Concat_byte_byte :=
  ⟨_, _, [⟨[], [], [], []⟩, ⟨[], [], [], []⟩, ⟨[], [], [], []⟩, ⟨[], [], [], []⟩, ⟨[], [], [], []⟩, ⟨[], [], [], []⟩, ⟨[], [], [], []⟩, ⟨[], [], [], []⟩, ⟨[], [], [], []⟩, ⟨[], [], [], []⟩, ⟨[], [], [], []⟩, ⟨[], [], [], []⟩, ⟨[], [], [], []⟩, ⟨[], [], [], []⟩, ⟨[], [], [], []⟩, ⟨[], [], [], []⟩, ⟨[], [], [], []⟩, ⟨[], [], [], []⟩, ⟨[], [], [], []⟩], Try.func27, by kernel_rfl, rfl, by kernel_rfl, by kernel_rfl, by decide, rfl⟩

/-! (stanchion/disk.area).left -/
abbrev n_disk_area_left : FuncId := 28
def c_disk_area_left : LC :=
  .seq (.reg [⟨some 2, .box 57 (.tmp 0), none⟩,
        ⟨some 4, .alloc 57, none⟩] [])
  (.seq (.reg [⟨some 6, .fieldAddr 57 (.tmp 2) 1, none⟩,
        ⟨some 7, .load 3 (.tmp 6), none⟩,
        ⟨some 8, .move (.tmp 1), none⟩,
        ⟨some 9, .fieldAddr 57 (.tmp 2) 0, none⟩,
        ⟨some 10, .load 22 (.tmp 9), none⟩,
        ⟨some 11, .call ⟨.builtin .len, #[.tmp 10], #[22]⟩, none⟩,
        ⟨some 12, .fieldAddr 57 (.tmp 2) 1, none⟩,
        ⟨some 13, .load 3 (.tmp 12), none⟩,
        ⟨some 14, .binOp .sub 3 (.tmp 11) (.tmp 13) 3, none⟩,
        ⟨some 15, .call ⟨.builtin .min, #[.tmp 8, .tmp 14], #[3, 3]⟩, none⟩,
        ⟨some 16, .call ⟨.builtin .max, #[.const (.int .i64 0), .tmp 15], #[3, 3]⟩, none⟩,
        ⟨some 17, .binOp .add 3 (.tmp 7) (.tmp 16) 3, none⟩,
        ⟨some 5, .assign (.tmp 17), none⟩] [])
  (.seq (.reg [⟨some 18, .fieldAddr 57 (.tmp 2) 0, none⟩,
        ⟨some 19, .load 22 (.tmp 18), none⟩,
        ⟨some 20, .move (.tmp 5), none⟩,
        ⟨some 21, .slice 22 (.tmp 19) none (some (.tmp 20)) none, none⟩,
        ⟨some 22, .call ⟨.value (.func 29), #[.tmp 21], #[22]⟩, none⟩,
        ⟨some 23, .move (.tmp 5), none⟩,
        ⟨some 24, .build 57 #[(0, .tmp 22), (1, .tmp 23)], none⟩,
        ⟨none, .store 57 (.tmp 4) (.tmp 24), none⟩] [])
  (.ret)))
abbrev r_disk_area_left : List ResultVar := [.cell 4 57]
theorem fits_disk_area_left : Fits Try.prog 28 2 c_disk_area_left r_disk_area_left :=
  ⟨_, _, [⟨[], [], [], []⟩, ⟨[], [], [], []⟩, ⟨[], [], [], []⟩], Try.func28, by kernel_rfl, rfl, by kernel_rfl, by kernel_rfl, by decide, rfl⟩

/-! slices.Clone[[]byte,byte] -/
abbrev n_slices_Clone_byte_byte : FuncId := 29
def c_slices_Clone_byte_byte : LC :=
  .seq (.reg [⟨some 2, .assign (.const (.slice none 0 0)), none⟩] [])
  (.seq (.seq (.reg [⟨some 3, .move (.tmp 0), none⟩,
          ⟨some 4, .binOp .eql 22 (.tmp 3) (.const (.slice none 0 0)) 22, none⟩] [])
    (.cond (.tmp 4) [] (.seq (.reg [⟨some 2, .assign (.const (.slice none 0 0)), none⟩] [])
      (.ret))
    (.skip)))
  (.seq (.reg [⟨some 5, .buildSlice 22 0 #[], none⟩,
        ⟨some 6, .move (.tmp 0), none⟩,
        ⟨some 7, .call ⟨.builtin .append, #[.tmp 5, .tmp 6], #[22, 22]⟩, none⟩,
        ⟨some 2, .assign (.tmp 7), none⟩] [])
  (.ret)))
abbrev r_slices_Clone_byte_byte : List ResultVar := [.tmp 2]
theorem fits_slices_Clone_byte_byte : Fits Try.prog 29 1 c_slices_Clone_byte_byte r_slices_Clone_byte_byte :=
  ⟨_, _, [⟨[], [], [], []⟩, ⟨[], [], [], []⟩, ⟨[], [], [], []⟩, ⟨[], [], [], []⟩, ⟨[], [], [], []⟩], Try.func29, by kernel_rfl, rfl, by kernel_rfl, by kernel_rfl, by decide, rfl⟩

/-! stanchion/stanchionref00.CopyRows -/
abbrev n_stanchionref00_CopyRows : FuncId := 33
def c_stanchionref00_CopyRows : LC :=
  .seq (.reg [⟨some 2, .assign (.const (.slice none 0 0)), none⟩] [])
  (.seq (.reg [⟨some 5, .buildSlice 41 0 #[], none⟩,
        ⟨some 3, .assign (.tmp 5), none⟩] [])
  (.seq (.seq (.reg [⟨some 4, .assign (.const (.int .i64 0)), none⟩] [])
    (.block 0 (.loop (.seq (.seq (.reg [⟨some 6, .move (.tmp 4), none⟩,
                ⟨some 7, .move (.tmp 0), none⟩,
                ⟨some 8, .call ⟨.builtin .len, #[.tmp 7], #[41]⟩, none⟩,
                ⟨some 9, .binOp .lss 3 (.tmp 6) (.tmp 8) 3, none⟩] [])
          (.cond (.tmp 9) [] (.skip)
          (.exit 0)))
        (.seq (.block 1 (.reg [⟨some 12, .move (.tmp 3), none⟩,
                ⟨some 13, .move (.tmp 0), none⟩,
                ⟨some 14, .move (.tmp 4), none⟩,
                ⟨some 15, .indexAddr 41 (.tmp 13) (.tmp 14), none⟩,
                ⟨some 16, .load 22 (.tmp 15), none⟩,
                ⟨some 17, .call ⟨.value (.func 11), #[.tmp 16], #[22]⟩, none⟩,
                ⟨some 18, .buildSlice 41 1 #[(0, .tmp 17)], none⟩,
                ⟨some 19, .call ⟨.builtin .append, #[.tmp 12, .tmp 18], #[41, 41]⟩, none⟩,
                ⟨some 3, .assign (.tmp 19), none⟩] []))
        (.reg [⟨some 10, .move (.tmp 4), none⟩,
            ⟨some 11, .binOp .add 3 (.tmp 10) (.const (.int .i64 1)) 3, none⟩,
            ⟨some 4, .assign (.tmp 11), none⟩] []))))))
  (.seq (.reg [⟨some 20, .move (.tmp 3), none⟩,
        ⟨some 2, .assign (.tmp 20), none⟩] [])
  (.ret))))
abbrev r_stanchionref00_CopyRows : List ResultVar := [.tmp 2]
theorem fits_stanchionref00_CopyRows : Fits Try.prog 33 1 c_stanchionref00_CopyRows r_stanchionref00_CopyRows :=
  ⟨_, _, [⟨[], [], [], []⟩, ⟨[], [], [], []⟩, ⟨[], [], [], []⟩, ⟨[], [], [], []⟩, ⟨[], [], [], []⟩, ⟨[], [], [], []⟩, ⟨[], [], [], []⟩, ⟨[], [], [], []⟩], Try.func33, by kernel_rfl, rfl, by kernel_rfl, by kernel_rfl, by decide, rfl⟩

/-! slices.ContainsFunc[[]int,int] -/
abbrev n_slices_ContainsFunc_int_int : FuncId := 35
def c_slices_ContainsFunc_int_int : LC :=
  .seq (.reg [⟨some 4, .assign (.const (.bool false)), none⟩] [])
  (.seq (.reg [⟨some 5, .move (.tmp 0), none⟩,
        ⟨some 6, .move (.tmp 1), none⟩,
        ⟨some 7, .call ⟨.value (.func 40), #[.tmp 5, .tmp 6], #[30, 71]⟩, none⟩,
        ⟨some 8, .binOp .geq 3 (.tmp 7) (.const (.int .i64 0)) 3, none⟩,
        ⟨some 4, .assign (.tmp 8), none⟩] [])
  (.ret))
abbrev r_slices_ContainsFunc_int_int : List ResultVar := [.tmp 4]
theorem fits_slices_ContainsFunc_int_int : Fits Try.prog 35 2 c_slices_ContainsFunc_int_int r_slices_ContainsFunc_int_int :=
  ⟨_, _, [⟨[], [], [], []⟩, ⟨[], [], [], []⟩], Try.func35, by kernel_rfl, rfl, by kernel_rfl, by kernel_rfl, by decide, rfl⟩

/-! stanchion/disk.there$1 -/
abbrev n_disk_there_1 : FuncId := 36
def c_disk_there_1 : LC :=
  .seq (.reg [⟨some 2, .assign (.const (.bool false)), none⟩] [])
  (.seq (.reg [⟨some 3, .move (.tmp 0), none⟩,
        ⟨some 4, .binOp .lss 3 (.tmp 3) (.const (.int .i64 0)) 3, none⟩,
        ⟨some 5, .move (.tmp 4), none⟩,
        ⟨some 6, .move (.tmp 0), some (5, false)⟩,
        ⟨some 7, .binOp .geq 3 (.tmp 6) (.const (.int .i64 2)) 3, some (5, false)⟩,
        ⟨some 8, .pick (.tmp 5) (.const (.bool true)) (.tmp 7), none⟩,
        ⟨some 2, .assign (.tmp 8), none⟩] [])
  (.ret))
abbrev r_disk_there_1 : List ResultVar := [.tmp 2]
theorem fits_disk_there_1 : Fits Try.prog 36 1 c_disk_there_1 r_disk_there_1 :=
  ⟨_, _, [⟨[], [], [], []⟩, ⟨[], [], [], []⟩], Try.func36, by kernel_rfl, rfl, by kernel_rfl, by kernel_rfl, by decide, rfl⟩

/-! slices.Grow[[]byte,byte] -/
abbrev n_slices_Grow_byte_byte : FuncId := 37
def c_slices_Grow_byte_byte : LC :=
  .seq (.reg [⟨some 4, .assign (.const (.slice none 0 0)), none⟩] [])
  (.seq (.seq (.reg [⟨some 5, .move (.tmp 1), none⟩,
          ⟨some 6, .binOp .lss 3 (.tmp 5) (.const (.int .i64 0)) 3, none⟩] [])
    (.cond (.tmp 6) [] (.reg [⟨some 7, .makeInterface 9 (.const (.string ⟨#[99, 97, 110, 110, 111, 116, 32, 98, 101, 32, 110, 101, 103, 97, 116, 105, 118, 101]⟩)), none⟩,
          ⟨none, .panic (.tmp 7), none⟩] [])
    (.skip)))
  (.seq (.seq (.reg [⟨some 8, .move (.tmp 1), none⟩,
          ⟨some 9, .move (.tmp 0), none⟩,
          ⟨some 10, .call ⟨.builtin .cap, #[.tmp 9], #[22]⟩, none⟩,
          ⟨some 11, .move (.tmp 0), none⟩,
          ⟨some 12, .call ⟨.builtin .len, #[.tmp 11], #[22]⟩, none⟩,
          ⟨some 13, .binOp .sub 3 (.tmp 10) (.tmp 12) 3, none⟩,
          ⟨some 14, .binOp .sub 3 (.tmp 8) (.tmp 13) 3, none⟩,
          ⟨some 1, .assign (.tmp 14), none⟩] [])
    (.seq (.reg [⟨some 15, .move (.tmp 1), none⟩,
          ⟨some 16, .binOp .gtr 3 (.tmp 15) (.const (.int .i64 0)) 3, none⟩] [])
    (.cond (.tmp 16) [] (.reg [⟨some 17, .move (.tmp 0), none⟩,
          ⟨some 18, .move (.tmp 0), none⟩,
          ⟨some 19, .call ⟨.builtin .cap, #[.tmp 18], #[22]⟩, none⟩,
          ⟨some 20, .slice 22 (.tmp 17) none (some (.tmp 19)) none, none⟩,
          ⟨some 21, .move (.tmp 1), none⟩,
          ⟨some 22, .call ⟨.builtin .append, #[.tmp 20, .tmp 21], #[22, 3]⟩, none⟩,
          ⟨some 23, .move (.tmp 0), none⟩,
          ⟨some 24, .call ⟨.builtin .len, #[.tmp 23], #[22]⟩, none⟩,
          ⟨some 25, .slice 22 (.tmp 22) none (some (.tmp 24)) none, none⟩,
          ⟨some 0, .assign (.tmp 25), none⟩] [])
    (.skip))))
  (.seq (.reg [⟨some 26, .move (.tmp 0), none⟩,
        ⟨some 4, .assign (.tmp 26), none⟩] [])
  (.ret))))
abbrev r_slices_Grow_byte_byte : List ResultVar := [.tmp 4]
theorem fits_slices_Grow_byte_byte : Fits Try.prog 37 2 c_slices_Grow_byte_byte r_slices_Grow_byte_byte :=
  ⟨_, _, [⟨[], [], [], []⟩, ⟨[], [], [], []⟩, ⟨[], [], [], []⟩, ⟨[], [], [], []⟩, ⟨[], [], [], []⟩, ⟨[], [], [], []⟩, ⟨[], [], [], []⟩, ⟨[], [], [], []⟩, ⟨[], [], [], []⟩], Try.func37, by kernel_rfl, rfl, by kernel_rfl, by kernel_rfl, by decide, rfl⟩

/-! slices.IndexFunc[[]int,int] -/
abbrev n_slices_IndexFunc_int_int : FuncId := 40
def c_slices_IndexFunc_int_int : LC :=
  .seq (.reg [⟨some 4, .assign (.const (.int .i64 0)), none⟩] [])
  (.seq (.seq (.reg [⟨some 6, .move (.tmp 0), none⟩,
          ⟨some 7, .call ⟨.builtin .len, #[.tmp 6], #[30]⟩, none⟩,
          ⟨some 8, .move (.const (.int .i64 0)), none⟩] [])
    (.block 0 (.loop (.seq (.reg [⟨some 9, .binOp .lss 3 (.tmp 8) (.tmp 7) 3, none⟩] [])
        (.seq (.cond (.tmp 9) [] (.skip)
          (.exit 0))
        (.seq (.block 1 (.seq (.reg [⟨some 10, .move (.tmp 8), none⟩,
                  ⟨some 5, .assign (.tmp 10), none⟩] [])
            (.seq (.reg [⟨some 11, .move (.tmp 1), none⟩,
                  ⟨some 12, .move (.tmp 0), none⟩,
                  ⟨some 13, .move (.tmp 5), none⟩,
                  ⟨some 14, .indexAddr 30 (.tmp 12) (.tmp 13), none⟩,
                  ⟨some 15, .load 3 (.tmp 14), none⟩,
                  ⟨some 16, .call ⟨.value (.tmp 11), #[.tmp 15], #[3]⟩, none⟩] [])
            (.cond (.tmp 16) [] (.seq (.reg [⟨some 17, .move (.tmp 5), none⟩,
                    ⟨some 4, .assign (.tmp 17), none⟩] [])
              (.ret))
            (.skip)))))
        (.reg [⟨some 18, .binOp .add 3 (.tmp 8) (.const (.int .i64 1)) 3, none⟩,
            ⟨some 8, .move (.tmp 18), none⟩] [])))))))
  (.seq (.reg [⟨some 4, .assign (.const (.int .i64 (-1))), none⟩] [])
  (.ret)))
abbrev r_slices_IndexFunc_int_int : List ResultVar := [.tmp 4]
theorem fits_slices_IndexFunc_int_int : Fits Try.prog 40 2 c_slices_IndexFunc_int_int r_slices_IndexFunc_int_int :=
  ⟨_, _, [⟨[], [], [], []⟩, ⟨[], [], [], []⟩, ⟨[], [], [], []⟩, ⟨[], [], [], []⟩, ⟨[], [], [], []⟩, ⟨[], [], [], []⟩, ⟨[], [], [], []⟩, ⟨[], [], [], []⟩, ⟨[], [], [], []⟩, ⟨[], [], [], []⟩], Try.func40, by kernel_rfl, rfl, by kernel_rfl, by kernel_rfl, by decide, rfl⟩

end Go.Proofs.Ythdmpdagkccphaa
