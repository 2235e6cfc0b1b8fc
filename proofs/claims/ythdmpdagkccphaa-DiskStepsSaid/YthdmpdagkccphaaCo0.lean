/- The codes of functions, each operation in short. Printed by a program of this work. -/
import Derived.Test.YthdmpdagkccphaaTa
set_option linter.unusedVariables false
namespace Go.Proofs.Ythdmpdagkccphaa
open Go.Al
/-! stanchion/stanchionlaw04.DiskSteps -/
abbrev n_stanchionlaw04_DiskSteps : FuncId := 4
def c_stanchionlaw04_DiskSteps : LC :=
  .seq (.reg [⟨some 4, .assign (.const (.bool false)), none⟩] [])
  (.seq (.seq (.reg [⟨some 11, .call ⟨.value (.func 9), #[], #[]⟩, none⟩,
          ⟨some 12, .unOp .not 4 (.tmp 11), none⟩] [])
    (.cond (.tmp 12) [] (.seq (.reg [⟨some 4, .assign (.const (.bool false)), none⟩] [])
      (.ret))
    (.skip)))
  (.seq (.reg [⟨some 13, .move (.tmp 1), none⟩,
        ⟨some 14, .call ⟨.value (.func 16), #[.tmp 13], #[34]⟩, none⟩,
        ⟨some 1, .assign (.tmp 14), none⟩] [])
  (.seq (.seq (.reg [⟨some 15, .move (.tmp 1), none⟩,
          ⟨some 16, .call ⟨.value (.func 17), #[.tmp 15], #[34]⟩, none⟩] [])
    (.cond (.tmp 16) [] (.seq (.reg [⟨some 4, .assign (.const (.bool true)), none⟩] [])
      (.ret))
    (.skip)))
  (.seq (.reg [⟨some 17, .move (.tmp 0), none⟩,
        ⟨some 18, .call ⟨.value (.func 10), #[.tmp 17], #[3]⟩, none⟩,
        ⟨some 5, .assign (.tmp 18), none⟩] [])
  (.seq (.reg [⟨some 19, .move (.tmp 0), none⟩,
        ⟨some 20, .build 40 #[(0, .tmp 19)], none⟩,
        ⟨some 6, .alloc 40, none⟩,
        ⟨none, .store 40 (.tmp 6) (.tmp 20), none⟩] [])
  (.seq (.seq (.reg [⟨some 21, .move (.tmp 5), none⟩,
          ⟨some 22, .binOp .eql 24 (.tmp 21) (.const (.pointer none)) 24, none⟩] [])
    (.cond (.tmp 22) [] (.seq (.reg [⟨some 4, .assign (.const (.bool false)), none⟩] [])
      (.ret))
    (.skip)))
  (.seq (.seq (.reg [⟨some 7, .assign (.const (.int .i64 0)), none⟩] [])
    (.block 0 (.loop (.seq (.seq (.reg [⟨some 23, .move (.tmp 7), none⟩,
                ⟨some 24, .move (.tmp 1), none⟩,
                ⟨some 25, .call ⟨.builtin .len, #[.tmp 24], #[34]⟩, none⟩,
                ⟨some 26, .binOp .lss 3 (.tmp 23) (.tmp 25) 3, none⟩] [])
          (.cond (.tmp 26) [] (.skip)
          (.exit 0)))
        (.seq (.block 1 (.seq (.reg [⟨some 29, .move (.tmp 1), none⟩,
                  ⟨some 30, .move (.tmp 7), none⟩,
                  ⟨some 31, .indexAddr 34 (.tmp 29) (.tmp 30), none⟩,
                  ⟨some 32, .load 43 (.tmp 31), none⟩,
                  ⟨some 8, .alloc 43, none⟩,
                  ⟨none, .store 43 (.tmp 8) (.tmp 32), none⟩] [])
            (.seq (.seq (.reg [⟨some 33, .fieldAddr 43 (.tmp 8) 0, none⟩,
                    ⟨some 34, .load 3 (.tmp 33), none⟩,
                    ⟨some 35, .binOp .eql 3 (.tmp 34) (.const (.int .i64 4)) 3, none⟩] [])
              (.cond (.tmp 35) [] (.seq (.drw [(⟨some 36, .move (.tmp 5), none⟩, true),
                      (⟨some 37, .fieldAddr 43 (.tmp 8) 4, none⟩, false),
                      (⟨some 38, .load 30 (.tmp 37), none⟩, false),
                      (⟨some 40, .fieldAddr 43 (.tmp 8) 2, none⟩, true),
                      (⟨some 41, .load 3 (.tmp 40), none⟩, true),
                      (⟨some 39, .call ⟨.value (.func 18), #[.tmp 38], #[30]⟩, none⟩, false),
                      (⟨some 42, .call ⟨.value (.func 13), #[.tmp 36, .tmp 39, .tmp 41], #[24, 30, 3]⟩, none⟩, true),
                      (⟨some 5, .assign (.tmp 42), none⟩, false)] [])
                (.seq (.reg [⟨some 43, .load 40 (.tmp 6), none⟩,
                      ⟨some 44, .fieldAddr 43 (.tmp 8) 4, none⟩,
                      ⟨some 45, .load 30 (.tmp 44), none⟩,
                      ⟨some 46, .fieldAddr 43 (.tmp 8) 2, none⟩,
                      ⟨some 47, .load 3 (.tmp 46), none⟩,
                      ⟨some 48, .call ⟨.value (.func 19), #[.tmp 43, .tmp 45, .tmp 47], #[40, 30, 3]⟩, none⟩,
                      ⟨none, .store 40 (.tmp 6) (.tmp 48), none⟩] [])
                (.seq (.reg [⟨some 49, .move (.tmp 5), none⟩,
                      ⟨some 50, .binOp .eql 24 (.tmp 49) (.const (.pointer none)) 24, none⟩] [])
                (.cond (.tmp 50) [] (.seq (.reg [⟨some 4, .assign (.const (.bool false)), none⟩] [])
                  (.ret))
                (.skip)))))
              (.seq (.reg [⟨some 52, .load 40 (.tmp 6), none⟩,
                      ⟨some 53, .load 43 (.tmp 8), none⟩,
                      ⟨some 54, .call ⟨.value (.func 20), #[.tmp 52, .tmp 53], #[40, 43]⟩, none⟩,
                      ⟨some 51, .move (.tmp 54), none⟩,
                      ⟨some 55, .extract (.tmp 51) 0, none⟩,
                      ⟨some 56, .extract (.tmp 51) 1, none⟩,
                      ⟨some 9, .alloc 40, none⟩,
                      ⟨none, .store 40 (.tmp 9) (.tmp 55), none⟩,
                      ⟨some 10, .assign (.tmp 56), none⟩] [])
                (.seq (.reg [⟨some 57, .load 40 (.tmp 9), none⟩,
                      ⟨none, .store 40 (.tmp 6) (.tmp 57), none⟩] [])
                (.seq (.reg [⟨some 58, .move (.tmp 5), none⟩,
                      ⟨some 59, .load 43 (.tmp 8), none⟩,
                      ⟨some 60, .call ⟨.value (.func 21), #[.tmp 58, .tmp 59], #[24, 43]⟩, none⟩,
                      ⟨some 61, .move (.tmp 10), none⟩,
                      ⟨some 62, .binOp .neq 27 (.tmp 60) (.tmp 61) 27, none⟩] [])
                (.cond (.tmp 62) [] (.seq (.reg [⟨some 4, .assign (.const (.bool false)), none⟩] [])
                  (.ret))
                (.skip)))))))
            (.seq (.reg [⟨some 63, .move (.tmp 5), none⟩,
                  ⟨some 64, .load 40 (.tmp 6), none⟩,
                  ⟨some 65, .call ⟨.value (.func 22), #[.tmp 63, .tmp 64], #[24, 40]⟩, none⟩,
                  ⟨some 66, .unOp .not 4 (.tmp 65), none⟩] [])
            (.cond (.tmp 66) [] (.seq (.reg [⟨some 4, .assign (.const (.bool false)), none⟩] [])
              (.ret))
            (.skip))))))
        (.reg [⟨some 27, .move (.tmp 7), none⟩,
            ⟨some 28, .binOp .add 3 (.tmp 27) (.const (.int .i64 1)) 3, none⟩,
            ⟨some 7, .assign (.tmp 28), none⟩] []))))))
  (.seq (.reg [⟨some 4, .assign (.const (.bool true)), none⟩] [])
  (.ret)))))))))
abbrev r_stanchionlaw04_DiskSteps : List ResultVar := [.tmp 4]
theorem fits_stanchionlaw04_DiskSteps : Fits Try.prog 4 2 c_stanchionlaw04_DiskSteps r_stanchionlaw04_DiskSteps :=
  ⟨_, _, [⟨[], [], [], []⟩, ⟨[], [], [], []⟩, ⟨[], [], [], []⟩, ⟨[], [], [], []⟩, ⟨[], [], [], []⟩, ⟨[], [], [], []⟩, ⟨[], [], [], []⟩, ⟨[], [], [], []⟩, ⟨[], [], [], []⟩, ⟨[], [], [], []⟩, ⟨[], [], [], []⟩, ⟨[], [], [], []⟩, ⟨[], [], [], []⟩, ⟨[], [], [], []⟩, ⟨[], [], [], []⟩, ⟨[], [], [], []⟩, ⟨[], [], [], []⟩, ⟨[], [], [], []⟩, ⟨[], [], [], []⟩, ⟨[some (0, true), some (1, false), some (2, false), some (4, true), some (5, true), some (3, false), some (6, true), none, some (7, false)], [], [⟨some 36, [5], [], false⟩, ⟨some 37, [8], [], false⟩, ⟨some 38, [37], [1], false⟩, ⟨some 39, [38], [2], true⟩, ⟨some 40, [8], [], false⟩, ⟨some 41, [40], [4], false⟩, ⟨some 42, [36, 39, 41], [0, 3, 5, 3], true⟩, ⟨some 5, [42], [6, 6, 0, 1, 2, 3, 4, 5, 6], false⟩], [0, 0, 2, 6, 0, 16, 63, 127]⟩, ⟨[], [], [], []⟩, ⟨[], [], [], []⟩, ⟨[], [], [], []⟩, ⟨[], [], [], []⟩, ⟨[], [], [], []⟩, ⟨[], [], [], []⟩, ⟨[], [], [], []⟩, ⟨[], [], [], []⟩, ⟨[], [], [], []⟩, ⟨[], [], [], []⟩, ⟨[], [], [], []⟩, ⟨[], [], [], []⟩, ⟨[], [], [], []⟩, ⟨[], [], [], []⟩], Try.func4, by kernel_rfl, rfl, by kernel_rfl, by kernel_rfl, by decide, rfl⟩

/-! stanchion/stanchionlaw04.alive -/
abbrev n_stanchionlaw04_alive : FuncId := 9
def c_stanchionlaw04_alive : LC :=
  .seq (.reg [⟨some 0, .assign (.const (.bool false)), none⟩] [])
  (.seq (.reg [⟨some 5, .call ⟨.value (.func 10), #[.const (.int .i64 (-1))], #[3]⟩, none⟩,
        ⟨some 1, .assign (.tmp 5), none⟩] [])
  (.seq (.seq (.reg [⟨some 6, .move (.tmp 1), none⟩,
          ⟨some 7, .binOp .eql 24 (.tmp 6) (.const (.pointer none)) 24, none⟩,
          ⟨some 8, .move (.tmp 7), none⟩,
          ⟨some 9, .move (.tmp 1), some (8, false)⟩,
          ⟨some 10, .buildSlice 22 2 #[(0, .const (.int .u8 97)), (1, .const (.int .u8 98))], some (8, false)⟩,
          ⟨some 11, .convert 22 22 (.tmp 10), some (8, false)⟩,
          ⟨some 12, .buildSlice 22 1 #[(0, .const (.int .u8 99))], some (8, false)⟩,
          ⟨some 13, .convert 22 22 (.tmp 12), some (8, false)⟩,
          ⟨some 14, .buildSlice 41 2 #[(0, .tmp 11), (1, .tmp 13)], some (8, false)⟩,
          ⟨some 15, .call ⟨.value (.func 12), #[.tmp 9, .const (.int .i64 1), .tmp 14], #[24, 3, 41]⟩, some (8, false)⟩,
          ⟨some 16, .binOp .neq 27 (.tmp 15) (.const (.int .i64 0)) 27, some (8, false)⟩,
          ⟨some 17, .pick (.tmp 8) (.const (.bool true)) (.tmp 16), none⟩,
          ⟨some 18, .move (.tmp 17), none⟩,
          ⟨some 19, .move (.tmp 1), some (18, false)⟩,
          ⟨some 20, .call ⟨.value (.func 23), #[.tmp 19, .const (.slice none 0 0)], #[24, 30]⟩, some (18, false)⟩,
          ⟨some 21, .binOp .neq 27 (.tmp 20) (.const (.int .i64 0)) 27, some (18, false)⟩,
          ⟨some 22, .pick (.tmp 18) (.const (.bool true)) (.tmp 21), none⟩,
          ⟨some 23, .move (.tmp 22), none⟩,
          ⟨some 24, .move (.tmp 1), some (23, false)⟩,
          ⟨some 25, .buildSlice 22 2 #[(0, .const (.int .u8 100)), (1, .const (.int .u8 101))], some (23, false)⟩,
          ⟨some 26, .convert 22 22 (.tmp 25), some (23, false)⟩,
          ⟨some 27, .buildSlice 41 1 #[(0, .tmp 26)], some (23, false)⟩,
          ⟨some 28, .call ⟨.value (.func 12), #[.tmp 24, .const (.int .i64 1), .tmp 27], #[24, 3, 41]⟩, some (23, false)⟩,
          ⟨some 29, .binOp .neq 27 (.tmp 28) (.const (.int .i64 0)) 27, some (23, false)⟩,
          ⟨some 30, .pick (.tmp 23) (.const (.bool true)) (.tmp 29), none⟩] [])
    (.cond (.tmp 30) [] (.seq (.reg [⟨some 0, .assign (.const (.bool false)), none⟩] [])
      (.ret))
    (.skip)))
  (.seq (.reg [⟨some 31, .move (.tmp 1), none⟩,
        ⟨some 32, .buildSlice 30 2 #[(0, .const (.int .i64 9)), (1, .const (.int .i64 1))], none⟩,
        ⟨some 33, .call ⟨.value (.func 13), #[.tmp 31, .tmp 32, .const (.int .i64 (-1))], #[24, 30, 3]⟩, none⟩,
        ⟨some 2, .assign (.tmp 33), none⟩] [])
  (.seq (.seq (.reg [⟨some 34, .move (.tmp 2), none⟩,
          ⟨some 35, .binOp .eql 24 (.tmp 34) (.const (.pointer none)) 24, none⟩] [])
    (.cond (.tmp 35) [] (.seq (.reg [⟨some 0, .assign (.const (.bool false)), none⟩] [])
      (.ret))
    (.skip)))
  (.seq (.reg [⟨some 37, .move (.tmp 2), none⟩,
        ⟨some 38, .call ⟨.value (.func 14), #[.tmp 37, .const (.int .i64 1)], #[24, 3]⟩, none⟩,
        ⟨some 36, .move (.tmp 38), none⟩,
        ⟨some 39, .extract (.tmp 36) 0, none⟩,
        ⟨some 40, .extract (.tmp 36) 1, none⟩,
        ⟨some 3, .assign (.tmp 39), none⟩,
        ⟨some 4, .assign (.tmp 40), none⟩] [])
  (.seq (.reg [⟨some 41, .move (.tmp 4), none⟩,
        ⟨some 42, .binOp .eql 27 (.tmp 41) (.const (.int .i64 0)) 27, none⟩,
        ⟨some 43, .move (.tmp 42), none⟩,
        ⟨some 44, .move (.tmp 3), some (43, true)⟩,
        ⟨some 45, .convert 22 9 (.tmp 44), some (43, true)⟩,
        ⟨some 46, .binOp .eql 9 (.tmp 45) (.const (.string ⟨#[97, 98, 99, 100]⟩)) 9, some (43, true)⟩,
        ⟨some 47, .pick (.tmp 43) (.tmp 46) (.const (.bool false)), none⟩,
        ⟨some 0, .assign (.tmp 47), none⟩] [])
  (.ret)))))))
abbrev r_stanchionlaw04_alive : List ResultVar := [.tmp 0]
theorem fits_stanchionlaw04_alive : Fits Try.prog 9 0 c_stanchionlaw04_alive r_stanchionlaw04_alive :=
  ⟨_, _, [⟨[], [], [], []⟩, ⟨[], [], [], []⟩, ⟨[], [], [], []⟩, ⟨[], [], [], []⟩, ⟨[], [], [], []⟩, ⟨[], [], [], []⟩, ⟨[], [], [], []⟩, ⟨[], [], [], []⟩, ⟨[], [], [], []⟩, ⟨[], [], [], []⟩, ⟨[], [], [], []⟩], Try.func9, by kernel_rfl, rfl, by kernel_rfl, by kernel_rfl, by decide, rfl⟩

/-! stanchion/disk.New -/
abbrev n_disk_New : FuncId := 10
def c_disk_New : LC :=
  .seq (.reg [⟨some 2, .assign (.const (.pointer none)), none⟩] [])
  (.seq (.reg [⟨some 3, .move (.tmp 0), none⟩,
        ⟨some 4, .build 60 #[(0, .tmp 3)], none⟩,
        ⟨some 5, .box 60 (.tmp 4), none⟩,
        ⟨some 2, .assign (.tmp 5), none⟩] [])
  (.ret))
abbrev r_disk_New : List ResultVar := [.tmp 2]
theorem fits_disk_New : Fits Try.prog 10 1 c_disk_New r_disk_New :=
  ⟨_, _, [⟨[], [], [], []⟩, ⟨[], [], [], []⟩], Try.func10, by kernel_rfl, rfl, by kernel_rfl, by kernel_rfl, by decide, rfl⟩

/-! stanchion/stanchionref00.CopyBytes -/
abbrev n_stanchionref00_CopyBytes : FuncId := 11
def c_stanchionref00_CopyBytes : LC :=
  .seq (.reg [⟨some 2, .assign (.const (.slice none 0 0)), none⟩] [])
  (.seq (.reg [⟨some 4, .buildSlice 22 0 #[], none⟩,
        ⟨some 3, .assign (.tmp 4), none⟩] [])
  (.seq (.reg [⟨some 5, .move (.tmp 3), none⟩,
        ⟨some 6, .move (.tmp 0), none⟩,
        ⟨some 7, .call ⟨.builtin .append, #[.tmp 5, .tmp 6], #[22, 22]⟩, none⟩,
        ⟨some 3, .assign (.tmp 7), none⟩] [])
  (.seq (.reg [⟨some 8, .move (.tmp 3), none⟩,
        ⟨some 2, .assign (.tmp 8), none⟩] [])
  (.ret))))
abbrev r_stanchionref00_CopyBytes : List ResultVar := [.tmp 2]
theorem fits_stanchionref00_CopyBytes : Fits Try.prog 11 1 c_stanchionref00_CopyBytes r_stanchionref00_CopyBytes :=
  ⟨_, _, [⟨[], [], [], []⟩, ⟨[], [], [], []⟩, ⟨[], [], [], []⟩, ⟨[], [], [], []⟩], Try.func11, by kernel_rfl, rfl, by kernel_rfl, by kernel_rfl, by decide, rfl⟩

/-! (*stanchion/disk.Disk).Append -/
abbrev n_disk_Disk_Append : FuncId := 12
def c_disk_Disk_Append : LC :=
  .seq (.reg [⟨some 6, .assign (.const (.int .i64 0)), none⟩] [])
  (.seq (.seq (.reg [⟨some 9, .move (.tmp 1), none⟩,
          ⟨some 10, .buildSlice 30 1 #[(0, .tmp 9)], none⟩,
          ⟨some 11, .call ⟨.value (.func 25), #[.tmp 10], #[30]⟩, none⟩,
          ⟨some 12, .unOp .not 4 (.tmp 11), none⟩] [])
    (.cond (.tmp 12) [] (.seq (.reg [⟨some 6, .assign (.const (.int .i64 41)), none⟩] [])
      (.ret))
    (.skip)))
  (.seq (.reg [⟨some 13, .move (.tmp 0), none⟩,
        ⟨some 14, .call ⟨.value (.func 26), #[.tmp 13], #[24]⟩, none⟩,
        ⟨some 7, .assign (.tmp 14), none⟩] [])
  (.seq (.seq (.reg [⟨some 15, .move (.tmp 7), none⟩,
          ⟨some 16, .binOp .eql 27 (.tmp 15) (.const (.int .i64 0)) 27, none⟩] [])
    (.cond (.tmp 16) [] (.seq (.reg [⟨some 17, .move (.tmp 0), none⟩,
            ⟨some 18, .move (.tmp 1), none⟩,
            ⟨some 19, .nilCheck (.tmp 17), none⟩,
            ⟨some 20, .fieldAddr 60 (.tmp 19) 1, none⟩,
            ⟨some 21, .indexAddr 58 (.tmp 20) (.tmp 18), none⟩,
            ⟨some 8, .assign (.tmp 21), none⟩] [])
      (.drw [(⟨some 22, .move (.tmp 8), none⟩, true),
          (⟨some 23, .move (.tmp 8), none⟩, true),
          (⟨some 24, .nilCheck (.tmp 23), none⟩, true),
          (⟨some 25, .fieldAddr 57 (.tmp 24) 0, none⟩, true),
          (⟨some 26, .load 22 (.tmp 25), none⟩, true),
          (⟨some 27, .move (.tmp 2), none⟩, false),
          (⟨some 28, .call ⟨.value (.func 27), #[.tmp 27], #[41]⟩, none⟩, false),
          (⟨some 29, .call ⟨.builtin .append, #[.tmp 26, .tmp 28], #[22, 22]⟩, none⟩, false),
          (⟨some 30, .nilCheck (.tmp 22), none⟩, false),
          (⟨some 31, .fieldAddr 57 (.tmp 30) 0, none⟩, false),
          (⟨none, .store 22 (.tmp 31) (.tmp 29), none⟩, true)] []))
    (.skip)))
  (.seq (.reg [⟨some 32, .move (.tmp 7), none⟩,
        ⟨some 6, .assign (.tmp 32), none⟩] [])
  (.ret)))))
abbrev r_disk_Disk_Append : List ResultVar := [.tmp 6]
theorem fits_disk_Disk_Append : Fits Try.prog 12 3 c_disk_Disk_Append r_disk_Disk_Append :=
  ⟨_, _, [⟨[], [], [], []⟩, ⟨[], [], [], []⟩, ⟨[], [], [], []⟩, ⟨[], [], [], []⟩, ⟨[], [], [], []⟩, ⟨[], [], [], []⟩, ⟨[], [], [], []⟩, ⟨[], [], [], []⟩, ⟨[some (0, true), some (1, true), some (2, true), some (3, true), some (4, true), some (5, false), some (6, false), some (7, false), some (8, false), some (9, false), some (10, true)], [], [⟨some 22, [8], [], false⟩, ⟨some 23, [8], [], false⟩, ⟨some 24, [23], [1], false⟩, ⟨some 25, [24], [2], false⟩, ⟨some 26, [25], [3], false⟩, ⟨some 27, [2], [], false⟩, ⟨some 28, [27], [5], true⟩, ⟨some 29, [26, 28], [4, 6, 6], true⟩, ⟨some 30, [22], [0, 0, 1, 2, 3, 4, 5, 6, 7], false⟩, ⟨some 31, [30], [8, 0, 1, 2, 3, 4, 5, 6, 7], false⟩, ⟨none, [31, 29], [9, 7, 7, 0, 1, 2, 3, 4, 5, 6, 7], true⟩], [0, 0, 2, 6, 14, 0, 32, 126, 255, 511, 1023]⟩, ⟨[], [], [], []⟩], Try.func12, by kernel_rfl, rfl, by kernel_rfl, by kernel_rfl, by decide, rfl⟩

/-! (*stanchion/disk.Disk).Crash -/
abbrev n_disk_Disk_Crash : FuncId := 13
def c_disk_Disk_Crash : LC :=
  .seq (.reg [⟨some 6, .assign (.const (.pointer none)), none⟩] [])
  (.seq (.reg [⟨some 11, .move (.tmp 2), none⟩,
        ⟨some 12, .call ⟨.value (.func 10), #[.tmp 11], #[3]⟩, none⟩,
        ⟨some 7, .assign (.tmp 12), none⟩] [])
  (.seq (.seq (.reg [⟨some 13, .move (.tmp 0), none⟩,
          ⟨some 14, .nilCheck (.tmp 13), none⟩,
          ⟨some 15, .fieldAddr 60 (.tmp 14) 1, none⟩,
          ⟨some 16, .load 58 (.tmp 15), none⟩,
          ⟨some 17, .move (.const (.int .i64 0)), none⟩] [])
    (.block 0 (.loop (.seq (.reg [⟨some 18, .binOp .lss 3 (.tmp 17) (.const (.int .i64 2)) 3, none⟩] [])
        (.seq (.cond (.tmp 18) [] (.skip)
          (.exit 0))
        (.seq (.block 1 (.seq (.reg [⟨some 19, .move (.tmp 17), none⟩,
                  ⟨some 20, .index 58 (.tmp 16) (.tmp 17), none⟩,
                  ⟨some 9, .alloc 57, none⟩,
                  ⟨some 8, .assign (.tmp 19), none⟩,
                  ⟨none, .store 57 (.tmp 9) (.tmp 20), none⟩] [])
            (.seq (.reg [⟨some 10, .assign (.const (.int .i64 0)), none⟩] [])
            (.seq (.seq (.reg [⟨some 21, .move (.tmp 8), none⟩,
                    ⟨some 22, .move (.tmp 1), none⟩,
                    ⟨some 23, .call ⟨.builtin .len, #[.tmp 22], #[30]⟩, none⟩,
                    ⟨some 24, .binOp .lss 3 (.tmp 21) (.tmp 23) 3, none⟩] [])
              (.cond (.tmp 24) [] (.reg [⟨some 25, .move (.tmp 1), none⟩,
                    ⟨some 26, .move (.tmp 8), none⟩,
                    ⟨some 27, .indexAddr 30 (.tmp 25) (.tmp 26), none⟩,
                    ⟨some 28, .load 3 (.tmp 27), none⟩,
                    ⟨some 10, .assign (.tmp 28), none⟩] [])
              (.skip)))
            (.drw [(⟨some 29, .move (.tmp 7), none⟩, true),
                (⟨some 30, .move (.tmp 8), none⟩, true),
                (⟨some 31, .load 57 (.tmp 9), none⟩, false),
                (⟨some 32, .move (.tmp 10), none⟩, false),
                (⟨some 34, .nilCheck (.tmp 29), none⟩, true),
                (⟨some 35, .fieldAddr 60 (.tmp 34) 1, none⟩, true),
                (⟨some 33, .call ⟨.value (.func 28), #[.tmp 31, .tmp 32], #[57, 3]⟩, none⟩, false),
                (⟨some 36, .indexAddr 58 (.tmp 35) (.tmp 30), none⟩, false),
                (⟨none, .store 57 (.tmp 36) (.tmp 33), none⟩, true)] [])))))
        (.reg [⟨some 37, .binOp .add 3 (.tmp 17) (.const (.int .i64 1)) 3, none⟩,
            ⟨some 17, .move (.tmp 37), none⟩] [])))))))
  (.seq (.reg [⟨some 38, .move (.tmp 7), none⟩,
        ⟨some 6, .assign (.tmp 38), none⟩] [])
  (.ret))))
abbrev r_disk_Disk_Crash : List ResultVar := [.tmp 6]
theorem fits_disk_Disk_Crash : Fits Try.prog 13 3 c_disk_Disk_Crash r_disk_Disk_Crash :=
  ⟨_, _, [⟨[], [], [], []⟩, ⟨[], [], [], []⟩, ⟨[], [], [], []⟩, ⟨[], [], [], []⟩, ⟨[], [], [], []⟩, ⟨[], [], [], []⟩, ⟨[], [], [], []⟩, ⟨[], [], [], []⟩, ⟨[], [], [], []⟩, ⟨[], [], [], []⟩, ⟨[some (0, true), some (1, true), some (2, false), some (3, false), some (5, true), some (6, true), some (4, false), some (7, false), some (8, true)], [], [⟨some 29, [7], [], false⟩, ⟨some 30, [8], [], false⟩, ⟨some 31, [9], [], false⟩, ⟨some 32, [10], [], false⟩, ⟨some 33, [31, 32], [2, 3], true⟩, ⟨some 34, [29], [0], false⟩, ⟨some 35, [34], [5], false⟩, ⟨some 36, [35, 30], [6, 1, 0, 1, 2, 3, 4], false⟩, ⟨none, [36, 33], [7, 4, 4, 0, 1, 2, 3, 4], true⟩], [0, 0, 0, 0, 12, 1, 33, 127, 255]⟩, ⟨[], [], [], []⟩, ⟨[], [], [], []⟩], Try.func13, by kernel_rfl, rfl, by kernel_rfl, by kernel_rfl, by decide, rfl⟩

/-! (*stanchion/disk.Disk).Read -/
abbrev n_disk_Disk_Read : FuncId := 14
def c_disk_Disk_Read : LC :=
  .seq (.reg [⟨some 4, .assign (.const (.slice none 0 0)), none⟩,
        ⟨some 5, .assign (.const (.int .i64 0)), none⟩] [])
  (.seq (.seq (.reg [⟨some 6, .move (.tmp 1), none⟩,
          ⟨some 7, .buildSlice 30 1 #[(0, .tmp 6)], none⟩,
          ⟨some 8, .call ⟨.value (.func 25), #[.tmp 7], #[30]⟩, none⟩,
          ⟨some 9, .unOp .not 4 (.tmp 8), none⟩] [])
    (.cond (.tmp 9) [] (.seq (.reg [⟨some 4, .assign (.const (.slice none 0 0)), none⟩,
            ⟨some 5, .assign (.const (.int .i64 41)), none⟩] [])
      (.ret))
    (.skip)))
  (.seq (.reg [⟨some 10, .move (.tmp 0), none⟩,
        ⟨some 11, .move (.tmp 1), none⟩,
        ⟨some 12, .nilCheck (.tmp 10), none⟩,
        ⟨some 13, .fieldAddr 60 (.tmp 12) 1, none⟩,
        ⟨some 14, .indexAddr 58 (.tmp 13) (.tmp 11), none⟩,
        ⟨some 15, .fieldAddr 57 (.tmp 14) 0, none⟩,
        ⟨some 16, .load 22 (.tmp 15), none⟩,
        ⟨some 17, .call ⟨.value (.func 29), #[.tmp 16], #[22]⟩, none⟩,
        ⟨some 4, .assign (.tmp 17), none⟩,
        ⟨some 5, .assign (.const (.int .i64 0)), none⟩] [])
  (.ret)))
abbrev r_disk_Disk_Read : List ResultVar := [.tmp 4, .tmp 5]
theorem fits_disk_Disk_Read : Fits Try.prog 14 2 c_disk_Disk_Read r_disk_Disk_Read :=
  ⟨_, _, [⟨[], [], [], []⟩, ⟨[], [], [], []⟩, ⟨[], [], [], []⟩, ⟨[], [], [], []⟩, ⟨[], [], [], []⟩], Try.func14, by kernel_rfl, rfl, by kernel_rfl, by kernel_rfl, by decide, rfl⟩

/-! stanchion/stanchionref00.SameBytes -/
abbrev n_stanchionref00_SameBytes : FuncId := 15
def c_stanchionref00_SameBytes : LC :=
  .seq (.reg [⟨some 4, .assign (.const (.bool false)), none⟩] [])
  (.seq (.seq (.reg [⟨some 6, .move (.tmp 0), none⟩,
          ⟨some 7, .call ⟨.builtin .len, #[.tmp 6], #[22]⟩, none⟩,
          ⟨some 8, .move (.tmp 1), none⟩,
          ⟨some 9, .call ⟨.builtin .len, #[.tmp 8], #[22]⟩, none⟩,
          ⟨some 10, .binOp .neq 3 (.tmp 7) (.tmp 9) 3, none⟩] [])
    (.cond (.tmp 10) [] (.seq (.reg [⟨some 4, .assign (.const (.bool false)), none⟩] [])
      (.ret))
    (.skip)))
  (.seq (.seq (.reg [⟨some 5, .assign (.const (.int .i64 0)), none⟩] [])
    (.block 0 (.loop (.seq (.seq (.reg [⟨some 11, .move (.tmp 5), none⟩,
                ⟨some 12, .move (.tmp 0), none⟩,
                ⟨some 13, .call ⟨.builtin .len, #[.tmp 12], #[22]⟩, none⟩,
                ⟨some 14, .binOp .lss 3 (.tmp 11) (.tmp 13) 3, none⟩] [])
          (.cond (.tmp 14) [] (.skip)
          (.exit 0)))
        (.seq (.block 1 (.seq (.drw [(⟨some 17, .move (.tmp 0), none⟩, false),
                  (⟨some 18, .move (.tmp 5), none⟩, false),
                  (⟨some 19, .indexAddr 22 (.tmp 17) (.tmp 18), none⟩, false),
                  (⟨some 20, .load 5 (.tmp 19), none⟩, false),
                  (⟨some 21, .move (.tmp 1), none⟩, false),
                  (⟨some 22, .move (.tmp 5), none⟩, false),
                  (⟨some 23, .indexAddr 22 (.tmp 21) (.tmp 22), none⟩, false),
                  (⟨some 24, .load 5 (.tmp 23), none⟩, false),
                  (⟨some 25, .binOp .neq 5 (.tmp 20) (.tmp 24) 5, none⟩, false)] [])
            (.cond (.tmp 25) [] (.seq (.reg [⟨some 4, .assign (.const (.bool false)), none⟩] [])
              (.ret))
            (.skip))))
        (.reg [⟨some 15, .move (.tmp 5), none⟩,
            ⟨some 16, .binOp .add 3 (.tmp 15) (.const (.int .i64 1)) 3, none⟩,
            ⟨some 5, .assign (.tmp 16), none⟩] []))))))
  (.seq (.reg [⟨some 4, .assign (.const (.bool true)), none⟩] [])
  (.ret))))
abbrev r_stanchionref00_SameBytes : List ResultVar := [.tmp 4]
theorem fits_stanchionref00_SameBytes : Fits Try.prog 15 2 c_stanchionref00_SameBytes r_stanchionref00_SameBytes :=
  ⟨_, _, [⟨[], [], [], []⟩, ⟨[], [], [], []⟩, ⟨[], [], [], []⟩, ⟨[], [], [], []⟩, ⟨[], [], [], []⟩, ⟨[], [], [], []⟩, ⟨[], [], [], []⟩, ⟨[some (0, false), some (1, false), some (2, false), some (3, false), some (4, false), some (5, false), some (6, false), some (7, false), some (8, false)], [], [⟨some 17, [0], [], false⟩, ⟨some 18, [5], [], false⟩, ⟨some 19, [17, 18], [0, 1], false⟩, ⟨some 20, [19], [2], false⟩, ⟨some 21, [1], [], false⟩, ⟨some 22, [5], [], false⟩, ⟨some 23, [21, 22], [4, 5], false⟩, ⟨some 24, [23], [6], false⟩, ⟨some 25, [20, 24], [3, 7], false⟩], [0, 0, 3, 7, 0, 0, 48, 112, 255]⟩, ⟨[], [], [], []⟩, ⟨[], [], [], []⟩, ⟨[], [], [], []⟩, ⟨[], [], [], []⟩], Try.func15, by kernel_rfl, rfl, by kernel_rfl, by kernel_rfl, by decide, rfl⟩

/-! stanchion/stanchionlaw04.cut -/
abbrev n_stanchionlaw04_cut : FuncId := 16
def c_stanchionlaw04_cut : LC :=
  .seq (.reg [⟨some 2, .assign (.const (.slice none 0 0)), none⟩] [])
  (.seq (.seq (.reg [⟨some 3, .move (.tmp 0), none⟩,
          ⟨some 4, .call ⟨.builtin .len, #[.tmp 3], #[34]⟩, none⟩,
          ⟨some 5, .binOp .gtr 3 (.tmp 4) (.const (.int .i64 60)) 3, none⟩] [])
    (.cond (.tmp 5) [] (.seq (.reg [⟨some 6, .move (.tmp 0), none⟩,
            ⟨some 7, .slice 34 (.tmp 6) none (some (.const (.int .i64 60))) none, none⟩,
            ⟨some 2, .assign (.tmp 7), none⟩] [])
      (.ret))
    (.skip)))
  (.seq (.reg [⟨some 8, .move (.tmp 0), none⟩,
        ⟨some 2, .assign (.tmp 8), none⟩] [])
  (.ret)))
abbrev r_stanchionlaw04_cut : List ResultVar := [.tmp 2]
theorem fits_stanchionlaw04_cut : Fits Try.prog 16 1 c_stanchionlaw04_cut r_stanchionlaw04_cut :=
  ⟨_, _, [⟨[], [], [], []⟩, ⟨[], [], [], []⟩, ⟨[], [], [], []⟩, ⟨[], [], [], []⟩, ⟨[], [], [], []⟩], Try.func16, by kernel_rfl, rfl, by kernel_rfl, by kernel_rfl, by decide, rfl⟩

/-! stanchion/stanchionlaw04.great -/
abbrev n_stanchionlaw04_great : FuncId := 17
def c_stanchionlaw04_great : LC :=
  .seq (.reg [⟨some 2, .assign (.const (.bool false)), none⟩] [])
  (.seq (.reg [⟨some 3, .assign (.const (.int .i64 0)), none⟩] [])
  (.seq (.seq (.reg [⟨some 4, .assign (.const (.int .i64 0)), none⟩] [])
    (.block 0 (.loop (.seq (.seq (.reg [⟨some 6, .move (.tmp 4), none⟩,
                ⟨some 7, .move (.tmp 0), none⟩,
                ⟨some 8, .call ⟨.builtin .len, #[.tmp 7], #[34]⟩, none⟩,
                ⟨some 9, .binOp .lss 3 (.tmp 6) (.tmp 8) 3, none⟩,
                ⟨some 10, .move (.tmp 9), none⟩,
                ⟨some 11, .move (.tmp 3), some (10, true)⟩,
                ⟨some 12, .binOp .leq 3 (.tmp 11) (.const (.int .i64 100000)) 3, some (10, true)⟩,
                ⟨some 13, .pick (.tmp 10) (.tmp 12) (.const (.bool false)), none⟩] [])
          (.cond (.tmp 13) [] (.skip)
          (.exit 0)))
        (.seq (.block 1 (.seq (.seq (.reg [⟨some 5, .assign (.const (.int .i64 0)), none⟩] [])
              (.block 2 (.loop (.seq (.seq (.reg [⟨some 16, .move (.tmp 5), none⟩,
                          ⟨some 17, .move (.tmp 0), none⟩,
                          ⟨some 18, .move (.tmp 4), none⟩,
                          ⟨some 19, .indexAddr 34 (.tmp 17) (.tmp 18), none⟩,
                          ⟨some 20, .fieldAddr 43 (.tmp 19) 3, none⟩,
                          ⟨some 21, .load 41 (.tmp 20), none⟩,
                          ⟨some 22, .call ⟨.builtin .len, #[.tmp 21], #[41]⟩, none⟩,
                          ⟨some 23, .binOp .lss 3 (.tmp 16) (.tmp 22) 3, none⟩,
                          ⟨some 24, .move (.tmp 23), none⟩,
                          ⟨some 25, .move (.tmp 3), some (24, true)⟩,
                          ⟨some 26, .binOp .leq 3 (.tmp 25) (.const (.int .i64 100000)) 3, some (24, true)⟩,
                          ⟨some 27, .pick (.tmp 24) (.tmp 26) (.const (.bool false)), none⟩] [])
                    (.cond (.tmp 27) [] (.skip)
                    (.exit 2)))
                  (.seq (.block 3 (.reg [⟨some 30, .move (.tmp 3), none⟩,
                          ⟨some 31, .move (.tmp 0), none⟩,
                          ⟨some 32, .move (.tmp 4), none⟩,
                          ⟨some 33, .indexAddr 34 (.tmp 31) (.tmp 32), none⟩,
                          ⟨some 34, .fieldAddr 43 (.tmp 33) 3, none⟩,
                          ⟨some 35, .load 41 (.tmp 34), none⟩,
                          ⟨some 36, .move (.tmp 5), none⟩,
                          ⟨some 37, .indexAddr 41 (.tmp 35) (.tmp 36), none⟩,
                          ⟨some 38, .load 22 (.tmp 37), none⟩,
                          ⟨some 39, .call ⟨.builtin .len, #[.tmp 38], #[22]⟩, none⟩,
                          ⟨some 40, .binOp .add 3 (.const (.int .i64 1)) (.tmp 39) 3, none⟩,
                          ⟨some 41, .binOp .add 3 (.tmp 30) (.tmp 40) 3, none⟩,
                          ⟨some 3, .assign (.tmp 41), none⟩] []))
                  (.reg [⟨some 28, .move (.tmp 5), none⟩,
                      ⟨some 29, .binOp .add 3 (.tmp 28) (.const (.int .i64 1)) 3, none⟩,
                      ⟨some 5, .assign (.tmp 29), none⟩] []))))))
            (.reg [⟨some 42, .move (.tmp 3), none⟩,
                ⟨some 43, .move (.tmp 0), none⟩,
                ⟨some 44, .move (.tmp 4), none⟩,
                ⟨some 45, .indexAddr 34 (.tmp 43) (.tmp 44), none⟩,
                ⟨some 46, .fieldAddr 43 (.tmp 45) 4, none⟩,
                ⟨some 47, .load 30 (.tmp 46), none⟩,
                ⟨some 48, .call ⟨.builtin .len, #[.tmp 47], #[30]⟩, none⟩,
                ⟨some 49, .binOp .add 3 (.tmp 42) (.tmp 48) 3, none⟩,
                ⟨some 3, .assign (.tmp 49), none⟩] [])))
        (.reg [⟨some 14, .move (.tmp 4), none⟩,
            ⟨some 15, .binOp .add 3 (.tmp 14) (.const (.int .i64 1)) 3, none⟩,
            ⟨some 4, .assign (.tmp 15), none⟩] []))))))
  (.seq (.reg [⟨some 50, .move (.tmp 3), none⟩,
        ⟨some 51, .binOp .gtr 3 (.tmp 50) (.const (.int .i64 5000)) 3, none⟩,
        ⟨some 2, .assign (.tmp 51), none⟩] [])
  (.ret))))
abbrev r_stanchionlaw04_great : List ResultVar := [.tmp 2]
theorem fits_stanchionlaw04_great : Fits Try.prog 17 1 c_stanchionlaw04_great r_stanchionlaw04_great :=
  ⟨_, _, [⟨[], [], [], []⟩, ⟨[], [], [], []⟩, ⟨[], [], [], []⟩, ⟨[], [], [], []⟩, ⟨[], [], [], []⟩, ⟨[], [], [], []⟩, ⟨[], [], [], []⟩, ⟨[], [], [], []⟩, ⟨[], [], [], []⟩, ⟨[], [], [], []⟩, ⟨[], [], [], []⟩, ⟨[], [], [], []⟩, ⟨[], [], [], []⟩], Try.func17, by kernel_rfl, rfl, by kernel_rfl, by kernel_rfl, by decide, rfl⟩

/-! stanchion/stanchionref00.CopyInts -/
abbrev n_stanchionref00_CopyInts : FuncId := 18
def c_stanchionref00_CopyInts : LC :=
  .seq (.reg [⟨some 2, .assign (.const (.slice none 0 0)), none⟩] [])
  (.seq (.reg [⟨some 4, .buildSlice 30 0 #[], none⟩,
        ⟨some 3, .assign (.tmp 4), none⟩] [])
  (.seq (.reg [⟨some 5, .move (.tmp 3), none⟩,
        ⟨some 6, .move (.tmp 0), none⟩,
        ⟨some 7, .call ⟨.builtin .append, #[.tmp 5, .tmp 6], #[30, 30]⟩, none⟩,
        ⟨some 3, .assign (.tmp 7), none⟩] [])
  (.seq (.reg [⟨some 8, .move (.tmp 3), none⟩,
        ⟨some 2, .assign (.tmp 8), none⟩] [])
  (.ret))))
abbrev r_stanchionref00_CopyInts : List ResultVar := [.tmp 2]
theorem fits_stanchionref00_CopyInts : Fits Try.prog 18 1 c_stanchionref00_CopyInts r_stanchionref00_CopyInts :=
  ⟨_, _, [⟨[], [], [], []⟩, ⟨[], [], [], []⟩, ⟨[], [], [], []⟩, ⟨[], [], [], []⟩], Try.func18, by kernel_rfl, rfl, by kernel_rfl, by kernel_rfl, by decide, rfl⟩

/-! (stanchion/stanchionref04.Disk).Crash -/
abbrev n_stanchionref04_Disk_Crash : FuncId := 19
def c_stanchionref04_Disk_Crash : LC :=
  .seq (.reg [⟨some 3, .box 40 (.tmp 0), none⟩,
        ⟨some 6, .alloc 40, none⟩] [])
  (.seq (.reg [⟨some 10, .move (.tmp 2), none⟩,
        ⟨some 11, .build 40 #[(0, .tmp 10)], none⟩,
        ⟨some 7, .alloc 40, none⟩,
        ⟨none, .store 40 (.tmp 7) (.tmp 11), none⟩] [])
  (.seq (.seq (.reg [⟨some 8, .assign (.const (.int .i64 0)), none⟩] [])
    (.block 0 (.loop (.seq (.seq (.reg [⟨some 12, .move (.tmp 8), none⟩,
                ⟨some 13, .binOp .lss 3 (.tmp 12) (.const (.int .i64 2)) 3, none⟩] [])
          (.cond (.tmp 13) [] (.skip)
          (.exit 0)))
        (.seq (.block 1 (.seq (.reg [⟨some 9, .assign (.const (.int .i64 0)), none⟩] [])
            (.seq (.seq (.reg [⟨some 16, .move (.tmp 8), none⟩,
                    ⟨some 17, .move (.tmp 1), none⟩,
                    ⟨some 18, .call ⟨.builtin .len, #[.tmp 17], #[30]⟩, none⟩,
                    ⟨some 19, .binOp .lss 3 (.tmp 16) (.tmp 18) 3, none⟩,
                    ⟨some 20, .move (.tmp 19), none⟩,
                    ⟨some 21, .move (.tmp 1), some (20, true)⟩,
                    ⟨some 22, .move (.tmp 8), some (20, true)⟩,
                    ⟨some 23, .indexAddr 30 (.tmp 21) (.tmp 22), some (20, true)⟩,
                    ⟨some 24, .load 3 (.tmp 23), some (20, true)⟩,
                    ⟨some 25, .binOp .gtr 3 (.tmp 24) (.const (.int .i64 0)) 3, some (20, true)⟩,
                    ⟨some 26, .pick (.tmp 20) (.tmp 25) (.const (.bool false)), none⟩] [])
              (.cond (.tmp 26) [] (.reg [⟨some 27, .move (.tmp 1), none⟩,
                    ⟨some 28, .move (.tmp 8), none⟩,
                    ⟨some 29, .indexAddr 30 (.tmp 27) (.tmp 28), none⟩,
                    ⟨some 30, .load 3 (.tmp 29), none⟩,
                    ⟨some 9, .assign (.tmp 30), none⟩] [])
              (.skip)))
            (.seq (.seq (.drw [(⟨some 31, .move (.tmp 9), none⟩, false),
                    (⟨some 32, .move (.tmp 8), none⟩, false),
                    (⟨some 33, .fieldAddr 40 (.tmp 3) 1, none⟩, false),
                    (⟨some 34, .indexAddr 37 (.tmp 33) (.tmp 32), none⟩, false),
                    (⟨some 35, .load 22 (.tmp 34), none⟩, false),
                    (⟨some 36, .call ⟨.builtin .len, #[.tmp 35], #[22]⟩, none⟩, false),
                    (⟨some 37, .move (.tmp 8), none⟩, false),
                    (⟨some 38, .fieldAddr 40 (.tmp 3) 2, none⟩, false),
                    (⟨some 39, .indexAddr 38 (.tmp 38) (.tmp 37), none⟩, false),
                    (⟨some 40, .load 3 (.tmp 39), none⟩, false),
                    (⟨some 41, .binOp .sub 3 (.tmp 36) (.tmp 40) 3, none⟩, false),
                    (⟨some 42, .binOp .gtr 3 (.tmp 31) (.tmp 41) 3, none⟩, false)] [])
              (.cond (.tmp 42) [] (.drw [(⟨some 43, .move (.tmp 8), none⟩, false),
                    (⟨some 44, .fieldAddr 40 (.tmp 3) 1, none⟩, false),
                    (⟨some 45, .indexAddr 37 (.tmp 44) (.tmp 43), none⟩, false),
                    (⟨some 46, .load 22 (.tmp 45), none⟩, false),
                    (⟨some 47, .call ⟨.builtin .len, #[.tmp 46], #[22]⟩, none⟩, false),
                    (⟨some 48, .move (.tmp 8), none⟩, false),
                    (⟨some 49, .fieldAddr 40 (.tmp 3) 2, none⟩, false),
                    (⟨some 50, .indexAddr 38 (.tmp 49) (.tmp 48), none⟩, false),
                    (⟨some 51, .load 3 (.tmp 50), none⟩, false),
                    (⟨some 52, .binOp .sub 3 (.tmp 47) (.tmp 51) 3, none⟩, false),
                    (⟨some 9, .assign (.tmp 52), none⟩, false)] [])
              (.skip)))
            (.seq (.drw [(⟨some 53, .move (.tmp 8), none⟩, true),
                  (⟨some 54, .move (.tmp 8), none⟩, false),
                  (⟨some 55, .fieldAddr 40 (.tmp 3) 1, none⟩, false),
                  (⟨some 56, .indexAddr 37 (.tmp 55) (.tmp 54), none⟩, false),
                  (⟨some 57, .load 22 (.tmp 56), none⟩, false),
                  (⟨some 58, .move (.tmp 8), none⟩, false),
                  (⟨some 59, .fieldAddr 40 (.tmp 3) 2, none⟩, false),
                  (⟨some 60, .indexAddr 38 (.tmp 59) (.tmp 58), none⟩, false),
                  (⟨some 61, .load 3 (.tmp 60), none⟩, false),
                  (⟨some 62, .move (.tmp 9), none⟩, false),
                  (⟨some 63, .binOp .add 3 (.tmp 61) (.tmp 62) 3, none⟩, false),
                  (⟨some 64, .slice 22 (.tmp 57) none (some (.tmp 63)) none, none⟩, false),
                  (⟨some 66, .fieldAddr 40 (.tmp 7) 1, none⟩, true),
                  (⟨some 65, .call ⟨.value (.func 11), #[.tmp 64], #[22]⟩, none⟩, false),
                  (⟨some 67, .indexAddr 37 (.tmp 66) (.tmp 53), none⟩, false),
                  (⟨none, .store 22 (.tmp 67) (.tmp 65), none⟩, true)] [])
            (.reg [⟨some 68, .move (.tmp 8), none⟩,
                ⟨some 69, .move (.tmp 8), none⟩,
                ⟨some 70, .fieldAddr 40 (.tmp 7) 1, none⟩,
                ⟨some 71, .indexAddr 37 (.tmp 70) (.tmp 69), none⟩,
                ⟨some 72, .load 22 (.tmp 71), none⟩,
                ⟨some 73, .call ⟨.builtin .len, #[.tmp 72], #[22]⟩, none⟩,
                ⟨some 74, .fieldAddr 40 (.tmp 7) 2, none⟩,
                ⟨some 75, .indexAddr 38 (.tmp 74) (.tmp 68), none⟩,
                ⟨none, .store 3 (.tmp 75) (.tmp 73), none⟩] []))))))
        (.reg [⟨some 14, .move (.tmp 8), none⟩,
            ⟨some 15, .binOp .add 3 (.tmp 14) (.const (.int .i64 1)) 3, none⟩,
            ⟨some 8, .assign (.tmp 15), none⟩] []))))))
  (.seq (.reg [⟨some 76, .load 40 (.tmp 7), none⟩,
        ⟨none, .store 40 (.tmp 6) (.tmp 76), none⟩] [])
  (.ret))))
abbrev r_stanchionref04_Disk_Crash : List ResultVar := [.cell 6 40]
theorem fits_stanchionref04_Disk_Crash : Fits Try.prog 19 3 c_stanchionref04_Disk_Crash r_stanchionref04_Disk_Crash :=
  ⟨_, _, [⟨[], [], [], []⟩, ⟨[], [], [], []⟩, ⟨[], [], [], []⟩, ⟨[], [], [], []⟩, ⟨[], [], [], []⟩, ⟨[], [], [], []⟩, ⟨[], [], [], []⟩, ⟨[], [], [], []⟩, ⟨[], [], [], []⟩, ⟨[some (0, false), some (1, false), some (2, false), some (3, false), some (4, false), some (5, false), some (6, false), some (7, false), some (8, false), some (9, false), some (10, false), some (11, false)], [], [⟨some 31, [9], [], false⟩, ⟨some 32, [8], [], false⟩, ⟨some 33, [3], [], false⟩, ⟨some 34, [33, 32], [2, 1], false⟩, ⟨some 35, [34], [3], false⟩, ⟨some 36, [35], [4], false⟩, ⟨some 37, [8], [], false⟩, ⟨some 38, [3], [], false⟩, ⟨some 39, [38, 37], [7, 6], false⟩, ⟨some 40, [39], [8], false⟩, ⟨some 41, [36, 40], [5, 9], false⟩, ⟨some 42, [31, 41], [0, 10], false⟩], [0, 0, 0, 6, 14, 30, 0, 0, 192, 448, 1022, 2047]⟩, ⟨[], [], [], []⟩, ⟨[some (0, false), some (1, false), some (2, false), some (3, false), some (4, false), some (5, false), some (6, false), some (7, false), some (8, false), some (9, false), some (10, false)], [], [⟨some 43, [8], [], false⟩, ⟨some 44, [3], [], false⟩, ⟨some 45, [44, 43], [1, 0], false⟩, ⟨some 46, [45], [2], false⟩, ⟨some 47, [46], [3], false⟩, ⟨some 48, [8], [], false⟩, ⟨some 49, [3], [], false⟩, ⟨some 50, [49, 48], [6, 5], false⟩, ⟨some 51, [50], [7], false⟩, ⟨some 52, [47, 51], [4, 8], false⟩, ⟨some 9, [52], [9, 0, 1, 2, 3, 4, 5, 6, 7, 8, 9], false⟩], [0, 0, 3, 7, 15, 0, 0, 96, 224, 511, 1023]⟩, ⟨[some (0, true), some (1, false), some (2, false), some (3, false), some (4, false), some (5, false), some (6, false), some (7, false), some (8, false), some (9, false), some (10, false), some (11, false), some (13, true), some (12, false), some (14, false), some (15, true)], [], [⟨some 53, [8], [], false⟩, ⟨some 54, [8], [], false⟩, ⟨some 55, [3], [], false⟩, ⟨some 56, [55, 54], [2, 1], false⟩, ⟨some 57, [56], [3], false⟩, ⟨some 58, [8], [], false⟩, ⟨some 59, [3], [], false⟩, ⟨some 60, [59, 58], [6, 5], false⟩, ⟨some 61, [60], [7], false⟩, ⟨some 62, [9], [], false⟩, ⟨some 63, [61, 62], [8, 9], false⟩, ⟨some 64, [57, 63], [4, 10], false⟩, ⟨some 65, [64], [11], true⟩, ⟨some 66, [7], [], false⟩, ⟨some 67, [66, 53], [13, 0, 0, 1, 2, 3, 4, 5, 6, 7, 8, 9, 10, 11, 12], false⟩, ⟨none, [67, 65], [14, 12, 12, 0, 1, 2, 3, 4, 5, 6, 7, 8, 9, 10, 11, 12], true⟩], [0, 0, 0, 6, 14, 0, 0, 96, 224, 0, 992, 2046, 4094, 0, 16383, 32767]⟩, ⟨[], [], [], []⟩, ⟨[], [], [], []⟩, ⟨[], [], [], []⟩], Try.func19, by kernel_rfl, rfl, by kernel_rfl, by kernel_rfl, by decide, rfl⟩

/-! stanchion/stanchionlaw04.does -/
abbrev n_stanchionlaw04_does : FuncId := 20
def c_stanchionlaw04_does : LC :=
  .seq (.reg [⟨some 2, .box 40 (.tmp 0), none⟩,
        ⟨some 3, .box 43 (.tmp 1), none⟩,
        ⟨some 4, .alloc 40, none⟩,
        ⟨some 5, .assign (.const (.int .i64 0)), none⟩] [])
  (.seq (.seq (.reg [⟨some 6, .fieldAddr 43 (.tmp 3) 0, none⟩,
          ⟨some 7, .load 3 (.tmp 6), none⟩] [])
    (.block 0 (.seq (.reg [⟨some 9, .binOp .eql 3 (.tmp 7) (.const (.int .i64 1)) 3, none⟩,
            ⟨some 8, .assign (.tmp 9), none⟩] [])
      (.cond (.tmp 8) [] (.seq (.reg [⟨some 10, .load 40 (.tmp 2), none⟩,
              ⟨some 11, .fieldAddr 43 (.tmp 3) 1, none⟩,
              ⟨some 12, .load 3 (.tmp 11), none⟩,
              ⟨some 13, .fieldAddr 43 (.tmp 3) 3, none⟩,
              ⟨some 14, .load 41 (.tmp 13), none⟩,
              ⟨some 15, .call ⟨.value (.func 30), #[.tmp 10, .tmp 12, .tmp 14], #[40, 3, 41]⟩, none⟩,
              ⟨some 16, .extract (.tmp 15) 0, none⟩,
              ⟨some 17, .extract (.tmp 15) 1, none⟩,
              ⟨none, .store 40 (.tmp 4) (.tmp 16), none⟩,
              ⟨some 5, .assign (.tmp 17), none⟩] [])
        (.ret))
      (.seq (.reg [⟨some 19, .binOp .eql 3 (.tmp 7) (.const (.int .i64 2)) 3, none⟩,
              ⟨some 18, .assign (.tmp 19), none⟩] [])
        (.cond (.tmp 18) [] (.seq (.reg [⟨some 20, .load 40 (.tmp 2), none⟩,
                ⟨some 21, .fieldAddr 43 (.tmp 3) 1, none⟩,
                ⟨some 22, .load 3 (.tmp 21), none⟩,
                ⟨some 23, .fieldAddr 43 (.tmp 3) 2, none⟩,
                ⟨some 24, .load 3 (.tmp 23), none⟩,
                ⟨some 25, .call ⟨.value (.func 31), #[.tmp 20, .tmp 22, .tmp 24], #[40, 3, 3]⟩, none⟩,
                ⟨some 26, .extract (.tmp 25) 0, none⟩,
                ⟨some 27, .extract (.tmp 25) 1, none⟩,
                ⟨none, .store 40 (.tmp 4) (.tmp 26), none⟩,
                ⟨some 5, .assign (.tmp 27), none⟩] [])
          (.ret))
        (.seq (.reg [⟨some 29, .binOp .eql 3 (.tmp 7) (.const (.int .i64 3)) 3, none⟩,
                ⟨some 28, .assign (.tmp 29), none⟩] [])
          (.cond (.tmp 28) [] (.seq (.reg [⟨some 30, .load 40 (.tmp 2), none⟩,
                  ⟨some 31, .fieldAddr 43 (.tmp 3) 4, none⟩,
                  ⟨some 32, .load 30 (.tmp 31), none⟩,
                  ⟨some 33, .call ⟨.value (.func 32), #[.tmp 30, .tmp 32], #[40, 30]⟩, none⟩,
                  ⟨some 34, .extract (.tmp 33) 0, none⟩,
                  ⟨some 35, .extract (.tmp 33) 1, none⟩,
                  ⟨none, .store 40 (.tmp 4) (.tmp 34), none⟩,
                  ⟨some 5, .assign (.tmp 35), none⟩] [])
            (.ret))
          (.skip)))))))))
  (.seq (.reg [⟨some 36, .load 40 (.tmp 2), none⟩,
        ⟨none, .store 40 (.tmp 4) (.tmp 36), none⟩,
        ⟨some 5, .assign (.const (.int .i64 0)), none⟩] [])
  (.ret)))
abbrev r_stanchionlaw04_does : List ResultVar := [.cell 4 40, .tmp 5]
theorem fits_stanchionlaw04_does : Fits Try.prog 20 2 c_stanchionlaw04_does r_stanchionlaw04_does :=
  ⟨_, _, [⟨[], [], [], []⟩, ⟨[], [], [], []⟩, ⟨[], [], [], []⟩, ⟨[], [], [], []⟩, ⟨[], [], [], []⟩, ⟨[], [], [], []⟩, ⟨[], [], [], []⟩, ⟨[], [], [], []⟩, ⟨[], [], [], []⟩, ⟨[], [], [], []⟩, ⟨[], [], [], []⟩, ⟨[], [], [], []⟩], Try.func20, by kernel_rfl, rfl, by kernel_rfl, by kernel_rfl, by decide, rfl⟩

/-! stanchion/stanchionlaw04.act -/
abbrev n_stanchionlaw04_act : FuncId := 21
def c_stanchionlaw04_act : LC :=
  .seq (.reg [⟨some 3, .box 43 (.tmp 1), none⟩,
        ⟨some 4, .assign (.const (.int .i64 0)), none⟩] [])
  (.seq (.seq (.reg [⟨some 5, .fieldAddr 43 (.tmp 3) 0, none⟩,
          ⟨some 6, .load 3 (.tmp 5), none⟩] [])
    (.block 0 (.seq (.reg [⟨some 8, .binOp .eql 3 (.tmp 6) (.const (.int .i64 1)) 3, none⟩,
            ⟨some 7, .assign (.tmp 8), none⟩] [])
      (.cond (.tmp 7) [] (.seq (.drw [(⟨some 9, .move (.tmp 0), none⟩, true),
              (⟨some 10, .fieldAddr 43 (.tmp 3) 1, none⟩, true),
              (⟨some 11, .load 3 (.tmp 10), none⟩, true),
              (⟨some 12, .fieldAddr 43 (.tmp 3) 3, none⟩, false),
              (⟨some 13, .load 41 (.tmp 12), none⟩, false),
              (⟨some 14, .call ⟨.value (.func 33), #[.tmp 13], #[41]⟩, none⟩, false),
              (⟨some 15, .call ⟨.value (.func 12), #[.tmp 9, .tmp 11, .tmp 14], #[24, 3, 41]⟩, none⟩, true),
              (⟨some 4, .assign (.tmp 15), none⟩, false)] [])
        (.ret))
      (.seq (.reg [⟨some 17, .binOp .eql 3 (.tmp 6) (.const (.int .i64 2)) 3, none⟩,
              ⟨some 16, .assign (.tmp 17), none⟩] [])
        (.cond (.tmp 16) [] (.seq (.reg [⟨some 18, .move (.tmp 0), none⟩,
                ⟨some 19, .fieldAddr 43 (.tmp 3) 1, none⟩,
                ⟨some 20, .load 3 (.tmp 19), none⟩,
                ⟨some 21, .fieldAddr 43 (.tmp 3) 2, none⟩,
                ⟨some 22, .load 3 (.tmp 21), none⟩,
                ⟨some 23, .call ⟨.value (.func 24), #[.tmp 18, .tmp 20, .tmp 22], #[24, 3, 3]⟩, none⟩,
                ⟨some 4, .assign (.tmp 23), none⟩] [])
          (.ret))
        (.seq (.reg [⟨some 25, .binOp .eql 3 (.tmp 6) (.const (.int .i64 3)) 3, none⟩,
                ⟨some 24, .assign (.tmp 25), none⟩] [])
          (.cond (.tmp 24) [] (.seq (.reg [⟨some 26, .move (.tmp 0), none⟩,
                  ⟨some 27, .fieldAddr 43 (.tmp 3) 4, none⟩,
                  ⟨some 28, .load 30 (.tmp 27), none⟩,
                  ⟨some 29, .call ⟨.value (.func 18), #[.tmp 28], #[30]⟩, none⟩,
                  ⟨some 30, .call ⟨.value (.func 23), #[.tmp 26, .tmp 29], #[24, 30]⟩, none⟩,
                  ⟨some 4, .assign (.tmp 30), none⟩] [])
            (.ret))
          (.skip)))))))))
  (.seq (.reg [⟨some 4, .assign (.const (.int .i64 0)), none⟩] [])
  (.ret)))
abbrev r_stanchionlaw04_act : List ResultVar := [.tmp 4]
theorem fits_stanchionlaw04_act : Fits Try.prog 21 2 c_stanchionlaw04_act r_stanchionlaw04_act :=
  ⟨_, _, [⟨[], [], [], []⟩, ⟨[], [], [], []⟩, ⟨[], [], [], []⟩, ⟨[], [], [], []⟩, ⟨[some (0, true), some (1, true), some (2, true), some (3, false), some (4, false), some (5, false), some (6, true), some (7, false)], [], [⟨some 9, [0], [], false⟩, ⟨some 10, [3], [], false⟩, ⟨some 11, [10], [1], false⟩, ⟨some 12, [3], [], false⟩, ⟨some 13, [12], [3], false⟩, ⟨some 14, [13], [4], true⟩, ⟨some 15, [9, 11, 14], [0, 2, 5, 5], true⟩, ⟨some 4, [15], [6, 6, 0, 1, 2, 3, 4, 5, 6], false⟩], [0, 0, 2, 0, 8, 24, 63, 127]⟩, ⟨[], [], [], []⟩, ⟨[], [], [], []⟩, ⟨[], [], [], []⟩, ⟨[], [], [], []⟩, ⟨[], [], [], []⟩, ⟨[], [], [], []⟩, ⟨[], [], [], []⟩], Try.func21, by kernel_rfl, rfl, by kernel_rfl, by kernel_rfl, by decide, rfl⟩

/-! stanchion/stanchionlaw04.same -/
abbrev n_stanchionlaw04_same : FuncId := 22
def c_stanchionlaw04_same : LC :=
  .seq (.reg [⟨some 3, .box 40 (.tmp 1), none⟩,
        ⟨some 4, .assign (.const (.bool false)), none⟩] [])
  (.seq (.seq (.reg [⟨some 5, .assign (.const (.int .i64 (-1))), none⟩] [])
    (.block 0 (.loop (.seq (.seq (.reg [⟨some 10, .move (.tmp 5), none⟩,
                ⟨some 11, .binOp .lss 3 (.tmp 10) (.const (.int .i64 3)) 3, none⟩] [])
          (.cond (.tmp 11) [] (.skip)
          (.exit 0)))
        (.seq (.block 1 (.seq (.reg [⟨some 15, .move (.tmp 0), none⟩,
                  ⟨some 16, .move (.tmp 5), none⟩,
                  ⟨some 17, .call ⟨.value (.func 14), #[.tmp 15, .tmp 16], #[24, 3]⟩, none⟩,
                  ⟨some 14, .move (.tmp 17), none⟩,
                  ⟨some 18, .extract (.tmp 14) 0, none⟩,
                  ⟨some 19, .extract (.tmp 14) 1, none⟩,
                  ⟨some 6, .assign (.tmp 18), none⟩,
                  ⟨some 7, .assign (.tmp 19), none⟩] [])
            (.seq (.reg [⟨some 21, .load 40 (.tmp 3), none⟩,
                  ⟨some 22, .move (.tmp 5), none⟩,
                  ⟨some 23, .call ⟨.value (.func 34), #[.tmp 21, .tmp 22], #[40, 3]⟩, none⟩,
                  ⟨some 20, .move (.tmp 23), none⟩,
                  ⟨some 24, .extract (.tmp 20) 0, none⟩,
                  ⟨some 25, .extract (.tmp 20) 1, none⟩,
                  ⟨some 8, .assign (.tmp 24), none⟩,
                  ⟨some 9, .assign (.tmp 25), none⟩] [])
            (.seq (.reg [⟨some 26, .move (.tmp 6), none⟩,
                  ⟨some 27, .move (.tmp 8), none⟩,
                  ⟨some 28, .call ⟨.value (.func 15), #[.tmp 26, .tmp 27], #[22, 22]⟩, none⟩,
                  ⟨some 29, .unOp .not 4 (.tmp 28), none⟩,
                  ⟨some 30, .move (.tmp 29), none⟩,
                  ⟨some 31, .move (.tmp 7), some (30, false)⟩,
                  ⟨some 32, .move (.tmp 9), some (30, false)⟩,
                  ⟨some 33, .binOp .neq 27 (.tmp 31) (.tmp 32) 27, some (30, false)⟩,
                  ⟨some 34, .pick (.tmp 30) (.const (.bool true)) (.tmp 33), none⟩] [])
            (.cond (.tmp 34) [] (.seq (.reg [⟨some 4, .assign (.const (.bool false)), none⟩] [])
              (.ret))
            (.skip))))))
        (.reg [⟨some 12, .move (.tmp 5), none⟩,
            ⟨some 13, .binOp .add 3 (.tmp 12) (.const (.int .i64 1)) 3, none⟩,
            ⟨some 5, .assign (.tmp 13), none⟩] []))))))
  (.seq (.reg [⟨some 4, .assign (.const (.bool true)), none⟩] [])
  (.ret)))
abbrev r_stanchionlaw04_same : List ResultVar := [.tmp 4]
theorem fits_stanchionlaw04_same : Fits Try.prog 22 2 c_stanchionlaw04_same r_stanchionlaw04_same :=
  ⟨_, _, [⟨[], [], [], []⟩, ⟨[], [], [], []⟩, ⟨[], [], [], []⟩, ⟨[], [], [], []⟩, ⟨[], [], [], []⟩, ⟨[], [], [], []⟩, ⟨[], [], [], []⟩, ⟨[], [], [], []⟩, ⟨[], [], [], []⟩, ⟨[], [], [], []⟩, ⟨[], [], [], []⟩], Try.func22, by kernel_rfl, rfl, by kernel_rfl, by kernel_rfl, by decide, rfl⟩

/-! (*stanchion/disk.Disk).Sync -/
abbrev n_disk_Disk_Sync : FuncId := 23
def c_disk_Disk_Sync : LC :=
  .seq (.reg [⟨some 4, .assign (.const (.int .i64 0)), none⟩] [])
  (.seq (.seq (.reg [⟨some 8, .move (.tmp 1), none⟩,
          ⟨some 9, .call ⟨.value (.func 25), #[.tmp 8], #[30]⟩, none⟩,
          ⟨some 10, .unOp .not 4 (.tmp 9), none⟩] [])
    (.cond (.tmp 10) [] (.seq (.reg [⟨some 4, .assign (.const (.int .i64 41)), none⟩] [])
      (.ret))
    (.skip)))
  (.seq (.reg [⟨some 11, .move (.tmp 0), none⟩,
        ⟨some 12, .call ⟨.value (.func 26), #[.tmp 11], #[24]⟩, none⟩,
        ⟨some 5, .assign (.tmp 12), none⟩] [])
  (.seq (.seq (.reg [⟨some 13, .move (.tmp 5), none⟩,
          ⟨some 14, .binOp .neq 27 (.tmp 13) (.const (.int .i64 0)) 27, none⟩] [])
    (.cond (.tmp 14) [] (.seq (.reg [⟨some 15, .move (.tmp 5), none⟩,
            ⟨some 4, .assign (.tmp 15), none⟩] [])
      (.ret))
    (.skip)))
  (.seq (.seq (.reg [⟨some 16, .move (.tmp 1), none⟩,
          ⟨some 17, .call ⟨.builtin .len, #[.tmp 16], #[30]⟩, none⟩,
          ⟨some 18, .binOp .eql 3 (.tmp 17) (.const (.int .i64 0)) 3, none⟩] [])
    (.cond (.tmp 18) [] (.reg [⟨some 19, .buildSlice 30 2 #[(0, .const (.int .i64 0)), (1, .const (.int .i64 1))], none⟩,
          ⟨some 1, .assign (.tmp 19), none⟩] [])
    (.skip)))
  (.seq (.seq (.reg [⟨some 20, .move (.tmp 1), none⟩,
          ⟨some 21, .call ⟨.builtin .len, #[.tmp 20], #[30]⟩, none⟩,
          ⟨some 22, .move (.const (.int .i64 0)), none⟩] [])
    (.block 0 (.loop (.seq (.reg [⟨some 23, .binOp .lss 3 (.tmp 22) (.tmp 21) 3, none⟩] [])
        (.seq (.cond (.tmp 23) [] (.skip)
          (.exit 0))
        (.seq (.block 1 (.seq (.reg [⟨some 24, .indexAddr 30 (.tmp 20) (.tmp 22), none⟩,
                  ⟨some 25, .load 3 (.tmp 24), none⟩,
                  ⟨some 7, .assign (.tmp 25), none⟩] [])
            (.drw [(⟨some 26, .move (.tmp 0), none⟩, false),
                (⟨some 27, .move (.tmp 7), none⟩, false),
                (⟨some 28, .move (.tmp 0), none⟩, false),
                (⟨some 29, .move (.tmp 7), none⟩, false),
                (⟨some 30, .nilCheck (.tmp 28), none⟩, false),
                (⟨some 31, .fieldAddr 60 (.tmp 30) 1, none⟩, false),
                (⟨some 32, .indexAddr 58 (.tmp 31) (.tmp 29), none⟩, false),
                (⟨some 33, .fieldAddr 57 (.tmp 32) 0, none⟩, false),
                (⟨some 34, .load 22 (.tmp 33), none⟩, false),
                (⟨some 35, .call ⟨.builtin .len, #[.tmp 34], #[22]⟩, none⟩, false),
                (⟨some 36, .nilCheck (.tmp 26), none⟩, false),
                (⟨some 37, .fieldAddr 60 (.tmp 36) 1, none⟩, false),
                (⟨some 38, .indexAddr 58 (.tmp 37) (.tmp 27), none⟩, false),
                (⟨some 39, .fieldAddr 57 (.tmp 38) 1, none⟩, false),
                (⟨none, .store 3 (.tmp 39) (.tmp 35), none⟩, true)] [])))
        (.reg [⟨some 40, .binOp .add 3 (.tmp 22) (.const (.int .i64 1)) 3, none⟩,
            ⟨some 22, .move (.tmp 40), none⟩] [])))))))
  (.seq (.reg [⟨some 4, .assign (.const (.int .i64 0)), none⟩] [])
  (.ret)))))))
abbrev r_disk_Disk_Sync : List ResultVar := [.tmp 4]
theorem fits_disk_Disk_Sync : Fits Try.prog 23 2 c_disk_Disk_Sync r_disk_Disk_Sync :=
  ⟨_, _, [⟨[], [], [], []⟩, ⟨[], [], [], []⟩, ⟨[], [], [], []⟩, ⟨[], [], [], []⟩, ⟨[], [], [], []⟩, ⟨[], [], [], []⟩, ⟨[], [], [], []⟩, ⟨[], [], [], []⟩, ⟨[], [], [], []⟩, ⟨[], [], [], []⟩, ⟨[], [], [], []⟩, ⟨[], [], [], []⟩, ⟨[], [], [], []⟩, ⟨[], [], [], []⟩, ⟨[], [], [], []⟩, ⟨[some (0, false), some (1, false), some (2, false), some (3, false), some (4, false), some (5, false), some (6, false), some (7, false), some (8, false), some (9, false), some (10, false), some (11, false), some (12, false), some (13, false), some (14, true)], [], [⟨some 26, [0], [], false⟩, ⟨some 27, [7], [], false⟩, ⟨some 28, [0], [], false⟩, ⟨some 29, [7], [], false⟩, ⟨some 30, [28], [2], false⟩, ⟨some 31, [30], [4], false⟩, ⟨some 32, [31, 29], [5, 3], false⟩, ⟨some 33, [32], [6], false⟩, ⟨some 34, [33], [7], false⟩, ⟨some 35, [34], [8], false⟩, ⟨some 36, [26], [0], false⟩, ⟨some 37, [36], [10], false⟩, ⟨some 38, [37, 27], [11, 1, 0, 1, 2, 3, 4, 5, 6, 7, 8, 9], false⟩, ⟨some 39, [38], [12, 0, 1, 2, 3, 4, 5, 6, 7, 8, 9], false⟩, ⟨none, [39, 35], [13, 9, 0, 1, 2, 3, 4, 5, 6, 7, 8, 9], true⟩], [0, 0, 0, 0, 4, 20, 60, 124, 252, 508, 1, 1025, 4095, 8191, 16383]⟩, ⟨[], [], [], []⟩, ⟨[], [], [], []⟩], Try.func23, by kernel_rfl, rfl, by kernel_rfl, by kernel_rfl, by decide, rfl⟩

/-! (*stanchion/disk.Disk).Trim -/
abbrev n_disk_Disk_Trim : FuncId := 24
def c_disk_Disk_Trim : LC :=
  .seq (.reg [⟨some 6, .assign (.const (.int .i64 0)), none⟩] [])
  (.seq (.seq (.reg [⟨some 9, .move (.tmp 1), none⟩,
          ⟨some 10, .buildSlice 30 1 #[(0, .tmp 9)], none⟩,
          ⟨some 11, .call ⟨.value (.func 25), #[.tmp 10], #[30]⟩, none⟩,
          ⟨some 12, .unOp .not 4 (.tmp 11), none⟩,
          ⟨some 13, .move (.tmp 12), none⟩,
          ⟨some 14, .move (.tmp 2), some (13, false)⟩,
          ⟨some 15, .binOp .lss 3 (.tmp 14) (.const (.int .i64 0)) 3, some (13, false)⟩,
          ⟨some 16, .pick (.tmp 13) (.const (.bool true)) (.tmp 15), none⟩,
          ⟨some 17, .move (.tmp 16), none⟩,
          ⟨some 18, .move (.tmp 2), some (17, false)⟩,
          ⟨some 19, .move (.tmp 0), some (17, false)⟩,
          ⟨some 20, .move (.tmp 1), some (17, false)⟩,
          ⟨some 21, .nilCheck (.tmp 19), some (17, false)⟩,
          ⟨some 22, .fieldAddr 60 (.tmp 21) 1, some (17, false)⟩,
          ⟨some 23, .indexAddr 58 (.tmp 22) (.tmp 20), some (17, false)⟩,
          ⟨some 24, .fieldAddr 57 (.tmp 23) 0, some (17, false)⟩,
          ⟨some 25, .load 22 (.tmp 24), some (17, false)⟩,
          ⟨some 26, .call ⟨.builtin .len, #[.tmp 25], #[22]⟩, some (17, false)⟩,
          ⟨some 27, .binOp .gtr 3 (.tmp 18) (.tmp 26) 3, some (17, false)⟩,
          ⟨some 28, .pick (.tmp 17) (.const (.bool true)) (.tmp 27), none⟩] [])
    (.cond (.tmp 28) [] (.seq (.reg [⟨some 6, .assign (.const (.int .i64 41)), none⟩] [])
      (.ret))
    (.skip)))
  (.seq (.reg [⟨some 29, .move (.tmp 0), none⟩,
        ⟨some 30, .call ⟨.value (.func 26), #[.tmp 29], #[24]⟩, none⟩,
        ⟨some 7, .assign (.tmp 30), none⟩] [])
  (.seq (.seq (.reg [⟨some 31, .move (.tmp 7), none⟩,
          ⟨some 32, .binOp .eql 27 (.tmp 31) (.const (.int .i64 0)) 27, none⟩] [])
    (.cond (.tmp 32) [] (.seq (.reg [⟨some 33, .move (.tmp 0), none⟩,
            ⟨some 34, .move (.tmp 1), none⟩,
            ⟨some 35, .nilCheck (.tmp 33), none⟩,
            ⟨some 36, .fieldAddr 60 (.tmp 35) 1, none⟩,
            ⟨some 37, .indexAddr 58 (.tmp 36) (.tmp 34), none⟩,
            ⟨some 8, .assign (.tmp 37), none⟩] [])
      (.drw [(⟨some 38, .move (.tmp 8), none⟩, false),
          (⟨some 39, .move (.tmp 8), none⟩, true),
          (⟨some 40, .move (.tmp 8), none⟩, false),
          (⟨some 41, .nilCheck (.tmp 40), none⟩, false),
          (⟨some 42, .fieldAddr 57 (.tmp 41) 0, none⟩, false),
          (⟨some 43, .load 22 (.tmp 42), none⟩, false),
          (⟨some 44, .move (.tmp 2), none⟩, false),
          (⟨some 45, .slice 22 (.tmp 43) none (some (.tmp 44)) none, none⟩, false),
          (⟨some 46, .move (.tmp 8), none⟩, false),
          (⟨some 47, .nilCheck (.tmp 46), none⟩, false),
          (⟨some 48, .fieldAddr 57 (.tmp 47) 1, none⟩, false),
          (⟨some 49, .load 3 (.tmp 48), none⟩, false),
          (⟨some 50, .move (.tmp 2), none⟩, true),
          (⟨some 51, .call ⟨.builtin .min, #[.tmp 49, .tmp 50], #[3, 3]⟩, none⟩, true),
          (⟨some 52, .nilCheck (.tmp 38), none⟩, false),
          (⟨some 53, .fieldAddr 57 (.tmp 52) 0, none⟩, false),
          (⟨none, .store 22 (.tmp 53) (.tmp 45), none⟩, false),
          (⟨some 54, .nilCheck (.tmp 39), none⟩, false),
          (⟨some 55, .fieldAddr 57 (.tmp 54) 1, none⟩, false),
          (⟨none, .store 3 (.tmp 55) (.tmp 51), none⟩, true)] []))
    (.skip)))
  (.seq (.reg [⟨some 56, .move (.tmp 7), none⟩,
        ⟨some 6, .assign (.tmp 56), none⟩] [])
  (.ret)))))
abbrev r_disk_Disk_Trim : List ResultVar := [.tmp 6]
theorem fits_disk_Disk_Trim : Fits Try.prog 24 3 c_disk_Disk_Trim r_disk_Disk_Trim :=
  ⟨_, _, [⟨[], [], [], []⟩, ⟨[], [], [], []⟩, ⟨[], [], [], []⟩, ⟨[], [], [], []⟩, ⟨[], [], [], []⟩, ⟨[], [], [], []⟩, ⟨[], [], [], []⟩, ⟨[], [], [], []⟩, ⟨[some (0, false), some (1, true), some (2, false), some (3, false), some (4, false), some (5, false), some (6, false), some (7, false), some (8, false), some (9, false), some (10, false), some (11, false), some (12, true), some (13, true), some (14, false), some (15, false), some (16, false), some (17, false), some (18, false), some (19, true)], [], [⟨some 38, [8], [], false⟩, ⟨some 39, [8], [], false⟩, ⟨some 40, [8], [], false⟩, ⟨some 41, [40], [2], false⟩, ⟨some 42, [41], [3], false⟩, ⟨some 43, [42], [4], false⟩, ⟨some 44, [2], [], false⟩, ⟨some 45, [43, 44], [5, 6], false⟩, ⟨some 46, [8], [], false⟩, ⟨some 47, [46], [8], false⟩, ⟨some 48, [47], [9], false⟩, ⟨some 49, [48], [10], false⟩, ⟨some 50, [2], [], false⟩, ⟨some 51, [49, 50], [11, 12], false⟩, ⟨some 52, [38], [0, 0, 2, 3, 4, 5, 6, 7, 11], false⟩, ⟨some 53, [52], [14, 0, 2, 3, 4, 5, 6, 7, 11], false⟩, ⟨none, [53, 45], [15, 7, 0, 2, 3, 4, 5, 6, 7, 11], true⟩, ⟨some 54, [39], [1, 0, 1, 2, 3, 4, 5, 6, 7, 8, 9, 10, 11, 12, 13, 14, 15, 16], false⟩, ⟨some 55, [54], [17, 0, 1, 2, 3, 4, 5, 6, 7, 8, 9, 10, 11, 12, 13, 14, 15, 16], false⟩, ⟨none, [55, 51], [18, 13, 16, 0, 1, 2, 3, 4, 5, 6, 7, 8, 9, 10, 11, 12, 13, 14, 15, 16], true⟩], [0, 0, 0, 4, 12, 28, 0, 124, 0, 256, 768, 1792, 0, 7936, 4093, 20477, 53245, 131071, 262143, 524287]⟩, ⟨[], [], [], []⟩], Try.func24, by kernel_rfl, rfl, by kernel_rfl, by kernel_rfl, by decide, rfl⟩

/-! stanchion/disk.there -/
abbrev n_disk_there : FuncId := 25
def c_disk_there : LC :=
  .seq (.reg [⟨some 2, .assign (.const (.bool false)), none⟩] [])
  (.seq (.reg [⟨some 3, .move (.tmp 0), none⟩,
        ⟨some 4, .call ⟨.value (.func 35), #[.tmp 3, .func 36], #[30, 71]⟩, none⟩,
        ⟨some 5, .unOp .not 4 (.tmp 4), none⟩,
        ⟨some 2, .assign (.tmp 5), none⟩] [])
  (.ret))
abbrev r_disk_there : List ResultVar := [.tmp 2]
theorem fits_disk_there : Fits Try.prog 25 1 c_disk_there r_disk_there :=
  ⟨_, _, [⟨[], [], [], []⟩, ⟨[], [], [], []⟩], Try.func25, by kernel_rfl, rfl, by kernel_rfl, by kernel_rfl, by decide, rfl⟩

/-! (*stanchion/disk.Disk).draw -/
abbrev n_disk_Disk_draw : FuncId := 26
def c_disk_Disk_draw : LC :=
  .seq (.reg [⟨some 2, .assign (.const (.int .i64 0)), none⟩] [])
  (.seq (.block 0 (.seq (.reg [⟨some 4, .move (.tmp 0), none⟩,
            ⟨some 5, .nilCheck (.tmp 4), none⟩,
            ⟨some 6, .fieldAddr 60 (.tmp 5) 0, none⟩,
            ⟨some 7, .load 3 (.tmp 6), none⟩,
            ⟨some 8, .binOp .eql 3 (.tmp 7) (.const (.int .i64 0)) 3, none⟩,
            ⟨some 3, .assign (.tmp 8), none⟩] [])
      (.cond (.tmp 3) [] (.seq (.reg [⟨some 2, .assign (.const (.int .i64 40)), none⟩] [])
        (.ret))
      (.seq (.reg [⟨some 10, .move (.tmp 0), none⟩,
              ⟨some 11, .nilCheck (.tmp 10), none⟩,
              ⟨some 12, .fieldAddr 60 (.tmp 11) 0, none⟩,
              ⟨some 13, .load 3 (.tmp 12), none⟩,
              ⟨some 14, .binOp .gtr 3 (.tmp 13) (.const (.int .i64 0)) 3, none⟩,
              ⟨some 9, .assign (.tmp 14), none⟩] [])
        (.cond (.tmp 9) [] (.reg [⟨some 15, .move (.tmp 0), none⟩,
              ⟨some 16, .nilCheck (.tmp 15), none⟩,
              ⟨some 17, .fieldAddr 60 (.tmp 16) 0, none⟩,
              ⟨some 18, .load 3 (.tmp 17), none⟩,
              ⟨some 19, .binOp .sub 3 (.tmp 18) (.const (.int .i64 1)) 3, none⟩,
              ⟨some 20, .nilCheck (.tmp 15), none⟩,
              ⟨some 21, .fieldAddr 60 (.tmp 20) 0, none⟩,
              ⟨none, .store 3 (.tmp 21) (.tmp 19), none⟩] [])
        (.skip))))))
  (.seq (.reg [⟨some 2, .assign (.const (.int .i64 0)), none⟩] [])
  (.ret)))
abbrev r_disk_Disk_draw : List ResultVar := [.tmp 2]
theorem fits_disk_Disk_draw : Fits Try.prog 26 1 c_disk_Disk_draw r_disk_Disk_draw :=
  ⟨_, _, [⟨[], [], [], []⟩, ⟨[], [], [], []⟩, ⟨[], [], [], []⟩, ⟨[], [], [], []⟩, ⟨[], [], [], []⟩, ⟨[], [], [], []⟩, ⟨[], [], [], []⟩, ⟨[], [], [], []⟩], Try.func26, by kernel_rfl, rfl, by kernel_rfl, by kernel_rfl, by decide, rfl⟩

/-! slices.Concat[[]byte,byte] -/
abbrev n_slices_Concat_byte_byte : FuncId := 27
def c_slices_Concat_byte_byte : LC :=
  .seq (.reg [⟨some 2, .assign (.const (.slice none 0 0)), none⟩] [])
  (.seq (.reg [⟨some 3, .assign (.const (.int .i64 0)), none⟩] [])
  (.seq (.seq (.reg [⟨some 9, .move (.tmp 0), none⟩,
          ⟨some 10, .call ⟨.builtin .len, #[.tmp 9], #[41]⟩, none⟩,
          ⟨some 11, .move (.const (.int .i64 0)), none⟩] [])
    (.block 0 (.loop (.seq (.reg [⟨some 12, .binOp .lss 3 (.tmp 11) (.tmp 10) 3, none⟩] [])
        (.seq (.cond (.tmp 12) [] (.skip)
          (.exit 0))
        (.seq (.block 1 (.seq (.reg [⟨some 13, .indexAddr 41 (.tmp 9) (.tmp 11), none⟩,
                  ⟨some 14, .load 22 (.tmp 13), none⟩,
                  ⟨some 5, .assign (.tmp 14), none⟩] [])
            (.seq (.reg [⟨some 15, .move (.tmp 3), none⟩,
                  ⟨some 16, .move (.tmp 5), none⟩,
                  ⟨some 17, .call ⟨.builtin .len, #[.tmp 16], #[22]⟩, none⟩,
                  ⟨some 18, .binOp .add 3 (.tmp 15) (.tmp 17) 3, none⟩,
                  ⟨some 3, .assign (.tmp 18), none⟩] [])
            (.seq (.reg [⟨some 19, .move (.tmp 3), none⟩,
                  ⟨some 20, .binOp .lss 3 (.tmp 19) (.const (.int .i64 0)) 3, none⟩] [])
            (.cond (.tmp 20) [] (.reg [⟨some 21, .makeInterface 9 (.const (.string ⟨#[108, 101, 110, 32, 111, 117, 116, 32, 111, 102, 32, 114, 97, 110, 103, 101]⟩)), none⟩,
                  ⟨none, .panic (.tmp 21), none⟩] [])
            (.skip))))))
        (.reg [⟨some 22, .binOp .add 3 (.tmp 11) (.const (.int .i64 1)) 3, none⟩,
            ⟨some 11, .move (.tmp 22), none⟩] [])))))))
  (.seq (.reg [⟨some 23, .move (.tmp 3), none⟩,
        ⟨some 24, .call ⟨.value (.func 37), #[.const (.slice none 0 0), .tmp 23], #[22, 3]⟩, none⟩,
        ⟨some 6, .assign (.tmp 24), none⟩] [])
  (.seq (.seq (.reg [⟨some 25, .move (.tmp 0), none⟩,
          ⟨some 26, .call ⟨.builtin .len, #[.tmp 25], #[41]⟩, none⟩,
          ⟨some 27, .move (.const (.int .i64 0)), none⟩] [])
    (.block 2 (.loop (.seq (.reg [⟨some 28, .binOp .lss 3 (.tmp 27) (.tmp 26) 3, none⟩] [])
        (.seq (.cond (.tmp 28) [] (.skip)
          (.exit 2))
        (.seq (.block 3 (.seq (.reg [⟨some 29, .indexAddr 41 (.tmp 25) (.tmp 27), none⟩,
                  ⟨some 30, .load 22 (.tmp 29), none⟩,
                  ⟨some 8, .assign (.tmp 30), none⟩] [])
            (.reg [⟨some 31, .move (.tmp 6), none⟩,
                ⟨some 32, .move (.tmp 8), none⟩,
                ⟨some 33, .call ⟨.builtin .append, #[.tmp 31, .tmp 32], #[22, 22]⟩, none⟩,
                ⟨some 6, .assign (.tmp 33), none⟩] [])))
        (.reg [⟨some 34, .binOp .add 3 (.tmp 27) (.const (.int .i64 1)) 3, none⟩,
            ⟨some 27, .move (.tmp 34), none⟩] [])))))))
  (.seq (.reg [⟨some 35, .move (.tmp 6), none⟩,
        ⟨some 2, .assign (.tmp 35), none⟩] [])
  (.ret))))))
abbrev r_slices_Concat_byte_byte : List ResultVar := [.tmp 2]
theorem fits_slices_Concat_byte_byte : Fits Try.prog 27 1 c_slices_Concat_byte_byte r_slices_Concat_byte_byte :=
  ⟨_, _, [⟨[], [], [], []⟩, ⟨[], [], [], []⟩, ⟨[], [], [], []⟩, ⟨[], [], [], []⟩, ⟨[], [], [], []⟩, ⟨[], [], [], []⟩, ⟨[], [], [], []⟩, ⟨[], [], [], []⟩, ⟨[], [], [], []⟩, ⟨[], [], [], []⟩, ⟨[], [], [], []⟩, ⟨[], [], [], []⟩, ⟨[], [], [], []⟩, ⟨[], [], [], []⟩, ⟨[], [], [], []⟩, ⟨[], [], [], []⟩, ⟨[], [], [], []⟩, ⟨[], [], [], []⟩, ⟨[], [], [], []⟩], Try.func27, by kernel_rfl, rfl, by kernel_rfl, by kernel_rfl, by decide, rfl⟩

/-! (stanchion/disk.area).left -/
abbrev n_disk_area_left : FuncId := 28
def c_disk_area_left : LC :=
  .seq (.reg [⟨some 2, .box 57 (.tmp 0), none⟩,
        ⟨some 4, .alloc 57, none⟩] [])
  (.seq (.reg [⟨some 6, .fieldAddr 57 (.tmp 2) 1, none⟩,
        ⟨some 7, .load 3 (.tmp 6), none⟩,
        ⟨some 8, .move (.tmp 1), none⟩,
        ⟨some 9, .fieldAddr 57 (.tmp 2) 0, none⟩,
        ⟨some 10, .load 22 (.tmp 9), none⟩,
        ⟨some 11, .call ⟨.builtin .len, #[.tmp 10], #[22]⟩, none⟩,
        ⟨some 12, .fieldAddr 57 (.tmp 2) 1, none⟩,
        ⟨some 13, .load 3 (.tmp 12), none⟩,
        ⟨some 14, .binOp .sub 3 (.tmp 11) (.tmp 13) 3, none⟩,
        ⟨some 15, .call ⟨.builtin .min, #[.tmp 8, .tmp 14], #[3, 3]⟩, none⟩,
        ⟨some 16, .call ⟨.builtin .max, #[.const (.int .i64 0), .tmp 15], #[3, 3]⟩, none⟩,
        ⟨some 17, .binOp .add 3 (.tmp 7) (.tmp 16) 3, none⟩,
        ⟨some 5, .assign (.tmp 17), none⟩] [])
  (.seq (.reg [⟨some 18, .fieldAddr 57 (.tmp 2) 0, none⟩,
        ⟨some 19, .load 22 (.tmp 18), none⟩,
        ⟨some 20, .move (.tmp 5), none⟩,
        ⟨some 21, .slice 22 (.tmp 19) none (some (.tmp 20)) none, none⟩,
        ⟨some 22, .call ⟨.value (.func 29), #[.tmp 21], #[22]⟩, none⟩,
        ⟨some 23, .move (.tmp 5), none⟩,
        ⟨some 24, .build 57 #[(0, .tmp 22), (1, .tmp 23)], none⟩,
        ⟨none, .store 57 (.tmp 4) (.tmp 24), none⟩] [])
  (.ret)))
abbrev r_disk_area_left : List ResultVar := [.cell 4 57]
theorem fits_disk_area_left : Fits Try.prog 28 2 c_disk_area_left r_disk_area_left :=
  ⟨_, _, [⟨[], [], [], []⟩, ⟨[], [], [], []⟩, ⟨[], [], [], []⟩], Try.func28, by kernel_rfl, rfl, by kernel_rfl, by kernel_rfl, by decide, rfl⟩

/-! slices.Clone[[]byte,byte] -/
abbrev n_slices_Clone_byte_byte : FuncId := 29
def c_slices_Clone_byte_byte : LC :=
  .seq (.reg [⟨some 2, .assign (.const (.slice none 0 0)), none⟩] [])
  (.seq (.seq (.reg [⟨some 3, .move (.tmp 0), none⟩,
          ⟨some 4, .binOp .eql 22 (.tmp 3) (.const (.slice none 0 0)) 22, none⟩] [])
    (.cond (.tmp 4) [] (.seq (.reg [⟨some 2, .assign (.const (.slice none 0 0)), none⟩] [])
      (.ret))
    (.skip)))
  (.seq (.reg [⟨some 5, .buildSlice 22 0 #[], none⟩,
        ⟨some 6, .move (.tmp 0), none⟩,
        ⟨some 7, .call ⟨.builtin .append, #[.tmp 5, .tmp 6], #[22, 22]⟩, none⟩,
        ⟨some 2, .assign (.tmp 7), none⟩] [])
  (.ret)))
abbrev r_slices_Clone_byte_byte : List ResultVar := [.tmp 2]
theorem fits_slices_Clone_byte_byte : Fits Try.prog 29 1 c_slices_Clone_byte_byte r_slices_Clone_byte_byte :=
  ⟨_, _, [⟨[], [], [], []⟩, ⟨[], [], [], []⟩, ⟨[], [], [], []⟩, ⟨[], [], [], []⟩, ⟨[], [], [], []⟩], Try.func29, by kernel_rfl, rfl, by kernel_rfl, by kernel_rfl, by decide, rfl⟩

/-! (stanchion/stanchionref04.Disk).Append -/
abbrev n_stanchionref04_Disk_Append : FuncId := 30
def c_stanchionref04_Disk_Append : LC :=
  .seq (.reg [⟨some 3, .box 40 (.tmp 0), none⟩,
        ⟨some 6, .alloc 40, none⟩,
        ⟨some 7, .assign (.const (.int .i64 0)), none⟩] [])
  (.seq (.seq (.reg [⟨some 11, .move (.tmp 1), none⟩,
          ⟨some 12, .call ⟨.value (.func 38), #[.tmp 11], #[3]⟩, none⟩,
          ⟨some 13, .unOp .not 4 (.tmp 12), none⟩] [])
    (.cond (.tmp 13) [] (.seq (.reg [⟨some 14, .load 40 (.tmp 3), none⟩,
            ⟨none, .store 40 (.tmp 6) (.tmp 14), none⟩,
            ⟨some 7, .assign (.const (.int .i64 41)), none⟩] [])
      (.ret))
    (.skip)))
  (.seq (.reg [⟨some 16, .load 40 (.tmp 3), none⟩,
        ⟨some 17, .call ⟨.value (.func 39), #[.tmp 16], #[40]⟩, none⟩,
        ⟨some 15, .move (.tmp 17), none⟩,
        ⟨some 18, .extract (.tmp 15) 0, none⟩,
        ⟨some 19, .extract (.tmp 15) 1, none⟩,
        ⟨none, .store 40 (.tmp 3) (.tmp 18), none⟩,
        ⟨some 8, .assign (.tmp 19), none⟩] [])
  (.seq (.seq (.reg [⟨some 20, .move (.tmp 8), none⟩,
          ⟨some 21, .binOp .neq 27 (.tmp 20) (.const (.int .i64 0)) 27, none⟩] [])
    (.cond (.tmp 21) [] (.seq (.reg [⟨some 22, .load 40 (.tmp 3), none⟩,
            ⟨some 23, .move (.tmp 8), none⟩,
            ⟨none, .store 40 (.tmp 6) (.tmp 22), none⟩,
            ⟨some 7, .assign (.tmp 23), none⟩] [])
      (.ret))
    (.skip)))
  (.seq (.reg [⟨some 24, .move (.tmp 1), none⟩,
        ⟨some 25, .fieldAddr 40 (.tmp 3) 1, none⟩,
        ⟨some 26, .indexAddr 37 (.tmp 25) (.tmp 24), none⟩,
        ⟨some 27, .load 22 (.tmp 26), none⟩,
        ⟨some 28, .call ⟨.value (.func 11), #[.tmp 27], #[22]⟩, none⟩,
        ⟨some 9, .assign (.tmp 28), none⟩] [])
  (.seq (.seq (.reg [⟨some 10, .assign (.const (.int .i64 0)), none⟩] [])
    (.block 0 (.loop (.seq (.seq (.reg [⟨some 29, .move (.tmp 10), none⟩,
                ⟨some 30, .move (.tmp 2), none⟩,
                ⟨some 31, .call ⟨.builtin .len, #[.tmp 30], #[41]⟩, none⟩,
                ⟨some 32, .binOp .lss 3 (.tmp 29) (.tmp 31) 3, none⟩] [])
          (.cond (.tmp 32) [] (.skip)
          (.exit 0)))
        (.seq (.block 1 (.reg [⟨some 35, .move (.tmp 9), none⟩,
                ⟨some 36, .move (.tmp 2), none⟩,
                ⟨some 37, .move (.tmp 10), none⟩,
                ⟨some 38, .indexAddr 41 (.tmp 36) (.tmp 37), none⟩,
                ⟨some 39, .load 22 (.tmp 38), none⟩,
                ⟨some 40, .call ⟨.builtin .append, #[.tmp 35, .tmp 39], #[22, 22]⟩, none⟩,
                ⟨some 9, .assign (.tmp 40), none⟩] []))
        (.reg [⟨some 33, .move (.tmp 10), none⟩,
            ⟨some 34, .binOp .add 3 (.tmp 33) (.const (.int .i64 1)) 3, none⟩,
            ⟨some 10, .assign (.tmp 34), none⟩] []))))))
  (.seq (.reg [⟨some 41, .move (.tmp 1), none⟩,
        ⟨some 42, .move (.tmp 9), none⟩,
        ⟨some 43, .fieldAddr 40 (.tmp 3) 1, none⟩,
        ⟨some 44, .indexAddr 37 (.tmp 43) (.tmp 41), none⟩,
        ⟨none, .store 22 (.tmp 44) (.tmp 42), none⟩] [])
  (.seq (.reg [⟨some 45, .load 40 (.tmp 3), none⟩,
        ⟨none, .store 40 (.tmp 6) (.tmp 45), none⟩,
        ⟨some 7, .assign (.const (.int .i64 0)), none⟩] [])
  (.ret))))))))
abbrev r_stanchionref04_Disk_Append : List ResultVar := [.cell 6 40, .tmp 7]
theorem fits_stanchionref04_Disk_Append : Fits Try.prog 30 3 c_stanchionref04_Disk_Append r_stanchionref04_Disk_Append :=
  ⟨_, _, [⟨[], [], [], []⟩, ⟨[], [], [], []⟩, ⟨[], [], [], []⟩, ⟨[], [], [], []⟩, ⟨[], [], [], []⟩, ⟨[], [], [], []⟩, ⟨[], [], [], []⟩, ⟨[], [], [], []⟩, ⟨[], [], [], []⟩, ⟨[], [], [], []⟩, ⟨[], [], [], []⟩, ⟨[], [], [], []⟩, ⟨[], [], [], []⟩, ⟨[], [], [], []⟩, ⟨[], [], [], []⟩, ⟨[], [], [], []⟩], Try.func30, by kernel_rfl, rfl, by kernel_rfl, by kernel_rfl, by decide, rfl⟩

/-! (stanchion/stanchionref04.Disk).Trim -/
abbrev n_stanchionref04_Disk_Trim : FuncId := 31
def c_stanchionref04_Disk_Trim : LC :=
  .seq (.reg [⟨some 3, .box 40 (.tmp 0), none⟩,
        ⟨some 6, .alloc 40, none⟩,
        ⟨some 7, .assign (.const (.int .i64 0)), none⟩] [])
  (.seq (.seq (.reg [⟨some 9, .move (.tmp 1), none⟩,
          ⟨some 10, .call ⟨.value (.func 38), #[.tmp 9], #[3]⟩, none⟩,
          ⟨some 11, .unOp .not 4 (.tmp 10), none⟩,
          ⟨some 12, .move (.tmp 11), none⟩,
          ⟨some 13, .move (.tmp 2), some (12, false)⟩,
          ⟨some 14, .binOp .lss 3 (.tmp 13) (.const (.int .i64 0)) 3, some (12, false)⟩,
          ⟨some 15, .pick (.tmp 12) (.const (.bool true)) (.tmp 14), none⟩,
          ⟨some 16, .move (.tmp 15), none⟩,
          ⟨some 17, .move (.tmp 2), some (16, false)⟩,
          ⟨some 18, .move (.tmp 1), some (16, false)⟩,
          ⟨some 19, .fieldAddr 40 (.tmp 3) 1, some (16, false)⟩,
          ⟨some 20, .indexAddr 37 (.tmp 19) (.tmp 18), some (16, false)⟩,
          ⟨some 21, .load 22 (.tmp 20), some (16, false)⟩,
          ⟨some 22, .call ⟨.builtin .len, #[.tmp 21], #[22]⟩, some (16, false)⟩,
          ⟨some 23, .binOp .gtr 3 (.tmp 17) (.tmp 22) 3, some (16, false)⟩,
          ⟨some 24, .pick (.tmp 16) (.const (.bool true)) (.tmp 23), none⟩] [])
    (.cond (.tmp 24) [] (.seq (.reg [⟨some 25, .load 40 (.tmp 3), none⟩,
            ⟨none, .store 40 (.tmp 6) (.tmp 25), none⟩,
            ⟨some 7, .assign (.const (.int .i64 41)), none⟩] [])
      (.ret))
    (.skip)))
  (.seq (.reg [⟨some 27, .load 40 (.tmp 3), none⟩,
        ⟨some 28, .call ⟨.value (.func 39), #[.tmp 27], #[40]⟩, none⟩,
        ⟨some 26, .move (.tmp 28), none⟩,
        ⟨some 29, .extract (.tmp 26) 0, none⟩,
        ⟨some 30, .extract (.tmp 26) 1, none⟩,
        ⟨none, .store 40 (.tmp 3) (.tmp 29), none⟩,
        ⟨some 8, .assign (.tmp 30), none⟩] [])
  (.seq (.seq (.reg [⟨some 31, .move (.tmp 8), none⟩,
          ⟨some 32, .binOp .neq 27 (.tmp 31) (.const (.int .i64 0)) 27, none⟩] [])
    (.cond (.tmp 32) [] (.seq (.reg [⟨some 33, .load 40 (.tmp 3), none⟩,
            ⟨some 34, .move (.tmp 8), none⟩,
            ⟨none, .store 40 (.tmp 6) (.tmp 33), none⟩,
            ⟨some 7, .assign (.tmp 34), none⟩] [])
      (.ret))
    (.skip)))
  (.seq (.reg [⟨some 35, .move (.tmp 1), none⟩,
        ⟨some 36, .move (.tmp 1), none⟩,
        ⟨some 37, .fieldAddr 40 (.tmp 3) 1, none⟩,
        ⟨some 38, .indexAddr 37 (.tmp 37) (.tmp 36), none⟩,
        ⟨some 39, .load 22 (.tmp 38), none⟩,
        ⟨some 40, .move (.tmp 2), none⟩,
        ⟨some 41, .slice 22 (.tmp 39) none (some (.tmp 40)) none, none⟩,
        ⟨some 42, .call ⟨.value (.func 11), #[.tmp 41], #[22]⟩, none⟩,
        ⟨some 43, .fieldAddr 40 (.tmp 3) 1, none⟩,
        ⟨some 44, .indexAddr 37 (.tmp 43) (.tmp 35), none⟩,
        ⟨none, .store 22 (.tmp 44) (.tmp 42), none⟩] [])
  (.seq (.seq (.reg [⟨some 45, .move (.tmp 1), none⟩,
          ⟨some 46, .fieldAddr 40 (.tmp 3) 2, none⟩,
          ⟨some 47, .indexAddr 38 (.tmp 46) (.tmp 45), none⟩,
          ⟨some 48, .load 3 (.tmp 47), none⟩,
          ⟨some 49, .move (.tmp 2), none⟩,
          ⟨some 50, .binOp .gtr 3 (.tmp 48) (.tmp 49) 3, none⟩] [])
    (.cond (.tmp 50) [] (.reg [⟨some 51, .move (.tmp 1), none⟩,
          ⟨some 52, .move (.tmp 2), none⟩,
          ⟨some 53, .fieldAddr 40 (.tmp 3) 2, none⟩,
          ⟨some 54, .indexAddr 38 (.tmp 53) (.tmp 51), none⟩,
          ⟨none, .store 3 (.tmp 54) (.tmp 52), none⟩] [])
    (.skip)))
  (.seq (.reg [⟨some 55, .load 40 (.tmp 3), none⟩,
        ⟨none, .store 40 (.tmp 6) (.tmp 55), none⟩,
        ⟨some 7, .assign (.const (.int .i64 0)), none⟩] [])
  (.ret)))))))
abbrev r_stanchionref04_Disk_Trim : List ResultVar := [.cell 6 40, .tmp 7]
theorem fits_stanchionref04_Disk_Trim : Fits Try.prog 31 3 c_stanchionref04_Disk_Trim r_stanchionref04_Disk_Trim :=
  ⟨_, _, [⟨[], [], [], []⟩, ⟨[], [], [], []⟩, ⟨[], [], [], []⟩, ⟨[], [], [], []⟩, ⟨[], [], [], []⟩, ⟨[], [], [], []⟩, ⟨[], [], [], []⟩, ⟨[], [], [], []⟩, ⟨[], [], [], []⟩, ⟨[], [], [], []⟩, ⟨[], [], [], []⟩, ⟨[], [], [], []⟩, ⟨[], [], [], []⟩], Try.func31, by kernel_rfl, rfl, by kernel_rfl, by kernel_rfl, by decide, rfl⟩

/-! (stanchion/stanchionref04.Disk).Sync -/
abbrev n_stanchionref04_Disk_Sync : FuncId := 32
def c_stanchionref04_Disk_Sync : LC :=
  .seq (.reg [⟨some 2, .box 40 (.tmp 0), none⟩,
        ⟨some 4, .alloc 40, none⟩,
        ⟨some 5, .assign (.const (.int .i64 0)), none⟩] [])
  (.seq (.seq (.reg [⟨some 6, .assign (.const (.int .i64 0)), none⟩] [])
    (.block 0 (.loop (.seq (.seq (.reg [⟨some 9, .move (.tmp 6), none⟩,
                ⟨some 10, .move (.tmp 1), none⟩,
                ⟨some 11, .call ⟨.builtin .len, #[.tmp 10], #[30]⟩, none⟩,
                ⟨some 12, .binOp .lss 3 (.tmp 9) (.tmp 11) 3, none⟩] [])
          (.cond (.tmp 12) [] (.skip)
          (.exit 0)))
        (.seq (.block 1 (.seq (.reg [⟨some 15, .move (.tmp 1), none⟩,
                  ⟨some 16, .move (.tmp 6), none⟩,
                  ⟨some 17, .indexAddr 30 (.tmp 15) (.tmp 16), none⟩,
                  ⟨some 18, .load 3 (.tmp 17), none⟩,
                  ⟨some 19, .call ⟨.value (.func 38), #[.tmp 18], #[3]⟩, none⟩,
                  ⟨some 20, .unOp .not 4 (.tmp 19), none⟩] [])
            (.cond (.tmp 20) [] (.seq (.reg [⟨some 21, .load 40 (.tmp 2), none⟩,
                    ⟨none, .store 40 (.tmp 4) (.tmp 21), none⟩,
                    ⟨some 5, .assign (.const (.int .i64 41)), none⟩] [])
              (.ret))
            (.skip))))
        (.reg [⟨some 13, .move (.tmp 6), none⟩,
            ⟨some 14, .binOp .add 3 (.tmp 13) (.const (.int .i64 1)) 3, none⟩,
            ⟨some 6, .assign (.tmp 14), none⟩] []))))))
  (.seq (.reg [⟨some 23, .load 40 (.tmp 2), none⟩,
        ⟨some 24, .call ⟨.value (.func 39), #[.tmp 23], #[40]⟩, none⟩,
        ⟨some 22, .move (.tmp 24), none⟩,
        ⟨some 25, .extract (.tmp 22) 0, none⟩,
        ⟨some 26, .extract (.tmp 22) 1, none⟩,
        ⟨none, .store 40 (.tmp 2) (.tmp 25), none⟩,
        ⟨some 7, .assign (.tmp 26), none⟩] [])
  (.seq (.seq (.reg [⟨some 27, .move (.tmp 7), none⟩,
          ⟨some 28, .binOp .neq 27 (.tmp 27) (.const (.int .i64 0)) 27, none⟩] [])
    (.cond (.tmp 28) [] (.seq (.reg [⟨some 29, .load 40 (.tmp 2), none⟩,
            ⟨some 30, .move (.tmp 7), none⟩,
            ⟨none, .store 40 (.tmp 4) (.tmp 29), none⟩,
            ⟨some 5, .assign (.tmp 30), none⟩] [])
      (.ret))
    (.skip)))
  (.seq (.seq (.reg [⟨some 31, .move (.tmp 1), none⟩,
          ⟨some 32, .call ⟨.builtin .len, #[.tmp 31], #[30]⟩, none⟩,
          ⟨some 33, .binOp .eql 3 (.tmp 32) (.const (.int .i64 0)) 3, none⟩] [])
    (.cond (.tmp 33) [] (.reg [⟨some 34, .buildSlice 30 2 #[(0, .const (.int .i64 0)), (1, .const (.int .i64 1))], none⟩,
          ⟨some 1, .assign (.tmp 34), none⟩] [])
    (.skip)))
  (.seq (.seq (.reg [⟨some 8, .assign (.const (.int .i64 0)), none⟩] [])
    (.block 2 (.loop (.seq (.seq (.reg [⟨some 35, .move (.tmp 8), none⟩,
                ⟨some 36, .move (.tmp 1), none⟩,
                ⟨some 37, .call ⟨.builtin .len, #[.tmp 36], #[30]⟩, none⟩,
                ⟨some 38, .binOp .lss 3 (.tmp 35) (.tmp 37) 3, none⟩] [])
          (.cond (.tmp 38) [] (.skip)
          (.exit 2)))
        (.seq (.block 3 (.drw [(⟨some 41, .move (.tmp 1), none⟩, false),
                (⟨some 42, .move (.tmp 8), none⟩, false),
                (⟨some 43, .indexAddr 30 (.tmp 41) (.tmp 42), none⟩, false),
                (⟨some 44, .load 3 (.tmp 43), none⟩, false),
                (⟨some 45, .move (.tmp 1), none⟩, false),
                (⟨some 46, .move (.tmp 8), none⟩, false),
                (⟨some 47, .indexAddr 30 (.tmp 45) (.tmp 46), none⟩, false),
                (⟨some 48, .load 3 (.tmp 47), none⟩, false),
                (⟨some 49, .fieldAddr 40 (.tmp 2) 1, none⟩, false),
                (⟨some 50, .indexAddr 37 (.tmp 49) (.tmp 48), none⟩, false),
                (⟨some 51, .load 22 (.tmp 50), none⟩, false),
                (⟨some 52, .call ⟨.builtin .len, #[.tmp 51], #[22]⟩, none⟩, false),
                (⟨some 53, .fieldAddr 40 (.tmp 2) 2, none⟩, false),
                (⟨some 54, .indexAddr 38 (.tmp 53) (.tmp 44), none⟩, false),
                (⟨none, .store 3 (.tmp 54) (.tmp 52), none⟩, true)] []))
        (.reg [⟨some 39, .move (.tmp 8), none⟩,
            ⟨some 40, .binOp .add 3 (.tmp 39) (.const (.int .i64 1)) 3, none⟩,
            ⟨some 8, .assign (.tmp 40), none⟩] []))))))
  (.seq (.reg [⟨some 55, .load 40 (.tmp 2), none⟩,
        ⟨none, .store 40 (.tmp 4) (.tmp 55), none⟩,
        ⟨some 5, .assign (.const (.int .i64 0)), none⟩] [])
  (.ret)))))))
abbrev r_stanchionref04_Disk_Sync : List ResultVar := [.cell 4 40, .tmp 5]
theorem fits_stanchionref04_Disk_Sync : Fits Try.prog 32 2 c_stanchionref04_Disk_Sync r_stanchionref04_Disk_Sync :=
  ⟨_, _, [⟨[], [], [], []⟩, ⟨[], [], [], []⟩, ⟨[], [], [], []⟩, ⟨[], [], [], []⟩, ⟨[], [], [], []⟩, ⟨[], [], [], []⟩, ⟨[], [], [], []⟩, ⟨[], [], [], []⟩, ⟨[], [], [], []⟩, ⟨[], [], [], []⟩, ⟨[], [], [], []⟩, ⟨[], [], [], []⟩, ⟨[], [], [], []⟩, ⟨[], [], [], []⟩, ⟨[], [], [], []⟩, ⟨[], [], [], []⟩, ⟨[], [], [], []⟩, ⟨[], [], [], []⟩, ⟨[some (0, false), some (1, false), some (2, false), some (3, false), some (4, false), some (5, false), some (6, false), some (7, false), some (8, false), some (9, false), some (10, false), some (11, false), some (12, false), some (13, false), some (14, true)], [], [⟨some 41, [1], [], false⟩, ⟨some 42, [8], [], false⟩, ⟨some 43, [41, 42], [0, 1], false⟩, ⟨some 44, [43], [2], false⟩, ⟨some 45, [1], [], false⟩, ⟨some 46, [8], [], false⟩, ⟨some 47, [45, 46], [4, 5], false⟩, ⟨some 48, [47], [6], false⟩, ⟨some 49, [2], [], false⟩, ⟨some 50, [49, 48], [8, 7], false⟩, ⟨some 51, [50], [9], false⟩, ⟨some 52, [51], [10], false⟩, ⟨some 53, [2], [], false⟩, ⟨some 54, [53, 44], [12, 3, 0, 1, 2, 3, 4, 5, 6, 7, 8, 9, 10, 11], false⟩, ⟨none, [54, 52], [13, 11, 0, 1, 2, 3, 4, 5, 6, 7, 8, 9, 10, 11], true⟩], [0, 0, 3, 7, 0, 0, 48, 112, 0, 496, 1008, 2032, 0, 8191, 16383]⟩, ⟨[], [], [], []⟩, ⟨[], [], [], []⟩], Try.func32, by kernel_rfl, rfl, by kernel_rfl, by kernel_rfl, by decide, rfl⟩

/-! stanchion/stanchionref00.CopyRows -/
abbrev n_stanchionref00_CopyRows : FuncId := 33
def c_stanchionref00_CopyRows : LC :=
  .seq (.reg [⟨some 2, .assign (.const (.slice none 0 0)), none⟩] [])
  (.seq (.reg [⟨some 5, .buildSlice 41 0 #[], none⟩,
        ⟨some 3, .assign (.tmp 5), none⟩] [])
  (.seq (.seq (.reg [⟨some 4, .assign (.const (.int .i64 0)), none⟩] [])
    (.block 0 (.loop (.seq (.seq (.reg [⟨some 6, .move (.tmp 4), none⟩,
                ⟨some 7, .move (.tmp 0), none⟩,
                ⟨some 8, .call ⟨.builtin .len, #[.tmp 7], #[41]⟩, none⟩,
                ⟨some 9, .binOp .lss 3 (.tmp 6) (.tmp 8) 3, none⟩] [])
          (.cond (.tmp 9) [] (.skip)
          (.exit 0)))
        (.seq (.block 1 (.reg [⟨some 12, .move (.tmp 3), none⟩,
                ⟨some 13, .move (.tmp 0), none⟩,
                ⟨some 14, .move (.tmp 4), none⟩,
                ⟨some 15, .indexAddr 41 (.tmp 13) (.tmp 14), none⟩,
                ⟨some 16, .load 22 (.tmp 15), none⟩,
                ⟨some 17, .call ⟨.value (.func 11), #[.tmp 16], #[22]⟩, none⟩,
                ⟨some 18, .buildSlice 41 1 #[(0, .tmp 17)], none⟩,
                ⟨some 19, .call ⟨.builtin .append, #[.tmp 12, .tmp 18], #[41, 41]⟩, none⟩,
                ⟨some 3, .assign (.tmp 19), none⟩] []))
        (.reg [⟨some 10, .move (.tmp 4), none⟩,
            ⟨some 11, .binOp .add 3 (.tmp 10) (.const (.int .i64 1)) 3, none⟩,
            ⟨some 4, .assign (.tmp 11), none⟩] []))))))
  (.seq (.reg [⟨some 20, .move (.tmp 3), none⟩,
        ⟨some 2, .assign (.tmp 20), none⟩] [])
  (.ret))))
abbrev r_stanchionref00_CopyRows : List ResultVar := [.tmp 2]
theorem fits_stanchionref00_CopyRows : Fits Try.prog 33 1 c_stanchionref00_CopyRows r_stanchionref00_CopyRows :=
  ⟨_, _, [⟨[], [], [], []⟩, ⟨[], [], [], []⟩, ⟨[], [], [], []⟩, ⟨[], [], [], []⟩, ⟨[], [], [], []⟩, ⟨[], [], [], []⟩, ⟨[], [], [], []⟩, ⟨[], [], [], []⟩], Try.func33, by kernel_rfl, rfl, by kernel_rfl, by kernel_rfl, by decide, rfl⟩

/-! (stanchion/stanchionref04.Disk).Read -/
abbrev n_stanchionref04_Disk_Read : FuncId := 34
def c_stanchionref04_Disk_Read : LC :=
  .seq (.reg [⟨some 2, .box 40 (.tmp 0), none⟩,
        ⟨some 4, .assign (.const (.slice none 0 0)), none⟩,
        ⟨some 5, .assign (.const (.int .i64 0)), none⟩] [])
  (.seq (.seq (.reg [⟨some 6, .move (.tmp 1), none⟩,
          ⟨some 7, .call ⟨.value (.func 38), #[.tmp 6], #[3]⟩, none⟩,
          ⟨some 8, .unOp .not 4 (.tmp 7), none⟩] [])
    (.cond (.tmp 8) [] (.seq (.reg [⟨some 4, .assign (.const (.slice none 0 0)), none⟩,
            ⟨some 5, .assign (.const (.int .i64 41)), none⟩] [])
      (.ret))
    (.skip)))
  (.seq (.reg [⟨some 9, .move (.tmp 1), none⟩,
        ⟨some 10, .fieldAddr 40 (.tmp 2) 1, none⟩,
        ⟨some 11, .indexAddr 37 (.tmp 10) (.tmp 9), none⟩,
        ⟨some 12, .load 22 (.tmp 11), none⟩,
        ⟨some 13, .call ⟨.value (.func 11), #[.tmp 12], #[22]⟩, none⟩,
        ⟨some 4, .assign (.tmp 13), none⟩,
        ⟨some 5, .assign (.const (.int .i64 0)), none⟩] [])
  (.ret)))
abbrev r_stanchionref04_Disk_Read : List ResultVar := [.tmp 4, .tmp 5]
theorem fits_stanchionref04_Disk_Read : Fits Try.prog 34 2 c_stanchionref04_Disk_Read r_stanchionref04_Disk_Read :=
  ⟨_, _, [⟨[], [], [], []⟩, ⟨[], [], [], []⟩, ⟨[], [], [], []⟩, ⟨[], [], [], []⟩, ⟨[], [], [], []⟩], Try.func34, by kernel_rfl, rfl, by kernel_rfl, by kernel_rfl, by decide, rfl⟩

/-! slices.ContainsFunc[[]int,int] -/
abbrev n_slices_ContainsFunc_int_int : FuncId := 35
def c_slices_ContainsFunc_int_int : LC :=
  .seq (.reg [⟨some 4, .assign (.const (.bool false)), none⟩] [])
  (.seq (.reg [⟨some 5, .move (.tmp 0), none⟩,
        ⟨some 6, .move (.tmp 1), none⟩,
        ⟨some 7, .call ⟨.value (.func 40), #[.tmp 5, .tmp 6], #[30, 71]⟩, none⟩,
        ⟨some 8, .binOp .geq 3 (.tmp 7) (.const (.int .i64 0)) 3, none⟩,
        ⟨some 4, .assign (.tmp 8), none⟩] [])
  (.ret))
abbrev r_slices_ContainsFunc_int_int : List ResultVar := [.tmp 4]
theorem fits_slices_ContainsFunc_int_int : Fits Try.prog 35 2 c_slices_ContainsFunc_int_int r_slices_ContainsFunc_int_int :=
  ⟨_, _, [⟨[], [], [], []⟩, ⟨[], [], [], []⟩], Try.func35, by kernel_rfl, rfl, by kernel_rfl, by kernel_rfl, by decide, rfl⟩

/-! stanchion/disk.there$1 -/
abbrev n_disk_there_1 : FuncId := 36
def c_disk_there_1 : LC :=
  .seq (.reg [⟨some 2, .assign (.const (.bool false)), none⟩] [])
  (.seq (.reg [⟨some 3, .move (.tmp 0), none⟩,
        ⟨some 4, .binOp .lss 3 (.tmp 3) (.const (.int .i64 0)) 3, none⟩,
        ⟨some 5, .move (.tmp 4), none⟩,
        ⟨some 6, .move (.tmp 0), some (5, false)⟩,
        ⟨some 7, .binOp .geq 3 (.tmp 6) (.const (.int .i64 2)) 3, some (5, false)⟩,
        ⟨some 8, .pick (.tmp 5) (.const (.bool true)) (.tmp 7), none⟩,
        ⟨some 2, .assign (.tmp 8), none⟩] [])
  (.ret))
abbrev r_disk_there_1 : List ResultVar := [.tmp 2]
theorem fits_disk_there_1 : Fits Try.prog 36 1 c_disk_there_1 r_disk_there_1 :=
  ⟨_, _, [⟨[], [], [], []⟩, ⟨[], [], [], []⟩], Try.func36, by kernel_rfl, rfl, by kernel_rfl, by kernel_rfl, by decide, rfl⟩

/-! slices.Grow[[]byte,byte] -/
abbrev n_slices_Grow_byte_byte : FuncId := 37
def c_slices_Grow_byte_byte : LC :=
  .seq (.reg [⟨some 4, .assign (.const (.slice none 0 0)), none⟩] [])
  (.seq (.seq (.reg [⟨some 5, .move (.tmp 1), none⟩,
          ⟨some 6, .binOp .lss 3 (.tmp 5) (.const (.int .i64 0)) 3, none⟩] [])
    (.cond (.tmp 6) [] (.reg [⟨some 7, .makeInterface 9 (.const (.string ⟨#[99, 97, 110, 110, 111, 116, 32, 98, 101, 32, 110, 101, 103, 97, 116, 105, 118, 101]⟩)), none⟩,
          ⟨none, .panic (.tmp 7), none⟩] [])
    (.skip)))
  (.seq (.seq (.reg [⟨some 8, .move (.tmp 1), none⟩,
          ⟨some 9, .move (.tmp 0), none⟩,
          ⟨some 10, .call ⟨.builtin .cap, #[.tmp 9], #[22]⟩, none⟩,
          ⟨some 11, .move (.tmp 0), none⟩,
          ⟨some 12, .call ⟨.builtin .len, #[.tmp 11], #[22]⟩, none⟩,
          ⟨some 13, .binOp .sub 3 (.tmp 10) (.tmp 12) 3, none⟩,
          ⟨some 14, .binOp .sub 3 (.tmp 8) (.tmp 13) 3, none⟩,
          ⟨some 1, .assign (.tmp 14), none⟩] [])
    (.seq (.reg [⟨some 15, .move (.tmp 1), none⟩,
          ⟨some 16, .binOp .gtr 3 (.tmp 15) (.const (.int .i64 0)) 3, none⟩] [])
    (.cond (.tmp 16) [] (.reg [⟨some 17, .move (.tmp 0), none⟩,
          ⟨some 18, .move (.tmp 0), none⟩,
          ⟨some 19, .call ⟨.builtin .cap, #[.tmp 18], #[22]⟩, none⟩,
          ⟨some 20, .slice 22 (.tmp 17) none (some (.tmp 19)) none, none⟩,
          ⟨some 21, .move (.tmp 1), none⟩,
          ⟨some 22, .call ⟨.builtin .append, #[.tmp 20, .tmp 21], #[22, 3]⟩, none⟩,
          ⟨some 23, .move (.tmp 0), none⟩,
          ⟨some 24, .call ⟨.builtin .len, #[.tmp 23], #[22]⟩, none⟩,
          ⟨some 25, .slice 22 (.tmp 22) none (some (.tmp 24)) none, none⟩,
          ⟨some 0, .assign (.tmp 25), none⟩] [])
    (.skip))))
  (.seq (.reg [⟨some 26, .move (.tmp 0), none⟩,
        ⟨some 4, .assign (.tmp 26), none⟩] [])
  (.ret))))
abbrev r_slices_Grow_byte_byte : List ResultVar := [.tmp 4]
theorem fits_slices_Grow_byte_byte : Fits Try.prog 37 2 c_slices_Grow_byte_byte r_slices_Grow_byte_byte :=
  ⟨_, _, [⟨[], [], [], []⟩, ⟨[], [], [], []⟩, ⟨[], [], [], []⟩, ⟨[], [], [], []⟩, ⟨[], [], [], []⟩, ⟨[], [], [], []⟩, ⟨[], [], [], []⟩, ⟨[], [], [], []⟩, ⟨[], [], [], []⟩], Try.func37, by kernel_rfl, rfl, by kernel_rfl, by kernel_rfl, by decide, rfl⟩

/-! stanchion/stanchionref04.area -/
abbrev n_stanchionref04_area : FuncId := 38
def c_stanchionref04_area : LC :=
  .seq (.reg [⟨some 2, .assign (.const (.bool false)), none⟩] [])
  (.seq (.reg [⟨some 3, .move (.tmp 0), none⟩,
        ⟨some 4, .binOp .eql 3 (.tmp 3) (.const (.int .i64 0)) 3, none⟩,
        ⟨some 5, .move (.tmp 4), none⟩,
        ⟨some 6, .move (.tmp 0), some (5, false)⟩,
        ⟨some 7, .binOp .eql 3 (.tmp 6) (.const (.int .i64 1)) 3, some (5, false)⟩,
        ⟨some 8, .pick (.tmp 5) (.const (.bool true)) (.tmp 7), none⟩,
        ⟨some 2, .assign (.tmp 8), none⟩] [])
  (.ret))
abbrev r_stanchionref04_area : List ResultVar := [.tmp 2]
theorem fits_stanchionref04_area : Fits Try.prog 38 1 c_stanchionref04_area r_stanchionref04_area :=
  ⟨_, _, [⟨[], [], [], []⟩, ⟨[], [], [], []⟩], Try.func38, by kernel_rfl, rfl, by kernel_rfl, by kernel_rfl, by decide, rfl⟩

/-! (stanchion/stanchionref04.Disk).draw -/
abbrev n_stanchionref04_Disk_draw : FuncId := 39
def c_stanchionref04_Disk_draw : LC :=
  .seq (.reg [⟨some 1, .box 40 (.tmp 0), none⟩,
        ⟨some 2, .alloc 40, none⟩,
        ⟨some 3, .assign (.const (.int .i64 0)), none⟩] [])
  (.seq (.seq (.reg [⟨some 4, .fieldAddr 40 (.tmp 1) 0, none⟩,
          ⟨some 5, .load 3 (.tmp 4), none⟩,
          ⟨some 6, .binOp .eql 3 (.tmp 5) (.const (.int .i64 0)) 3, none⟩] [])
    (.cond (.tmp 6) [] (.seq (.reg [⟨some 7, .load 40 (.tmp 1), none⟩,
            ⟨none, .store 40 (.tmp 2) (.tmp 7), none⟩,
            ⟨some 3, .assign (.const (.int .i64 40)), none⟩] [])
      (.ret))
    (.skip)))
  (.seq (.seq (.reg [⟨some 8, .fieldAddr 40 (.tmp 1) 0, none⟩,
          ⟨some 9, .load 3 (.tmp 8), none⟩,
          ⟨some 10, .binOp .gtr 3 (.tmp 9) (.const (.int .i64 0)) 3, none⟩] [])
    (.cond (.tmp 10) [] (.reg [⟨some 11, .fieldAddr 40 (.tmp 1) 0, none⟩,
          ⟨some 12, .load 3 (.tmp 11), none⟩,
          ⟨some 13, .binOp .sub 3 (.tmp 12) (.const (.int .i64 1)) 3, none⟩,
          ⟨some 14, .fieldAddr 40 (.tmp 1) 0, none⟩,
          ⟨none, .store 3 (.tmp 14) (.tmp 13), none⟩] [])
    (.skip)))
  (.seq (.reg [⟨some 15, .load 40 (.tmp 1), none⟩,
        ⟨none, .store 40 (.tmp 2) (.tmp 15), none⟩,
        ⟨some 3, .assign (.const (.int .i64 0)), none⟩] [])
  (.ret))))
abbrev r_stanchionref04_Disk_draw : List ResultVar := [.cell 2 40, .tmp 3]
theorem fits_stanchionref04_Disk_draw : Fits Try.prog 39 1 c_stanchionref04_Disk_draw r_stanchionref04_Disk_draw :=
  ⟨_, _, [⟨[], [], [], []⟩, ⟨[], [], [], []⟩, ⟨[], [], [], []⟩, ⟨[], [], [], []⟩, ⟨[], [], [], []⟩, ⟨[], [], [], []⟩, ⟨[], [], [], []⟩, ⟨[], [], [], []⟩], Try.func39, by kernel_rfl, rfl, by kernel_rfl, by kernel_rfl, by decide, rfl⟩

/-! slices.IndexFunc[[]int,int] -/
abbrev n_slices_IndexFunc_int_int : FuncId := 40
def c_slices_IndexFunc_int_int : LC :=
  .seq (.reg [⟨some 4, .assign (.const (.int .i64 0)), none⟩] [])
  (.seq (.seq (.reg [⟨some 6, .move (.tmp 0), none⟩,
          ⟨some 7, .call ⟨.builtin .len, #[.tmp 6], #[30]⟩, none⟩,
          ⟨some 8, .move (.const (.int .i64 0)), none⟩] [])
    (.block 0 (.loop (.seq (.reg [⟨some 9, .binOp .lss 3 (.tmp 8) (.tmp 7) 3, none⟩] [])
        (.seq (.cond (.tmp 9) [] (.skip)
          (.exit 0))
        (.seq (.block 1 (.seq (.reg [⟨some 10, .move (.tmp 8), none⟩,
                  ⟨some 5, .assign (.tmp 10), none⟩] [])
            (.seq (.reg [⟨some 11, .move (.tmp 1), none⟩,
                  ⟨some 12, .move (.tmp 0), none⟩,
                  ⟨some 13, .move (.tmp 5), none⟩,
                  ⟨some 14, .indexAddr 30 (.tmp 12) (.tmp 13), none⟩,
                  ⟨some 15, .load 3 (.tmp 14), none⟩,
                  ⟨some 16, .call ⟨.value (.tmp 11), #[.tmp 15], #[3]⟩, none⟩] [])
            (.cond (.tmp 16) [] (.seq (.reg [⟨some 17, .move (.tmp 5), none⟩,
                    ⟨some 4, .assign (.tmp 17), none⟩] [])
              (.ret))
            (.skip)))))
        (.reg [⟨some 18, .binOp .add 3 (.tmp 8) (.const (.int .i64 1)) 3, none⟩,
            ⟨some 8, .move (.tmp 18), none⟩] [])))))))
  (.seq (.reg [⟨some 4, .assign (.const (.int .i64 (-1))), none⟩] [])
  (.ret)))
abbrev r_slices_IndexFunc_int_int : List ResultVar := [.tmp 4]
theorem fits_slices_IndexFunc_int_int : Fits Try.prog 40 2 c_slices_IndexFunc_int_int r_slices_IndexFunc_int_int :=
  ⟨_, _, [⟨[], [], [], []⟩, ⟨[], [], [], []⟩, ⟨[], [], [], []⟩, ⟨[], [], [], []⟩, ⟨[], [], [], []⟩, ⟨[], [], [], []⟩, ⟨[], [], [], []⟩, ⟨[], [], [], []⟩, ⟨[], [], [], []⟩, ⟨[], [], [], []⟩], Try.func40, by kernel_rfl, rfl, by kernel_rfl, by kernel_rfl, by decide, rfl⟩

end Go.Proofs.Ythdmpdagkccphaa
