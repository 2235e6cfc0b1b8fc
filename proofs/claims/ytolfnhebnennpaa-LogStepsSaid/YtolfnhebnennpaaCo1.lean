import Derived.Test.YtolfnhebnennpaaTa
set_option linter.unusedVariables false
namespace Go.Proofs.Ytolfnhebnennpaa
open Go.Al
abbrev n_slices_Grow_byte_byte : FuncId := 64
def c_slices_Grow_byte_byte : LC :=
 .seq (.reg [⟨some 4, .assign (.const (.slice none 0 0)), none⟩] [])
 (.seq (.seq (.reg [⟨some 5, .move (.tmp 1), none⟩,
     ⟨some 6, .binOp .lss 3 (.tmp 5) (.const (.int .i64 0)) 3, none⟩] [])
  (.cond (.tmp 6) [] (.reg [⟨some 7, .makeInterface 9 (.const (.string ⟨#[99, 97, 110, 110, 111, 116, 32, 98, 101, 32, 110, 101, 103, 97, 116, 105, 118, 101]⟩)), none⟩,
     ⟨none, .panic (.tmp 7), none⟩] [])
  (.skip)))
 (.seq (.seq (.reg [⟨some 8, .move (.tmp 1), none⟩,
     ⟨some 9, .move (.tmp 0), none⟩,
     ⟨some 10, .call ⟨.builtin .cap, #[.tmp 9], #[37]⟩, none⟩,
     ⟨some 11, .move (.tmp 0), none⟩,
     ⟨some 12, .call ⟨.builtin .len, #[.tmp 11], #[37]⟩, none⟩,
     ⟨some 13, .binOp .sub 3 (.tmp 10) (.tmp 12) 3, none⟩,
     ⟨some 14, .binOp .sub 3 (.tmp 8) (.tmp 13) 3, none⟩,
     ⟨some 1, .assign (.tmp 14), none⟩] [])
  (.seq (.reg [⟨some 15, .move (.tmp 1), none⟩,
     ⟨some 16, .binOp .gtr 3 (.tmp 15) (.const (.int .i64 0)) 3, none⟩] [])
  (.cond (.tmp 16) [] (.reg [⟨some 17, .move (.tmp 0), none⟩,
     ⟨some 18, .move (.tmp 0), none⟩,
     ⟨some 19, .call ⟨.builtin .cap, #[.tmp 18], #[37]⟩, none⟩,
     ⟨some 20, .slice 37 (.tmp 17) none (some (.tmp 19)) none, none⟩,
     ⟨some 21, .move (.tmp 1), none⟩,
     ⟨some 22, .call ⟨.builtin .append, #[.tmp 20, .tmp 21], #[37, 3]⟩, none⟩,
     ⟨some 23, .move (.tmp 0), none⟩,
     ⟨some 24, .call ⟨.builtin .len, #[.tmp 23], #[37]⟩, none⟩,
     ⟨some 25, .slice 37 (.tmp 22) none (some (.tmp 24)) none, none⟩,
     ⟨some 0, .assign (.tmp 25), none⟩] [])
  (.skip))))
 (.seq (.reg [⟨some 26, .move (.tmp 0), none⟩,
    ⟨some 4, .assign (.tmp 26), none⟩] [])
 (.ret))))
abbrev r_slices_Grow_byte_byte : List ResultVar := [.tmp 4]
theorem fits_slices_Grow_byte_byte : Fits Try.prog 64 2 c_slices_Grow_byte_byte r_slices_Grow_byte_byte :=
 ⟨_, _, [⟨[], [], [], []⟩, ⟨[], [], [], []⟩, ⟨[], [], [], []⟩, ⟨[], [], [], []⟩, ⟨[], [], [], []⟩, ⟨[], [], [], []⟩, ⟨[], [], [], []⟩, ⟨[], [], [], []⟩, ⟨[], [], [], []⟩], Try.func64, by kernel_rfl, rfl, by kernel_rfl, by kernel_rfl, by decide, rfl⟩
end Go.Proofs.Ytolfnhebnennpaa
