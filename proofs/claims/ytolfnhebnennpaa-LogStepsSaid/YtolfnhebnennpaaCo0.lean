import Derived.Test.YtolfnhebnennpaaTa
set_option linter.unusedVariables false
namespace Go.Proofs.Ytolfnhebnennpaa
open Go.Al
abbrev n_slices_Clone_byte_byte : FuncId := 42
def c_slices_Clone_byte_byte : LC :=
 .seq (.reg [⟨some 2, .assign (.const (.slice none 0 0)), none⟩] [])
 (.seq (.seq (.reg [⟨some 3, .move (.tmp 0), none⟩,
     ⟨some 4, .binOp .eql 37 (.tmp 3) (.const (.slice none 0 0)) 37, none⟩] [])
  (.cond (.tmp 4) [] (.seq (.reg [⟨some 2, .assign (.const (.slice none 0 0)), none⟩] [])
   (.ret))
  (.skip)))
 (.seq (.reg [⟨some 5, .buildSlice 37 0 #[], none⟩,
    ⟨some 6, .move (.tmp 0), none⟩,
    ⟨some 7, .call ⟨.builtin .append, #[.tmp 5, .tmp 6], #[37, 37]⟩, none⟩,
    ⟨some 2, .assign (.tmp 7), none⟩] [])
 (.ret)))
abbrev r_slices_Clone_byte_byte : List ResultVar := [.tmp 2]
theorem fits_slices_Clone_byte_byte : Fits Try.prog 42 1 c_slices_Clone_byte_byte r_slices_Clone_byte_byte :=
 ⟨_, _, [⟨[], [], [], []⟩, ⟨[], [], [], []⟩, ⟨[], [], [], []⟩, ⟨[], [], [], []⟩, ⟨[], [], [], []⟩], Try.func42, by kernel_rfl, rfl, by kernel_rfl, by kernel_rfl, by decide, rfl⟩
end Go.Proofs.Ytolfnhebnennpaa
