/- The contracts of functions that the machine itself answers. -/
import Derived.Test.YtndhdojnlobloaaSb
set_option linter.unusedSectionVars false
set_option linter.unusedSimpArgs false
set_option linter.unusedVariables false
namespace Go.Sh
open Go Go.Proofs Go.RowKit Go.Sx
abbrev sp_116 : Specs → Specs := addK 116 true (bitsS .f32 .u32)
theorem sp_116_ok {sp : Specs} (h : SpecsOK Try.prog sp) : SpecsOK Try.prog (sp_116 sp) :=
  addK_ok (bits_ok (fn := Try.f116) (g := Extern.MathFloatBits.float32bits) Try.func116 (by kernel_rfl) (by kernel_rfl) (by kernel_rfl) (by kernel_rfl) fun _ => rfl) h
end Go.Sh
