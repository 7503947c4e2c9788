/- The program's variables that are never written: none is read here. -/
import Derived.Test.YtndhdojnlobloaaSxA
set_option linter.unusedSectionVars false
set_option linter.unusedSimpArgs false
set_option linter.unusedVariables false
namespace Go.Sx
instance globs : Globs := { tab := fun _ => none }
end Go.Sx
