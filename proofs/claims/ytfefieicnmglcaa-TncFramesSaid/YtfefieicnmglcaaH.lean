/- The laws of the gate, walked: the examples, and what a gate that is not there does. -/
import Derived.Test.YtfefieicnmglcaaG
namespace Go.Proofs.Ytfefieicnmglcaa
open Go.Lg
set_option maxRecDepth 8000
set_option linter.unusedSimpArgs false
set_option linter.unnecessarySimpa false
set_option linter.unusedVariables false

theorem awake17 (m : Mem) : Ret Try.prog 13 [] m (.bool true) m := run_alone tab_ok (n := 100) (d := 20) (by kernel_rfl) rfl rfl m
theorem awake03 (m : Mem) : Ret Try.prog 18 [] m (.bool true) m := run_alone tab_ok (n := 100) (d := 20) (by kernel_rfl) rfl rfl m
theorem awake06 (m : Mem) : Ret Try.prog 26 [] m (.bool true) m := run_alone tab_ok (n := 100) (d := 20) (by kernel_rfl) rfl rfl m
end Go.Proofs.Ytfefieicnmglcaa
