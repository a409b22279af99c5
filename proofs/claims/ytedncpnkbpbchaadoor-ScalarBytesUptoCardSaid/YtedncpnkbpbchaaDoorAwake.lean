/-
  The laws' own first sentence, by evaluation.
-/
import Derived.Test.YtedncpnkbpbchaaDoorFns
import Derived.Test.YtedncpnkbpbchaaDoorViSet
set_option linter.unusedVariables false
set_option maxRecDepth 100000
namespace Go.Proofs.YtedncpnkbpbchaaDoor
open Go.Vi
theorem awake_run (k : Bool) : call (M k) 10000 n_law3_awake [] = some (.d (.bool true)) := by kernel_rfl
theorem awake_data {k : Bool} : C (M k) 10 [] = some (.d (.bool true)) := C_call (awake_run k)
end Go.Proofs.YtedncpnkbpbchaaDoor
