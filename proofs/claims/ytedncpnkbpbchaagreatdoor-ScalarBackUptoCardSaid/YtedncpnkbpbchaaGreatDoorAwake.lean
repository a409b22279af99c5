/-
  The laws' own first sentence, by evaluation.
-/
import Derived.Test.YtedncpnkbpbchaaGreatDoorFns
import Derived.Test.YtedncpnkbpbchaaGreatDoorViSet
set_option linter.unusedVariables false
set_option maxRecDepth 100000
namespace Go.Proofs.YtedncpnkbpbchaaGreatDoor
open Go.Vi
theorem awake_run : call M 10000 n_law3_awake [] = some (.d (.bool true)) := by kernel_rfl
theorem awake_data : C M 5 [] = some (.d (.bool true)) := C_call awake_run
end Go.Proofs.YtedncpnkbpbchaaGreatDoor
