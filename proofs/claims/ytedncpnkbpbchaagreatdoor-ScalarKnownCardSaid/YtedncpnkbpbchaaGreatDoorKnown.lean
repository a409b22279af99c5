/-
  ScalarKnown over data, by evaluation.
-/
import Derived.Test.YtedncpnkbpbchaaGreatDoorFns
set_option maxRecDepth 100000
namespace Go.Proofs.YtedncpnkbpbchaaGreatDoor
open Go.Vi
theorem known_run : call M 10000 n_law3_ScalarKnown [] = some (.d (.bool true)) := by kernel_rfl
theorem known_data : C M n_law3_ScalarKnown [] = some (.d (.bool true)) := C_call known_run
end Go.Proofs.YtedncpnkbpbchaaGreatDoor
