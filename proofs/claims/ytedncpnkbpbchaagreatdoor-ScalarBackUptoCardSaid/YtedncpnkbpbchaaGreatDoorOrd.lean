/-
  Keys against keys, and the laws ScalarOrders and ScalarChain: over data.
-/
import Derived.Test.YtedncpnkbpbchaaGreatDoorKind
set_option linter.unusedVariables false
set_option linter.unusedSimpArgs false
set_option maxRecDepth 100000
set_option maxHeartbeats 8000000
namespace Go.Proofs.YtedncpnkbpbchaaGreatDoor
open Go.Vi


/-! ### Orders -/
/-! ### Keys -/
/-! ### An order -/
def sameB (n : Int) (b : List UInt8) (ms : List D) (n' : Int) (b' : List UInt8) (ms' : List D) : Bool := decide (n = n') && decide (b = b') && decide (ms.length = 0) && decide (ms'.length = 0)
end Go.Proofs.YtedncpnkbpbchaaGreatDoor
