/-
  DERIVED. GIVEN WITH THE SEED: THE CARDS: each row of YtedncpnkbpbchaaGreatDoorRows.lean that lists a variable, with what it lists TIED to the program's text (the seventh form; the later family's looks); each row that meets fmt, with fmt's text TOLD by the authors' own Lean function (tested against real Go, not proved from fmt's source: count such statements apart). THE CARD IS WHAT COUNTS. Prove the row's statement (the work); the ties are given (YtedncpnkbpbchaaGreatDoorTie.lean); close each card by the builder's one call (the guide's Derived/Test/ToyasCard.lean, 'card_holds'). Laid BY PROGRAM, IN A SANDBOX (cutbox-door.mjs). By AI agents, Wed Nov 11 2026. No macro, syntax, notation, axiom, sorry.
-/
import Derived.Test.YtedncpnkbpbchaaGreatDoorRows
import GoSem.ClaimSeven
namespace Go.Proofs.YtedncpnkbpbchaaGreatDoor
namespace Rows

/-- THE TIED CARD OF 'cartouchelaw3.ScalarBack'. -/
def scalarBackCard : Claim7 := { stood := { row := scalarBackRow, standIns := [], harness := (true, "f5e238fe0666ef07c7a13e5d6ef2c2c16daa2cca18656547dd64927ccab2cb52"), looks := true }, kinds := [], alts := [], laidByText := true, laidKinds := [.data, .data, .data, .data, .sentinel, .sentinel, .listed, .data, .pinned], laidTests := true, laidLooks := .later }
def ScalarBackCardSaid : Prop := Claim7.holds Tryz.pinned (.plain (OpenSpec.ofChange scalarBackSpec)) scalarBackCard

/-- THE TIED CARD OF 'cartouchelaw3.ScalarKnown'. -/
def scalarKnownCard : Claim7 := { stood := { row := scalarKnownRow, standIns := [], harness := (true, "f5e238fe0666ef07c7a13e5d6ef2c2c16daa2cca18656547dd64927ccab2cb52"), looks := true }, kinds := [], alts := [], laidByText := true, laidKinds := [.data, .data, .data, .data, .sentinel, .sentinel, .listed, .data, .pinned], laidTests := true, laidLooks := .later }
def ScalarKnownCardSaid : Prop := Claim7.holds Tryz.pinned (.plain (OpenSpec.ofChange scalarKnownSpec)) scalarKnownCard

/-- THE SECOND FORM's CARD OF 'cartouchelaw3.ScalarBack'. -/
def scalarBackUptoCard : Claim7 := { stood := { row := scalarBackUptoRow, standIns := [], harness := (true, "f5e238fe0666ef07c7a13e5d6ef2c2c16daa2cca18656547dd64927ccab2cb52"), looks := true }, kinds := [], alts := [], laidByText := true, laidKinds := [.data, .data, .data, .data, .sentinel, .sentinel, .listed, .data, .pinned], laidTests := true, laidLooks := .later }
def ScalarBackUptoCardSaid : Prop := Claim7.holds Tryz.pinned (.plain (OpenSpec.upto scalarBackSpec)) scalarBackUptoCard

/-- THE SECOND FORM's CARD OF 'cartouchelaw3.ScalarKnown'. -/
def scalarKnownUptoCard : Claim7 := { stood := { row := scalarKnownUptoRow, standIns := [], harness := (true, "f5e238fe0666ef07c7a13e5d6ef2c2c16daa2cca18656547dd64927ccab2cb52"), looks := true }, kinds := [], alts := [], laidByText := true, laidKinds := [.data, .data, .data, .data, .sentinel, .sentinel, .listed, .data, .pinned], laidTests := true, laidLooks := .later }
def ScalarKnownUptoCardSaid : Prop := Claim7.holds Tryz.pinned (.plain (OpenSpec.upto scalarKnownSpec)) scalarKnownUptoCard
end Rows
end Go.Proofs.YtedncpnkbpbchaaGreatDoor
