/-
  DERIVED. GIVEN WITH THE SEED: THE CARDS: each row of YtedncpnkbpbchaaDoorRows.lean that lists a variable, with what it lists TIED to the program's text (the seventh form; the later family's looks); each row that meets fmt, with fmt's text TOLD by the authors' own Lean function (tested against real Go, not proved from fmt's source: count such statements apart). THE CARD IS WHAT COUNTS. Prove the row's statement (the work); the ties are given (YtedncpnkbpbchaaDoorTie.lean); close each card by the builder's one call (the guide's Derived/Test/ToyasCard.lean, 'card_holds'). Laid BY PROGRAM, IN A SANDBOX (cutbox-door.mjs). By AI agents, Wed Nov 11 2026. No macro, syntax, notation, axiom, sorry.
-/
import Derived.Test.YtedncpnkbpbchaaDoorRows
import GoSem.ClaimSeven
namespace Go.Proofs.YtedncpnkbpbchaaDoor
namespace Rows

/-- THE TIED CARD OF 'cartouchelaw3.ScalarBytes'. -/
def scalarBytesCard : Claim7 := { stood := { row := scalarBytesRow, standIns := [], harness := (true, "1e50dbde53c976c6c0a6f18858ce11d1d442e885f464443370ab78854f6bb99b"), looks := false }, kinds := [], alts := [], laidByText := true, laidKinds := [.data, .pinned], laidTests := true, laidLooks := .later }
def ScalarBytesCardSaid : Prop := Claim7.holds Tryd.pinned (.plain (OpenSpec.ofChange scalarBytesSpec)) scalarBytesCard

/-- THE TIED CARD OF 'cartouchelaw3.ScalarOrders'. -/
def scalarOrdersCard : Claim7 := { stood := { row := scalarOrdersRow, standIns := [], harness := (true, "1e50dbde53c976c6c0a6f18858ce11d1d442e885f464443370ab78854f6bb99b"), looks := false }, kinds := [], alts := [], laidByText := true, laidKinds := [.data, .pinned], laidTests := true, laidLooks := .later }
def ScalarOrdersCardSaid : Prop := Claim7.holds Tryd.pinned (.plain (OpenSpec.ofChange scalarOrdersSpec)) scalarOrdersCard

/-- THE TIED CARD OF 'cartouchelaw3.ScalarChain'. -/
def scalarChainCard : Claim7 := { stood := { row := scalarChainRow, standIns := [], harness := (true, "1e50dbde53c976c6c0a6f18858ce11d1d442e885f464443370ab78854f6bb99b"), looks := false }, kinds := [], alts := [], laidByText := true, laidKinds := [.data, .pinned], laidTests := true, laidLooks := .later }
def ScalarChainCardSaid : Prop := Claim7.holds Tryd.pinned (.plain (OpenSpec.ofChange scalarChainSpec)) scalarChainCard

/-- THE TIED CARD OF 'cartouchelaw3.ScalarKinds'. -/
def scalarKindsCard : Claim7 := { stood := { row := scalarKindsRow, standIns := [], harness := (true, "1e50dbde53c976c6c0a6f18858ce11d1d442e885f464443370ab78854f6bb99b"), looks := false }, kinds := [], alts := [], laidByText := true, laidKinds := [.data, .listed, .data, .pinned], laidTests := true, laidLooks := .later }
def ScalarKindsCardSaid : Prop := Claim7.holds Tryd.pinned (.plain (OpenSpec.ofChange scalarKindsSpec)) scalarKindsCard

/-- THE SECOND FORM's CARD OF 'cartouchelaw3.ScalarBytes'. -/
def scalarBytesUptoCard : Claim7 := { stood := { row := scalarBytesUptoRow, standIns := [], harness := (true, "1e50dbde53c976c6c0a6f18858ce11d1d442e885f464443370ab78854f6bb99b"), looks := false }, kinds := [], alts := [], laidByText := true, laidKinds := [.data, .pinned], laidTests := true, laidLooks := .later }
def ScalarBytesUptoCardSaid : Prop := Claim7.holds Tryd.pinned (.plain (OpenSpec.upto scalarBytesSpec)) scalarBytesUptoCard

/-- THE SECOND FORM's CARD OF 'cartouchelaw3.ScalarOrders'. -/
def scalarOrdersUptoCard : Claim7 := { stood := { row := scalarOrdersUptoRow, standIns := [], harness := (true, "1e50dbde53c976c6c0a6f18858ce11d1d442e885f464443370ab78854f6bb99b"), looks := false }, kinds := [], alts := [], laidByText := true, laidKinds := [.data, .pinned], laidTests := true, laidLooks := .later }
def ScalarOrdersUptoCardSaid : Prop := Claim7.holds Tryd.pinned (.plain (OpenSpec.upto scalarOrdersSpec)) scalarOrdersUptoCard

/-- THE SECOND FORM's CARD OF 'cartouchelaw3.ScalarChain'. -/
def scalarChainUptoCard : Claim7 := { stood := { row := scalarChainUptoRow, standIns := [], harness := (true, "1e50dbde53c976c6c0a6f18858ce11d1d442e885f464443370ab78854f6bb99b"), looks := false }, kinds := [], alts := [], laidByText := true, laidKinds := [.data, .pinned], laidTests := true, laidLooks := .later }
def ScalarChainUptoCardSaid : Prop := Claim7.holds Tryd.pinned (.plain (OpenSpec.upto scalarChainSpec)) scalarChainUptoCard

/-- THE SECOND FORM's CARD OF 'cartouchelaw3.ScalarKinds'. -/
def scalarKindsUptoCard : Claim7 := { stood := { row := scalarKindsUptoRow, standIns := [], harness := (true, "1e50dbde53c976c6c0a6f18858ce11d1d442e885f464443370ab78854f6bb99b"), looks := false }, kinds := [], alts := [], laidByText := true, laidKinds := [.data, .listed, .data, .pinned], laidTests := true, laidLooks := .later }
def ScalarKindsUptoCardSaid : Prop := Claim7.holds Tryd.pinned (.plain (OpenSpec.upto scalarKindsSpec)) scalarKindsUptoCard
end Rows
end Go.Proofs.YtedncpnkbpbchaaDoor
