/-
  DERIVED. GIVEN WITH THE SEED: THE CARDS: each row of YtladdhfkmnhmfaaDoorRows.lean that lists a variable, with what it lists TIED to the program's text (the seventh form; the later family's looks); each row that meets fmt, with fmt's text TOLD by the authors' own Lean function (tested against real Go, not proved from fmt's source: count such statements apart). THE CARD IS WHAT COUNTS. Prove the row's statement (the work); the ties are given (YtladdhfkmnhmfaaDoorTie.lean); close each card by the builder's one call (the guide's Derived/Test/ToyasCard.lean, 'card_holds'). Laid BY PROGRAM, IN A SANDBOX (cutbox-door.mjs). By AI agents, Wed Nov 11 2026. No macro, syntax, notation, axiom, sorry.
-/
import Derived.Test.YtladdhfkmnhmfaaDoorRows
import GoSem.ClaimSeven
namespace Go.Proofs.YtladdhfkmnhmfaaDoor
namespace Rows

/-- THE TIED CARD OF 'cartouchelaw2.QuoteTexts'. -/
def quoteTextsCard : Claim7 := { stood := { row := quoteTextsRow, standIns := [], harness := (true, "981a17c36072140dc6941ec0c7d7ae1328fad21b28fdc24167a0a7295b3014d2"), looks := false }, kinds := [], alts := [], laidByText := true, laidKinds := [.data, .pinned], laidTests := true, laidLooks := .later }
def QuoteTextsCardSaid : Prop := Claim7.holds Tryd.pinned (.plain (OpenSpec.ofChange quoteTextsSpec)) quoteTextsCard

/-- THE TIED CARD OF 'cartouchelaw2.QuoteKnown'. -/
def quoteKnownCard : Claim7 := { stood := { row := quoteKnownRow, standIns := [], harness := (true, "981a17c36072140dc6941ec0c7d7ae1328fad21b28fdc24167a0a7295b3014d2"), looks := false }, kinds := [], alts := [], laidByText := true, laidKinds := [.data, .pinned], laidTests := true, laidLooks := .later }
def QuoteKnownCardSaid : Prop := Claim7.holds Tryd.pinned (.plain (OpenSpec.ofChange quoteKnownSpec)) quoteKnownCard

/-- THE TIED CARD OF 'cartouchelaw2.QuoteRunes'. -/
def quoteRunesCard : Claim7 := { stood := { row := quoteRunesRow, standIns := [], harness := (true, "981a17c36072140dc6941ec0c7d7ae1328fad21b28fdc24167a0a7295b3014d2"), looks := false }, kinds := [], alts := [], laidByText := true, laidKinds := [.data, .pinned], laidTests := true, laidLooks := .later }
def QuoteRunesCardSaid : Prop := Claim7.holds Tryd.pinned (.plain (OpenSpec.ofChange quoteRunesSpec)) quoteRunesCard

/-- THE TIED CARD OF 'cartouchelaw2.QuoteBack'. -/
def quoteBackCard : Claim7 := { stood := { row := quoteBackRow, standIns := [], harness := (true, "981a17c36072140dc6941ec0c7d7ae1328fad21b28fdc24167a0a7295b3014d2"), looks := false }, kinds := [], alts := [], laidByText := true, laidKinds := [.data, .pinned], laidTests := true, laidLooks := .later }
def QuoteBackCardSaid : Prop := Claim7.holds Tryd.pinned (.plain (OpenSpec.ofChange quoteBackSpec)) quoteBackCard

/-- THE SECOND FORM's CARD OF 'cartouchelaw2.QuoteTexts'. -/
def quoteTextsUptoCard : Claim7 := { stood := { row := quoteTextsUptoRow, standIns := [], harness := (true, "981a17c36072140dc6941ec0c7d7ae1328fad21b28fdc24167a0a7295b3014d2"), looks := false }, kinds := [], alts := [], laidByText := true, laidKinds := [.data, .pinned], laidTests := true, laidLooks := .later }
def QuoteTextsUptoCardSaid : Prop := Claim7.holds Tryd.pinned (.plain (OpenSpec.upto quoteTextsSpec)) quoteTextsUptoCard

/-- THE SECOND FORM's CARD OF 'cartouchelaw2.QuoteKnown'. -/
def quoteKnownUptoCard : Claim7 := { stood := { row := quoteKnownUptoRow, standIns := [], harness := (true, "981a17c36072140dc6941ec0c7d7ae1328fad21b28fdc24167a0a7295b3014d2"), looks := false }, kinds := [], alts := [], laidByText := true, laidKinds := [.data, .pinned], laidTests := true, laidLooks := .later }
def QuoteKnownUptoCardSaid : Prop := Claim7.holds Tryd.pinned (.plain (OpenSpec.upto quoteKnownSpec)) quoteKnownUptoCard

/-- THE SECOND FORM's CARD OF 'cartouchelaw2.QuoteRunes'. -/
def quoteRunesUptoCard : Claim7 := { stood := { row := quoteRunesUptoRow, standIns := [], harness := (true, "981a17c36072140dc6941ec0c7d7ae1328fad21b28fdc24167a0a7295b3014d2"), looks := false }, kinds := [], alts := [], laidByText := true, laidKinds := [.data, .pinned], laidTests := true, laidLooks := .later }
def QuoteRunesUptoCardSaid : Prop := Claim7.holds Tryd.pinned (.plain (OpenSpec.upto quoteRunesSpec)) quoteRunesUptoCard

/-- THE SECOND FORM's CARD OF 'cartouchelaw2.QuoteBack'. -/
def quoteBackUptoCard : Claim7 := { stood := { row := quoteBackUptoRow, standIns := [], harness := (true, "981a17c36072140dc6941ec0c7d7ae1328fad21b28fdc24167a0a7295b3014d2"), looks := false }, kinds := [], alts := [], laidByText := true, laidKinds := [.data, .pinned], laidTests := true, laidLooks := .later }
def QuoteBackUptoCardSaid : Prop := Claim7.holds Tryd.pinned (.plain (OpenSpec.upto quoteBackSpec)) quoteBackUptoCard
end Rows
end Go.Proofs.YtladdhfkmnhmfaaDoor
