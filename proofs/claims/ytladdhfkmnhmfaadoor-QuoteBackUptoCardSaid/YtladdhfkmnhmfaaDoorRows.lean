/-
  NARROWER THAN 'FOR EVERY INPUT', by the rows' own cells (each row's printed sentence says how): QuoteTexts: laid · QuoteKnown: laid · QuoteRunes: laid · QuoteBack: laid.
  DERIVED. THE GIVEN ROWS OF THIS SEAT. 4 by the template 'for every input the law returns true; each argument reads behind the call as it read before'; 0 by the template 'total and deterministic' (their statements: YtladdhfkmnhmfaaDoorTotals.lean).
  GIVEN WITH THE SEED: the statements are not yours to turn. If you find one false, say at which input.
  Laid BY PROGRAM, IN A SANDBOX (cutbox-rows.mjs): the forced cells as the released guide's own fill.sh prints them over the translation 1cd3e322b40c5599… (all of the seat's roots in one cut). By AI agents, Wed Nov 11 2026. No macro, syntax, notation, axiom, sorry.
-/
import Derived.Test.YtladdhfkmnhmfaaDoorChecked
import GoSem.PinnedTables
import GoSem.Claim
import GoSem.ClaimJoined
import GoSem.ClaimMapViews
import Derived.JoinedTies
import Derived.KernelRfl
namespace Go.Proofs.YtladdhfkmnhmfaaDoor
/- THE CELL 'sum', in the pinned program and in every row, IS THE sha256 OF THE DUMP (.gsa) THAT YtladdhfkmnhmfaaDoorProg.lean LOADS. Nothing in Lean hashes anything: it is a label: what it is worth is what the hold of that sum in a sandbox is worth. -/
noncomputable def Tryd.pinned : Pinned := { name := "ytladdhfkmnhmfaadoor", sum := "1cd3e322b40c559981a2e960e3b1b160ade713b2e43af293dc7557883a02eb5a", checked := Tryd.checked }
namespace Rows
def none {H : Type} : Left H := { results := [], args := [] }

/- WHAT THE LISTED PACKAGE-LEVEL VARIABLES READ AS WHEN THE CALL BEGINS. Each datum BY PROGRAM (the guide's laid-datum.mjs) off the statement by which the dump's own 'gosem.cut.vars' lays the variable. In a bare row this is a premise. The card (YtladdhfkmnhmfaaDoorCards.lean) ties it to the program's text. -/
def laid_unicode_utf8_acceptRanges {H : Type} : DataW H := .agg [.agg [.lit (.int .u8 128), .lit (.int .u8 191)], .agg [.lit (.int .u8 160), .lit (.int .u8 191)], .agg [.lit (.int .u8 128), .lit (.int .u8 159)], .agg [.lit (.int .u8 144), .lit (.int .u8 191)], .agg [.lit (.int .u8 128), .lit (.int .u8 143)], .agg [.lit (.int .u8 0), .lit (.int .u8 0)], .agg [.lit (.int .u8 0), .lit (.int .u8 0)], .agg [.lit (.int .u8 0), .lit (.int .u8 0)], .agg [.lit (.int .u8 0), .lit (.int .u8 0)], .agg [.lit (.int .u8 0), .lit (.int .u8 0)], .agg [.lit (.int .u8 0), .lit (.int .u8 0)], .agg [.lit (.int .u8 0), .lit (.int .u8 0)], .agg [.lit (.int .u8 0), .lit (.int .u8 0)], .agg [.lit (.int .u8 0), .lit (.int .u8 0)], .agg [.lit (.int .u8 0), .lit (.int .u8 0)], .agg [.lit (.int .u8 0), .lit (.int .u8 0)]]
/-- One of Go's own tables, pinned by name: the form's constant. -/
def laid_unicode_utf8_first : DataW Unit := Go.Pinned.utf8First

/-- 'cartouchelaw2.QuoteTexts': WHATEVER THE INPUT: true; the input reads as it did. -/
def quoteTextsSpec : ChangeSpec := { name := "quoteTexts", fn := fun _ => fun
  | [d1, d2] => { results := [.lit (.bool true)], args := [d1, d2] }
  | _ => none }
def quoteTextsRow : OpenClaim := { program := "ytladdhfkmnhmfaadoor", sum := "1cd3e322b40c559981a2e960e3b1b160ade713b2e43af293dc7557883a02eb5a", func := "cartouche/cartouchelaw2.QuoteTexts", spec := "quoteTexts", named := ["unicode/utf8.first", "unicode/utf8.acceptRanges"], apart := false, laid := [("unicode/utf8.acceptRanges", laid_unicode_utf8_acceptRanges), ("unicode/utf8.first", laid_unicode_utf8_first)] }
def QuoteTextsSaid : Prop := quoteTextsRow.holds Tryd.pinned (OpenSpec.ofChange quoteTextsSpec)

/-- ITS FALSE NEIGHBOUR: 'it returns false'. Refute it at one input. -/
def quoteTextsWrong : ChangeSpec := { name := "quoteTexts", fn := fun _ => fun
  | [d1, d2] => { results := [.lit (.bool false)], args := [d1, d2] }
  | _ => none }
def QuoteTextsWrongFalsely : Prop := quoteTextsRow.holds Tryd.pinned (OpenSpec.ofChange quoteTextsWrong)

/-- 'cartouchelaw2.QuoteKnown': WHATEVER THE INPUT: true; the input reads as it did. -/
def quoteKnownSpec : ChangeSpec := { name := "quoteKnown", fn := fun _ => fun
  | [] => { results := [.lit (.bool true)], args := [] }
  | _ => none }
def quoteKnownRow : OpenClaim := { program := "ytladdhfkmnhmfaadoor", sum := "1cd3e322b40c559981a2e960e3b1b160ade713b2e43af293dc7557883a02eb5a", func := "cartouche/cartouchelaw2.QuoteKnown", spec := "quoteKnown", named := ["unicode/utf8.first", "unicode/utf8.acceptRanges"], apart := false, laid := [("unicode/utf8.acceptRanges", laid_unicode_utf8_acceptRanges), ("unicode/utf8.first", laid_unicode_utf8_first)] }
def QuoteKnownSaid : Prop := quoteKnownRow.holds Tryd.pinned (OpenSpec.ofChange quoteKnownSpec)

/-- ITS FALSE NEIGHBOUR: 'it returns false'. Refute it at one input. -/
def quoteKnownWrong : ChangeSpec := { name := "quoteKnown", fn := fun _ => fun
  | [] => { results := [.lit (.bool false)], args := [] }
  | _ => none }
def QuoteKnownWrongFalsely : Prop := quoteKnownRow.holds Tryd.pinned (OpenSpec.ofChange quoteKnownWrong)

/-- 'cartouchelaw2.QuoteRunes': WHATEVER THE INPUT: true; the input reads as it did. -/
def quoteRunesSpec : ChangeSpec := { name := "quoteRunes", fn := fun _ => fun
  | [d] => { results := [.lit (.bool true)], args := [d] }
  | _ => none }
def quoteRunesRow : OpenClaim := { program := "ytladdhfkmnhmfaadoor", sum := "1cd3e322b40c559981a2e960e3b1b160ade713b2e43af293dc7557883a02eb5a", func := "cartouche/cartouchelaw2.QuoteRunes", spec := "quoteRunes", named := ["unicode/utf8.first", "unicode/utf8.acceptRanges"], apart := false, laid := [("unicode/utf8.acceptRanges", laid_unicode_utf8_acceptRanges), ("unicode/utf8.first", laid_unicode_utf8_first)] }
def QuoteRunesSaid : Prop := quoteRunesRow.holds Tryd.pinned (OpenSpec.ofChange quoteRunesSpec)

/-- ITS FALSE NEIGHBOUR: 'it returns false'. Refute it at one input. -/
def quoteRunesWrong : ChangeSpec := { name := "quoteRunes", fn := fun _ => fun
  | [d] => { results := [.lit (.bool false)], args := [d] }
  | _ => none }
def QuoteRunesWrongFalsely : Prop := quoteRunesRow.holds Tryd.pinned (OpenSpec.ofChange quoteRunesWrong)

/-- 'cartouchelaw2.QuoteBack': WHATEVER THE INPUT: true; the input reads as it did. -/
def quoteBackSpec : ChangeSpec := { name := "quoteBack", fn := fun _ => fun
  | [d1, d2] => { results := [.lit (.bool true)], args := [d1, d2] }
  | _ => none }
def quoteBackRow : OpenClaim := { program := "ytladdhfkmnhmfaadoor", sum := "1cd3e322b40c559981a2e960e3b1b160ade713b2e43af293dc7557883a02eb5a", func := "cartouche/cartouchelaw2.QuoteBack", spec := "quoteBack", named := ["unicode/utf8.first", "unicode/utf8.acceptRanges"], apart := false, laid := [("unicode/utf8.acceptRanges", laid_unicode_utf8_acceptRanges), ("unicode/utf8.first", laid_unicode_utf8_first)] }
def QuoteBackSaid : Prop := quoteBackRow.holds Tryd.pinned (OpenSpec.ofChange quoteBackSpec)

/-- ITS FALSE NEIGHBOUR: 'it returns false'. Refute it at one input. -/
def quoteBackWrong : ChangeSpec := { name := "quoteBack", fn := fun _ => fun
  | [d1, d2] => { results := [.lit (.bool false)], args := [d1, d2] }
  | _ => none }
def QuoteBackWrongFalsely : Prop := quoteBackRow.holds Tryd.pinned (OpenSpec.ofChange quoteBackWrong)

/- THE SECOND FORM. 'bulk': how many values and letters a reading holds, each counted each time it is reached (what is shared counts as often as it is met; a slice's spare places count too). A statement '..UptoSaid' is the law's where the arguments, and the package variables that the reading takes, are together of bulk at most 1048576: NARROWER than '..Said'. Prove '..Said' where nothing that the law and all that it calls make is longer than what came in: it says more and counts as full. Else prove '..UptoSaid'. A law counts once. -/
mutual
def uptoBulk {H : Type} : DataW H → Nat
  | .lit (.string bytes) => bytes.length + 1
  | .lit _ => 1
  | .nil => 1
  | .ptr d => uptoBulk d + 1
  | .slice elems spare => uptoBulkAll elems + uptoBulkAll spare + 1
  | .agg parts => uptoBulkAll parts + 1
  | .iface _ d => uptoBulk d + 1
  | .map entries => uptoBulkEntries entries + 1
  | .held _ => 1
def uptoBulkAll {H : Type} : List (DataW H) → Nat
  | [] => 0
  | d :: r => uptoBulk d + uptoBulkAll r
def uptoBulkEntries {H : Type} : List (Lit × DataW H) → Nat
  | [] => 0
  | x :: r => uptoBulkEntry x + uptoBulkEntries r
def uptoBulkEntry {H : Type} : Lit × DataW H → Nat
  | (.string bytes, d) => bytes.length + uptoBulk d + 1
  | (_, d) => uptoBulk d + 1
 end
def uptoSmall : (H : Type) → List (DataW H) → Bool := fun _ ds => decide (uptoBulkAll ds ≤ 1048576)
def OpenSpec.upto (s : _root_.Go.ChangeSpec) : _root_.Go.OpenSpec := { _root_.Go.OpenSpec.ofChange s with cond := some uptoSmall }

/-- 'cartouchelaw2.QuoteTexts', WHERE WHAT IT READS IS OF BULK AT MOST 1048576: true; the input reads as it did. -/
def quoteTextsUptoRow : OpenClaim := { program := "ytladdhfkmnhmfaadoor", sum := "1cd3e322b40c559981a2e960e3b1b160ade713b2e43af293dc7557883a02eb5a", func := "cartouche/cartouchelaw2.QuoteTexts", spec := "quoteTexts", named := ["unicode/utf8.first", "unicode/utf8.acceptRanges"], apart := false, laid := [("unicode/utf8.acceptRanges", laid_unicode_utf8_acceptRanges), ("unicode/utf8.first", laid_unicode_utf8_first)], narrowed := true }
def QuoteTextsUptoSaid : Prop := quoteTextsUptoRow.holds Tryd.pinned (OpenSpec.upto quoteTextsSpec)

/-- 'cartouchelaw2.QuoteKnown', WHERE WHAT IT READS IS OF BULK AT MOST 1048576: true; the input reads as it did. -/
def quoteKnownUptoRow : OpenClaim := { program := "ytladdhfkmnhmfaadoor", sum := "1cd3e322b40c559981a2e960e3b1b160ade713b2e43af293dc7557883a02eb5a", func := "cartouche/cartouchelaw2.QuoteKnown", spec := "quoteKnown", named := ["unicode/utf8.first", "unicode/utf8.acceptRanges"], apart := false, laid := [("unicode/utf8.acceptRanges", laid_unicode_utf8_acceptRanges), ("unicode/utf8.first", laid_unicode_utf8_first)], narrowed := true }
def QuoteKnownUptoSaid : Prop := quoteKnownUptoRow.holds Tryd.pinned (OpenSpec.upto quoteKnownSpec)

/-- 'cartouchelaw2.QuoteRunes', WHERE WHAT IT READS IS OF BULK AT MOST 1048576: true; the input reads as it did. -/
def quoteRunesUptoRow : OpenClaim := { program := "ytladdhfkmnhmfaadoor", sum := "1cd3e322b40c559981a2e960e3b1b160ade713b2e43af293dc7557883a02eb5a", func := "cartouche/cartouchelaw2.QuoteRunes", spec := "quoteRunes", named := ["unicode/utf8.first", "unicode/utf8.acceptRanges"], apart := false, laid := [("unicode/utf8.acceptRanges", laid_unicode_utf8_acceptRanges), ("unicode/utf8.first", laid_unicode_utf8_first)], narrowed := true }
def QuoteRunesUptoSaid : Prop := quoteRunesUptoRow.holds Tryd.pinned (OpenSpec.upto quoteRunesSpec)

/-- 'cartouchelaw2.QuoteBack', WHERE WHAT IT READS IS OF BULK AT MOST 1048576: true; the input reads as it did. -/
def quoteBackUptoRow : OpenClaim := { program := "ytladdhfkmnhmfaadoor", sum := "1cd3e322b40c559981a2e960e3b1b160ade713b2e43af293dc7557883a02eb5a", func := "cartouche/cartouchelaw2.QuoteBack", spec := "quoteBack", named := ["unicode/utf8.first", "unicode/utf8.acceptRanges"], apart := false, laid := [("unicode/utf8.acceptRanges", laid_unicode_utf8_acceptRanges), ("unicode/utf8.first", laid_unicode_utf8_first)], narrowed := true }
def QuoteBackUptoSaid : Prop := quoteBackUptoRow.holds Tryd.pinned (OpenSpec.upto quoteBackSpec)

end Rows
end Go.Proofs.YtladdhfkmnhmfaaDoor
