/-
  What the laws' rows list of the package's variables; the closed facts of the laws' claims.
-/
import Derived.Test.YtedncpnkbpbchaaDoorFns
import Derived.Test.YtedncpnkbpbchaaDoorCards
import Derived.Test.YtedncpnkbpbchaaDoorTie
import Derived.Test.YtedncpnkbpbchaaDoorCmp
import Derived.Lay
import Derived.LaidMore
import Derived.SevenTiedAt
import Derived.Stop.Joined
set_option maxRecDepth 100000
namespace Go.Proofs.YtedncpnkbpbchaaDoor
open Go.Vi Go.ChangeShapes Go.WideShapes Go.ChangeAt Go.RowKit

theorem own : ownKnob Tryd.prog.godebug = none := by kernel_rfl
theorem laidOut : laidOutB Tryd.prog = true := by kernel_rfl
def laidList : List (String × DataW Unit) := [("unicode/utf8.acceptRanges", Rows.laid_unicode_utf8_acceptRanges), ("unicode/utf8.first", Rows.laid_unicode_utf8_first)]

theorem first_eq : Rows.laid_unicode_utf8_first = Lib.tabData .u8 firsts := by kernel_rfl
theorem accept_eq : Rows.laid_unicode_utf8_acceptRanges = pairsOf .u8 accepts := by kernel_rfl
theorem g0 : Tryd.prog.globalNamed "unicode/utf8.first" = some 3 := by kernel_rfl
theorem g1 : Tryd.prog.globalNamed "unicode/utf8.acceptRanges" = some 4 := by kernel_rfl
theorem t0 : (Tryd.prog.globals[3]?).map (·.type) = some 94 := by kernel_rfl
theorem t1 : (Tryd.prog.globals[4]?).map (·.type) = some 105 := by kernel_rfl
theorem c38 : Tryd.prog.cellsOf 94 = 256 := by kernel_rfl
theorem c5 : Tryd.prog.cellsOf 5 = 1 := by kernel_rfl
theorem c40 : Tryd.prog.cellsOf 104 = 2 := by kernel_rfl
theorem c41 : Tryd.prog.cellsOf 105 = 2 * 16 := by kernel_rfl

/-- The machine without strings.Fields. -/
theorem machOK (W : World) : MachOK Tryd.prog W (M false) where
  mixed := Tryd.checked.mixed
  fn := fnsOK false
  prim := fun f p hp ds r hr vs hds => by
    have hp' : (if f = 52 then some cmpPrim else if f = 57 then (if false = true then some fieldsPrim else none) else none) = some p := hp
    split at hp'
    case isTrue hf =>
      cases hp'
      subst hf
      exact cmp_ok hds hr
    case isFalse => split at hp' <;> cases hp'

/-- The tables of the machine over data are those that the rows list. -/
theorem globs {W : World} (h : laidMetH Tryd.prog laidList W) : ∀ i x, (M false).glob i = some x → CellsRel W (oldG W).E i 0 x.cells := by
  have h2 : laidMet Tryd.prog laidList W := by rwa [MakeChecks.laidMetH_plain _ _ _ (by kernel_rfl)] at h
  intro i x hx
  have hx' : (if i = 0 then (if false = true then some (D.agg (Go.Lib.asciiSpaceTab.map (D.int .u8))) else none) else Vi.get globals i) = some x := hx
  split at hx'
  case isTrue => cases hx'
  have hm := get_mem (l := globals) hx'
  simp only [globals, List.mem_cons, List.mem_nil_iff, or_false, Prod.mk.injEq] at hm
  rcases hm with ⟨rfl, rfl⟩ | ⟨rfl, rfl⟩
  · exact laid_ints (n := 256) h2 (by rw [← first_eq]; simp [laidList]) g0 t0 Tryd.underlying94 Tryd.underlying5 c5 c38 (by decide)
  · exact laid_pairs (n := 16) h2 (by rw [← accept_eq]; simp [laidList]) g1 t1 Tryd.underlying105 Tryd.underlying104 c40 c41 rfl rfl c5 c5 Tryd.underlying5 Tryd.underlying5 (by decide)

/-- A world for the witness: the tables laid. -/
noncomputable def laidWorld (os : Os) : World := World.laidAll Tryd.prog os laidList
theorem laid_met (os : Os) (args : Array Value) : laidMetH Tryd.prog laidList ((laidWorld os).forCall (fun _ _ => 0) ⟨#[], args, []⟩).memory := by
  rw [MakeChecks.laidMetH_plain _ _ _ (by kernel_rfl)]
  exact laidMet_laidAll _ (by kernel_rfl) (by kernel_rfl)
end Go.Proofs.YtedncpnkbpbchaaDoor
