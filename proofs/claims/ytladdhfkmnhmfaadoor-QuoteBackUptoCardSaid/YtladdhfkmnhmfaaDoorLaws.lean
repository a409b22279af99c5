/-
  What the laws' rows list of the package's variables; the closed facts of the laws' claims.
-/
import Derived.Test.YtladdhfkmnhmfaaDoorFns
import Derived.Test.YtladdhfkmnhmfaaDoorCards
import Derived.Test.YtladdhfkmnhmfaaDoorTie
import Derived.Lay
import Derived.LaidMore
import Derived.SevenTiedAt
import Derived.Stop.Joined
set_option maxRecDepth 100000
namespace Go.Proofs.YtladdhfkmnhmfaaDoor
open Go.Vi Go.ChangeShapes Go.WideShapes Go.ChangeAt Go.RowKit

theorem own : ownKnob Tryd.prog.godebug = none := by kernel_rfl
theorem laidOut : laidOutB Tryd.prog = true := by kernel_rfl
def laidList : List (String × DataW Unit) := [("unicode/utf8.acceptRanges", Rows.laid_unicode_utf8_acceptRanges), ("unicode/utf8.first", Rows.laid_unicode_utf8_first)]

theorem first_eq : Rows.laid_unicode_utf8_first = Lib.tabData .u8 firsts := by kernel_rfl
theorem accept_eq : Rows.laid_unicode_utf8_acceptRanges = pairsOf .u8 accepts := by kernel_rfl
theorem g0 : Tryd.prog.globalNamed "unicode/utf8.first" = some 0 := by kernel_rfl
theorem g1 : Tryd.prog.globalNamed "unicode/utf8.acceptRanges" = some 1 := by kernel_rfl
theorem t0 : (Tryd.prog.globals[0]?).map (·.type) = some 38 := by kernel_rfl
theorem t1 : (Tryd.prog.globals[1]?).map (·.type) = some 41 := by kernel_rfl
theorem c38 : Tryd.prog.cellsOf 38 = 256 := by kernel_rfl
theorem c5 : Tryd.prog.cellsOf 5 = 1 := by kernel_rfl
theorem c40 : Tryd.prog.cellsOf 40 = 2 := by kernel_rfl
theorem c41 : Tryd.prog.cellsOf 41 = 2 * 16 := by kernel_rfl

theorem machOK (W : World) : MachOK Tryd.prog W M := ⟨Tryd.checked.mixed, fnsOK, fun f p h => by cases h⟩

/-- The tables of the machine over data are those that the rows list. -/
theorem globs {W : World} (h : laidMetH Tryd.prog laidList W) : ∀ i x, M.glob i = some x → CellsRel W (oldG W).E i 0 x.cells := by
  have h2 : laidMet Tryd.prog laidList W := by rwa [MakeChecks.laidMetH_plain _ _ _ (by kernel_rfl)] at h
  intro i x hx
  have hm := get_mem (l := globals) hx
  simp only [globals, List.mem_cons, List.mem_nil_iff, or_false, Prod.mk.injEq] at hm
  rcases hm with ⟨rfl, rfl⟩ | ⟨rfl, rfl⟩
  · exact laid_ints (n := 256) h2 (by rw [← first_eq]; simp [laidList]) g0 t0 Tryd.underlying38 Tryd.underlying5 c5 c38 (by decide)
  · exact laid_pairs (n := 16) h2 (by rw [← accept_eq]; simp [laidList]) g1 t1 Tryd.underlying41 Tryd.underlying40 c40 c41 rfl rfl c5 c5 Tryd.underlying5 Tryd.underlying5 (by decide)

/-- A world for the witness: the tables laid. -/
noncomputable def laidWorld (os : Os) : World := World.laidAll Tryd.prog os laidList
theorem laid_met (os : Os) (args : Array Value) : laidMetH Tryd.prog laidList ((laidWorld os).forCall (fun _ _ => 0) ⟨#[], args, []⟩).memory := by
  rw [MakeChecks.laidMetH_plain _ _ _ (by kernel_rfl)]
  exact laidMet_laidAll _ (by kernel_rfl) (by kernel_rfl)
end Go.Proofs.YtladdhfkmnhmfaaDoor
