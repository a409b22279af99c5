/-
  What the laws' rows list of the packages' variables; the machine's functions of the library; the closed facts of the laws' claims.
-/
import Derived.Test.YtedncpnkbpbchaaGreatDoorFns
import Derived.Test.YtedncpnkbpbchaaGreatDoorCards
import Derived.Test.YtedncpnkbpbchaaGreatDoorTie
import Derived.Test.YtedncpnkbpbchaaGreatDoorCmp
import Derived.Test.YtedncpnkbpbchaaGreatDoorFld
import Derived.Test.YtedncpnkbpbchaaGreatDoorPrims
import Derived.Test.YtedncpnkbpbchaaGreatDoorBits
import Derived.Lay
import Derived.LaidMore
import Derived.SevenTiedAt
import Derived.Stop.Joined
set_option maxRecDepth 100000
namespace Go.Proofs.YtedncpnkbpbchaaGreatDoor
open Go.Vi Go.ChangeShapes Go.WideShapes Go.ChangeAt Go.RowKit

theorem own : ownKnob Tryz.prog.godebug = none := by kernel_rfl
theorem laidOut : laidOutB Tryz.prog = true := by kernel_rfl
def laidList : List (String × DataW Unit) := [("math/bits.deBruijn32tab", Rows.laid_math_bits_deBruijn32tab), ("math/bits.deBruijn64tab", Rows.laid_math_bits_deBruijn64tab), ("internal/strconv.uint64pow10", Rows.laid_internal_strconv_uint64pow10), ("unicode/utf8.acceptRanges", Rows.laid_unicode_utf8_acceptRanges), ("strconv.ErrRange", Rows.laid_strconv_ErrRange), ("strconv.ErrSyntax", Rows.laid_strconv_ErrSyntax), ("unicode.White_Space", Rows.laid_unicode_White_Space), ("strings.asciiSpace", Rows.laid_strings_asciiSpace), ("unicode/utf8.first", Rows.laid_unicode_utf8_first)]

def deb : List Int := [0, 1, 56, 2, 57, 49, 28, 3, 61, 58, 42, 50, 38, 29, 17, 4, 62, 47, 59, 36, 45, 43, 51, 22, 53, 39, 33, 30, 24, 18, 12, 5, 63, 55, 48, 27, 60, 41, 37, 16, 46, 35, 44, 21, 52, 32, 23, 11, 54, 26, 40, 15, 34, 20, 31, 10, 25, 14, 19, 9, 13, 8, 7, 6]
theorem deb_eq : (Rows.laid_math_bits_deBruijn64tab : DataW Unit) = Lib.tabData .u8 deb := by kernel_rfl
theorem pow_eq : (Rows.laid_internal_strconv_uint64pow10 : DataW Unit) = Lib.tabData .u64 Lib.pow10Tab := by kernel_rfl
theorem space_eq : (Rows.laid_strings_asciiSpace : DataW Unit) = Lib.tabData .u8 Lib.asciiSpaceTab := by kernel_rfl
theorem first_eq : Rows.laid_unicode_utf8_first = Lib.tabData .u8 firsts := by kernel_rfl
theorem accept_eq : Rows.laid_unicode_utf8_acceptRanges = pairsOf .u8 accepts := by kernel_rfl
theorem g0 : Tryz.prog.globalNamed "unicode/utf8.first" = some 3 := by kernel_rfl
theorem g1 : Tryz.prog.globalNamed "unicode/utf8.acceptRanges" = some 4 := by kernel_rfl
theorem g2 : Tryz.prog.globalNamed "strings.asciiSpace" = some 0 := by kernel_rfl
theorem g3 : Tryz.prog.globalNamed "internal/strconv.uint64pow10" = some 5 := by kernel_rfl
theorem g4 : Tryz.prog.globalNamed "math/bits.deBruijn64tab" = some 9 := by kernel_rfl
theorem t0 : (Tryz.prog.globals[3]?).map (·.type) = some 77 := by kernel_rfl
theorem t1 : (Tryz.prog.globals[4]?).map (·.type) = some 136 := by kernel_rfl
theorem t2 : (Tryz.prog.globals[0]?).map (·.type) = some 77 := by kernel_rfl
theorem t3 : (Tryz.prog.globals[5]?).map (·.type) = some 144 := by kernel_rfl
theorem t4 : (Tryz.prog.globals[9]?).map (·.type) = some 164 := by kernel_rfl
theorem c38 : Tryz.prog.cellsOf 77 = 256 := by kernel_rfl
theorem c5 : Tryz.prog.cellsOf 5 = 1 := by kernel_rfl
theorem c40 : Tryz.prog.cellsOf 135 = 2 := by kernel_rfl
theorem c41 : Tryz.prog.cellsOf 136 = 2 * 16 := by kernel_rfl
theorem c22 : Tryz.prog.cellsOf 22 = 1 := by kernel_rfl
theorem c144 : Tryz.prog.cellsOf 144 = 20 := by kernel_rfl
theorem c164 : Tryz.prog.cellsOf 164 = 64 := by kernel_rfl

/-- An array of whole numbers on the list is the table of its name. -/
theorem tab_mem {P : Program} {W : World} {l : List (String × DataW Unit)} {name : String} {g : Nat} {t e : TypeId} {n : Nat} {k : IntKind} {zs : List Int} (h : laidMet P l W) (hm : (name, Lib.tabData k zs) ∈ l) (hg : P.globalNamed name = some g)
    (hty : (P.globals[g]?).map (·.type) = some t) (ht : P.underlying t = some (.array n e)) (he : P.underlying e = some (.int k)) (hce : P.cellsOf e = 1) (hct : P.cellsOf t = n) : Lib.TabIs P W name k zs := by
  obtain ⟨ps, hl, _⟩ := h
  obtain ⟨g', t', cs, fuel, p, h1, h2, h3, h4⟩ := laidVars_mem hl _ _ hm
  obtain rfl := Option.some.inj (hg.symm.trans h1)
  obtain rfl := Option.some.inj (hty.symm.trans h2)
  have := Lib.cells_of_tab ht he hce hct h4
  simp only [Lib.TabIs, h3]
  rw [← this]

theorem plainL {W : World} (h : laidMetH Tryz.prog laidList W) : laidMet Tryz.prog laidList W := by rwa [MakeChecks.laidMetH_plain _ _ _ (by kernel_rfl)] at h
theorem tabPow {W : World} (h : laidMetH Tryz.prog laidList W) : Lib.TabIs Tryz.prog W "internal/strconv.uint64pow10" .u64 Lib.pow10Tab :=
  tab_mem (n := 20) (plainL h) (by rw [← pow_eq]; simp [laidList]) g3 t3 Tryz.underlying144 Tryz.underlying22 c22 c144
theorem tabDeb {W : World} (h : laidMetH Tryz.prog laidList W) : Lib.TabIs Tryz.prog W "math/bits.deBruijn64tab" .u8 deb :=
  tab_mem (n := 64) (plainL h) (by rw [← deb_eq]; simp [laidList]) g4 t4 Tryz.underlying164 Tryz.underlying5 c5 c164
theorem cellDeb {W : World} (h : laidMetH Tryz.prog laidList W) : W.cell? ⟨9, 15, none⟩ = some (.int .u8 4) := (tabDeb h).cell g4 15 (by decide)
theorem lt_of_cell {W : World} {b i : Nat} {v : Value} (h : W.cell? ⟨b, i, none⟩ = some v) : b < W.heap.size := by
  rcases Nat.lt_or_ge b W.heap.size with hl | hl
  · exact hl
  · simp only [World.cell?, Array.getElem?_eq_none hl] at h
    cases h

theorem machOK {W : World} (h : laidMetH Tryz.prog laidList W) : MachOK Tryz.prog W M where
  mixed := Tryz.checked.mixed
  fn := fnsOK
  prim := fun f p hp ds r hr vs hds => by
    have hp' : (if f = 45 then some cmpPrim else if f = 21 then some fieldsPrim else if f = 58 then some repeatPrim else if f = 38 then some fintPrim else if f = 39 then some fuintPrim else if f = 63 then some parsePrim else none) = some p := hp
    split at hp'
    case isTrue hf => subst hf; cases hp'; exact cmp_ok hds hr
    case isFalse =>
    split at hp'
    case isTrue hf => subst hf; cases hp'; exact fields_ok hds hr
    case isFalse =>
    split at hp'
    case isTrue hf => subst hf; cases hp'; exact repeat_ok hds hr
    case isFalse =>
    split at hp'
    case isTrue hf => subst hf; cases hp'; exact fint_ok (tabPow h) hds hr
    case isFalse =>
    split at hp'
    case isTrue hf => subst hf; cases hp'; exact fuint_ok (tabPow h) (cellDeb h) (lt_of_cell (cellDeb h)) hds hr
    case isFalse =>
    split at hp'
    case isTrue hf => subst hf; cases hp'; exact parse_ok hds hr
    case isFalse => cases hp'

/-- The tables of the machine over data are those that the rows list. -/
theorem globs {W : World} (h : laidMetH Tryz.prog laidList W) : ∀ i x, M.glob i = some x → CellsRel W (oldG W).E i 0 x.cells := by
  have h2 := plainL h
  intro i x hx
  have hx' : (if i = 0 then some (D.agg (Go.Lib.asciiSpaceTab.map (D.int .u8))) else if i = 5 then some (D.agg (Go.Lib.pow10Tab.map (D.int .u64))) else Vi.get globals i) = some x := hx
  split at hx'
  case isTrue hi =>
    subst hi
    cases hx'
    exact laid_ints (n := 256) h2 (by rw [← space_eq]; simp [laidList]) g2 t2 Tryz.underlying77 Tryz.underlying5 c5 c38 (by decide +kernel)
  case isFalse =>
  split at hx'
  case isTrue hi =>
    subst hi
    cases hx'
    exact laid_ints (n := 20) h2 (by rw [← pow_eq]; simp [laidList]) g3 t3 Tryz.underlying144 Tryz.underlying22 c22 c144 (by decide +kernel)
  case isFalse =>
    have hm := get_mem (l := globals) hx'
    simp only [globals, List.mem_cons, List.mem_nil_iff, or_false, Prod.mk.injEq] at hm
    rcases hm with ⟨rfl, rfl⟩ | ⟨rfl, rfl⟩
    · exact laid_ints (n := 256) h2 (by rw [← first_eq]; simp [laidList]) g0 t0 Tryz.underlying77 Tryz.underlying5 c5 c38 (by decide)
    · exact laid_pairs (n := 16) h2 (by rw [← accept_eq]; simp [laidList]) g1 t1 Tryz.underlying136 Tryz.underlying135 c40 c41 rfl rfl c5 c5 Tryz.underlying5 Tryz.underlying5 (by decide)

/-- A world for the witness: the tables laid. -/
noncomputable def laidWorld (os : Os) : World := World.laidAll Tryz.prog os laidList
theorem laid_met (os : Os) (args : Array Value) : laidMetH Tryz.prog laidList ((laidWorld os).forCall (fun _ _ => 0) ⟨#[], args, []⟩).memory := by
  rw [MakeChecks.laidMetH_plain _ _ _ (by kernel_rfl)]
  exact laidMet_laidAll _ (by kernel_rfl) (by kernel_rfl)
end Go.Proofs.YtedncpnkbpbchaaGreatDoor
