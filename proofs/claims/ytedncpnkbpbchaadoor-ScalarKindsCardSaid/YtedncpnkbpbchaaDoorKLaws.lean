/-
  What the row of ScalarKinds lists of the packages' variables; the machine with strings.Fields.
-/
import Derived.Test.YtedncpnkbpbchaaDoorLaws
import Derived.Test.YtedncpnkbpbchaaDoorFld
set_option maxRecDepth 100000
namespace Go.Proofs.YtedncpnkbpbchaaDoor
open Go.Vi Go.ChangeShapes Go.WideShapes Go.ChangeAt Go.RowKit
namespace K

def laidList : List (String × DataW Unit) := [("unicode/utf8.acceptRanges", Rows.laid_unicode_utf8_acceptRanges), ("unicode.White_Space", Rows.laid_unicode_White_Space), ("strings.asciiSpace", Rows.laid_strings_asciiSpace), ("unicode/utf8.first", Rows.laid_unicode_utf8_first)]
theorem space_eq : (Rows.laid_strings_asciiSpace : DataW Unit) = Lib.tabData .u8 Lib.asciiSpaceTab := by kernel_rfl
theorem g2 : Tryd.prog.globalNamed "strings.asciiSpace" = some 0 := by kernel_rfl
theorem t2 : (Tryd.prog.globals[0]?).map (·.type) = some 94 := by kernel_rfl

theorem machOK (W : World) : MachOK Tryd.prog W (M true) where
  mixed := Tryd.checked.mixed
  fn := fnsOK true
  prim := fun f p hp ds r hr vs hds => by
    have hp' : (if f = 52 then some cmpPrim else if f = 57 then (if true = true then some fieldsPrim else none) else none) = some p := hp
    split at hp'
    case isTrue hf =>
      cases hp'
      subst hf
      exact cmp_ok hds hr
    case isFalse =>
      split at hp'
      case isTrue hf =>
        subst hf
        rw [if_pos rfl] at hp'
        cases hp'
        exact fields_ok hds hr
      case isFalse => cases hp'

theorem globs {W : World} (h : laidMetH Tryd.prog laidList W) : ∀ i x, (M true).glob i = some x → CellsRel W (oldG W).E i 0 x.cells := by
  have h2 : laidMet Tryd.prog laidList W := by rwa [MakeChecks.laidMetH_plain _ _ _ (by kernel_rfl)] at h
  intro i x hx
  have hx' : (if i = 0 then (if true = true then some (D.agg (Go.Lib.asciiSpaceTab.map (D.int .u8))) else none) else Vi.get globals i) = some x := hx
  split at hx'
  case isTrue hi =>
    subst hi
    rw [if_pos rfl] at hx'
    cases hx'
    exact laid_ints (n := 256) h2 (by rw [← space_eq]; simp [laidList]) g2 t2 Tryd.underlying94 Tryd.underlying5 c5 c38 (by decide +kernel)
  case isFalse =>
    have hm := get_mem (l := globals) hx'
    simp only [globals, List.mem_cons, List.mem_nil_iff, or_false, Prod.mk.injEq] at hm
    rcases hm with ⟨rfl, rfl⟩ | ⟨rfl, rfl⟩
    · exact laid_ints (n := 256) h2 (by rw [← first_eq]; simp [laidList]) g0 t0 Tryd.underlying94 Tryd.underlying5 c5 c38 (by decide)
    · exact laid_pairs (n := 16) h2 (by rw [← accept_eq]; simp [laidList]) g1 t1 Tryd.underlying105 Tryd.underlying104 c40 c41 rfl rfl c5 c5 Tryd.underlying5 Tryd.underlying5 (by decide)

noncomputable def laidWorld (os : Os) : World := World.laidAll Tryd.prog os laidList
theorem laid_met (os : Os) (args : Array Value) : laidMetH Tryd.prog laidList ((laidWorld os).forCall (fun _ _ => 0) ⟨#[], args, []⟩).memory := by
  rw [MakeChecks.laidMetH_plain _ _ _ (by kernel_rfl)]
  exact laidMet_laidAll _ (by kernel_rfl) (by kernel_rfl)
end K
end Go.Proofs.YtedncpnkbpbchaaDoor
