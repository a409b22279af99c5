/-
  The closed facts of the claims of the laws of words: the library's functions by their contracts, the one listed variable.
-/
import Derived.Test.YtladdhfkmnhmfaaFns
import Derived.Test.YtladdhfkmnhmfaaShelf
import Derived.Test.YtladdhfkmnhmfaaRows
import Derived.Test.YtladdhfkmnhmfaaViPrim
import Derived.Stop.Joined
set_option maxRecDepth 100000
namespace Go.Proofs.Ytladdhfkmnhmfaa
open Go.Vi Go.ChangeShapes Go.WideShapes Go.ChangeAt Go.RowKit

theorem own : ownKnob Try.prog.godebug = none := by kernel_rfl
theorem laidOut : laidOutB Try.prog = true := by kernel_rfl

theorem relD_strOf {w : World} {E : Nat → Option Nat} {v : Value} {s : List UInt8} (h : RelD w E v (.str s)) : v = .string ⟨s.toArray⟩ := by cases h; rfl
theorem relD_intOf {w : World} {E : Nat → Option Nat} {v : Value} {k : IntKind} {n : Int} (h : RelD w E v (.int k n)) : v = .int k n := by cases h; rfl
theorem two {vals : Array Value} {a b : Value} (hs : vals.size = 2) (h0 : vals.getD 0 undef = a) (h1 : vals.getD 1 undef = b) : vals = #[a, b] := by
  obtain ⟨l⟩ := vals
  match l, hs with
  | [x, y], _ =>
    simp at h0 h1
    rw [h0, h1]

theorem machOK (m : Int) (W0 : World) : MachOK Try.prog W0 (M m) where
  mixed := Try.checked.mixed
  fn := fnsOK m
  prim := fun f p hp ds r hr vs hds => by
    have hm := get_mem (l := prims) hp
    simp only [prims, List.mem_cons, List.mem_nil_iff, or_false, Prod.mk.injEq] at hm
    rcases hm with ⟨rfl, rfl⟩ | ⟨rfl, rfl⟩
    · simp only at hr
      split at hr
      case h_1 s t =>
        split at hr
        case isTrue hlt =>
          cases hr
          refine prim_pure hds fun w G vals hs hb hargs => ?_
          have e0 := relD_strOf (hargs 0 _ rfl)
          have e1 := relD_strOf (hargs 1 _ rfl)
          obtain rfl := two hs e0 e1
          obtain ⟨e, cv, hE, hle, hna, hc⟩ := hb.glob 0 (.int .i64 m) rfl
          have hcell := (hc 0 (.int .i64 m) rfl)
          have hm2 : w.cell? ⟨0, 0, none⟩ = some (.int .i64 m) := by
            have h2 := relD_intOf hcell.2
            have h1 := hcell.1
            rw [h2] at h1
            exact h1
          refine (Try.strings_Index ⟨s.toArray⟩ ⟨t.toArray⟩ m w hlt hm2).mono fun e w' ⟨he, hw⟩ => ?_
          exact ⟨⟨_, he, .int _ _⟩, hw⟩
        case isFalse => cases hr
      case h_2 => cases hr
    · simp only at hr
      split at hr
      case h_1 s c =>
        cases hr
        refine prim_pure hds fun w G vals hs hb hargs => ?_
        have e0 := relD_strOf (hargs 0 _ rfl)
        have e1 := relD_intOf (hargs 1 _ rfl)
        obtain rfl := two hs e0 e1
        refine (Try.strings_IndexByte ⟨s.toArray⟩ c w).mono fun e w' ⟨he, hw⟩ => ?_
        exact ⟨⟨_, he, .int _ _⟩, hw⟩
      case h_2 => cases hr

/-- The one variable that the machine reads: a whole number. -/
theorem globs {W : World} (h : W.ShapedOpen Try.prog) : ∃ m, ∀ i x, (M m).glob i = some x → CellsRel W (oldG W).E i 0 x.cells := by
  obtain ⟨m, hm⟩ := Go.Proofs.cell_of_shapedOpen_int (zero := #[.int .i64 0]) (t := 3) (g := 0) h (of_decide_eq_true (by kernel_rfl)) (by kernel_rfl) rfl (by kernel_rfl) (by kernel_rfl) Try.underlying3
  refine ⟨m, fun i x hx => ?_⟩
  have hmem := get_mem (l := globals m) hx
  simp only [globals, List.mem_cons, List.mem_nil_iff, or_false, Prod.mk.injEq] at hmem
  obtain ⟨rfl, rfl⟩ := hmem
  exact cellsRel_ints [m] (by simp) fun i n hn => by
    cases i with
    | zero => simp at hn; subst hn; exact hm
    | succ i => simp at hn

/-- A world for the witness. -/
noncomputable def world0 (os : Os) : World := World.holding Try.prog os ⟨#[], #[], []⟩
end Go.Proofs.Ytladdhfkmnhmfaa
