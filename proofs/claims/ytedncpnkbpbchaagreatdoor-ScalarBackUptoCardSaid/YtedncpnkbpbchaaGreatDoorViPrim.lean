/-
  The verified interpreter: functions that are told by what they answer.
-/
import Derived.Test.YtedncpnkbpbchaaGreatDoorViArgs
set_option linter.unusedVariables false
set_option linter.unusedSimpArgs false
namespace Go.Vi
open Go.RowKit

theorem asDs_get : ∀ {vs : List V} {ds : List D}, asDs vs = some ds → vs.length = ds.length ∧ ∀ (i : Nat) d, ds[i]? = some d → ∃ v, vs[i]? = some v ∧ v.read = some d
  | [], ds, h => by simp [asDs] at h; subst h; simp
  | v :: vs, ds, h => by
    simp only [asDs, Option.bind_eq_some_iff, Option.some.injEq] at h
    obtain ⟨d, h1, ds', h2, rfl⟩ := h
    obtain ⟨i1, i2⟩ := asDs_get h2
    refine ⟨by simp [i1], fun i e hi => ?_⟩
    cases i with
    | zero => simp at hi; subst hi; exact ⟨v, rfl, h1⟩
    | succ i => simpa using i2 i e (by simpa using hi)

/-- A function that leaves the world as it was. -/
theorem prim_pure {P : Program} {gl : Nat → Option D} {W0 : World} {f : Nat} {vs : List V} {ds : List D} {rd : D} (hds : asDs vs = some ds)
    (h : ∀ (w : World) (G : Gh) (vals : Array Value), vals.size = ds.length → Base gl W0 G w → (∀ (i : Nat) d, ds[i]? = some d → RelD w G.E (vals.getD i undef) d) → Calls P f vals w fun e w' => (∃ v, e = .returned v ∧ RelD w G.E v rd) ∧ w' = w) :
    CallOK P gl W0 f vs (.d rd) := by
  intro w G vals hs hb hn hargs
  obtain ⟨hl, hget⟩ := asDs_get hds
  refine (h w G vals (hs.trans hl) hb fun i d hd => ?_).mono fun e w' ⟨⟨v, he, hv⟩, hw⟩ => ?_
  · obtain ⟨x, hx, hr⟩ := hget i d hd
    exact (hargs i x hx).2.read hr
  · subst hw
    exact ⟨v, G, he, rfl, hv, Keep.refl _ _, hb⟩
end Go.Vi
