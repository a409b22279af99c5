/-
  The verified interpreter: arguments that are handed in.
-/
import Derived.Test.YtedncpnkbpbchaaGreatDoorViRow
import Derived.Test.YtedncpnkbpbchaaGreatDoorViBytes
import Derived.ChangeSlices
set_option linter.unusedVariables false
set_option linter.unusedSimpArgs false
namespace Go.Vi
open Go.ChangeShapes Go.WideShapes Go.ChangeAt Go.RowKit

section
variable {H : Type} {enc : TypeId × Value → H} {P : Program} {W : World} {base : Nat} {v : Value} {d : DataW H} {ps : List MemPlace}

theorem u8_wf {n : Int} (h : (Lit.int .u8 n).wf = true) : 0 ≤ n ∧ n ≤ 255 := by
  simp [Lit.wf, IntKind.min, IntKind.max, IntKind.signed, IntKind.bits] at h
  omega

theorem ofNat_toNat8 {n : Int} (h0 : 0 ≤ n) (h1 : n ≤ 255) : ((UInt8.ofNat n.toNat).toNat : Int) = n := by
  rw [UInt8.toNat_ofNat']
  omega

/-- Bytes that are handed in: as data; how long the reading is. -/
theorem arg_bytes {t e : TypeId} (ht : P.underlying t = some (.slice e)) (he : P.underlying e = some (.int .u8)) (hc : P.cellsOf e = 1) (hval : Value.okWide P W .any base t v) (h : DataW.Trod enc P W 0 (fun _ => true) true t v d ps) :
    ∃ b : List UInt8, RelD W (oldG W).E v (.slice 1 (bytesD b)) ∧ b.length ≤ maxLen ∧ ((d = .nil ∧ b = []) ∨ ∃ xs rest, d = .slice xs rest ∧ xs.length = b.length) := by
  obtain ⟨a1, len, cap, rfl⟩ := okWide_slice ht hval
  obtain ⟨fuel, hf⟩ := h
  rcases open_ints ht he hc hf with ⟨hcs, hx⟩ | ⟨a, len', cap', zs, hcs, _, hl, hm, hz, hx, hcell, hwz⟩
  · simp [Value.cells] at hcs
    obtain ⟨rfl, rfl, rfl⟩ := hcs
    simp only [Prod.mk.injEq] at hx
    obtain ⟨rfl, rfl⟩ := hx
    exact ⟨[], .snil _ _ _, Nat.zero_le _, .inl ⟨rfl, rfl⟩⟩
  · simp [Value.cells] at hcs
    obtain ⟨rfl, rfl, rfl⟩ := hcs
    simp only [Prod.mk.injEq] at hx
    obtain ⟨rfl, rfl⟩ := hx
    simp only [if_true] at hz
    have hlen : (zs.take len).length = len := by simp; omega
    have hb : bytesD ((zs.take len).map fun n => UInt8.ofNat n.toNat) = (zs.take len).map (D.int .u8) := by
      simp only [bytesD, List.map_map]
      refine List.map_congr_left fun n hn => ?_
      obtain ⟨h0, h1⟩ := u8_wf (hwz n (List.mem_of_mem_take hn))
      simp only [Function.comp, ofNat_toNat8 h0 h1]
    refine ⟨(zs.take len).map fun n => UInt8.ofNat n.toNat, ?_, by rw [List.length_map, hlen]; omega, .inr ⟨_, _, rfl, by simp [lits]⟩⟩
    rw [hb]
    cases hz0 : zs.take len with
    | nil =>
      rw [hz0] at hlen
      simp at hlen
      subst hlen
      exact .snil _ _ _
    | cons z zr =>
      have hpos : 0 < len := by rw [← hlen, hz0]; simp
      obtain ⟨ab, ao, spot⟩ := a
      have hspot : spot = none := by simpa [Addr.add] using World.cell?_spot (hcell 0 (by omega))
      subst hspot
      have hr := relD_ints (W := W) (b := ab) (off := ao) (cap := cap) (k := .u8) (zs.take len) (by omega) (fun i n hn => by
        have hi := lt_of_get hn
        rw [hlen] at hi
        have := hcell i (by omega)
        rw [add_plain] at this
        rw [this]
        rw [List.getElem?_take] at hn
        simp only [hi, if_true] at hn
        simp [List.getD, hn])
      rw [hlen, hz0] at hr
      exact hr

/-- A string that is handed in. -/
theorem arg_str {t : TypeId} (ht : P.underlying t = some .string) (hval : Value.okWide P W .any base t v) (h : DataW.Trod enc P W 0 (fun _ => true) true t v d ps) :
    ∃ s : List UInt8, RelD W (oldG W).E v (.str s) ∧ s.length ≤ maxLen ∧ d = .lit (.string s) := by
  obtain ⟨s, rfl, rfl, rfl, hs⟩ := Go.ChangeMaps.open_string ht hval h
  obtain ⟨s⟩ := s
  refine ⟨s.toList, ?_, by rw [Array.length_toList]; exact hs, rfl⟩
  have := RelD.str (w := W) (E := (oldG W).E) s.toList
  simpa using this
end
end Go.Vi
