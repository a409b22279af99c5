/-
  strings.Fields of the row of names: what it answers over data.
-/
import Derived.Test.YtedncpnkbpbchaaGreatDoorCmp
import Derived.Test.YtedncpnkbpbchaaGreatDoorShelf
set_option linter.unusedVariables false
set_option linter.unusedSimpArgs false
set_option maxRecDepth 100000
namespace Go.Proofs.YtedncpnkbpbchaaGreatDoor
open Go.Vi Go.RowKit

theorem fields_names : Lib.fields fieldsText = kindNames := by decide +kernel
theorem fields_low : fieldsText.all (fun b => decide (b.toNat < 128)) = true := by decide +kernel
theorem flat_strs : ∀ l : List (List UInt8), flat (l.map D.str) = l.map D.str
  | [] => rfl
  | x :: l => by
    have := flat_strs l
    simp only [flat] at this ⊢
    rw [List.map_cons, List.flatMap_cons, this]
    rfl
theorem fields_ok {W0 : World} {vs : List V} {ds : List D} {r : V} (hds : asDs vs = some ds) (hr : fieldsPrim ds = some r) : CallOK Tryz.prog M.glob W0 21 vs r := by
  unfold fieldsPrim at hr
  split at hr
  case h_2 => cases hr
  case h_1 s =>
    split at hr
    case isFalse => cases hr
    case isTrue hs =>
      subst hs
      cases hr
      intro w G vals hsz hb hn hargs
      obtain ⟨hl, hget⟩ := asDs_get hds
      simp only [List.length_cons, List.length_nil] at hl
      obtain ⟨x, hx, hrd⟩ := hget 0 (.str fieldsText) rfl
      have hv := (hargs 0 x hx).2.read hrd
      have hv' := relD_str hv
      have hvals : vals = #[.string ⟨fieldsText.toArray⟩] := by
        obtain ⟨l⟩ := vals
        rw [hl] at hsz
        match l, hsz with
        | [y], _ =>
          simp only [Array.getD_eq_getD_getElem?] at hv'
          simp at hv'
          rw [hv']
      have htab : ∀ c : Nat, c < 256 → w.cell? ⟨0, c, none⟩ = some (.int .u8 (if Lib.isSp (UInt8.ofNat c) then 1 else 0)) := by
        obtain ⟨e, cv, hE, hle, hna, hc⟩ := hb.glob 0 (.agg (Lib.asciiSpaceTab.map (D.int .u8))) rfl
        intro c hcl
        have hk : (Lib.asciiSpaceTab.map (D.int .u8))[c]? = some (.int .u8 (if Lib.isSp (UInt8.ofNat c) then 1 else 0)) := by
          simp [Lib.asciiSpaceTab, hcl]
        obtain ⟨c1, c2⟩ := hc c _ hk
        rw [relD_int c2, Nat.zero_add] at c1
        exact c1
      rw [hvals]
      have hlow : ∀ (j : Nat) b, fieldsText[j]? = some b → b.toNat < 128 := by
        intro j b hj
        have := List.all_eq_true.1 fields_low b (List.mem_of_getElem? hj)
        simpa using this
      refine (Tryz.fields_core ⟨fieldsText.toArray⟩ w (by decide +kernel) (by simpa using hlow) htab).mono fun e w' ⟨he, hw⟩ => ?_
      have hf : Lib.fields (⟨fieldsText.toArray⟩ : ByteArray).data.toList = kindNames := fields_names
      rw [hf] at he hw
      subst hw
      have ev : Evo (fun _ => False) w G (w.alloc (.cells ((kindNames.map fun l => Value.string ⟨l.toArray⟩).toArray) 9)) (upd G w.heap.size (.com 15)) := evo_new hb.fresh rfl rfl rfl rfl
      refine ⟨_, upd G w.heap.size (.com 15), he, rfl, ?_, ev.keep (Keep.refl w G) hn, hb.evo ev⟩
      have hlen : kindNames.length = 15 := rfl
      have := slice_relD (w := w.alloc (.cells ((kindNames.map fun l => Value.string ⟨l.toArray⟩).toArray) 9)) (E := Gh.E (upd G w.heap.size (.com 15))) (b := w.heap.size) (off := 0) (c := 15) (sz := 1) (xs := kindNames.map D.str) (by simp [hlen]) (fun x hx => by
          obtain ⟨l, _, rfl⟩ := List.mem_map.1 hx; rfl) ⟨15, fun k => .string ⟨(kindNames.getD k []).toArray⟩, by simp [Gh.E, upd, Gs.ext], by rw [flat_strs]; simp [hlen], fun x hx => by
          rw [flat_strs] at hx; obtain ⟨l, _, rfl⟩ := List.mem_map.1 hx; rfl, fun k x hk => by
          rw [flat_strs, List.getElem?_map, Option.map_eq_some_iff] at hk
          obtain ⟨l, hl, rfl⟩ := hk
          have hd : kindNames.getD k [] = l := by simp [List.getD, hl]
          have hkl : k < 15 := by rw [← hlen]; exact (List.getElem?_eq_some_iff.1 hl).1
          simp only [hd]
          refine ⟨?_, .str l⟩
          have h1 := heap_alloc_new w (.cells ((kindNames.map fun l => Value.string ⟨l.toArray⟩).toArray) 9)
          simp only [World.cell?, Nat.zero_add]
          rw [h1]
          simp [hl]⟩
      simpa [hlen, SimV] using this
end Go.Proofs.YtedncpnkbpbchaaGreatDoor
