/-
  strconv.FormatInt, strconv.ParseUint, strings.Repeat: what they answer over data.
-/
import Derived.Test.YtedncpnkbpbchaaGreatDoorFld
import Derived.Lib.AppendIntMem
import Derived.Lib.AtoiErrMem
set_option linter.unusedVariables false
set_option linter.unusedSimpArgs false
set_option maxRecDepth 100000
namespace Go.Proofs.YtedncpnkbpbchaaGreatDoor
open Go.Vi Go.RowKit

theorem tab_below {P : Program} {W0 w : World} {name : String} {k : IntKind} {zs : List Int} (h : Lib.TabIs P W0 name k zs) (hb : Below W0.heap.size W0 w) : Lib.TabIs P w name k zs := by
  simp only [Lib.TabIs, World.var?] at h ⊢
  cases hg : P.globalNamed name with
  | none => rw [hg] at h; cases h
  | some g =>
    rw [hg] at h
    simp only [Option.bind_some] at h ⊢
    have hlt : g < W0.heap.size := by
      rcases Nat.lt_or_ge g W0.heap.size with hl | hl
      · exact hl
      · rw [Array.getElem?_eq_none hl] at h; cases h
    rw [hb.block g hlt]
    exact h
theorem evo_below {w w' : World} {G : Gh} (hf : ∀ b, w.heap.size ≤ b → G b = .no) (h : Below w.heap.size w w') : Evo (fun _ => False) w G w' G :=
  ⟨h.os, h.tape, h.output, h.size, fun b hb _ => ⟨rfl, h.block b hb⟩, fun b _ h => h.elim, fun b hb => hf b (Nat.le_trans h.size hb)⟩
theorem args_two {w : World} {G : Gh} {vs : List V} {vals : Array Value} {d1 d2 : D} (hds : asDs vs = some [d1, d2]) (hsz : vals.size = vs.length)
    (hargs : ∀ (i : Nat) x, vs[i]? = some x → okArg x = true ∧ SimV w G (fun _ => 0) i (vals.getD i undef) x) : ∃ v1 v2, vals = #[v1, v2] ∧ RelD w G.E v1 d1 ∧ RelD w G.E v2 d2 := by
  obtain ⟨hl, hget⟩ := asDs_get hds
  simp only [List.length_cons, List.length_nil] at hl
  obtain ⟨x1, hx1, hr1⟩ := hget 0 d1 rfl
  obtain ⟨x2, hx2, hr2⟩ := hget 1 d2 rfl
  have h1 := (hargs 0 x1 hx1).2.read hr1
  have h2 := (hargs 1 x2 hx2).2.read hr2
  obtain ⟨l⟩ := vals
  rw [hl] at hsz
  match l, hsz with
  | [y, z], _ => exact ⟨y, z, rfl, by simpa using h1, by simpa using h2⟩
theorem args_three {w : World} {G : Gh} {vs : List V} {vals : Array Value} {d1 d2 d3 : D} (hds : asDs vs = some [d1, d2, d3]) (hsz : vals.size = vs.length)
    (hargs : ∀ (i : Nat) x, vs[i]? = some x → okArg x = true ∧ SimV w G (fun _ => 0) i (vals.getD i undef) x) : ∃ v1 v2 v3, vals = #[v1, v2, v3] ∧ RelD w G.E v1 d1 ∧ RelD w G.E v2 d2 ∧ RelD w G.E v3 d3 := by
  obtain ⟨hl, hget⟩ := asDs_get hds
  simp only [List.length_cons, List.length_nil] at hl
  obtain ⟨x1, hx1, hr1⟩ := hget 0 d1 rfl
  obtain ⟨x2, hx2, hr2⟩ := hget 1 d2 rfl
  obtain ⟨x3, hx3, hr3⟩ := hget 2 d3 rfl
  have h1 := (hargs 0 x1 hx1).2.read hr1
  have h2 := (hargs 1 x2 hx2).2.read hr2
  have h3 := (hargs 2 x3 hx3).2.read hr3
  obtain ⟨l⟩ := vals
  rw [hl] at hsz
  match l, hsz with
  | [y, z, u], _ => exact ⟨y, z, u, rfl, by simpa using h1, by simpa using h2, by simpa using h3⟩
/-- A call that leaves what was there, and answers with a string. -/
theorem done_str {gl : Nat → Option D} {W0 w w' : World} {G : Gh} {l : List UInt8} {e : Ending} (hb : Base gl W0 G w) (hn : ∀ b, b < w.heap.size → ∀ k, G b ≠ .box k) (he : e = .returned (.string ⟨l.toArray⟩)) (h : Below w.heap.size w w') :
    ∃ v G', e = .returned v ∧ okRes (.d (.str l)) = true ∧ SimV w' G' (fun _ => 0) 0 v (.d (.str l)) ∧ Keep w G w' G' ∧ Base gl W0 G' w' := by
  have ev := evo_below hb.fresh h
  exact ⟨_, G, he, rfl, by simpa [SimV] using RelD.str l, ev.keep (Keep.refl w G) hn, hb.evo ev⟩
theorem fint_ok {gl : Nat → Option D} {W0 : World} {vs : List V} {ds : List D} {r : V} (htab : Lib.TabIs Tryz.prog W0 "internal/strconv.uint64pow10" .u64 Lib.pow10Tab) (hds : asDs vs = some ds) (hr : fintPrim ds = some r) : CallOK Tryz.prog gl W0 38 vs r := by
  unfold fintPrim at hr
  split at hr
  case h_2 => cases hr
  case h_1 n b =>
    split at hr
    case isFalse => cases hr
    case isTrue hs =>
      obtain ⟨h0, h1, rfl⟩ := hs
      cases hr
      intro w G vals hsz hb hn hargs
      obtain ⟨v1, v2, rfl, r1, r2⟩ := args_two hds hsz hargs
      rw [relD_int r1, relD_int r2]
      refine (Tryz.strconv_FormatInt_10 n h0 h1 w (tab_below htab hb.below)).mono fun e w' ⟨he, k, os, hw⟩ => ?_
      exact done_str hb hn he (by rw [hw]; exact Lib.below_grow _ w (Nat.le_refl _) k os)
theorem parse_ok {gl : Nat → Option D} {W0 : World} {vs : List V} {ds : List D} {r : V} (hds : asDs vs = some ds) (hr : parsePrim ds = some r) : CallOK Tryz.prog gl W0 63 vs r := by
  unfold parsePrim at hr
  split at hr
  case h_2 => cases hr
  case h_1 s b z =>
    split at hr
    case isFalse => cases hr
    case isTrue hs =>
      obtain ⟨rfl, rfl, hl⟩ := hs
      split at hr
      case h_2 => cases hr
      case h_1 u hu =>
        cases hr
        intro w G vals hsz hb hn hargs
        obtain ⟨v1, v2, v3, rfl, r1, r2, r3⟩ := args_three hds hsz hargs
        rw [relD_str r1, relD_int r2, relD_int r3]
        refine (Tryz.strconv_ParseUint_10_at64_ok ⟨s.toArray⟩ (by simp [ByteArray.size]; omega) u (by simpa using hu) w).mono fun e w' ⟨he, hw⟩ => ?_
        have hbel : Below w.heap.size w w' := by
          rcases hw with rfl | rfl
          · exact Below.refl _ _
          · exact Lib.bytesWorld_below w 5 _
        have ev := evo_below hb.fresh hbel
        refine ⟨_, G, he, rfl, ?_, ev.keep (Keep.refl w G) hn, hb.evo ev⟩
        refine ⟨#[.int .u64 u, .nilIface], rfl, rfl, fun k x hk => ?_⟩
        match k, hk with
        | 0, hk => cases hk; exact RelD.int _ _
        | 1, hk => cases hk; exact RelD.nil
theorem repeat_ok {gl : Nat → Option D} {W0 : World} {vs : List V} {ds : List D} {r : V} (hds : asDs vs = some ds) (hr : repeatPrim ds = some r) : CallOK Tryz.prog gl W0 58 vs r := by
  unfold repeatPrim at hr
  split at hr
  case h_2 => cases hr
  case h_1 s c =>
    split at hr
    case isFalse => cases hr
    case isTrue hs =>
      obtain ⟨h0, h1, h2, hl⟩ := hs
      cases hr
      intro w G vals hsz hb hn hargs
      obtain ⟨v1, v2, rfl, r1, r2⟩ := args_two hds hsz hargs
      rw [relD_str r1, relD_int r2]
      obtain ⟨c, rfl⟩ := Int.eq_ofNat_of_zero_le h0
      rw [Int.toNat_natCast]
      rcases (by omega : c = 0 ∨ c = 1 ∨ 2 ≤ c) with rfl | rfl | hc
      · refine (Tryz.strings_Repeat_zero ⟨s.toArray⟩ w).mono fun e w' ⟨he, hw⟩ => ?_
        subst hw
        exact done_str hb hn (by rw [he]; rfl) (Below.refl _ _)
      · refine (Tryz.strings_Repeat_one ⟨s.toArray⟩ w).mono fun e w' ⟨he, hw⟩ => ?_
        subst hw
        exact done_str hb hn (by rw [he]; simp [Lib.repeatL]) (Below.refl _ _)
      · have hsz : (⟨s.toArray⟩ : ByteArray).size = s.length := by simp [ByteArray.size]
        refine (Tryz.strings_Repeat_main ⟨s.toArray⟩ c w hc (by omega) (by
          rw [hsz]
          calc s.length * c ≤ 64 * 64 := Nat.mul_le_mul (by omega) (by omega)
            _ ≤ _ := by decide) (by rw [hsz]; omega)).mono fun e w' ⟨he, hw⟩ => ?_
        exact done_str hb hn (by rw [he]) hw
end Go.Proofs.YtedncpnkbpbchaaGreatDoor
