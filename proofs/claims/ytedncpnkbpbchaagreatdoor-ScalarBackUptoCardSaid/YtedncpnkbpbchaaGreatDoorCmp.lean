/-
  bytes.Compare: what it answers of two rows of bytes.
-/
import Derived.Test.YtedncpnkbpbchaaGreatDoorFns
import Derived.Test.YtedncpnkbpbchaaGreatDoorViPrim
import Derived.Lib.Bytealg
import Derived.Lib.Walk
import Derived.Lib.BytesEntry
import Derived.Shelf.Strings.Search1
set_option linter.unusedVariables false
set_option linter.unusedSimpArgs false
set_option maxRecDepth 100000
namespace Go.Proofs.YtedncpnkbpbchaaGreatDoor
open Go.Vi Go.RowKit

theorem run_cmp {P : Program} {w : World} {va vb : Value} {a b : List UInt8} (ha : (Extern.Bytes.bytesOf va).run P w = .ok ⟨a.toArray⟩ w) (hb : (Extern.Bytes.bytesOf vb).run P w = .ok ⟨b.toArray⟩ w) :
    (Extern.BytealgCompare.compare #[va, vb]).run P w = .ok (.int .i64 (Lib.compareBytes a b)) w := by
  change Sem.run P (do pure (goInt (Extern.BytealgCompare.cmp (← Extern.Bytes.bytesOf va) (← Extern.Bytes.bytesOf vb)))) w = _
  simp only [Sem.run_bind, Sem.run_pure, Result.andThen, ha, hb]
  rw [Lib.cmp_eq]
  rfl

theorem cmp_walk (va vb : Value) (a b : List UInt8) (w : World) (ha : (Extern.Bytes.bytesOf va).run Tryz.prog w = .ok ⟨a.toArray⟩ w) (hb : (Extern.Bytes.bytesOf vb).run Tryz.prog w = .ok ⟨b.toArray⟩ w) :
    Calls Tryz.prog 45 #[va, vb] w fun e w' => e = .returned (.int .i64 (Lib.compareBytes a b)) ∧ w' = w := by
  go_enter Tryz.func45, Tryz.ntmps45
  go_wp2
  rw [run_callFunc_extern Tryz.func65 (by kernel_rfl) (by kernel_rfl) (by kernel_rfl) (e := Extern.BytealgCompare.compare) (by kernel_rfl), run_cmp ha hb]
  simp only [Result.andThen]
  rw [Oper.upon_value]
  go_wp2
  go_ret
  exact ⟨rfl, rfl⟩

theorem bytesOf_ints : ∀ {xs : List D} {a : List UInt8}, Vi.bytesOf xs = some a → ∃ ns : List Int, xs = ns.map (D.int .u8) ∧ a = Lib.bytesOf ns
  | [], a, h => by simp [Vi.bytesOf] at h; subst h; exact ⟨[], rfl, rfl⟩
  | x :: xs, a, h => by
    simp only [Vi.bytesOf, Option.bind_eq_some_iff, Option.some.injEq] at h
    obtain ⟨b, hb, bs, hbs, rfl⟩ := h
    obtain ⟨ns, rfl, rfl⟩ := bytesOf_ints hbs
    cases x <;> try (simp [Vi.byteOf] at hb; done)
    rename_i k n
    cases k <;> try (simp [Vi.byteOf] at hb; done)
    simp only [Vi.byteOf, Option.some.injEq] at hb
    subst hb
    exact ⟨n :: ns, rfl, rfl⟩
/-- What the model reads off bytes. -/
theorem read_bytes {P : Program} {w : World} {E : Nat → Option Nat} {v : Value} {sz : Nat} {xs : List D} {a : List UInt8} (h : RelD w E v (.slice sz xs)) (hx : Vi.bytesOf xs = some a) : (Extern.Bytes.bytesOf v).run P w = .ok ⟨a.toArray⟩ w := by
  obtain ⟨ns, rfl, rfl⟩ := bytesOf_ints hx
  obtain ⟨A, c, rfl, hc, hA⟩ := relD_slice h
  cases ns with
  | nil =>
    cases A with
    | none => simp only [Extern.Bytes.bytesOf, Sem.run_pure]; rfl
    | some A => simp only [Extern.Bytes.bytesOf, List.map_nil, List.length_nil, Extern.Bytes.loadBytes, Sem.run_pure]; rfl
  | cons n ns =>
    obtain ⟨b, off, rfl, hsz, e, vals, hE, hle, hna, hcell⟩ := hA (by simp)
    have hf := flat_ints (n :: ns) .u8
    rw [hf] at hcell
    have := Lib.run_loadBytesX (P := P) w (n :: ns) ⟨b, off, none⟩ .empty (fun j x hj => by
      have hk : ((n :: ns).map (D.int .u8))[j]? = some (.int .u8 x) := by rw [List.getElem?_map, hj]; rfl
      obtain ⟨c1, c2⟩ := hcell j _ hk
      rw [relD_int c2] at c1
      rw [add_plain]
      exact c1)
    rw [List.length_map]
    simp only [Extern.Bytes.bytesOf]
    rw [this]
    congr 1
    apply ByteArray.ext
    simp

theorem twoVals {vals : Array Value} (hs : vals.size = 2) : vals = #[vals.getD 0 undef, vals.getD 1 undef] := by
  obtain ⟨l⟩ := vals
  match l, hs with
  | [x, y], _ => rfl
theorem cmp_ok {W0 : World} {gl : Nat → Option D} {vs : List V} {ds : List D} {r : V} (hds : asDs vs = some ds) (hr : cmpPrim ds = some r) : CallOK Tryz.prog gl W0 45 vs r := by
  unfold cmpPrim at hr
  split at hr
  case h_1 s1 xs s2 ys =>
    simp only [Option.bind_eq_some_iff, Option.some.injEq] at hr
    obtain ⟨a, ha, b, hb, rfl⟩ := hr
    refine prim_pure hds fun w G vals hs hbase hargs => ?_
    have e0 := read_bytes (P := Tryz.prog) (hargs 0 _ rfl) ha
    have e1 := read_bytes (P := Tryz.prog) (hargs 1 _ rfl) hb
    rw [twoVals hs]
    exact (cmp_walk _ _ a b w e0 e1).mono fun e w' ⟨he, hw⟩ => ⟨⟨_, he, .int _ _⟩, hw⟩
  case h_2 => cases hr
end Go.Proofs.YtedncpnkbpbchaaGreatDoor
