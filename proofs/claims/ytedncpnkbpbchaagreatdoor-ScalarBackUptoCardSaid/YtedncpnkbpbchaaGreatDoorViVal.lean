/-
  The verified interpreter: an argument that is a struct of a number, bytes, and a row of structs of two slices: of the row no more than its length is told.
-/
import Derived.Test.YtedncpnkbpbchaaGreatDoorViArgs
import Derived.ChangeSame
set_option linter.unusedVariables false
set_option linter.unusedSimpArgs false
namespace Go.Vi
open Go.ChangeShapes Go.WideShapes Go.ChangeAt Go.RowKit

section
variable {H : Type} {enc : TypeId × Value → H} {P : Program} {W : World} {base : Nat}

theorem cell_bytes {t e : TypeId} {fuel : Nat} {c : Value} {x : DataW H × List MemPlace} (ht : P.underlying t = some (.slice e)) (he : P.underlying e = some (.int .u8)) (hc : P.cellsOf e = 1) (hf : DataW.trod enc P W 0 (fun _ => true) true fuel t [c] = some x) :
    ∃ b : List UInt8, RelD W (oldG W).E c (.slice 1 (bytesD b)) ∧ b.length ≤ maxLen ∧ ((x.1 = .nil ∧ b = []) ∨ ∃ xs rest, x.1 = .slice xs rest ∧ xs.length = b.length) := by
  rcases open_ints ht he hc hf with ⟨hcs, hx⟩ | ⟨a, len', cap', zs, hcs, _, hl, hm, hz, hx, hcell, hwz⟩
  · simp only [List.cons.injEq, and_true] at hcs
    subst hcs; subst hx
    exact ⟨[], .snil _ _ _, Nat.zero_le _, .inl ⟨rfl, rfl⟩⟩
  · simp only [List.cons.injEq, and_true] at hcs
    subst hcs; subst hx
    simp only [if_true] at hz
    have hlen : (zs.take len').length = len' := by simp; omega
    have hb : bytesD ((zs.take len').map fun n => UInt8.ofNat n.toNat) = (zs.take len').map (D.int .u8) := by
      simp only [bytesD, List.map_map]
      refine List.map_congr_left fun n hn => ?_
      obtain ⟨h0, h1⟩ := u8_wf (hwz n (List.mem_of_mem_take hn))
      simp only [Function.comp, ofNat_toNat8 h0 h1]
    refine ⟨(zs.take len').map fun n => UInt8.ofNat n.toNat, ?_, by rw [List.length_map, hlen]; omega, .inr ⟨_, _, rfl, by simp [lits]⟩⟩
    rw [hb]
    cases hz0 : zs.take len' with
    | nil =>
      rw [hz0] at hlen
      simp at hlen
      subst hlen
      exact .snil _ _ _
    | cons z zr =>
      have hpos : 0 < len' := by rw [← hlen, hz0]; simp
      obtain ⟨ab, ao, spot⟩ := a
      have hspot : spot = none := by simpa [Addr.add] using World.cell?_spot (hcell 0 (by omega))
      subst hspot
      have hr := relD_ints (W := W) (b := ab) (off := ao) (cap := cap') (k := .u8) (zs.take len') (by omega) (fun i n hn => by
        have hi := lt_of_get hn
        rw [hlen] at hi
        have := hcell i (by omega)
        rw [add_plain] at this
        rw [this]
        rw [List.getElem?_take] at hn
        simp only [hi, if_true] at hn
        simp [List.getD, hn])
      rw [hlen, hz0] at hr
      exact hr

theorem cells_two {a : Addr} {cs : List Value} (h : W.cells? 0 a 2 = some cs) : ∃ v0 v1, cs = [v0, v1] ∧ W.cell? (a.add 0) = some v0 ∧ W.cell? (a.add 1) = some v1 := by
  simp only [World.cells?, Nat.zero_le, if_true] at h
  have e : List.range 2 = [0, 1] := rfl
  rw [e] at h
  simp only [List.mapM_cons, List.mapM_nil, Option.bind_eq_bind, Option.bind_eq_some_iff, Option.pure_def, Option.some.injEq] at h
  obtain ⟨v0, h0, l, ⟨v1, h1, l', rfl, rfl⟩, rfl⟩ := h
  exact ⟨v0, v1, rfl, h0, h1⟩

theorem slice_cell {t e : TypeId} {fuel : Nat} {c : Value} {x : DataW H × List MemPlace} (ht : P.underlying t = some (.slice e)) (hf : DataW.trod enc P W 0 (fun _ => true) true fuel t [c] = some x) : c.oneCell' = true := by
  rcases DataW.trod_slice ht hf with ⟨hcs, _⟩ | ⟨a, len, cap, elems, rest, n, _, hcs, _⟩
  · simp only [List.cons.injEq, and_true] at hcs; subst hcs; rfl
  · simp only [List.cons.injEq, and_true] at hcs; subst hcs; rfl

def anyD : D := .agg [.any, .any]
theorem flat_any : ∀ n, flat (List.replicate n anyD) = List.replicate (n * 2) .any
  | 0 => rfl
  | n + 1 => by
    have := flat_any n
    simp only [flat] at this ⊢
    rw [List.replicate_succ, List.flatMap_cons, this, show (n + 1) * 2 = n * 2 + 1 + 1 by omega, List.replicate_succ, List.replicate_succ]
    rfl

theorem cell_any {t te s0 s1 : TypeId} {g0 g1 : Field} {fuel : Nat} {c : Value} {x : DataW H × List MemPlace} (ht : P.underlying t = some (.slice te)) (he : P.underlying te = some (.struct #[g0, g1])) (ce : P.cellsOf te = 2)
    (o0 : g0.offset = 0) (o1 : g1.offset = 1) (k0 : P.cellsOf g0.type = 1) (k1 : P.cellsOf g1.type = 1) (t0 : P.underlying g0.type = some (.slice s0)) (t1 : P.underlying g1.type = some (.slice s1)) (hf : DataW.trod enc P W 0 (fun _ => true) true fuel t [c] = some x) :
    ∃ n, RelD W (oldG W).E c (.slice 2 (List.replicate n anyD)) ∧ n ≤ maxLen := by
  rcases DataW.trod_slice ht hf with ⟨hcs, _⟩ | ⟨a, len, cap, elems, rest, n, _, hcs, _, _, hl, hm, hel, hall, _⟩
  · simp only [List.cons.injEq, and_true] at hcs; subst hcs
    exact ⟨0, .snil _ _ _, Nat.zero_le _⟩
  · simp only [List.cons.injEq, and_true] at hcs; subst hcs
    refine ⟨len, ?_, by omega⟩
    have each : ∀ i, i < len → ∃ v0 v1, W.cell? ((a.add (i * 2)).add 0) = some v0 ∧ W.cell? ((a.add (i * 2)).add 1) = some v1 ∧ v0.oneCell' = true ∧ v1.oneCell' = true := by
      intro i hi
      have h1 := hall i hi
      rw [ce, List.getElem?_eq_getElem (by omega), Option.bind_eq_some_iff] at h1
      obtain ⟨cs, hcs, htr⟩ := h1
      obtain ⟨v0, v1, rfl, c0, c1⟩ := cells_two hcs
      obtain ⟨y0, y1, m, _, _, ha, hb⟩ := trod_struct2 he htr
      rw [o0, k0] at ha
      rw [o1, k1] at hb
      exact ⟨v0, v1, c0, c1, slice_cell t0 ha, slice_cell t1 hb⟩
    rcases Nat.eq_zero_or_pos len with rfl | hpos
    · exact .snil _ _ _
    obtain ⟨ab, ao, spot⟩ := a
    have hspot : spot = none := by
      obtain ⟨v0, v1, h0, _⟩ := each 0 hpos
      have := World.cell?_spot h0
      simpa [Addr.add] using this
    subst hspot
    have cell : ∀ k, k < len * 2 → ∃ v, W.cell? ⟨ab, ao + k, none⟩ = some v ∧ v.oneCell' = true := by
      intro k hk
      obtain ⟨v0, v1, h0, h1, q0, q1⟩ := each (k / 2) (by omega)
      rw [add_plain, add_plain] at h0 h1
      rcases Nat.mod_two_eq_zero_or_one k with h | h
      · exact ⟨v0, by rw [← h0]; congr 2; omega, q0⟩
      · exact ⟨v1, by rw [← h1]; congr 2; omega, q1⟩
    have cell' : ∀ k, ∃ v : Value, k < len * 2 → (W.cell? ⟨ab, ao + k, none⟩ = some v ∧ v.oneCell' = true) := by
      intro k
      by_cases hk : k < len * 2
      · obtain ⟨v, h1, h2⟩ := cell k hk
        exact ⟨v, fun _ => ⟨h1, h2⟩⟩
      · exact ⟨undef, fun h => absurd h hk⟩
    obtain ⟨vals, hvals⟩ := Classical.axiomOfChoice cell'
    obtain ⟨e, hE, hlt⟩ := oldG_cell (hvals (len * 2 - 1) (by omega)).1
    have hlen : (List.replicate len anyD).length = len := by simp
    have key : ∀ k x, (flat (List.replicate len anyD))[k]? = some x → x = .any ∧ k < len * 2 := by
      intro k x hk
      rw [flat_any, List.getElem?_replicate] at hk
      split at hk
      · cases hk; exact ⟨rfl, by assumption⟩
      · cases hk
    have := RelD.scons (w := W) (E := (oldG W).E) ab ao cap 2 e (List.replicate len anyD) vals (by simp; omega) (by rw [hlen]; exact hl) (fun x hx => by rw [List.eq_of_mem_replicate hx]; rfl)
      (fun x hx => by rw [flat_any] at hx; rw [List.eq_of_mem_replicate hx]; rfl) hE (by rw [hlen]; omega)
      (fun k x hk => (hvals k (key k x hk).2).1) (fun k x hk => by obtain ⟨rfl, hk2⟩ := key k x hk; exact .any _ (hvals k hk2).2)
    rw [hlen] at this
    exact this

/-- A value that is handed in: a number, bytes, and a row of which the length is told alone. -/
theorem arg_val {t tb te s0 s1 : TypeId} {f0 f1 f2 g0 g1 : Field} {v : Value} {d : DataW H} {ps : List MemPlace} (ht : P.underlying t = some (.struct #[f0, f1, f2])) (ct : P.cellsOf t = 3)
    (o0 : f0.offset = 0) (o1 : f1.offset = 1) (o2 : f2.offset = 2) (k0 : P.cellsOf f0.type = 1) (k1 : P.cellsOf f1.type = 1) (k2 : P.cellsOf f2.type = 1)
    (t0 : P.underlying f0.type = some (.int .u64)) (t1 : P.underlying f1.type = some (.slice tb)) (hb : P.underlying tb = some (.int .u8)) (cb : P.cellsOf tb = 1)
    (t2 : P.underlying f2.type = some (.slice te)) (he : P.underlying te = some (.struct #[g0, g1])) (ce : P.cellsOf te = 2) (p0 : g0.offset = 0) (p1 : g1.offset = 1) (l0 : P.cellsOf g0.type = 1) (l1 : P.cellsOf g1.type = 1)
    (u0 : P.underlying g0.type = some (.slice s0)) (u1 : P.underlying g1.type = some (.slice s1))
    (hval : Value.okWide P W .any base t v) (h : DataW.Trod enc P W 0 (fun _ => true) true t v d ps) :
    ∃ (n : Int) (b : List UInt8) (m : Nat) (d0 d1 d2 : DataW H), RelD W (oldG W).E v (.agg [.int .u64 n, .slice 1 (bytesD b), .slice 2 (List.replicate m anyD)]) ∧ 0 ≤ n ∧ n ≤ 18446744073709551615 ∧ b.length ≤ maxLen ∧ m ≤ maxLen ∧
      d = .agg [d0, d1, d2] ∧ ((d1 = .nil ∧ b = []) ∨ ∃ xs rest, d1 = .slice xs rest ∧ xs.length = b.length) := by
  obtain ⟨cs, rfl, hcs⟩ := okWide_struct ht hval
  rw [ct] at hcs
  obtain ⟨l⟩ := cs
  match l, hcs with
  | [c0, c1, c2], _ =>
    obtain ⟨fuel, hf⟩ := h
    have hf' : DataW.trod enc P W 0 (fun _ => true) true fuel t [c0, c1, c2] = some (d, ps) := hf
    obtain ⟨xs, m, _, hx, _, hxl, hel⟩ := DataW.trod_struct ht hf'
    have hA := hel 0 f0 rfl
    have hB := hel 1 f1 rfl
    have hC := hel 2 f2 rfl
    rw [o0, k0] at hA
    rw [o1, k1] at hB
    rw [o2, k2] at hC
    match xs, hxl with
    | [y0, y1, y2], _ =>
      simp only [List.getElem?_cons_zero, List.getElem?_cons_succ] at hA hB hC
      obtain ⟨z0, e0, ez0, hw0⟩ := DataW.trod_int t0 hA
      obtain ⟨b, rb, lb, xb⟩ := cell_bytes t1 hb cb hB
      obtain ⟨n, rn, ln⟩ := cell_any t2 he ce p0 p1 l0 l1 u0 u1 hC
      simp only [List.drop_zero, List.take_succ_cons, List.take_zero, List.cons.injEq, and_true] at e0
      subst e0
      have hz : 0 ≤ z0 ∧ z0 ≤ 18446744073709551615 := by
        simp [Lit.wf, IntKind.min, IntKind.max, IntKind.signed, IntKind.bits] at hw0
        omega
      simp only [List.map_cons, List.map_nil, Prod.mk.injEq] at hx
      refine ⟨z0, b, n, y0.1, y1.1, y2.1, .agg _ _ rfl (fun x hx => ?_) (fun k x hk => ?_), hz.1, hz.2, lb, ln, hx.1, xb⟩
      · simp only [List.mem_cons, List.mem_nil_iff, or_false] at hx
        rcases hx with rfl | rfl | rfl <;> rfl
      · match k with
        | 0 => simp only [List.getElem?_cons_zero, Option.some.injEq] at hk; subst hk; exact .int _ _
        | 1 => simp only [List.getElem?_cons_succ, List.getElem?_cons_zero, Option.some.injEq] at hk; subst hk; exact rb
        | 2 => simp only [List.getElem?_cons_succ, List.getElem?_cons_zero, Option.some.injEq] at hk; subst hk; exact rn
        | k + 3 => simp at hk

/-- A number that is handed in. -/
theorem arg_int {t : TypeId} {k : IntKind} {v : Value} {d : DataW H} {ps : List MemPlace} (ht : P.underlying t = some (.int k)) (hval : Value.okWide P W .any base t v) (h : DataW.Trod enc P W 0 (fun _ => true) true t v d ps) :
    ∃ n, RelD W (oldG W).E v (.int k n) ∧ (Lit.int k n).wf = true := by
  obtain ⟨n, rfl⟩ := okWide_int ht hval
  obtain ⟨fuel, hf⟩ := h
  have hf' : DataW.trod enc P W 0 (fun _ => true) true fuel t [.int k n] = some (d, ps) := hf
  obtain ⟨z, e, _, hw⟩ := DataW.trod_int ht hf'
  simp only [List.cons.injEq, and_true, Value.int.injEq, true_and] at e
  subst e
  exact ⟨_, .int _ _, hw⟩
end
end Go.Vi
