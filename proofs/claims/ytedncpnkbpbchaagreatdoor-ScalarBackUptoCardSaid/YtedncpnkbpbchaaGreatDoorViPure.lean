/-
  The verified interpreter: the operations that leave the world alone.
-/
import Derived.Test.YtedncpnkbpbchaaGreatDoorViSim
set_option linter.unusedVariables false
set_option linter.unusedSimpArgs false
namespace Go.Vi
open Go.RowKit

section
variable {P : Program} {gl : Nat → Option D} {W0 w0 : World} {G0 : Gh} {N : Nat} {G : Gh} {Bf : Nat → Nat} {rs : RS} {a : Act} {w : World} {cf : Nat → List V → Option V} {dst : Option Nat} {e : Eff}

/-- What an operation that leaves the world alone owes. -/
def PureOK (P : Program) (a : Act) (w : World) (G : Gh) (Bf : Nat → Nat) (rs : RS) (o : Oper) (e : Eff) : Prop :=
  ∃ v x, e = { val := some x } ∧ (execOp a.eval o).run P w = .ok (.value v) w ∧ (∀ d, SimV w G Bf d v x) ∧ ∀ s' o', x = .lref s' o' → (rs.bx s').isSome = true

theorem PureOK.mk {o : Oper} {v : Value} {x : V} (hr : (execOp a.eval o).run P w = .ok (.value v) w) (hs : ∀ d, SimV w G Bf d v x) (hl : ∀ s' o', x = .lref s' o' → (rs.bx s').isSome = true) :
    PureOK P a w G Bf rs o { val := some x } := ⟨v, x, rfl, hr, hs, hl⟩
theorem PureOK.data {o : Oper} {v : Value} {x : D} (hr : (execOp a.eval o).run P w = .ok (.value v) w) (hs : RelD w G.E v x) : PureOK P a w G Bf rs o { val := some (.d x) } :=
  .mk hr (fun _ => hs) (fun _ _ h => by cases h)

theorem relD_int {E : Nat → Option Nat} {v : Value} {k : IntKind} {n : Int} (h : RelD w E v (.int k n)) : v = .int k n := by cases h; rfl
theorem relD_bool {E : Nat → Option Nat} {v : Value} {b : Bool} (h : RelD w E v (.bool b)) : v = .bool b := by cases h; rfl
theorem relD_str {E : Nat → Option Nat} {v : Value} {s : List UInt8} (h : RelD w E v (.str s)) : v = .string ⟨s.toArray⟩ := by cases h; rfl

def aggDesc : TypeDesc → Bool
  | .struct _ | .array _ _ => true
  | _ => false
theorem shapeT_none {t : TypeId} (h : shapeT P t none = true) : ∃ d i, P.underlying t = some d ∧ P.info? t = some i ∧ i.size = 1 ∧ aggDesc d = false := by
  simp only [shapeT] at h
  cases hu : P.underlying t with
  | none => simp [hu] at h
  | some d =>
    cases hi : P.info? t with
    | none => rw [hu, hi] at h; cases d <;> simp at h
    | some i => rw [hu, hi] at h; exact ⟨d, i, rfl, rfl, by cases d <;> simp at h <;> exact h, by cases d <;> simp at h <;> rfl⟩
theorem shapeT_some {t : TypeId} {m : Nat} (h : shapeT P t (some m) = true) : ∃ d i, P.underlying t = some d ∧ P.info? t = some i ∧ i.size = m ∧ aggDesc d = true := by
  simp only [shapeT] at h
  cases hu : P.underlying t with
  | none => simp [hu] at h
  | some d =>
    cases hi : P.info? t with
    | none => rw [hu, hi] at h; cases d <;> simp at h
    | some i => rw [hu, hi] at h; exact ⟨d, i, rfl, rfl, by cases d <;> simp at h <;> exact h, by cases d <;> simp at h <;> rfl⟩
theorem run_isAgg {t : TypeId} {d : TypeDesc} {b : Bool} (hu : P.underlying t = some d) (hd : aggDesc d = b) : (isAgg t).run P w = .ok b w := by
  subst hd
  unfold isAgg
  rw [Sem.run_bind, run_underlying hu w]
  cases d <;> rfl

theorem lt_of_get {α : Type} {l : List α} {k : Nat} {x : α} (h : l[k]? = some x) : k < l.length := by
  rcases Nat.lt_or_ge k l.length with h1 | h1
  · exact h1
  · rw [List.getElem?_eq_none h1] at h; cases h

theorem cells_of_notAgg {d : D} (h : notAgg d = true) : d.cells = [d] := by cases d <;> simp [notAgg] at h <;> rfl

theorem add_plain (b o n : Nat) : (⟨b, o, none⟩ : Addr).add n = ⟨b, o + n, none⟩ := by
  unfold Addr.add
  split
  · rename_i h; simp [h]
  · rfl

theorem CellsRel.sub {E : Nat → Option Nat} {b off o : Nat} {cs : List D} {n : Option Nat} {d : D} (h : CellsRel w E b off cs) (hd : Vi.sub cs o n = some d) : CellsRel w E b (off + o) d.cells := by
  obtain ⟨e1, vals, hE, hle, hna, hcell⟩ := h
  cases n with
  | none =>
    simp only [Vi.sub] at hd
    have hlt := lt_of_get hd
    have hm : d ∈ cs := List.mem_of_getElem? hd
    have hdc := cells_of_notAgg (hna d hm)
    refine ⟨e1, fun k => vals (o + k), hE, by rw [hdc]; simp; omega, by rw [hdc]; simpa using hna d hm, fun k y hk => ?_⟩
    rw [hdc] at hk
    cases k with
    | zero => simp at hk; subst hk; simpa using hcell o d hd
    | succ k => simp at hk
  | some m =>
    simp only [Vi.sub] at hd
    split at hd
    case isTrue hm =>
      cases hd
      refine ⟨e1, fun k => vals (o + k), hE, by simp [D.cells]; omega, fun y hy => hna y ?_, fun k y hk => ?_⟩
      · simp only [D.cells] at hy; exact List.mem_of_mem_drop (List.mem_of_mem_take hy)
      · simp only [D.cells, List.getElem?_take, List.getElem?_drop] at hk
        split at hk
        · rw [Nat.add_assoc]; exact hcell _ _ hk
        · cases hk
    case isFalse => cases hd

/-- A part of an aggregate's value. -/
theorem part_sub {E : Nat → Option Nat} {vs : Array Value} {cs : List D} {o : Nat} {n : Option Nat} {d : D} {t : TypeId} (hs : vs.size = cs.length) (hna : ∀ x ∈ cs, notAgg x = true)
    (hr : ∀ k x, cs[k]? = some x → RelD w E (vs.getD k undef) x) (hd : Vi.sub cs o n = some d) (ht : shapeT P t n = true) : ∃ v, (part t vs o).run P w = .ok v w ∧ RelD w E v d := by
  cases n with
  | none =>
    simp only [Vi.sub] at hd
    obtain ⟨_, i, hu, hi, h1, hag⟩ := shapeT_none ht
    have hlt := lt_of_get hd
    have hg : vs[o]? = some (vs.getD o undef) := by simp [hs, hlt]
    refine ⟨vs.getD o undef, ?_, hr o d hd⟩
    simp only [part, Sem.run_bind, run_isAgg hu hag, Result.andThen_ok, hg]
    rfl
  | some m =>
    simp only [Vi.sub] at hd
    obtain ⟨_, i, hu, hi, h1, hag⟩ := shapeT_some ht
    split at hd
    case isTrue hm =>
      cases hd
      refine ⟨.agg (vs.extract o (o + m)), ?_, .agg _ _ ?_ ?_ ?_⟩
      · simp [part, run_isAgg hu hag, sizeOf, typeInfo, hi, h1]
      · simp [hs]; omega
      · intro y hy; exact hna y (List.mem_of_mem_drop (List.mem_of_mem_take hy))
      · intro k y hk
        simp only [List.getElem?_take, List.getElem?_drop] at hk
        split at hk
        case isTrue hkm =>
          have hl := lt_of_get hk
          have : (vs.extract o (o + m)).getD k undef = vs.getD (o + k) undef := by
            simp only [Array.getD_eq_getD_getElem?, Array.getElem?_extract]
            rw [if_pos (by rw [hs]; omega)]
          rw [this]
          exact hr _ _ hk
        case isFalse => cases hk
    case isFalse => cases hd

/-- A load out of cells. -/
theorem run_load_cells {E : Nat → Option Nat} {b off : Nat} {d : D} {n : Option Nat} {t : TypeId} (ht : shapeT P t n = true) (hw : whole n d = some d)
    (vals : Nat → Value) (hna : ∀ x ∈ d.cells, notAgg x = true) (hc : ∀ k x, d.cells[k]? = some x → w.cell? ⟨b, off + k, none⟩ = some (vals k) ∧ RelD w E (vals k) x) :
    ∃ v, (loadVar t ⟨b, off, none⟩).run P w = .ok v w ∧ RelD w E v d := by
  cases n with
  | none =>
    obtain ⟨_, i, hu, hi, h1, hag⟩ := shapeT_none ht
    have hdc : d.cells = [d] := by cases d <;> first | rfl | (simp [whole] at hw; done)
    rw [hdc] at hc
    obtain ⟨h2, h3⟩ := hc 0 d (by simp)
    refine ⟨vals 0, ?_, h3⟩
    simp only [Nat.add_zero] at h2
    simp [loadVar, run_isAgg hu hag, h2]
  | some m =>
    obtain ⟨_, i, hu, hi, h1, hag⟩ := shapeT_some ht
    cases d <;> simp [whole] at hw
    case agg cs =>
      simp only [D.cells] at hc hna
      have hl : (loadCells ⟨b, off, none⟩ m).run P w = .ok ((List.range m).map vals).toArray w :=
        run_loadCells w _ m vals fun j hj => by
          rw [add_plain]
          obtain ⟨x, hx⟩ : ∃ x, cs[j]? = some x := ⟨cs[j]'(by omega), by simp⟩
          exact (hc j x hx).1
      refine ⟨.agg ((List.range m).map vals).toArray, by simp [loadVar, run_isAgg hu hag, sizeOf, typeInfo, hi, h1, hl], .agg _ _ (by simp [hw]) hna fun k x hk => ?_⟩
      have := lt_of_get hk
      have hg : ((List.range m).map vals).toArray.getD k undef = vals k := by simp [show k < m by omega]
      rw [hg]
      exact (hc k x hk).2

theorem opd_lref (h : Sim gl W0 w0 G0 N G Bf rs a w) {y : Operand} {x : Opd} {s o' : Nat} (h1 : opdOK y x = true) (hx : ev gl rs.env x = some (.lref s o')) : a.eval y = .pointer (some ⟨Bf s, o', none⟩) ∧ (rs.bx s).isSome = true := by
  obtain ⟨s1, hs1, _⟩ := h.ev h1 hx
  refine ⟨hs1, ?_⟩
  cases y <;> cases x <;> simp [opdOK] at h1
  case tmp.t => exact h.lref _ _ _ hx
  case const.c => simp [Vi.ev] at hx; subst hx; cases ‹Value› <;> simp [constOK] at h1
  case global.g => simp [Vi.ev] at hx

theorem pick_sound (h : Sim gl W0 w0 G0 N G Bf rs a w) {o : Oper} {c x y : Opd} (hc : chkOp P o.op (.pick c x y) = true) (he : eff gl cf dst rs (.pick c x y) = some e) : PureOK P a w G Bf rs o e := by
  obtain ⟨_, op, ty, pos, after, guard⟩ := o
  cases op <;> simp only [chkOp, Bool.false_eq_true] at hc
  case pick c' x' y' =>
    simp only [Bool.and_eq_true] at hc
    simp only [eff] at he
    split at he
    case h_1 t hcc =>
      simp only [Option.map_eq_some_iff] at he
      obtain ⟨d, hd, rfl⟩ := he
      have h1 := relD_bool (h.evD hc.1.1 hcc)
      cases t
      · exact .data (v := a.eval y') (by simp [execOp, h1, asBool]) (h.evD hc.2 (by simpa using hd))
      · exact .data (v := a.eval x') (by simp [execOp, h1, asBool]) (h.evD hc.1.2 (by simpa using hd))
    case h_2 => cases he

theorem neg_sound (h : Sim gl W0 w0 G0 N G Bf rs a w) {o : Oper} {x : Opd} (hc : chkOp P o.op (.neg x) = true) (he : eff gl cf dst rs (.neg x) = some e) : PureOK P a w G Bf rs o e := by
  obtain ⟨_, op, ty, pos, after, guard⟩ := o
  cases op <;> simp only [chkOp, Bool.false_eq_true] at hc
  case unOp u t y =>
    cases u <;> simp only [Bool.false_eq_true] at hc
    simp only [eff] at he
    split at he
    case h_1 k n hx =>
      cases he
      have h1 := relD_int (h.evD hc hx)
      exact .data (v := .int k (k.wrap (0 - n))) (by simp [execOp, h1, Op.unary, Op.intArith]) (.int _ _)
    case h_2 => cases he

theorem not_sound (h : Sim gl W0 w0 G0 N G Bf rs a w) {o : Oper} {x : Opd} (hc : chkOp P o.op (.not x) = true) (he : eff gl cf dst rs (.not x) = some e) : PureOK P a w G Bf rs o e := by
  obtain ⟨_, op, ty, pos, after, guard⟩ := o
  cases op <;> simp only [chkOp, Bool.false_eq_true] at hc
  case unOp u t y =>
    cases u <;> simp only [Bool.false_eq_true] at hc
    simp only [eff] at he
    split at he
    case h_1 b hx =>
      cases he
      have h1 := relD_bool (h.evD hc hx)
      exact .data (v := .bool (!b)) (by simp [execOp, h1, Op.unary]) (.bool _)
    case h_2 => cases he

theorem cint_sound (h : Sim gl W0 w0 G0 N G Bf rs a w) {o : Oper} {k : IntKind} {x : Opd} (hc : chkOp P o.op (.cint k x) = true) (he : eff gl cf dst rs (.cint k x) = some e) : PureOK P a w G Bf rs o e := by
  obtain ⟨_, op, ty, pos, after, guard⟩ := o
  cases op <;> simp only [chkOp, Bool.false_eq_true] at hc
  case convert src dt y =>
    simp only [Bool.and_eq_true] at hc
    obtain ⟨⟨h1, h2⟩, h3⟩ := hc
    simp only [eff] at he
    split at he
    case h_1 k' n hx =>
      cases he
      have hv := relD_int (h.evD h1 hx)
      split at h3
      case h_1 k2 hu =>
        simp at h3; subst h3
        have hk : P.intKind dt = k2 := by simp [Program.intKind, hu]
        have := run_convert_int (P := P) w src dt k' n h2 (by rw [hk]; exact hu)
        rw [hk] at this
        exact .data (v := .int k2 (k2.wrap n)) (by simp [execOp, hv, this]) (.int _ _)
      case h_2 => cases h3
    case h_2 => cases he

theorem faddr_sound (h : Sim gl W0 w0 G0 N G Bf rs a w) {o : Oper} {off : Nat} {n : Option Nat} {x : Opd} (hc : chkOp P o.op (.faddr off n x) = true) (he : eff gl cf dst rs (.faddr off n x) = some e) : PureOK P a w G Bf rs o e := by
  obtain ⟨_, op, ty, pos, after, guard⟩ := o
  cases op <;> simp only [chkOp, Bool.false_eq_true] at hc
  case fieldAddr t y i =>
    simp only [Bool.and_eq_true] at hc
    obtain ⟨h1, h2⟩ := hc
    split at h2
    case h_2 => cases h2
    case h_1 fs hu =>
      split at h2
      case h_2 => cases h2
      case h_1 f hf =>
        simp only [Bool.and_eq_true, bne_iff_ne, ne_eq, beq_iff_eq] at h2
        obtain ⟨⟨rfl, hsh⟩, hne⟩ := h2
        have hinfo : ∃ inf, P.info? f.type = some inf ∧ inf.size ≠ 0 := by
          cases n with
          | none => obtain ⟨_, inf, _, hi, _⟩ := shapeT_none hsh; exact ⟨inf, hi, by simpa [hi] using hne⟩
          | some m => obtain ⟨_, inf, _, hi, _⟩ := shapeT_some hsh; exact ⟨inf, hi, by simpa [hi] using hne⟩
        obtain ⟨inf, hi, hi0⟩ := hinfo
        have run : ∀ ad : Addr, a.eval y = .pointer (some ad) → (execOp a.eval ⟨‹_›, .fieldAddr t y i, ty, pos, after, guard⟩).run P w = .ok (.value (.pointer (some (ad.add f.offset)))) w := by
          intro ad had
          simp [execOp, Instr.fieldAt, run_underlying hu, hf, had, Instr.sureAddr, fieldPlace, sizeOf, typeInfo, hi, hi0]
        simp only [eff] at he
        split at he
        case h_1 s o' hx =>
          cases he
          obtain ⟨hv, hb⟩ := opd_lref h h1 hx
          exact .mk (run _ hv) (fun _ => by simp only [SimV, add_plain]) (fun s' o2 hq => by cases hq; exact hb)
        case h_2 cs hx =>
          simp only [Option.map_eq_some_iff] at he
          obtain ⟨d, hd, rfl⟩ := he
          obtain ⟨s1, ⟨b, o1, hv, hcr⟩, _⟩ := h.ev h1 hx
          exact .mk (run _ hv) (fun _ => ⟨b, o1 + f.offset, by rw [add_plain], CellsRel.sub hcr hd⟩) (fun _ _ hq => by cases hq)
        case h_3 => cases he

theorem aaddr_sound (h : Sim gl W0 w0 G0 N G Bf rs a w) {o : Oper} {len sz : Nat} {n : Option Nat} {x i : Opd} (hc : chkOp P o.op (.aaddr len sz n x i) = true) (he : eff gl cf dst rs (.aaddr len sz n x i) = some e) : PureOK P a w G Bf rs o e := by
  obtain ⟨_, op, ty, pos, after, guard⟩ := o
  cases op <;> simp only [chkOp, Bool.false_eq_true] at hc
  case indexAddr t y j =>
    simp only [Bool.and_eq_true] at hc
    obtain ⟨⟨h1, h2⟩, h3⟩ := hc
    split at h3
    case h_2 => cases h3
    case h_1 m el hu =>
      simp only [Bool.and_eq_true, beq_iff_eq, decide_eq_true_eq] at h3
      obtain ⟨⟨⟨rfl, hsz⟩, h0⟩, hsh⟩ := h3
      have hal : P.arrayLen t = m := by simp [Program.arrayLen, hu]
      have hel : P.elem t = el := by simp [Program.elem, hu]
      obtain ⟨inf, hi, hi0⟩ := Option.map_eq_some_iff.1 hsz
      have run : ∀ (b o1 : Nat) (mi : Int), a.eval y = .pointer (some ⟨b, o1, none⟩) → evI gl rs.env i = some mi → 0 ≤ mi ∧ mi < m →
          (execOp a.eval ⟨‹_›, .indexAddr t y j, ty, pos, after, guard⟩).run P w = .ok (.value (.pointer (some ⟨b, o1 + mi.toNat * sz, none⟩))) w := by
        intro b o1 mi had hmi hr
        obtain ⟨k, hk⟩ := h.evI h2 hmi
        have := run_indexAt_array (P := P) w t ⟨b, o1, none⟩ k mi (by rw [hal, hel]; exact hu)
        rw [hal, hel, if_pos hr] at this
        simp [execOp, had, hk, this, sizeOf, typeInfo, hi, hi0, add_plain]
      simp only [eff] at he
      split at he
      case h_1 s o' mi hx hmi =>
        split at he
        case isTrue hr =>
          cases he
          obtain ⟨hv, hb⟩ := opd_lref h h1 hx
          exact .mk (run _ _ _ hv hmi hr) (fun _ => by simp only [SimV]) (fun s' o2 hq => by cases hq; exact hb)
        case isFalse => cases he
      case h_2 cs mi hx hmi =>
        split at he
        case isTrue hr =>
          simp only [Option.map_eq_some_iff] at he
          obtain ⟨d, hd, rfl⟩ := he
          obtain ⟨s1, ⟨b, o1, hv, hcr⟩, _⟩ := h.ev h1 hx
          exact .mk (run _ _ _ hv hmi hr) (fun _ => ⟨b, o1 + mi.toNat * sz, rfl, CellsRel.sub hcr hd⟩) (fun _ _ hq => by cases hq)
        case isFalse => cases he
      case h_3 => cases he

theorem aidx_sound (h : Sim gl W0 w0 G0 N G Bf rs a w) {o : Oper} {len sz : Nat} {n : Option Nat} {x i : Opd} (hc : chkOp P o.op (.aidx len sz n x i) = true) (he : eff gl cf dst rs (.aidx len sz n x i) = some e) : PureOK P a w G Bf rs o e := by
  obtain ⟨_, op, ty, pos, after, guard⟩ := o
  cases op <;> simp only [chkOp, Bool.false_eq_true] at hc
  case index t y j =>
    simp only [Bool.and_eq_true] at hc
    obtain ⟨⟨h1, h2⟩, h3⟩ := hc
    split at h3
    case h_2 => cases h3
    case h_1 m el hu =>
      simp only [Bool.and_eq_true, beq_iff_eq] at h3
      obtain ⟨⟨rfl, hsz⟩, hsh⟩ := h3
      obtain ⟨inf, hi, hi0⟩ := Option.map_eq_some_iff.1 hsz
      simp only [eff] at he
      split at he
      case h_1 cs mi hx hmi =>
        split at he
        case isTrue hr =>
          simp only [Option.map_eq_some_iff] at he
          obtain ⟨d, hd, rfl⟩ := he
          have hv := h.evD h1 hx
          obtain ⟨k, hk⟩ := h.evI h2 hmi
          generalize hy : a.eval y = u at hv
          cases hv with
          | agg vs cs hs hna hrel =>
            obtain ⟨v, hp, hrv⟩ := part_sub (P := P) hs hna hrel hd hsh
            refine .data (v := v) ?_ hrv
            simp [execOp, hy, hk, Instr.index, asIntOf, run_underlying hu, hr, sizeOf, typeInfo, hi, hi0, hp]
        case isFalse => cases he
      case h_2 => cases he

theorem load_sound (h : Sim gl W0 w0 G0 N G Bf rs a w) {o : Oper} {n : Option Nat} {x : Opd} (hc : chkOp P o.op (.load n x) = true) (he : eff gl cf dst rs (.load n x) = some e) : PureOK P a w G Bf rs o e := by
  obtain ⟨_, op, ty, pos, after, guard⟩ := o
  cases op <;> simp only [chkOp, Bool.false_eq_true] at hc
  case load t y =>
    simp only [Bool.and_eq_true] at hc
    obtain ⟨hsh, h1⟩ := hc
    have fin : ∀ (b off : Nat) (d : D) (vals : Nat → Value), a.eval y = .pointer (some ⟨b, off, none⟩) → whole n d = some d → (∀ x ∈ d.cells, notAgg x = true) →
        (∀ k x, d.cells[k]? = some x → w.cell? ⟨b, off + k, none⟩ = some (vals k) ∧ RelD w G.E (vals k) x) → PureOK P a w G Bf rs ⟨‹_›, .load t y, ty, pos, after, guard⟩ { val := some (.d d) } := by
      intro b off d vals had hw hna hcl
      obtain ⟨v, hr, hv⟩ := run_load_cells (P := P) hsh hw vals hna hcl
      exact .data (v := v) (by simp [execOp, had, Instr.loadAt, Instr.sureAddr, hr]) hv
    simp only [eff] at he
    split at he
    case h_1 d hx =>
      simp only [Option.map_eq_some_iff] at he
      obtain ⟨d', hd, rfl⟩ := he
      have hdd : d' = d := by
        cases n <;> cases d <;> simp [whole] at hd <;> first | exact hd.symm | exact hd.2.symm
      subst hdd
      obtain ⟨s1, ⟨b, o1, hv, e1, vals, hE, hle, hna, hcell⟩, _⟩ := h.ev h1 hx
      exact fin b o1 d' vals hv hd hna hcell
    case h_2 s o' hx =>
      simp only [Option.bind_eq_some_iff, Option.map_eq_some_iff] at he
      obtain ⟨cs, hb, d, hd, rfl⟩ := he
      obtain ⟨hv, _⟩ := opd_lref h h1 hx
      obtain ⟨hG, vs, T, hg, hs, hna, hr⟩ := h.bx s cs hb
      have hcell : ∀ k x, cs[k]? = some x → w.cell? ⟨Bf s, k, none⟩ = some (vs.getD k undef) ∧ RelD w G.E (vs.getD k undef) x := fun k x hk => by
        have := lt_of_get hk
        exact ⟨by simp [World.cell?, hg, hs, this], hr k x hk⟩
      cases n with
      | none =>
        simp only [sub] at hd
        have hn := hna d (List.mem_of_getElem? hd)
        refine fin _ o' d (fun k => vs.getD (o' + k) undef) hv (by cases d <;> first | rfl | (simp [notAgg] at hn; done)) (by rw [cells_of_notAgg hn]; simpa using hn) (fun k x hk => ?_)
        rw [cells_of_notAgg hn] at hk
        cases k with
        | zero => simp at hk; subst hk; exact hcell o' d hd
        | succ k => simp at hk
      | some m =>
        simp only [sub] at hd
        split at hd
        case isTrue hm =>
          cases hd
          refine fin _ o' _ (fun k => vs.getD (o' + k) undef) hv (by simp [whole]; omega) (fun y hy => hna y (List.mem_of_mem_drop (List.mem_of_mem_take hy))) (fun k x hk => ?_)
          simp only [D.cells, List.getElem?_take, List.getElem?_drop] at hk
          split at hk
          · exact hcell _ _ hk
          · cases hk
        case isFalse => cases hd
    case h_3 => cases he


theorem relD_slice {E : Nat → Option Nat} {v : Value} {sz : Nat} {xs : List D} (h : RelD w E v (.slice sz xs)) :
    ∃ A c, v = .slice A xs.length c ∧ xs.length ≤ c ∧ (xs ≠ [] → ∃ b off, A = some ⟨b, off, none⟩ ∧ (∀ x ∈ xs, x.cells.length = sz) ∧ CellsRel w E b off (flat xs)) := by
  cases h with
  | snil A c sz => exact ⟨A, c, rfl, Nat.zero_le _, fun h => absurd rfl h⟩
  | scons b off c sz e xs vals h0 hc hsz hna hE hle hcell hr =>
    exact ⟨_, c, rfl, hc, fun _ => ⟨b, off, rfl, hsz, e, vals, hE, by rw [flat_length hsz]; exact hle, hna, fun k x hk => ⟨hcell k x hk, hr k x hk⟩⟩⟩

/-- The other way round. -/
theorem slice_relD {E : Nat → Option Nat} {b off c sz : Nat} {xs : List D} (hc : xs.length ≤ c) (hsz : ∀ x ∈ xs, x.cells.length = sz) (h : CellsRel w E b off (flat xs)) :
    RelD w E (.slice (some ⟨b, off, none⟩) xs.length c) (.slice sz xs) := by
  rcases xs with _ | ⟨x, r⟩
  · exact .snil _ _ _
  · obtain ⟨e, vals, hE, hle, hna, hcl⟩ := h
    exact .scons b off c sz e (x :: r) vals (by simp) hc hsz hna hE (by rw [flat_length hsz] at hle; exact hle) (fun k y hk => (hcl k y hk).1) (fun k y hk => (hcl k y hk).2)

theorem flat_get {xs : List D} {sz : Nat} (hsz : ∀ x ∈ xs, x.cells.length = sz) {i : Nat} {x : D} (hx : xs[i]? = some x) {k : Nat} (hk : k < sz) : (flat xs)[i * sz + k]? = x.cells[k]? := by
  induction xs generalizing i with
  | nil => simp at hx
  | cons y r ih =>
    have hy := hsz y (by simp)
    cases i with
    | zero =>
      simp at hx; subst hx
      simp only [flat, List.flatMap_cons, Nat.zero_mul, Nat.zero_add]
      rw [List.getElem?_append_left (by omega)]
    | succ i =>
      simp at hx
      have := ih (fun z hz => hsz z (by simp [hz])) hx
      simp only [flat, List.flatMap_cons] at this ⊢
      rw [List.getElem?_append_right (by rw [hy, Nat.succ_mul]; omega), hy, show (i + 1) * sz + k - sz = i * sz + k by rw [Nat.succ_mul]; omega]
      exact this

theorem CellsRel.seg {E : Nat → Option Nat} {b off : Nat} {cs ds : List D} {o : Nat} (h : CellsRel w E b off cs) (hle : o + ds.length ≤ cs.length) (hd : ∀ k x, ds[k]? = some x → cs[o + k]? = some x) : CellsRel w E b (off + o) ds := by
  obtain ⟨e, vals, hE, hl, hna, hcl⟩ := h
  refine ⟨e, fun k => vals (o + k), hE, by omega, fun x hx => ?_, fun k x hk => ?_⟩
  · obtain ⟨k, hk⟩ := List.mem_iff_getElem?.1 hx
    exact hna x (List.mem_of_getElem? (hd k x hk))
  · rw [Nat.add_assoc]; exact hcl _ _ (hd k x hk)

theorem iaddr_sound (h : Sim gl W0 w0 G0 N G Bf rs a w) {o : Oper} {sz : Nat} {x i : Opd} (hc : chkOp P o.op (.iaddr sz x i) = true) (he : eff gl cf dst rs (.iaddr sz x i) = some e) : PureOK P a w G Bf rs o e := by
  obtain ⟨_, op, ty, pos, after, guard⟩ := o
  cases op <;> simp only [chkOp, Bool.false_eq_true] at hc
  case indexAddr t y j =>
    simp only [Bool.and_eq_true] at hc
    obtain ⟨⟨h1, h2⟩, h3⟩ := hc
    split at h3
    case h_2 => cases h3
    case h_1 el hu =>
      simp only [Bool.and_eq_true, beq_iff_eq, decide_eq_true_eq] at h3
      obtain ⟨hsz, h0⟩ := h3
      have hel : P.elem t = el := by simp [Program.elem, hu]
      obtain ⟨inf, hi, hi0⟩ := Option.map_eq_some_iff.1 hsz
      simp only [eff] at he
      split at he
      case h_2 => cases he
      case h_1 sz' xs n hx hn =>
        split at he
        case isFalse => cases he
        case isTrue hr =>
          obtain ⟨hn0, rfl⟩ := hr
          simp only [Option.map_eq_some_iff] at he
          obtain ⟨d, hd, rfl⟩ := he
          obtain ⟨A, c, hv, hcc, hcell⟩ := relD_slice (h.evD h1 hx)
          obtain ⟨k, hk⟩ := h.evI h2 hn
          have hlt := lt_of_get hd
          obtain ⟨b, off, rfl, hszs, hcr⟩ := hcell (by intro e; simp [e] at hlt)
          have := run_indexAt_slice (P := P) w t ⟨b, off, none⟩ xs.length c k n (by rw [hel]; exact hu)
          rw [hel, if_pos (by omega)] at this
          refine .mk (v := .pointer (some ⟨b, off + n.toNat * sz', none⟩)) (by simp [execOp, hv, hk, this, sizeOf, typeInfo, hi, hi0, add_plain]) (fun _ => ⟨b, _, rfl, ?_⟩) (fun _ _ hq => by cases hq)
          have hdl := hszs d (List.mem_of_getElem? hd)
          refine CellsRel.seg hcr ?_ (fun k y hy => ?_)
          · rw [hdl, flat_length hszs, ← Nat.succ_mul]; exact Nat.mul_le_mul_right _ hlt
          · rw [flat_get hszs hd (by have := lt_of_get hy; omega)]; exact hy

theorem sidx_sound (h : Sim gl W0 w0 G0 N G Bf rs a w) {o : Oper} {x i : Opd} (hc : chkOp P o.op (.sidx x i) = true) (he : eff gl cf dst rs (.sidx x i) = some e) : PureOK P a w G Bf rs o e := by
  obtain ⟨_, op, ty, pos, after, guard⟩ := o
  cases op <;> simp only [chkOp, Bool.false_eq_true] at hc
  case index t y j =>
    simp only [Bool.and_eq_true] at hc
    obtain ⟨⟨h1, h2⟩, h3⟩ := hc
    split at h3
    case h_2 => cases h3
    case h_1 hu =>
      simp only [eff] at he
      split at he
      case h_2 => cases he
      case h_1 s n hx hn =>
        split at he
        case isFalse => cases he
        case isTrue hn0 =>
          simp only [Option.map_eq_some_iff] at he
          obtain ⟨b, hb, rfl⟩ := he
          have hv := relD_str (h.evD h1 hx)
          obtain ⟨k, hk⟩ := h.evI h2 hn
          have hlt := lt_of_get hb
          have hg : (⟨s.toArray⟩ : ByteArray)[n.toNat]? = some b := by
            rw [ByteArray.getElem?_lt' _ _ (by simpa [ByteArray.size] using hlt)]
            simp only [Option.some.injEq]
            rw [List.getElem?_eq_getElem hlt, Option.some.injEq] at hb
            rw [← hb]
            rfl
          exact .data (v := .int .u8 b.toNat) (by simp [execOp, hv, hk, Instr.index, asIntOf, run_underlying hu, hn0, hg]) (.int _ _)

theorem size_mk (s : List UInt8) : (ByteArray.mk s.toArray).size = s.length := rfl
theorem len_sound (h : Sim gl W0 w0 G0 N G Bf rs a w) {o : Oper} {str : Bool} {x : Opd} (hc : chkOp P o.op (.len str x) = true) (he : eff gl cf dst rs (.len str x) = some e) : PureOK P a w G Bf rs o e := by
  obtain ⟨_, op, ty, pos, after, guard⟩ := o
  cases op <;> try (simp only [chkOp, Bool.false_eq_true] at hc; done)
  case call c =>
    obtain ⟨callee, args, argTypes⟩ := c
    cases callee <;> try (simp only [chkOp, Bool.false_eq_true] at hc; done)
    case builtin b =>
      cases b <;> try (simp only [chkOp, Bool.false_eq_true] at hc; done)
      simp only [chkOp] at hc
      split at hc
      case h_2 => cases hc
      case h_1 y t hargs hts =>
        have ha : args = #[y] := by rw [← Array.toList_inj]; simpa using hargs
        have ht : argTypes = #[t] := by rw [← Array.toList_inj]; simpa using hts
        subst ha; subst ht
        simp only [Bool.and_eq_true] at hc
        obtain ⟨h1, h2⟩ := hc
        simp only [eff] at he
        split at he
        case h_1 sz xs hx =>
          cases he
          obtain ⟨A, c, hv, hcc, hcell⟩ := relD_slice (h.evD h1 hx)
          split at h2
          case h_1 => cases h2
          case h_3 => cases h2
          case h_2 el hu =>
            exact .data (v := .int .i64 xs.length) (by simp [execOp, resolve, invoke, builtin, hv, Builtin.len_, run_underlying hu, goInt]) (.int _ _)
        case h_2 s hx =>
          cases he
          have hv := relD_str (h.evD h1 hx)
          split at h2
          case h_2 => cases h2
          case h_3 => cases h2
          case h_1 hu =>
            exact .data (v := .int .i64 s.length) (by simp [execOp, resolve, invoke, builtin, hv, Builtin.len_, run_underlying hu, goInt, size_mk]) (.int _ _)
        case h_3 => cases he

theorem max_sound (h : Sim gl W0 w0 G0 N G Bf rs a w) {o : Oper} {x y : Opd} (hc : chkOp P o.op (.max2 x y) = true) (he : eff gl cf dst rs (.max2 x y) = some e) : PureOK P a w G Bf rs o e := by
  obtain ⟨_, op, ty, pos, after, guard⟩ := o
  cases op <;> try (simp only [chkOp, Bool.false_eq_true] at hc; done)
  case call c =>
    obtain ⟨callee, args, argTypes⟩ := c
    cases callee <;> try (simp only [chkOp, Bool.false_eq_true] at hc; done)
    case builtin b =>
      cases b <;> try (simp only [chkOp, Bool.false_eq_true] at hc; done)
      simp only [chkOp] at hc
      split at hc
      case h_2 => cases hc
      case h_1 x' y' hargs =>
        have ha : args = #[x', y'] := by rw [← Array.toList_inj]; simpa using hargs
        subst ha
        simp only [Bool.and_eq_true] at hc
        simp only [eff] at he
        split at he
        case h_2 => cases he
        case h_1 k m k' n hx hy =>
          cases he
          have h1 := relD_int (h.evD hc.1 hx)
          have h2 := relD_int (h.evD hc.2 hy)
          refine .data (v := .int k (if n > m then n else m)) ?_ (.int _ _)
          simp [execOp, resolve, invoke, builtin, h1, h2, Builtin.max_, Builtin.max2]
end
end Go.Vi
