/-
  The verified interpreter: more operations that leave the world alone.
-/
import Derived.Test.YtedncpnkbpbchaaGreatDoorViPure
set_option linter.unusedVariables false
set_option linter.unusedSimpArgs false
namespace Go.Vi
open Go.RowKit

section
variable {P : Program} {gl : Nat → Option D} {W0 w0 : World} {G0 : Gh} {N : Nat} {G : Gh} {Bf : Nat → Nat} {rs : RS} {a : Act} {w : World} {cf : Nat → List V → Option V} {dst : Option Nat} {e : Eff}

theorem binI_run {op : BinOp} {k k' : IntKind} {m n : Int} {d : D} (t : TypeId) (h : binI op k m k' n = some d) : ∃ v, (binOp op t (.int k m) (.int k' n)).run P w = .ok v w ∧ RelD w G.E v d := by
  cases op <;> simp only [binI, Option.ite_none_right_eq_some] at h <;> (try cases h) <;> rename_i h1 h2
  all_goals
    cases h2
    refine ⟨_, ?_, by first | exact .int _ _ | exact .bool _⟩
    simp [binOp, Op.shift, Op.intArith, Op.intDiv, Op.intBits, Op.intCmp, bitsD, h1]
    try omega

theorem binS_run {op : BinOp} {m n : List UInt8} {d : D} (t : TypeId) (h : binS op m n = some d) : ∃ v, (binOp op t (.string ⟨m.toArray⟩) (.string ⟨n.toArray⟩)).run P w = .ok v w ∧ RelD w G.E v d := by
  have e1 : (ByteArray.mk m.toArray).toList = m := ByteArray.toList_mk m
  have e2 : (ByteArray.mk n.toArray).toList = n := ByteArray.toList_mk n
  cases op <;> simp only [binS, Option.ite_none_right_eq_some, Option.some.injEq, reduceCtorEq] at h
  case add =>
    obtain ⟨h1, rfl⟩ := h
    refine ⟨.string ⟨(m ++ n).toArray⟩, ?_, .str _⟩
    have hmax : IntKind.i64.max = 9223372036854775807 := by decide
    have hs : ¬ (9223372036854775807 < (m.length : Int) + (n.length : Int)) := by omega
    have ha : (⟨m.toArray⟩ : ByteArray) ++ ⟨n.toArray⟩ = ⟨(m ++ n).toArray⟩ := by
      apply ByteArray.ext
      simp
    simp [binOp, Op.stringOp, size_mk, hmax, hs, ha]
  all_goals
    subst h
    exact ⟨_, by simp [binOp, Op.stringOp, e1, e2], .bool _⟩

theorem eqGuard_plain {op : BinOp} {t : TypeId} {x y : Operand} {u v : Value} (hu : (match u with | .nilIface | .agg _ => false | _ => true) = true) : (eqGuard op t x y u v).run P w = .ok () w := by
  cases u <;> simp at hu <;> cases op <;> simp [eqGuard]

theorem run_equal_bool {t : TypeId} (ht : P.underlying t = some .bool) (m n : Bool) : (Op.equal t (.bool m) (.bool n)).run P w = .ok (m == n) w := by
  show (Op.equalIn (9999 + 1) t (.bool m) (.bool n)).run P w = _
  generalize 9999 = d
  simp [Op.equalIn, run_underlying ht]
theorem run_equal_nil {t : TypeId} {ms : Array (String × TypeId)} (ht : P.underlying t = some (.interface ms)) {u : Value} {b : Bool} (hu : RelD w G.E u (.err b)) : (Op.equal t u .nilIface).run P w = .ok (!b) w := by
  show (Op.equalIn (9999 + 1) t u .nilIface).run P w = _
  generalize 9999 = d
  cases hu <;> simp [Op.equalIn, run_underlying ht]
theorem eqGuard_nil {op : BinOp} {t : TypeId} {x : Operand} {u : Value} {b : Bool} (hu : RelD w G.E u (.err b)) : (eqGuard op t x (.const .nilIface) u .nilIface).run P w = .ok () w := by
  cases hu <;> cases op <;> simp [eqGuard]
def eqShape : Value → Value → Bool
  | .bool _, .bool _ => true
  | .nilIface, _ => true
  | .iface _ _, _ => true
  | _, _ => false
theorem binOp_eql_run (t : TypeId) (x y : Value) (h : eqShape x y = true) {b : Bool} (hr : (Op.equal t x y).run P w = .ok b w) : (binOp .eql t x y).run P w = .ok (.bool b) w := by
  have : binOp .eql t x y = (do pure (.bool (← Op.equal t x y))) := by
    cases x <;> first | rfl | (cases y <;> first | rfl | (simp [eqShape] at h; done))
  rw [this]; simp [hr]
theorem binOp_neq_run (t : TypeId) (x y : Value) (h : eqShape x y = true) {b : Bool} (hr : (Op.equal t x y).run P w = .ok b w) : (binOp .neq t x y).run P w = .ok (.bool (!b)) w := by
  have : binOp .neq t x y = (do pure (.bool (!(← Op.equal t x y)))) := by
    cases x <;> first | rfl | (cases y <;> first | rfl | (simp [eqShape] at h; done))
  rw [this]; simp [hr]

theorem bin_sound (h : Sim gl W0 w0 G0 N G Bf rs a w) {o : Oper} {k : BK} {bo : BinOp} {x y : Opd} (hc : chkOp P o.op (.bin k bo x y) = true) (he : eff gl cf dst rs (.bin k bo x y) = some e) : PureOK P a w G Bf rs o e := by
  obtain ⟨_, op, ty, pos, after, guard⟩ := o
  cases op <;> try (simp only [chkOp, Bool.false_eq_true] at hc; done)
  case binOp bo' t x' y' yt =>
    simp only [chkOp, Bool.and_eq_true, beq_iff_eq] at hc
    obtain ⟨⟨⟨rfl, h1⟩, h2⟩, h3⟩ := hc
    simp only [eff, Option.bind_eq_some_iff, Option.map_eq_some_iff] at he
    obtain ⟨dx, hx, dy, hy, d, hd, rfl⟩ := he
    have rx := h.evD h1 hx
    have ry := h.evD h2 hy
    cases k <;> cases dx <;> simp only [binD, reduceCtorEq] at hd <;> cases dy <;> simp only [reduceCtorEq] at hd
    case i.int.int k1 m k2 n =>
      have ex := relD_int rx; have ey := relD_int ry
      obtain ⟨v, hr, hv⟩ := binI_run (P := P) (w := w) (G := G) t hd
      exact .data (v := v) (by simp [execOp, ex, ey, eqGuard_plain, hr]) hv
    case s.str.str m n =>
      have ex := relD_str rx; have ey := relD_str ry
      obtain ⟨v, hr, hv⟩ := binS_run (P := P) (w := w) (G := G) t hd
      exact .data (v := v) (by simp [execOp, ex, ey, eqGuard_plain, hr]) hv
    case b.bool.bool m n =>
      have ex := relD_bool rx; have ey := relD_bool ry
      have ht : P.underlying t = some .bool := by
        cases hu : P.underlying t with
        | none => rw [hu] at h3; cases h3
        | some d => rw [hu] at h3; cases d <;> first | rfl | (simp only [Bool.false_eq_true] at h3)
      have hq := run_equal_bool (P := P) (w := w) ht m n
      cases bo' <;> simp only [binB, Option.some.injEq, reduceCtorEq] at hd <;> subst hd
      · exact .data (v := .bool (m == n)) (by simp [execOp, ex, ey, eqGuard_plain, binOp_eql_run t _ _ rfl hq]) (.bool _)
      · exact .data (v := .bool (!(m == n))) (by simp [execOp, ex, ey, eqGuard_plain, binOp_neq_run t _ _ rfl hq]) (.bool _)
    case e.err.err m n =>
      have hI : ∃ ms, P.underlying t = some (.interface ms) ∧ y' = .const .nilIface := by
        cases hu : P.underlying t with
        | none => rw [hu] at h3; cases h3
        | some d =>
          rw [hu] at h3
          cases d <;> simp only [Bool.false_eq_true] at h3
          case interface ms =>
            split at h3
            · exact ⟨ms, rfl, rfl⟩
            · cases h3
      obtain ⟨ms, ht, rfl⟩ := hI
      have hn : n = false := by
        cases n
        · rfl
        · simp only [Act.eval] at ry; cases ry
      subst hn
      have ey : a.eval (.const .nilIface) = .nilIface := rfl
      have hq := run_equal_nil (P := P) ht rx
      have hg := fun op => eqGuard_nil (P := P) (op := op) (t := t) (x := x') rx
      have hm : eqShape (a.eval x') Value.nilIface = true := by
        generalize a.eval x' = u at rx
        cases rx <;> rfl
      cases bo' <;> simp only [binE, Option.some.injEq, reduceCtorEq] at hd <;> subst hd
      · exact .data (v := .bool (!m)) (by simp only [execOp, ey, Sem.run_bind, hg, binOp_eql_run t _ _ hm hq, Result.andThen_ok]; rfl) (.bool _)
      · exact .data (v := .bool m) (by simp only [execOp, ey, Sem.run_bind, hg, binOp_neq_run t _ _ hm hq, Result.andThen_ok, Bool.not_not]; rfl) (.bool _)

theorem ext_sound (h : Sim gl W0 w0 G0 N G Bf rs a w) {o : Oper} {x : Opd} {i : Nat} (hc : chkOp P o.op (.ext x i) = true) (he : eff gl cf dst rs (.ext x i) = some e) : PureOK P a w G Bf rs o e := by
  obtain ⟨_, op, ty, pos, after, guard⟩ := o
  cases op <;> try (simp only [chkOp, Bool.false_eq_true] at hc; done)
  case extract y j =>
    simp only [chkOp, Bool.and_eq_true, beq_iff_eq] at hc
    obtain ⟨h1, rfl⟩ := hc
    simp only [eff] at he
    split at he
    case h_2 => cases he
    case h_1 xs hx =>
      simp only [Option.map_eq_some_iff] at he
      obtain ⟨d, hd, rfl⟩ := he
      obtain ⟨s, ⟨vs, hv, hs, hr⟩, _⟩ := h.ev h1 hx
      have hlt := lt_of_get hd
      have hg : vs[j]? = some (vs.getD j undef) := by simp [hs, hlt]
      exact .data (v := vs.getD j undef) (by simp only [execOp, hv, Instr.extract, hg, Sem.run_bind, Sem.run_pure, Result.andThen_ok]) (hr j d hd)

theorem bound_sound (h : Sim gl W0 w0 G0 N G Bf rs a w) {x : Option Operand} {y : Option Opd} {dflt n : Nat} (ho : optOK x y = true) (hb : bound gl rs.env dflt y = some n) :
    (x = none ∧ y = none ∧ n = dflt) ∨ ∃ z k, x = some z ∧ y.isSome = true ∧ a.eval z = .int k (n : Int) := by
  cases x <;> cases y <;> simp only [optOK, Bool.false_eq_true] at ho
  · simp [bound] at hb; exact .inl ⟨rfl, rfl, hb.symm⟩
  · rename_i z u
    simp only [bound, Option.bind_eq_some_iff, Option.ite_none_right_eq_some, Option.some.injEq] at hb
    obtain ⟨m, hm, h0, hn⟩ := hb
    obtain ⟨k, hk⟩ := h.evI ho hm
    exact .inr ⟨z, k, rfl, rfl, by rw [hk, ← hn, Int.toNat_of_nonneg h0]⟩

theorem run_sliceBounds (isS : Bool) {len cap l hh m : Nat} {lo hi mx : Option Value}
    (hm : mx = none ∧ m = cap ∨ ∃ k, mx = some (.int k (m : Int))) (hhi : (hi = none ∧ mx = none ∧ hh = len) ∨ ∃ k, hi = some (.int k (hh : Int)))
    (hlo : lo = none ∧ l = 0 ∨ ∃ k, lo = some (.int k (l : Int))) (h1 : l ≤ hh) (h2 : hh ≤ m) (h3 : m ≤ cap) :
    (Instr.sliceBounds isS len cap lo hi mx).run P w = .ok (l, hh, m) w := by
  have key : ∀ (k : IntKind) (c : BoundsCode) (x y : Nat), x ≤ y → (Instr.sliceBound (.int k (x : Int)) y c).run P w = .ok x w := fun k c x y hxy => by
    rw [run_sliceBound w k x y c (by omega) (by omega)]; simp
  rcases hm with ⟨rfl, rfl⟩ | ⟨km, rfl⟩ <;> rcases hhi with ⟨rfl, h, rfl⟩ | ⟨kh, rfl⟩ <;> rcases hlo with ⟨rfl, rfl⟩ | ⟨kl, rfl⟩ <;>
    first
      | (cases h; done)
      | simp [Instr.sliceBounds, key _ _ _ _ h1, key _ _ _ _ h2, key _ _ _ _ h3]

theorem extract_take_drop (s : List UInt8) {l h : Nat} (hl : l ≤ h) : (⟨s.toArray⟩ : ByteArray).extract l h = ⟨((s.take h).drop l).toArray⟩ := by
  apply ByteArray.ext
  apply Array.toList_inj.1
  simp [ByteArray.data_extract, List.take_drop, show l + (h - l) = h by omega]

theorem slcs_sound (h : Sim gl W0 w0 G0 N G Bf rs a w) {o : Oper} {x : Opd} {lo hi : Option Opd} (hc : chkOp P o.op (.slcs x lo hi) = true) (he : eff gl cf dst rs (.slcs x lo hi) = some e) : PureOK P a w G Bf rs o e := by
  obtain ⟨_, op, ty, pos, after, guard⟩ := o
  cases op <;> try (simp only [chkOp, Bool.false_eq_true] at hc; done)
  case slice t y l hh m =>
    cases m <;> try (simp only [chkOp, Bool.false_eq_true] at hc; done)
    simp only [chkOp, Bool.and_eq_true] at hc
    obtain ⟨⟨⟨h1, h2⟩, h3⟩, h4⟩ := hc
    split at h4
    case h_2 => cases h4
    case h_1 hu =>
      simp only [eff] at he
      split at he
      case h_2 => cases he
      case h_1 s hx =>
        split at he
        case h_2 => cases he
        case h_1 n k hn hk =>
          simp only [Option.ite_none_right_eq_some, Option.some.injEq] at he
          obtain ⟨⟨hb1, hb2⟩, rfl⟩ := he
          have hv := relD_str (h.evD h1 hx)
          have hl := bound_sound h h2 hk
          have hr := bound_sound h h3 hn
          refine .data (v := .string ⟨((s.take n).drop k).toArray⟩) ?_ (.str _)
          have hsb : (Instr.sliceBounds false s.length s.length (l.map a.eval) (hh.map a.eval) none).run P w = .ok (k, n, s.length) w := by
            refine run_sliceBounds false (.inl ⟨rfl, rfl⟩) ?_ ?_ hb1 hb2 (Nat.le_refl _)
            · rcases hr with ⟨rfl, _, rfl⟩ | ⟨z, kk, rfl, _, hz⟩
              · exact .inl ⟨rfl, rfl, rfl⟩
              · exact .inr ⟨kk, by simp [hz]⟩
            · rcases hl with ⟨rfl, _, rfl⟩ | ⟨z, kk, rfl, _, hz⟩
              · exact .inl ⟨rfl, rfl⟩
              · exact .inr ⟨kk, by simp [hz]⟩
          simp [execOp, hv, Instr.sliceAt, Instr.slice, run_underlying hu, size_mk, hsb, extract_take_drop s hb1]

theorem slc_sound (h : Sim gl W0 w0 G0 N G Bf rs a w) {o : Oper} {sz : Nat} {x : Opd} {lo hi mx : Option Opd} (hc : chkOp P o.op (.slc sz x lo hi mx) = true) (he : eff gl cf dst rs (.slc sz x lo hi mx) = some e) : PureOK P a w G Bf rs o e := by
  obtain ⟨_, op, ty, pos, after, guard⟩ := o
  cases op <;> try (simp only [chkOp, Bool.false_eq_true] at hc; done)
  case slice t y l hh m =>
    simp only [chkOp, Bool.and_eq_true] at hc
    obtain ⟨⟨⟨⟨h1, h2⟩, h3⟩, h5⟩, h4⟩ := hc
    split at h4
    case h_2 => cases h4
    case h_1 el hu =>
      rw [beq_iff_eq] at h4
      obtain ⟨inf, hi', hi0⟩ := Option.map_eq_some_iff.1 h4
      simp only [eff] at he
      split at he
      case h_2 => cases he
      case h_1 sz' xs hx =>
        split at he
        case h_2 => cases he
        case h_1 n k mm hn hk hm =>
          simp only [Option.ite_none_right_eq_some, Option.some.injEq] at he
          obtain ⟨⟨hb1, hb2, hb3, rfl, hb4⟩, rfl⟩ := he
          obtain ⟨A, c, hv, hcc, hcell⟩ := relD_slice (h.evD h1 hx)
          have hl := bound_sound h h2 hk
          have hr := bound_sound h h3 hn
          have hmb := bound_sound h h5 hm
          -- the real bound
          obtain ⟨mr, hmr, hsb⟩ : ∃ mr, n ≤ mr ∧ (Instr.sliceBounds true xs.length c (l.map a.eval) (hh.map a.eval) (m.map a.eval)).run P w = .ok (k, n, mr) w := by
            have hlo : l.map a.eval = none ∧ k = 0 ∨ ∃ kk, l.map a.eval = some (.int kk (k : Int)) := by
              rcases hl with ⟨rfl, _, rfl⟩ | ⟨z, kk, rfl, _, hz⟩
              · exact .inl ⟨rfl, rfl⟩
              · exact .inr ⟨kk, by simp [hz]⟩
            rcases hmb with ⟨rfl, rfl, rfl⟩ | ⟨z, kk, rfl, hmy, hz⟩
            · refine ⟨c, by omega, run_sliceBounds true (.inl ⟨rfl, rfl⟩) ?_ hlo hb1 (by omega) (Nat.le_refl _)⟩
              rcases hr with ⟨rfl, _, rfl⟩ | ⟨z, kk, rfl, _, hz⟩
              · exact .inl ⟨rfl, rfl, rfl⟩
              · exact .inr ⟨kk, by simp [hz]⟩
            · refine ⟨mm, hb2, run_sliceBounds true (.inr ⟨kk, by simp [hz]⟩) ?_ hlo hb1 hb2 (by omega)⟩
              rcases hr with ⟨rfl, rfl, rfl⟩ | ⟨z, kk, rfl, _, hz⟩
              · rcases hb4 with h | h
                · rw [Option.isNone_iff_eq_none] at h; rw [h] at hmy; cases hmy
                · cases h
              · exact .inr ⟨kk, by simp [hz]⟩
          have hlen : ((xs.take n).drop k).length = n - k := by simp; omega
          refine .data (v := .slice (if mr = k then A else A.map (·.add (k * sz'))) (n - k) (mr - k)) ?_ ?_
          · simp [execOp, hv, Instr.sliceAt, Instr.slice, run_underlying hu, hsb, sizeOf, typeInfo, hi', hi0]
          · rw [← hlen]
            by_cases hz : n - k = 0
            · have : (xs.take n).drop k = [] := List.eq_nil_of_length_eq_zero (by omega)
              rw [this]
              exact .snil _ _ _
            · have hx0 : xs ≠ [] := by intro e; simp [e] at hb3; omega
              obtain ⟨b, off, rfl, hszs, hcr⟩ := hcell hx0
              rw [if_neg (by omega)]
              simp only [Option.map_some, add_plain]
              have hsub : ∀ x ∈ (xs.take n).drop k, x.cells.length = sz' := fun x hx => hszs x (List.mem_of_mem_take (List.mem_of_mem_drop hx))
              refine slice_relD (by omega) hsub (CellsRel.seg hcr ?_ fun i y hy => ?_)
              · rw [flat_length hsub, flat_length hszs, hlen, ← Nat.add_mul]
                exact Nat.mul_le_mul_right _ (by omega)
              · have hlt := lt_of_get hy
                rw [flat_length hsub] at hlt
                by_cases hs0 : sz' = 0
                · subst hs0; simp at hlt
                have hq : i / sz' < ((xs.take n).drop k).length := Nat.div_lt_of_lt_mul (by rw [Nat.mul_comm]; exact hlt)
                have hmod : i % sz' < sz' := Nat.mod_lt _ (by omega)
                have hi2 : i = i / sz' * sz' + i % sz' := by rw [Nat.mul_comm]; exact (Nat.div_add_mod i sz').symm
                obtain ⟨z, hzz⟩ : ∃ z, ((xs.take n).drop k)[i / sz']? = some z := ⟨_, List.getElem?_eq_getElem hq⟩
                have e1 := flat_get hsub hzz hmod
                rw [← hi2] at e1
                have hzz2 : xs[k + i / sz']? = some z := by
                  rw [List.getElem?_drop, List.getElem?_take] at hzz
                  split at hzz
                  · exact hzz
                  · cases hzz
                have e2 := flat_get hszs hzz2 hmod
                have : (k + i / sz') * sz' + i % sz' = k * sz' + i := by rw [Nat.add_mul]; omega
                rw [this] at e2
                rw [e2, ← e1]
                exact hy

end
end Go.Vi
